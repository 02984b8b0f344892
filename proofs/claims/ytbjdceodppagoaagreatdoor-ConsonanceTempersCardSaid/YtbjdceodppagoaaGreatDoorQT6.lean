/- Texts of one proof, joined (6). -/
import Derived.OrdersIn
import Derived.TacticsIn
import Derived.RangeFuncRecord
import Derived.Sort.LoopGhostIn
import Derived.RangeFuncSeq
import Derived.Test.YtbjdceodppagoaaGreatDoorProg
import Derived.Lib.AppendIntMem
import Derived.WalkKit
import Derived.BigCall
import Derived.BigGuard
import Derived.Lib.SmallJoins
import Derived.Test.YtbjdceodppagoaaGreatDoorQT5
set_option linter.unusedSimpArgs false
set_option linter.unusedVariables false
set_option maxRecDepth 100000
noncomputable section
namespace Go.PM
open Go Go.RowKit
@[reducible] def Fr(ro:Option Nat):Fence:={ Fence.wide with round:=ro }
def XI(ds:List Deferred) (a:Act):Act:={ a with defers:=a.defers++ds }
theorem a1Y ds a:(XI ds a).eval=a.eval:=by rfl
theorem aGQ ds a d v:(XI ds a).put d v=XI ds (a.put d v):=by cases d <;> rfl
theorem aZ6 {ro n P f args w R}(h:Calls P f args w R):CallsIn (Fr ro) n P f args w R :=
 (callsIn_wide).2 h
theorem a19 {ro n P row args w R}(h:Rows P row args w R):RowsIn (Fr ro) n P row args w R :=
 λc cs _=>let ⟨v,w',r,s⟩:=h c cs; ⟨v,w',r,stepsIn_wide.2 s⟩
section
variable {P:Program} {ro:Option Nat} {n:Nat} {ds:List Deferred} {Q Q':Exit->Act->World->Prop}
def aSS:Op->Bool
 | .defer _=>true
 | _=>false
def aQD(ops:Array Oper):Bool:=ops.toList.all λo=>!aSS o.op
theorem aH3 {ops}(h:aQD ops=true){o}(ho:o∈ops.toList):∀ c,o.op≠.defer c:=by
 intro c hc;have:=List.all_eq_true.1 h o ho;rw[hc]at this;cases this
theorem a2H {o}(h:∀ c,o.op≠.defer c) ρ:o.semAt ro ρ=execOp ρ o:=by
 cases ro with
 | none=>rfl
 | some l=>exact Oper.semAt_some l ρ o h
theorem aWC {o:Oper}{a w K K'}(hd:∀ c,o.op≠.defer c)(hK:∀ a w,K a w->K' (XI ds a) w)(hQ:∀ ch a w,Q (.panic ch) a w->Q' (.panic ch) (XI ds a) w)(hno:∀ a w,¬ Q .outgrown a w)(h:o.wp P a w K Q) :
  o.wpIn (Fr ro) n P (XI ds a) w K' Q':=by
 refine⟨λ_ _=>trivial,?_⟩;unfold Oper.wp at h;rw[a1Y,a2H hd];generalize (execOp a.eval o).run P w=r at h ⊢;cases r with
 | ok x w' =>
  cases x with
  | value v=>show K' ((XI ds a).put o.dst v) w'; rw[aGQ]; exact hK _ _ h
  | skip=>show K' ((XI ds a).put o.dst undef) w'; rw[aGQ]; exact hK _ _ h
  | defer d =>
   have:=hK _ _ h;show K' (({ XI ds a with defers:=d::(XI ds a).defers }:Act).put o.dst undef) w';have e:(({ XI ds a with defers:=d::(XI ds a).defers }:Act).put o.dst undef)=XI ds (({ a with defers:=d::a.defers }:Act).put o.dst undef):=by cases o.dst <;> rfl
   grind
  | enter f args =>
   refine⟨λh=>(by cases h),aZ6 (Calls.mono h ?_)⟩;rintro e w'' he;cases e with
   | returned v=>show K' ((XI ds a).put o.dst v) w''; rw[aGQ]; exact hK _ _ he
   | panicked ch=>grind
   | outgrown =>
    obtain⟨a0,w0,h0⟩:=he;grind
  | row row args=>exact⟨λh=>(by cases h),a19 (Rows.mono h λv w'' he=>by rw[aGQ]; grind)⟩
  | _=>exact h.elim
 | halt x w' =>
  cases x <;> first|exact hQ _ _ _ h|exact h.elim
theorem aPL {ops}(hno:∀ a w,¬ Q .outgrown a w)(hQ:∀ e a w,Q e a w->Q' e (XI ds a) w):∀ {l},(∀ o∈l,∀ c,o.op≠.defer c)->∀ {a w},wpList P ops Q l a w->wpListIn (Fr ro) n P ops Q' l (XI ds a) w
 | [],_,a,w,h=>hQ _ _ _ h
 | o::l,hd,a,w,h=>by
  simp only[wpList]at h;unfold wpListIn;split at h
  ·rename_i hw;have hw':Region.wanted o (yielded ops (XI ds a).tmps)=true:=hw;rw[if_pos hw'];rcases h with h|⟨_,a0,w0,h0⟩
   ·exact aWC (hd o List.mem_cons_self) (λa w hk=>aPL hno hQ (λo ho=>hd o (List.mem_cons_of_mem _ ho)) hk) (λ_ _ _ h=>hQ _ _ _ h) hno h
   grind
  ·rename_i hw;have hw':¬ Region.wanted o (yielded ops (XI ds a).tmps)=true:=hw;rw[if_neg hw'];refine⟨λ_ _=>trivial,?_⟩;rw[aGQ];exact aPL hno hQ (λo ho=>hd o (List.mem_cons_of_mem _ ho)) h
theorem aV9 {ops md}(hno:∀ a w,¬ Q .outgrown a w)(hQ:∀ e a w,Q e a w->Q' e (XI ds a) w)(hd:∀ o∈ops.toList,∀ c,o.op≠.defer c):∀ {fuel listed a w},wpAny P md ops Q fuel listed a w->wpAnyIn (Fr ro) n P md ops Q' fuel listed (XI ds a) w
 | 0,listed,a,w,h=>⟨h.1,hQ _ _ _ h.2⟩
 | fuel+1,listed,a,w,h=>by
  refine⟨λhr=>hQ _ _ _ (h.1 hr),λi hi=>?_⟩;have h2:=h.2 i hi;unfold wpOp at h2;unfold wpOpIn;split
  ·rename_i hn;rw[hn]at h2;exact aV9 hno hQ hd h2
  ·rename_i o ho;rw[ho]at h2;simp only at h2;have hm:o∈ops.toList:=by grind
   split at h2
   ·rename_i hw;have hw':Region.wanted o (yielded ops (XI ds a).tmps)=true:=hw;rw[if_pos hw'];rcases h2 with h2|⟨_,a0,w0,h0⟩
    ·exact aWC (hd o hm) (λa w hk=>aV9 hno hQ hd hk) (λ_ _ _ h=>hQ _ _ _ h) hno h2
    ·grind
   ·rename_i hw;have hw':¬ Region.wanted o (yielded ops (XI ds a).tmps)=true:=hw;rw[if_neg hw'];refine⟨λ_ _=>trivial,?_⟩;rw[aGQ];exact aV9 hno hQ hd h2
end
def Marks(wi w:World) (G:Gd):List Deferred->Prop
 | []=>True
 | d::ds=>(∃ b,d={ target:=.collected b,args:=#[] }/\w.heap[b]?=some (.deferred (some []))/\wi.heap.size<=b/\¬ G b/\∀ d'∈ds,d'≠d)/\Marks wi w G ds
theorem Marks.mem {wi w G}:∀ {ds},Marks wi w G ds->∀ d∈ds,∃ b,d={ target:=.collected b,args:=#[] }/\w.heap[b]?=some (.deferred (some []))/\wi.heap.size<=b/\¬ G b
 | [],_,d,hd=>by grind
 | x::ds,h,d,hd=>by
  rcases List.mem_cons.1 hd with rfl|hd
  ·obtain⟨b,h1,h2,h3,h4,_⟩:=h.1;grind
  ·exact Marks.mem h.2 d hd
theorem Marks.to {wi w w' G G'}:∀ {ds},Marks wi w G ds->(∀ b,({ target:=.collected b,args:=#[] })∈ds->w.heap[b]?=some (.deferred (some []))->¬ G b->w'.heap[b]?=some (.deferred (some []))/\¬ G' b)->Marks wi w' G' ds
 | [],_,_=>trivial
 | x::ds,h,hs=>by
  obtain⟨⟨b,rfl,h2,h3,h4,h5⟩,h6⟩:=h;obtain⟨k1,k2⟩:=hs b List.mem_cons_self h2 h4;exact⟨⟨b,rfl,k1,h3,k2,h5⟩,Marks.to h6 λb hb=>hs b (List.mem_cons_of_mem _ hb)⟩
def IM(n0:Nat->Prop) (wi:World) (Gi:Gd) (μi:Mp) (nt:Nat) (F:Frm) (H:Heap) (a:Act) (w:World):Prop :=
 ∃ G μ,Ext n0 wi Gi μi w G μ/\eA n0 G μ H w/\qJ w G μ nt F { a with defers:=[] }/\Marks wi w G a.defers
section
variable {P:Program} {E:Env} {n0 n1:Nat->Prop} {w w' wi:World} {G G' Gi:Gd} {μ μ' μi:Mp} {H:Heap} {F:Frm} {a:Act} {nt:Nat}
theorem Ext.wider (h:Ext n1 w G μ w' G' μ')(hn:∀ b,n1 b->n0 b):Ext n0 w G μ w' G' μ' :=
 ⟨h.toMono,h.os,h.tape,h.output,h.size,λb hb hnb=>h.old b hb λh1=>hnb (hn b h1),λb hb=>(h.new b hb).imp id (hn b)⟩
theorem eA.wider (h:eA n1 G μ H w)(hn:∀ b,n1 b->n0 b):eA n0 G μ H w :=
 ⟨λr k b hr hb=>by
  obtain⟨c,h1,h2,h3,h4,h5⟩:=h.blk r k b hr hb;grind,h.tags,h.inj,h.lt,h.top,λb hb=>hn b (h.base b hb),h.rows.DL λ_ b _=>hn b⟩
theorem eA.less (h:eA n0 G μ H w) {S:Nat->Prop} (hS:∀ b,S b->b<w.heap.size/\(∀ c t fr,w.heap[b]?≠some (.cells c t fr))/\∀ es clk,w.heap[b]?≠some (.map es clk)):eA (λb=>n0 b/\¬ S b) G μ H w :=
 ⟨λr k b hr hb=>by
  obtain⟨c,h1,h2,h3,h4,h5⟩:=h.blk r k b hr hb;exact⟨c,h1,h2,h3,h4,λhf=>⟨⟨(h5 hf).1,λhs=>(hS b hs).2.1 _ _ _ h1⟩,(h5 hf).2⟩⟩,h.tags,h.inj,h.lt,h.top,λb hb=>⟨h.base b hb,λhs=>Nat.lt_irrefl _ (Nat.lt_of_lt_of_le (hS b hs).1 hb)⟩,h.rows.DL λj b hj hn=>⟨hn,λhs=>by
   rcases h.rows.cel j b hj with ⟨c,t,fr,hc⟩|⟨es,clk,hc⟩
   ·grind
   ·exact(hS b hs).2.2 es clk hc⟩⟩
theorem qJ.same (h:qJ w G μ nt F a):qJ w G μ nt F { a with defers:=[] }:=⟨h.size,h.slot,rfl⟩
theorem I.a63 (h:I n0 wi Gi μi nt F H a w):IM n0 wi Gi μi nt F H a w:=by
 obtain⟨G,μ,e,hW,hF⟩:=h;refine⟨G,μ,e,hW,hF.same,?_⟩;rw[hF.defers]; trivial
theorem aY8 {nt:Nat} {id:Nat} {ops:Array Oper} {draw:Bool} {F:Frm} {H:Heap} {α:Type} {z:α} {k:Frm->Heap->Option α} (hcl:BM P (NM P E)) (hP:P.follows .mixedOrders=true) (hd:aQD ops=true) (h:TR P E nt ops draw F H k=some z) :
  ∃ F' H',k F' H'=some z/\∀ {ro:Option Nat} {n:Nat} {n0 wi Gi μi} {a w} {Q:Exit->Act->World->Prop},IM n0 wi Gi μi nt F H a w->(∀ a' w',a'.defers=a.defers->IM n0 wi Gi μi nt F' H' a' w'->Q .normal a' w')->(Code.region id ops draw).wpIn (Fr ro) n P Q a w:=by
 have core:∃ F' H',k F' H'=some z/\∀ {ro:Option Nat} {n:Nat} {n0 wi Gi μi} {a w} {ds:List Deferred} {Q:Exit->Act->World->Prop},I n0 wi Gi μi nt F H a w->(∀ a' w',I n0 wi Gi μi nt F' H' a' w'->Q .normal (XI ds a') w')->(Code.region id ops draw).wpIn (Fr ro) n P Q (XI ds a) w:=by
  cases draw with
  | true =>
   obtain⟨F',H',h2,h3⟩:=aKD h;refine⟨F',H',h3,?_⟩;intro ro n n0 wi Gi μi a w ds Q hI hQ;refine wpIn_region_any hP (aV9 (Q:=λe a' w'=>e=.normal/\I n0 wi Gi μi nt F' H' a' w') (λa w h=>by cases h.1) (λe a' w' h=>by obtain⟨rfl,h⟩:=h; exact hQ a' w' h) (λo ho=>aH3 hd ho) ?_);exact aMG hcl h2 hI (λa' w' h=>⟨rfl,h⟩)
  | false =>
   unfold TR at h;obtain⟨F',H',h2,h3⟩:=aCD h;refine⟨F',H',h3,?_⟩;intro ro n n0 wi Gi μi a w ds Q hI hQ;refine wpIn_region_list (aPL (Q:=λe a' w'=>e=.normal/\I n0 wi Gi μi nt F' H' a' w') (λa w h=>by cases h.1) (λe a' w' h=>by obtain⟨rfl,h⟩:=h; exact hQ a' w' h) (λo ho=>aH3 hd ho) ?_);exact YG hcl ops.toList F H _ _ h2 hI (λa' w' h=>⟨rfl,h⟩)
 obtain⟨F',H',h1,h2⟩:=core;refine⟨F',H',h1,?_⟩;intro ro n n0 wi Gi μi a w Q hI hQ;obtain⟨G,μ,e,hW,hF,hm⟩:=hI;have hS:∀ b,({ target:=.collected b,args:=#[] }:Deferred)∈a.defers->b<w.heap.size/\(∀ c t fr,w.heap[b]?≠some (.cells c t fr))/\∀ es clk,w.heap[b]?≠some (.map es clk):=by
  intro b hb;obtain⟨b',e1,e2,_⟩:=hm.mem _ hb;grind
 have e0:a=XI a.defers { a with defers:=[] }:=rfl;refine h2 (n0:=λb=>n0 b/\¬ ({ target:=.collected b,args:=#[] }:Deferred)∈a.defers) (wi:=w) (Gi:=G) (μi:=μ) ⟨G,μ,Ext.refl _ _ _ _,hW.less hS,hF⟩ ?_;rintro a' w' ⟨G',μ',e',hW',hF'⟩;have hW2:eA n0 G' μ' H' w':=hW'.wider λb hb=>hb.1
 have hdef:(XI a.defers a').defers=a.defers:=by
  show a'.defers++a.defers=a.defers;rw[hF'.defers]; rfl
 refine hQ _ _ hdef ⟨G',μ',e.trans (e'.wider λb hb=>hb.1),hW2,hF'.same,?_⟩;rw[hdef];refine hm.to λb hb h1 h2=>⟨?_,λhg=>?_⟩
 ·rw[e'.old b (hS b hb).1 (λh=>h.2 hb)]; exact h1
 ·rcases e'.new b hg with h|h
  ·grind
  ·grind
end
def aL3(T:List Nat):(l:List (Ex×List (Nat×Kd)))->Ex->Frm->Heap->Option (fR l)
 | [],_,_,_=>none
 | [(e,s)],ex,F,H=>bif aY5 e ex then AW T s F H else none
 | (e,s)::b::r,ex,F,H=>bif aY5 e ex then (match AW T s F H with|some x=>some (.inl x)|none=>none) else (match aL3 T (b::r) ex F H with|some y=>some (.inr y)|none=>none)
section
variable {α:Type} (P:Program) (E:Env) (nt keep:Nat) (lt rt:Nat->Option C8) (rd:Bool) (T:List Nat)
def aBT:Code->Frm->Heap->(Ex->Frm->Heap->Option α)->Option α
 | .skip,F,H,k=>k .normal F H
 | .label _,F,H,k=>k .normal F H
 | .region _ ops draw,F,H,k=>bif aQD ops then TR P E nt ops draw F H λF H=>aRY keep F λF=>k .normal F H else none
 | .seq a b,F,H,k=>aBT a F H λex F H=>match ex with
  | .normal=>aBT b F H k
  | .exit i=>k (.exit i) F H
  | .ret=>k .ret F H
 | .cond c a b,F,H,k=>match ev F c with
  | .lit (.bool t)=>a1U F c t λF t=>bif t then aBT a F H k else aBT b F H k
  | _=>none
 | .block id a,F,H,k=>aBT a F H λex F H=>match ex with
  | .exit i=>bif Nat.beq i id then k .normal F H else k (.exit i) F H
  | .normal=>k .normal F H
  | .ret=>k .ret F H
 | .loop a,F,H,k=>match lt (R0 a)with
  | some s=>match AW T s.sh F H with
   | some x=>aC (s.run x) λz=>a3R s.exits z k
   | none=>none
  | none=>none
 | .rangeFunc _ _ _ a,F,H,k=>bif rd then none else match rt (R0 a)with
  | some s=>match AW T s.sh F H with
   | some x=>aC (s.run x) λz=>a3R s.exits z k
   | none=>none
  | none=>none
 | .exit id,F,H,k=>k (.exit id) F H
 | .ret,F,H,k=>k .ret F H
 | _,_,_,_=>none
def aVO(T:List Nat) sh exits (ex:Ex)(F:Frm)(H:Heap):Option (Shape.den sh⊕fR exits):=match ex with
 | .normal=>match AW T sh F H with
  | some y=>some (.inl y)
  | none=>none
 | .exit i=>match aL3 T exits (.exit i) F H with
  | some z=>some (.inr z)
  | none=>none
 | .ret=>match aL3 T exits .ret F H with
  | some z=>some (.inr z)
  | none=>none
def aZY(a:Code) (sh:List (Nat×Kd)) (exits:List (Ex×List (Nat×Kd))) (x:Shape.den sh):Option (Shape.den sh⊕fR exits) :=
 aBT P E nt keep lt rt rd T a (JE sh x 0) (MX sh x) (aVO T sh exits)
end
def TY:Code->List Code
 | .seq a b=>TY a++TY b
 | .cond _ a b=>TY a++TY b
 | .block _ a=>TY a
 | .loop a=>[.loop a]
 | .rangeFunc g ps as1 a=>[.rangeFunc g ps as1 a]
 | _=>[]
section
variable {α:Type} {P:Program} {E:Env} {nt keep:Nat} {lt rt:Nat->Option C8} {rd:Bool} {T:List Nat}
def a6N(P:Program) (nt:Nat) (rd:Bool) (T:List Nat) (c:Code) (F:Frm) (H:Heap) (r:Ex×Frm×Heap):Prop :=
 ∀ (ro:Option Nat) (n:Nat) (n0:Nat->Prop) (wi:World) (Gi:Gd) (μi:Mp) (a:Act) (w:World),(rd=false->ro=none)->(∀ r,¬ r∈T->μi.loc r=none/\μi.len r=none)->IM n0 wi Gi μi nt F H a w ->
  c.wpIn (Fr ro) n P (λe a' w'=>e=r.1.to/\IM n0 wi Gi μi nt r.2.1 r.2.2 a' w'/\(rd=true->a'.defers=a.defers)) a w
def aJD(P:Program)(nt:Nat)(rd:Bool)(T:List Nat)(c:Code)(s:C8):Prop :=
 ∀ x z,s.run x=some z->a6N P nt rd T c (JE s.sh x 0) (MX s.sh x) (aCI s.exits z)
def aJ5(P:Program)(nt:Nat)(lt rt:Nat->Option C8)(rd:Bool)(T:List Nat):Code->Prop
 | .loop a=>∀ s,lt (R0 a)=some s->aJD P nt rd T (.loop a) s
 | .rangeFunc g ps as1 a=>rd=false->∀ s,rt (R0 a)=some s->aJD P nt rd T (.rangeFunc g ps as1 a) s
 | _=>True
theorem IM.a13 {n0 wi Gi μi F F' H a w}(h:IM n0 wi Gi μi nt F H a w)(hF:∀ t,iL F' t=iL F t\/iL F' t=.junk):IM n0 wi Gi μi nt F' H a w:=by
 obtain⟨G,μ,e,hW,hI,hm⟩:=h;refine⟨G,μ,e,hW,⟨hI.size,λt=>?_,rfl⟩,hm⟩;rcases hF t with h1|h1
 ·rw[h1]; exact hI.slot t
 ·rw[h1,VR]; simp
theorem IM.same {n0:Nat->Prop} {wi:World} {Gi:Gd} {μi:Mp} {F F':Frm} {H H':Heap} {a:Act} {w:World} (hfl:∀ r,¬ r∈T->μi.loc r=none/\μi.len r=none)
  (hs:∀ {n0:Nat->Prop} {wi:World} {Gi:Gd} {μi:Mp} {a:Act},(∀ r,¬ r∈T->μi.loc r=none/\μi.len r=none)->I n0 wi Gi μi nt F H a w->I n0 wi Gi μi nt F' H' a w) (h:IM n0 wi Gi μi nt F H a w):IM n0 wi Gi μi nt F' H' a w:=by
 obtain⟨G,μ,e,hW,hF,hm⟩:=h;have hS:∀ b,({ target:=.collected b,args:=#[] }:Deferred)∈a.defers->b<w.heap.size/\(∀ c t fr,w.heap[b]?≠some (.cells c t fr))/\∀ es clk,w.heap[b]?≠some (.map es clk):=by
  intro b hb;obtain⟨b',e1,e2,_⟩:=hm.mem _ hb;grind
 have e0:Ext (λb=>n0 b/\¬ ({ target:=.collected b,args:=#[] }:Deferred)∈a.defers) w G μi w G μ:=⟨⟨λ_ h=>⟨h,rfl⟩,e.map,e.len,λ_ _ h=>h,λ_ _ h=>h,e.sh⟩,rfl,rfl,rfl,oM _,λ_ _ _=>rfl,λ_ h=>.inl h⟩;obtain⟨G',μ',e',hW',hF'⟩:=hs (n0:=λb=>n0 b/\¬ ({ target:=.collected b,args:=#[] }:Deferred)∈a.defers) (wi:=w) (Gi:=G) (μi:=μi) (a:={ a with defers:=[] }) hfl ⟨G,μ,e0,hW.less hS,hF⟩;refine⟨G',μ',?_,hW'.wider λb hb=>hb.1,hF',hm.to λb hb h1 h2=>⟨h1,λhg=>?_⟩⟩
 ·exact {
   good:=λb hb=>⟨(e'.good b (e.good b hb).1).1,(e.good b hb).2⟩
   map:=e'.map
   len:=e'.len
   sh:=e'.sh
   room:=e.room
   row:=λj b hj=>e'.row j b (e.row j b hj)
   os:=e.os
   tape:=e.tape
   output:=e.output
   size:=e.size
   old:=e.old
   new:=λb hb=>by
    rcases e'.new b hb with h|h
    ·exact e.new b h
    ·exact .inr h.1 }
 ·rcases e'.new b hg with h|h
  ·grind
  ·grind
theorem IM.dec {n0 wi Gi μi F H a w}(hfl:∀ r,¬ r∈T->μi.loc r=none/\μi.len r=none){sh x}(h:AW T sh F H=some x)(hI:IM n0 wi Gi μi nt F H a w):IM n0 wi Gi μi nt (JE sh x 0) (MX sh x) a w :=
 hI.same hfl λhfl hI=>BR h hfl hI
theorem aKM {ex F H}:∀ {l z},aL3 T l ex F H=some z ->
  (aCI l z).1=ex/\∃ sh,∃ x ,AW T sh F H=some x/\(aCI l z).2.1=JE sh x 0/\(aCI l z).2.2=MX sh x
 | [],z,_=>Empty.elim z
 | [(e,s)],z,h=>by
  obtain⟨hb,h⟩:=cC h;exact⟨aSV hb,s,z,h,rfl,rfl⟩
 | (e,s)::b::r,z,h=>by
  simp only[aL3]at h;cases hb:aY5 e ex with
  | true =>
   rw[hb]at h;simp only[oC]at h;split at h
   ·rename_i x hx;simp only[oJ]at h;subst h;exact⟨aSV hb,s,x,hx,rfl,rfl⟩
   grind
  | false =>
   rw[hb]at h;simp only[oD]at h;split at h
   ·rename_i x hx;simp only[oJ]at h;subst h;exact aKM (z:=x) hx
   ·cases h
theorem IM.aPD {n0 wi Gi μi F H a w ex}(hfl:∀ r,¬ r∈T->μi.loc r=none/\μi.len r=none){l z}(h:aL3 T l ex F H=some z)(hI:IM n0 wi Gi μi nt F H a w) :
  (aCI l z).1=ex/\IM n0 wi Gi μi nt (aCI l z).2.1 (aCI l z).2.2 a w:=by
 obtain⟨h1,sh,x,h2,h3,h4⟩:=aKM h;exact⟨h1,by rw[h3,h4]; exact hI.dec hfl h2⟩
theorem TW(hcl:BM P (NM P E))(hP:P.follows .mixedOrders=true):∀ c F H k (z:α),(∀ a∈TY c,aJ5 P nt lt rt rd T a) ->
  aBT P E nt keep lt rt rd T c F H k=some z->∃ r ,k r.1 r.2.1 r.2.2=some z/\a6N P nt rd T c F H r
 | .skip,F,H,k,z,hl,h=>⟨(.normal,F,H),h,λ_ _ _ _ _ _ _ _ _ _ hI=>wpIn_skip ⟨rfl,hI,λ_=>rfl⟩⟩
 | .label l,F,H,k,z,hl,h=>⟨(.normal,F,H),h,λ_ _ _ _ _ _ _ _ _ _ hI=>wpIn_label ⟨rfl,hI,λ_=>rfl⟩⟩
 | .region id ops draw,F,H,k,z,hl,h=>by
  obtain⟨hd,h⟩:=cC h;obtain⟨F1,H1,h1,h2⟩:=aY8 (id:=id) hcl hP hd h;obtain⟨F2,h3,h4⟩:=aQ4 keep F1 λF=>k .normal F H1
  rw[h3]at h1;exact⟨(.normal,F2,H1),h1,λ_ _ _ _ _ _ _ _ _ _ hI=>h2 hI λa' w' hd' hI'=>⟨rfl,hI'.a13 h4,λ_=>hd'⟩⟩
 | .seq x y,F,H,k,z,hl,h=>by
  obtain⟨⟨ex,F1,H1⟩,h1,h2⟩:=TW hcl hP x F H _ z (λa ha=>hl a (by simp[TY,ha])) h;cases ex with
  | normal =>
   obtain⟨r,h3,h4⟩:=TW hcl hP y F1 H1 k z (λa ha=>hl a (by simp[TY,ha])) h1;refine⟨r,h3,λro n n0 wi Gi μi a w hro hfl hI=>wpIn_seq (wpIn_mono (h2 ro n n0 wi Gi μi a w hro hfl hI) ?_)⟩;rintro e a' w' ⟨rfl,hI',hd'⟩;refine wpIn_mono (h4 ro n n0 wi Gi μi a' w' hro hfl hI') ?_;grind
  | exit i =>
   refine⟨(.exit i,F1,H1),h1,λro n n0 wi Gi μi a w hro hfl hI=>wpIn_seq (wpIn_mono (h2 ro n n0 wi Gi μi a w hro hfl hI) ?_)⟩;rintro e a' w' ⟨rfl,hI'⟩;exact⟨rfl,hI'⟩
  | ret =>
   refine⟨(.ret,F1,H1),h1,λro n n0 wi Gi μi a w hro hfl hI=>wpIn_seq (wpIn_mono (h2 ro n n0 wi Gi μi a w hro hfl hI) ?_)⟩;rintro e a' w' ⟨rfl,hI'⟩;exact⟨rfl,hI'⟩
 | .cond c x y,F,H,k,z,hl,h=>by
  simp only[aBT]at h;split at h
  ·rename_i t ht;replace h:=aNA h ht;have hc:∀ {n0 wi Gi μi a w},IM n0 wi Gi μi nt F H a w->a.eval c=.bool t:=λ{n0 wi Gi μi a w} hI=>by
    obtain⟨G,μ,e,hW,hF,_⟩:=hI;have hc:=QU hF c;rw[ht,VR]at hc;rw[<- hc];cases c <;> rfl
   cases t with
   | true =>
    obtain⟨r,h3,h4⟩:=TW hcl hP x F H k z (λa ha=>hl a (by simp[TY,ha])) h;exact⟨r,h3,λro n n0 wi Gi μi a w hro hfl hI=>wpIn_cond (hc hI) (h4 ro n n0 wi Gi μi a w hro hfl hI)⟩
   | false =>
    obtain⟨r,h3,h4⟩:=TW hcl hP y F H k z (λa ha=>hl a (by simp[TY,ha])) h;exact⟨r,h3,λro n n0 wi Gi μi a w hro hfl hI=>wpIn_cond (hc hI) (h4 ro n n0 wi Gi μi a w hro hfl hI)⟩
  ·cases h
 | .block id x,F,H,k,z,hl,h=>by
  simp only[aBT]at h;obtain⟨⟨ex,F1,H1⟩,h1,h2⟩:=TW hcl hP x F H _ z (λa ha=>hl a (by simp[TY,ha])) h;cases ex with
  | normal =>
   refine⟨(.normal,F1,H1),h1,λro n n0 wi Gi μi a w hro hfl hI=>wpIn_block (wpIn_mono (h2 ro n n0 wi Gi μi a w hro hfl hI) ?_)⟩;rintro e a' w' ⟨rfl,hI'⟩;exact⟨rfl,hI'⟩
  | ret =>
   refine⟨(.ret,F1,H1),h1,λro n n0 wi Gi μi a w hro hfl hI=>wpIn_block (wpIn_mono (h2 ro n n0 wi Gi μi a w hro hfl hI) ?_)⟩;rintro e a' w' ⟨rfl,hI'⟩;exact⟨rfl,hI'⟩
  | exit i =>
   simp only at h1;cases hi:Nat.beq i id with
   | true =>
    rw[hi]at h1;have:=oE hi;subst this;refine⟨(.normal,F1,H1),h1,λro n n0 wi Gi μi a w hro hfl hI=>wpIn_block (wpIn_mono (h2 ro n n0 wi Gi μi a w hro hfl hI) ?_)⟩;rintro e a' w' ⟨rfl,hI'⟩;simp only[Ex.to,Exit.inBlock,if_true];exact⟨trivial,hI'⟩
   | false =>
    rw[hi]at h1;have hne:¬ i=id:=λe=>by rw[e]at hi; simp at hi
    refine⟨(.exit i,F1,H1),h1,λro n n0 wi Gi μi a w hro hfl hI=>wpIn_block (wpIn_mono (h2 ro n n0 wi Gi μi a w hro hfl hI) ?_)⟩;rintro e a' w' ⟨rfl,hI'⟩;simp only[Ex.to,Exit.inBlock,hne,if_false];exact⟨trivial,hI'⟩
 | .loop x,F,H,k,z,hl,h=>by
  simp only[aBT]at h;split at h
  ·rename_i s hs;split at h
   ·rename_i x0 hx;obtain⟨y,h1,h2⟩:=aDE h;exact⟨aCI s.exits y,aM9 h2,λro n n0 wi Gi μi a w hro hfl hI=>hl (.loop x) (by simp[TY]) s hs x0 y h1 ro n n0 wi Gi μi a w hro hfl (hI.dec hfl hx)⟩
   ·cases h
  ·cases h
 | .rangeFunc g ps as1 x,F,H,k,z,hl,h=>by
  simp only[aBT]at h;cases hrd:rd with
  | true=>rw[hrd]at h; cases h
  | false =>
   rw[hrd]at h;simp only[oD]at h;split at h
   ·rename_i s hs;split at h
    ·rename_i x0 hx;obtain⟨y,h1,h2⟩:=aDE h;refine⟨aCI s.exits y,aM9 h2,λro n n0 wi Gi μi a w hro hfl hI=>?_⟩;have:=hl (.rangeFunc g ps as1 x) (by simp[TY]) hrd s hs x0 y h1 ro n n0 wi Gi μi a w (by rw[hrd]; exact hro) hfl (hI.dec hfl hx);rw[hrd]at this;exact this
    ·cases h
   ·cases h
 | .exit id,F,H,k,z,hl,h=>⟨(.exit id,F,H),h,λ_ _ _ _ _ _ _ _ _ _ hI=>wpIn_exit ⟨rfl,hI,λ_=>rfl⟩⟩
 | .scope x,F,H,k,z,hl,h=>by simp only[aBT]at h; cases h
 | .ret,F,H,k,z,hl,h=>⟨(.ret,F,H),h,λ_ _ _ _ _ _ _ _ _ _ hI=>wpIn_ret ⟨rfl,hI,λ_=>rfl⟩⟩
 | .goto l,F,H,k,z,hl,h=>by simp only[aBT]at h; cases h
 | .refuse s,F,H,k,z,hl,h=>by simp only[aBT]at h; cases h
theorem aQ1 {sh exits ex F H y}(h:aVO T sh exits ex F H=some y) :
  (∃ x,y=.inl x/\ex=.normal/\AW T sh F H=some x)\/(∃ z,y=.inr z/\ex≠.normal/\aL3 T exits ex F H=some z):=by
 cases ex with
 | normal =>
  simp only[aVO]at h;grind
 | exit i =>
  simp only[aVO]at h;grind
 | ret =>
  simp only[aVO]at h;grind
theorem aYN(hcl:BM P (NM P E)) (hP:P.follows .mixedOrders=true) {a:Code} {sh:List (Nat×Kd)} {exits:List (Ex×List (Nat×Kd))} {step:Shape.den sh->Option (Shape.den sh⊕fR exits)} (L:Nat)
  (hl:∀ b∈TY a,aJ5 P nt lt rt rd T b) (hr:∀ x,aZY P E nt keep lt rt rd T a sh exits x=step x):aJD P nt rd T (.loop a) ⟨sh,exits,aO step L⟩:=by
 intro x z hz ro n n0 wi Gi μi act w hro hfl hI;refine wpIn_loop_ghost (λk a w=>(∃ x,aO step k x=some z/\IM n0 wi Gi μi nt (JE sh x 0) (MX sh x) a w)/\(rd=true->a.defers=act.defers)) L ⟨⟨x,hz,hI⟩,λ_=>rfl⟩ ?_;rintro k act1 w ⟨⟨x,hz,hI⟩,hdef⟩;cases k with
 | zero=>cases hz
 | succ k =>
  simp only[aO]at hz;split at hz
  ·rename_i y hs;rw[<- hr]at hs;obtain⟨⟨ex,F',H'⟩,h1,h2⟩:=TW hcl hP a _ _ _ _ hl hs;refine wpIn_mono (h2 ro n n0 wi Gi μi act1 w hro hfl hI) ?_;rintro e a' w' ⟨rfl,hI',hd'⟩;rcases aQ1 h1 with ⟨y',e1,e2,e3⟩|⟨z',e1,_,_⟩
   ·cases e1;subst e2;exact⟨k,by omega,⟨y,hz,hI'.dec hfl e3⟩,λhr=>(hd' hr).trans (hdef hr)⟩
   ·cases e1
  ·rename_i y hs;simp only[oJ]at hz;subst hz;rw[<- hr]at hs;obtain⟨⟨ex,F',H'⟩,h1,h2⟩:=TW hcl hP a _ _ _ _ hl hs;refine wpIn_mono (h2 ro n n0 wi Gi μi act1 w hro hfl hI) ?_;rintro e a' w' ⟨rfl,hI',hd'⟩;rcases aQ1 h1 with ⟨y',e1,e2,e3⟩|⟨z',e1,e2,e3⟩
   ·cases e1
   ·cases e1;obtain⟨h3,h5⟩:=hI'.aPD hfl e3;have h6:(rd=true->a'.defers=act.defers):=λhr=>(hd' hr).trans (hdef hr)
    cases ex with
    | normal=>exact absurd rfl e2
    | exit i=>exact⟨by rw[h3],h5,h6⟩
    | ret=>exact⟨by rw[h3],h5,h6⟩
  ·cases hz
end
def aK7:Kd->Nat->List Nat
 | .own _ _,n|.box _ _,n|.bown _ _ _,n|.bque _ _ _,n|.bag _ _ _ _ _,n|.bag2 _ _ _ _ _ _,n=>[n]
 | .win j _,_=>[j]
 | _,_=>[]
def aAM:List (Nat×Kd)->Nat->List Nat
 | [],_=>[]
 | (_,k)::r,n=>aK7 k n++aAM r (n+k.pos)
structure Stp (S:Nat->Prop) (B A:World):Prop where
 keep:∀ b,b<B.heap.size->¬ S b->A.heap[b]?=B.heap[b]?
 room:∀ b n,Room B b n->Room A b n
 os:A.os=B.os
 tape:A.tape=B.tape
 output:A.output=B.output
 size:B.heap.size<=A.heap.size
theorem Stp.trans {S A B C}(h:Stp S A B)(k:Stp S B C):Stp S A C :=
 ⟨λb hb hs=>(k.keep b (Nat.lt_of_lt_of_le hb h.size) hs).trans (h.keep b hb hs),λb n hr=>k.room b n (h.room b n hr),k.os.trans h.os,k.tape.trans h.tape,k.output.trans h.output,oR h.size k.size⟩
def aZS(P:Program) (gf:FuncId) (ts:List Ty) (ks:List Kd) (f:LP ts->Option (List (aL ks))):Prop :=
 ∀ x all,f x=some all->∀ (m l:Nat) (W:World) (G:Nat->Prop) (vs:List Value),Lt W G->VRs W (Gd.of G) aZ (LX ts x) vs ->
  ∀ (J Jx:List (aL ks)->(Nat->Prop)->(Nat->Prop)->World->Prop),
  (∀ pre e post T X B T' X' A us Gx m',all=pre++e::post->J pre T X B->Stp X B A->(∀ b,T' b->(T b\/B.heap.size<=b)/\b<A.heap.size)->(∀ b,X' b->T' b/\(X b\/B.heap.size<=b)) ->
   (∀ b,Gx b->(G b\/T' b)/\¬ X' b)->VRs A (Gd.of Gx) aZ (MU ks e) us ->
   YieldAt Fence.wide m' P l us.toArray A λen C =>
    ((∀ b,b<A.heap.size->G b\/T' b->C.heap[b]?=A.heap[b]?)/\(∀ b n,Room A b n->Room C b n)/\A.heap.size<=C.heap.size)/\((en=.returned (.bool true)/\J (pre++[e]) T' X' C)\/(en=.returned (.bool false)/\Jx (pre++[e]) T' X' C))) ->
  J [] (λ_=>False) (λ_=>False) W ->
  CallsIn Fence.wide m P gf ((#[.func (.yield l) #[] #[]]:Array Value)++vs.toArray) W λen C=>(∃ v,en=.returned v)/\∃ T X B,Stp X B C/\(J all T X B\/∃ pre,Jx pre T X B)
def aSX {σ τ ε:Type} (step:σ->ε->Option (σ⊕τ)) (fin:σ->Option τ):List ε->σ->Option τ
 | [],y=>fin y
 | e::es,y=>match step y e with
  | some (.inl y')=>aSX step fin es y'
  | some (.inr z)=>some z
  | none=>none
def aYD:List Nat->List PV->Frm->Frm
 | t::ts,p::ps,F=>aYD ts ps ((t,p)::F)
 | _,_,F=>F
def a6Q(sh:List (Nat×Kd)) (exits:List (Ex×List (Nat×Kd))) (F0:Frm) (ex:Ex) (_:Frm) (H:Heap):Option (Shape.den sh⊕fR exits):=aVO [] sh exits ex F0 H
def aQ9(P:Program)(E:Env)(nt keep:Nat)(lt rt:Nat->Option C8)(ps:List Nat)(assign body:Code) ks sh exits (y:Shape.den sh)(e:aL ks):Option (Shape.den sh⊕fR exits) :=
 bif Nat.beq ps.length ks.length&&ps.all (λt=>Nat.blt t nt) then
  aBT P E nt keep lt rt true (aAM sh 0) assign (aYD ps (MU ks e) (JE sh y 0)) (MX sh y) λex F H=>match ex with
   | .normal=>aBT P E nt keep lt rt true (aAM sh 0) body F H (a6Q sh exits (JE sh y 0))
   | _=>none
 else none
def a8B sh exits (y:Shape.den sh):Option (fR exits):=aL3 [] exits .normal (JE sh y 0) (MX sh y)
def a1X(sh:List (Nat×Kd)) (exits:List (Ex×List (Nat×Kd))) {ε:Type} (all:Shape.den sh->Option (List ε)) (step:Shape.den sh->ε->Option (Shape.den sh⊕fR exits)) (x:Shape.den sh):Option (fR exits) :=
 match all x with
 | some l=>aSX step (a8B sh exits) l x
 | none=>none
def aX9(gf:FuncId) (ts:List Ty) (sh:List (Nat×Kd)) (g:Operand) (x:Shape.den sh):Option (LP ts):=bif ts.all Ty.plain then G7 gf ts (ev (JE sh x 0) g) else none
section
variable {P:Program} {n0:Nat->Prop} {w wi:World} {G Gi:Gd} {μ μi:Mp} {H:Heap} {F:Frm} {a:Act} {nt:Nat}
theorem aBI {l:Nat} {o o':Obj} (hl:w.heap[l]?=some o) (ho:(∀ c t fr,o≠.cells c t fr)/\∀ es clk,o≠.map es clk) (hG:¬ G l):Mono w G μ (w.putObj l o') G μ :=
 ⟨λb hb=>⟨hb,World.putObj_heap_other (by rintro rfl; exact hG hb)⟩,λ_ _ h=>h,λ_ _ h=>h,λb n ⟨cs,t,fr,h1,h2⟩=>⟨cs,t,fr,by
  rw[World.putObj_heap_other]
  ·exact h1
  ·rintro rfl;rw[hl]at h1;exact ho.1 cs t fr (oB h1),h2⟩,λ_ _ h=>h,λ_ _ _=>rfl⟩
theorem aH5(hW:eA n0 G μ H w){l o o'}(hl:w.heap[l]?=some o)(ho:(∀ c t fr,o≠.cells c t fr)/\∀ es clk,o≠.map es clk)(hG:¬ G l):eA n0 G μ H (w.putObj l o'):=by
 have m:=aBI (μ:=μ) (o':=o') hl ho hG;refine⟨?_,hW.tags,hW.inj,hW.lt.step m.good λb hb=>by rw[World.putObj_size]; exact hW.lt b hb,hW.top,λb hb=>hW.base b (by simp_all),hW.rows.step m.aZ (by simp) (λ_=>rfl) (λj b hj=>⟨?_,id,λr k h1 h2 h3=>⟨r,k,h1,h2,h3⟩⟩) (λr k _ _ h1 _ _=>⟨k,h1,rfl,rfl,rfl,rfl⟩)⟩
 case refine_2 =>
  rw[World.putObj_heap_other];rcases hW.rows.cel j _ hj with ⟨c,t,fr,hc⟩|⟨es,clk,hc⟩
  ·grind
  grind
 intro r k b hr hb;obtain⟨c,h1,h2,h3,h4⟩:=hW.blk r k b hr hb;have e:(w.putObj l o').heap[b]?=w.heap[b]?:=by
  rw[World.putObj_heap_other];grind
 exact⟨c,e.trans h1,aK.mono m e _ _ h2,h3,h4⟩
theorem aKR {l o o'}(hl:w.heap[l]?=some o)(ho:(∀ c t fr,o≠.cells c t fr)/\∀ es clk,o≠.map es clk)(hG:¬ G l)(hn:n0 l):Ext n0 w G μ (w.putObj l o') G μ :=
 {toMono:=aBI hl ho hG
  os:=rfl
  tape:=rfl
  output:=rfl
  size:=by simp
  old:=λb hb hnb=>World.putObj_heap_other (by grind)
  new:=λb hb=>.inl hb }
theorem a0N {T X T' Gx G1:Nat->Prop} {A B:World} (hW:eA (λb=>n0 b/\¬ T b) G μ H B) (hn:∀ b,T b->n0 b) (hTX:∀ b,X b->T b) (hGX:∀ b,G b->¬ X b) (hG1:∀ b,G1 b->G b) (st:Stp X B A) (hT:∀ b,T' b->(T b\/B.heap.size<=b)/\b<A.heap.size) (hx:∀ b,Gx b->G1 b\/T' b) :
  Ext n0 B G μ A (G.or Gx) μ:={
 good:=λb hb=>⟨.inl hb,st.keep b (hW.lt b hb) (hGX b hb)⟩
 map:=λ_ _ h=>h
 len:=λ_ _ h=>h
 room:=st.room
 row:=λ_ _ h=>h
 os:=st.os
 tape:=st.tape
 output:=st.output
 size:=st.size
 old:=λb hb hnb=>st.keep b hb λhs=>hnb (hn b (hTX b hs))
 new:=λb hb=>by
  rcases hb with hb|hb
  ·grind
  ·rcases hx b hb with h|h
   ·grind
   ·rcases(hT b h).1 with h|h
    ·grind
    ·exact .inr (hW.base b h).1 }
theorem aYR {T X T' Gx G1:Nat->Prop}{A B}(hW:eA (λb=>n0 b/\¬ T b) G μ H B)(hTX:∀ b,X b->T b)(hGX:∀ b,G b->¬ X b)(hG1:∀ b,G1 b->G b)(st:Stp X B A)(hT:∀ b,T' b->(T b\/B.heap.size<=b)/\b<A.heap.size)(hx:∀ b,Gx b->G1 b\/T' b) :
  eA (λb=>n0 b/\¬ T' b) (G.or Gx) μ H A:=by
 have m:Mono B G μ A (G.or Gx) μ:=⟨λb hb=>⟨.inl hb,st.keep b (hW.lt b hb) (hGX b hb)⟩,λ_ _ h=>h,λ_ _ h=>h,st.room,λ_ _ h=>h,λ_ _ _=>rfl⟩;refine⟨?_,hW.tags,hW.inj,?_,hW.top,λb hb=>⟨(hW.base b (oR st.size hb)).1,λhs=>Nat.lt_irrefl _ (Nat.lt_of_lt_of_le (hT b hs).2 hb)⟩,?_⟩
 case refine_3 =>
  have nT:∀ j b,G.row j=some b->¬ T' b:=λj b hj hs=>by
   obtain⟨a1,a2,_⟩:=hW.rows.sep j b hj;grind
  refine(hW.rows.DL (n1:=λb=>n0 b/\¬ T' b) λj b hj hn=>⟨hn.1,nT j b hj⟩).step m.aZ st.size (λ_=>rfl) (λj b hj=>⟨?_,?_,λr k h1 h2 h3=>⟨r,k,h1,h2,h3⟩⟩) (λr k _ _ h1 _ _=>⟨k,h1,rfl,rfl,rfl,rfl⟩)
  ·obtain⟨a1,a2,_⟩:=hW.rows.sep j b hj;exact st.keep b a1 λhx=>a2.2 (hTX b hx)
  ·rintro(h|h)
   ·exact h
   ·grind
 ·intro r k b hr hb;obtain⟨c,h1,h2,h3,h4,h5⟩:=hW.blk r k b hr hb;have hlt:=hW.GQ hr hb;have hns:¬ X b:=by grind
  have e:=st.keep b hlt hns;have nT:k.frozen=false->¬ T' b:=λhf hs=>by grind
  refine⟨c,e.trans h1,aK.mono m e _ _ h2,h3,λhf=>.inl (h4 hf),λhf=>⟨⟨(h5 hf).1.1,nT hf⟩,?_⟩⟩;rintro(h|h)
  ·grind
  ·grind
 ·refine hW.lt.step m.good ?_;rintro b (hb|hb)
  ·exact Nat.lt_of_lt_of_le (hW.lt b hb) st.size
  ·rcases hx b hb with h|h
   ·exact Nat.lt_of_lt_of_le (hW.lt b (hG1 b h)) st.size
   ·grind
theorem aVT:∀ {ps qs us F tmps},ps.length=qs.length->(∀ t∈ps,t<nt)->VRs w G μ qs us->qJ w G μ nt F { tmps:=tmps,defers:=[] } ->
  qJ w G μ nt (aYD ps qs F) { tmps:=(ps.zip us).foldl (λt (p,v)=>t.setIfInBounds p v) tmps,defers:=[] }
 | [],[],us,F,tmps,_,_,hv,hF=>by exact hF
 | t::ts,q::qs,us,F,tmps,hl,hb,hv,hF=>by
  obtain⟨v,vs,rfl,h1,h2⟩:=hv;simp only[aYD];exact aVT (by grind) (λs hs=>hb s (List.mem_cons_of_mem _ hs)) h2 (hF.cons (hb t List.mem_cons_self) h1)
 | [],_::_,us,F,tmps,hl,_,_,_=>by grind
 | _::_,[],us,F,tmps,hl,_,_,_=>by grind
end
def aAL(μ:Mp) (T:List Nat):Mp:=⟨λr=>if r∈T then μ.loc r else none,λr=>if r∈T then μ.len r else none,μ.sh⟩
section
variable {P:Program} {n0:Nat->Prop} {w w' wi:World} {G G' Gi:Gd} {μ μ' μi:Mp} {H:Heap} {F:Frm} {a:Act} {nt:Nat}
theorem Z7 {T r}(h:r∈T):(aAL μ T).loc r=μ.loc r/\(aAL μ T).len r=μ.len r/\(aAL μ T).sh r=μ.sh r:=by simp[aAL,h]
theorem aKY {T}:∀ r,¬ r∈T->(aAL μ T).loc r=none/\(aAL μ T).len r=none:=λr h=>by simp[aAL,h]
theorem aO8 T:Ext n0 w G (aAL μ T) w G μ:={
 good:=λ_ h=>⟨h,rfl⟩
 map:=λr b hr=>by
  by_cases h:r∈T
  ·rw[(Z7 h).1]at hr; grind
  ·rw[(aKY r h).1]at hr; grind
 len:=λr b hr=>by
  by_cases h:r∈T
  ·rw[(Z7 h).2.1]at hr; omega
  ·rw[(aKY r h).2]at hr; grind
 room:=λ_ _ h=>h
 row:=λ_ _ h=>h
 os:=rfl
 tape:=rfl
 output:=rfl
 size:=oM _
 old:=λ_ _ _=>rfl
 new:=λ_ h=>.inl h }
theorem aPN:∀ ts x,iU.noRefs (LX ts x)=true
 | [],_=>rfl
 | t::r,(x,xs)=>by simp only[LX,iU.noRefs,iU,aPN r xs,Bool.and_self]
theorem a1L {T}:∀ k x n {v},(∀ r,r∈aK7 k n->r∈T)->VR w G μ (KD k x n) v->VR w G (aAL μ T) (KD k x n) v
 | .int _,x,n,v,_,h=>by simp only[KD]at h ⊢; rw[VR]at h ⊢; exact h
 | .bool,x,n,v,_,h=>by simp only[KD]at h ⊢; rw[VR]at h ⊢; exact h
 | .str,x,n,v,_,h=>by simp only[KD]at h ⊢; rw[VR]at h ⊢; exact h
 | .list t,x,n,v,_,h=>(F5 (KD (.list t) x n) v rfl h).fK
 | .agg t,x,n,v,_,h=>(F5 (KD (.agg t) x n) v (by simp only[KD,iU]; exact xK t x) h).fK
 | .own e t,x,n,v,hT,h=>by
  have:=Z7 (μ:=μ) (hT n (by simp[aK7]));simp only[KD]at h ⊢;rw[VR]at h ⊢; rw[this.1,this.2.1,this.2.2]; exact h
 | .box e t,x,n,v,hT,h=>by
  have:=Z7 (μ:=μ) (hT n (by simp[aK7]));simp only[KD]at h ⊢;rw[VR]at h ⊢; rw[this.1,this.2.2]; exact h
 | .bown e et t,x,n,v,hT,h=>by
  have:=Z7 (μ:=μ) (hT n (by simp[aK7]));simp only[KD]at h ⊢;rw[VR]at h ⊢; rw[this.1,this.2.2]; exact h
 | .bque e et t,x,n,v,hT,h=>by
  have:=Z7 (μ:=μ) (hT n (by simp[aK7]));simp only[KD]at h ⊢;rw[VR]at h ⊢; rw[this.1,this.2.2]; exact h
 | .bag e t1 et t t2,x,n,v,hT,h=>by
  have:=Z7 (μ:=μ) (hT n (by simp[aK7]));simp only[KD]at h ⊢;rw[VR]at h ⊢; rw[this.1,this.2.2]; exact h
 | .bag2 e t1 et t eu u,x,n,v,hT,h=>by
  have:=Z7 (μ:=μ) (hT n (by simp[aK7]));simp only[KD]at h ⊢;rw[VR]at h ⊢; rw[this.1,this.2.2]; exact h
 | .ptr t,x,n,v,_,h=>(F5 (KD (.ptr t) x n) v rfl h).fK
 | .fn g,x,n,v,_,h=>by simp only[KD]at h ⊢; rw[VR]at h ⊢; exact h
 | .nil0,x,n,v,_,h=>by simp only[KD]at h ⊢; rw[VR]at h ⊢; exact h
 | .val,x,n,v,_,h=>by simp only[KD]at h ⊢; rw[VR]at h ⊢; exact h
 | .hnd sz,x,n,v,_,h=>(F5 (KD (.hnd sz) x n) v rfl h).fK
 | .mpk j,x,n,v,_,h=>(F5 (KD (.mpk j) x n) v rfl h).fK
 | .ar e t,x,n,v,_,h=>by simp only[KD]; rw[VR]; trivial
 | .nilI,x,n,v,_,h=>by simp only[KD]at h ⊢; rw[VR]at h ⊢; exact h
 | .clo g ts,x,n,v,_,h=>(F5 (KD (.clo g ts) x n) v (by simp only[KD,iU,iU.noRefs,aPN ts x,Bool.and_self]) h).fK
 | .win j sz,x,n,v,hT,h=>by
  have:=Z7 (μ:=μ) (hT j (by simp[aK7]));simp only[KD]at h ⊢;rw[VR]at h ⊢; rw[this.1,this.2.1,this.2.2]; exact h
theorem aVL {T}:∀ sh x n {t v},(∀ r,r∈aAM sh n->r∈T)->VR w G μ (iL (JE sh x n) t) v->VR w G (aAL μ T) (iL (JE sh x n) t) v
 | [],_,_,t,v,_,h=>by simp only[JE,iL]; rw[VR]; trivial
 | (s,k)::r,(x,xs),n,t,v,hT,h=>by
  simp only[JE]at h ⊢;rw[uD]at h ⊢
  by_cases hs:t=s
  ·rw[if_pos hs]at h ⊢;exact a1L k x n (λr hr=>hT r (by simp only[aAM]; grind)) h
  ·rw[if_neg hs]at h ⊢;exact aVL r xs (n+k.pos) (λr hr=>hT r (by simp only[aAM]; grind)) h
theorem aRU(hW:eA n0 G μ H w) (o:Obj):Ext n0 w G μ (w.alloc o) G μ/\eA n0 G μ H (w.alloc o):=by
 have e:Ext n0 w G μ (w.alloc o) G μ:={
  good:=λb hb=>⟨hb,Below.heap_alloc _ _ _ (hW.lt b hb)⟩
  map:=λ_ _ h=>h
  len:=λ_ _ h=>h
  room:=λb n hc=>by
   obtain⟨cs,t,fr,h1,h2⟩:=hc;exact⟨cs,t,fr,by rw[Below.heap_alloc _ _ _ (NZ h1)]; exact h1,h2⟩
  row:=λ_ _ h=>h
  os:=rfl
  tape:=rfl
  output:=rfl
  size:=by simp
  old:=λb hb _=>Below.heap_alloc _ _ _ hb
  new:=λb hb=>.inl hb }
 exact⟨e,hW.keep e ⟨λ_=>rfl,λj b hj=>⟨Below.heap_alloc _ _ _ (hW.rows.sep j b hj).1,id⟩⟩ (λr k b hr hb=>⟨Below.heap_alloc _ _ _ (hW.GQ hr hb),id⟩) λb hb=>Nat.lt_of_lt_of_le (hW.lt b hb) e.size⟩
theorem Ext.plain (h:Ext n0 w G μ w' G' μ'):Ext n0 w G aZ w' G' aZ :=
 {good:=h.good,map:=λ_ _ h=>(by cases h),len:=λ_ _ h=>(by cases h),room:=h.room,row:=h.row,os:=h.os,tape:=h.tape,output:=h.output,size:=h.size,old:=h.old,new:=h.new }
theorem Ext.back (hfl:∀ r,μi.loc r=none/\μi.len r=none)(h:Ext n0 w G aZ w' G' aZ):Ext n0 w G μi w' G' μ' :=
 {good:=h.good,map:=λr b hr=>(by grind),len:=λr b hr=>(by grind),sh:=λr b hr=>(by grind),room:=h.room,row:=h.row,os:=h.os,tape:=h.tape,output:=h.output,size:=h.size,old:=h.old,new:=h.new }
def Ex.code:Ex->Code
 | .normal=>.skip
 | .ret=>.ret
 | .exit i=>.exit i
structure Btw (n0:Nat->Prop) (wi:World) (Gi:Gd) (μi:Mp) (nt:Nat) (a:Act) (G0:Gd) (N L D:Nat) (F:Frm) (H:Heap) (T X:Nat->Prop) (B:World) (rec:Obj) (G:Gd) (μ:Mp):Prop where
 ext:Ext n0 wi Gi μi B G μ
 winv:eA (λb=>n0 b/\¬ T b) G μ H B
 finv:qJ B G μ nt F { a with defers:=[] }
 base:∀ b,G0 b->G b
 good:∀ b,G b->¬ X b
 sub:∀ b,X b->T b
 seq:∀ b,T b->n0 b/\N<=b
 size:N<=B.heap.size
 notL:¬ G L
 notD:¬ G D
 atL:B.heap[L]?=some rec
 atD:B.heap[D]?=some (.deferred (some []))
 marks:Marks wi B G a.defers
theorem a2B {gf ts c v}(h:VR w G aZ (.clo (.func gf) [] (LX ts c)) v):∃ cs ,v=.func (.func gf) #[] cs/\VRs w G aZ (LX ts c) cs.toList:=by
 obtain⟨fs,cs,h1,h2,h3⟩:=h;rw[VRs]at h2
 simp_all
theorem aMO:∀ l x,(MU l x).length=l.length
 | [],_=>rfl
 | k::r,(x,xs)=>by simp only[MU,List.length_cons,aMO r xs]
set_option maxHeartbeats 2000000 in
theorem a3N {E:Env} {keep:Nat} {lt rt:Nat->Option C8} (hcl:BM P (NM P E)) (hP:P.follows .mixedOrders=true) {g:Operand} {ps:Array Tmp} {as1 body:Code} {gf:FuncId} {ts:List Ty} {ks:List Kd} {f:LP ts->Option (List (aL ks))}
  (hit:aZS P gf ts ks f) (hgf:∀ args w,(callFunc gf args).run P w=.ok (.enter gf args) w)
  {sh:List (Nat×Kd)} {exits:List (Ex×List (Nat×Kd))} {step:Shape.den sh->aL ks->Option (Shape.den sh⊕fR exits)} {all:Shape.den sh->Option (List (aL ks))}
  (has:∀ b∈TY as1,aJ5 P nt lt rt true (aAM sh 0) b) (hbd:∀ b∈TY body,aJ5 P nt lt rt true (aAM sh 0) b)
  (hsq:∀ x l,all x=some l->∃ c,aX9 gf ts sh g x=some c/\f c=some l)
  (hr:∀ y e,aQ9 P E nt keep lt rt ps.toList as1 body ks sh exits y e=step y e) :
  aJD P nt false [] (.rangeFunc g ps as1 body) ⟨sh,exits,a1X sh exits all step⟩:=by
 intro x z hz ro n n0 wi Gi μi a w hro hfl0 hI;have hfl:∀ r,μi.loc r=none/\μi.len r=none:=λr=>hfl0 r (by simp)
 have hro:=hro rfl;subst hro;show (Code.rangeFunc g ps as1 body).wpIn Fence.wide n P _ a w;dsimp only at hz hI ⊢;unfold a1X at hz;obtain⟨lst,hall⟩:∃ lst,all x=some lst:=by
  cases h:all x with
  | none=>rw[h]at hz; cases hz
  | some l=>exact⟨l,rfl⟩
 rw[hall]at hz;dsimp only at hz;obtain⟨c,hc1,hc2⟩:=hsq x lst hall;obtain⟨G,μ,e,hW,hF,hm⟩:=hI;have hgv:VR w G μ (ev (JE sh x 0) g) (a.eval g):=by
  have:=QU hF g;have e1:({ a with defers:=[] }:Act).eval g=a.eval g:=by cases g <;> rfl
  rwa[e1]at this
 obtain⟨hpl0,hc1⟩:=cC hc1;obtain⟨lb,hg,hvs⟩:=a2B (DT hc1 hgv);refine wpIn_rangeFunc ?_;intro fn _;obtain⟨rec,hrec⟩:∃ rec:LoopState->Option Code->Loop,rec=λst pe=>{ state:=st,pending:=pe,fn,tmps:=a.tmps,params:=ps,assign:=as1,body,defers:=w.heap.size }:=⟨_,rfl⟩
 obtain⟨W1,hW1⟩:∃ W1,(w.alloc (.deferred (some []))).alloc (.loop (rec .ready none))=W1:=⟨_,rfl⟩;obtain⟨L,hLe⟩:∃ L,w.heap.size+1=L:=⟨_,rfl⟩;obtain⟨D,hDe⟩:∃ D,w.heap.size=D:=⟨_,rfl⟩;have hs1:W1.heap.size=w.heap.size+2:=by rw[<- hW1]; simp
 have hL1:W1.heap[L]?=some (.loop (rec .ready none)):=by rw[<- hW1,<- hLe]; have:=World.alloc_heap_new (w.alloc (.deferred (some []))) (.loop (rec .ready none)); rwa[World.size_alloc]at this
 have hD1:W1.heap[D]?=some (.deferred (some [])):=by rw[<- hW1,<- hDe]; exact(Below.heap_alloc _ _ _ (by simp)).trans (World.alloc_heap_new w _)
 obtain⟨a1,a2⟩:=aRU (n0:=n0) hW (.deferred (some []));obtain⟨b1,b2⟩:=aRU (n0:=n0) a2 (.loop (rec .ready none));rw[hW1]at b1 b2;have eW1:Ext n0 wi Gi μi W1 G μ:=(e.trans a1).trans b1;have hvs1:VRs W1 G aZ (LX ts c) lb.toList:=VRs.mono (a1.toMono.trans b1.toMono).aZ _ _ hvs;have hGL:¬ G L:=λh=>by have:=hW.lt L h; omega
 have hGD:¬ G D:=λh=>by have:=hW.lt D h; omega
 have hn0L:n0 L:=hW.base L (by omega);have hn0D:n0 D:=hW.base D (by omega);have marks1:Marks wi W1 G a.defers:=hm.to λb hb h1 h2=>⟨by rw[<- hW1,Below.heap_alloc _ _ _ (by have:=NZ h1; simp; omega),Below.heap_alloc _ _ _ (NZ h1)]; exact h1,h2⟩
 have markN:∀ b,({ target:=.collected b,args:=#[] }:Deferred)∈a.defers->b<w.heap.size:=by
  intro b hb;obtain⟨b',e1,e2,_⟩:=hm.mem _ hb;have:b=b':=by injection e1 with e1 _; injection e1
  subst this;exact NZ e2
 -- the states between the rounds
 let J:List (aL ks)->(Nat->Prop)->(Nat->Prop)->World->Prop:=λpre T X B=>∃ y,aSX step (a8B sh exits) (lst.drop pre.length) y=some z/\∃ G' μ',Btw n0 wi Gi μi nt a G W1.heap.size L D (JE sh y 0) (MX sh y) T X B (.loop (rec .ready none)) G' μ'
 let Jx:List (aL ks)->(Nat->Prop)->(Nat->Prop)->World->Prop:=λpre T X B=>(aCI exits z).1≠.normal/\∃ G' μ',Btw n0 wi Gi μi nt a G W1.heap.size L D (aCI exits z).2.1 (aCI exits z).2.2 T X B (.loop (rec .done (some (aCI exits z).1.code))) G' μ'
 refine⟨L,[{ target:=.collected D,args:=#[] }],W1,{ target:=.fn (.func gf) lb,args:=#[.func (.yield L) #[] #[]] },W1,gf,#[.func (.yield L) #[] #[]]++lb,W1,?_,?_,λ_ _=>trivial,?_,λh=>(by cases h),?_⟩
 ·rw[<- hW1,hrec,<- hLe,<- hDe]; exact run_enterLoop_outer _ _ _ _ _
 ·simp only[resolve,hg];simp[go_sem]
 ·simp[invoke,go_sem,hgf]
 ·have hcall:=hit c lst hc2 (n-1) L W1 G.ok lb.toList b2.lt (pO (G:=G) (G':=Gd.of G.ok) (λb h=>h) _ _ _ (aTM ts c hpl0) hvs1) J Jx ?round ?start
  ·rw[Array.toArray_toList]at hcall;refine hcall.mono ?_;rintro en C ⟨⟨v,rfl⟩,T,X,B,st,hJ⟩;have hstep:∀ {F':Frm} {H':Heap} {st':LoopState} {pe:Option Code} {G':Gd} {μ':Mp},Btw n0 wi Gi μi nt a G W1.heap.size L D F' H' T X B (.loop (rec st' pe)) G' μ' ->
     C.heap[L]?=some (.loop (rec st' pe))/\∀ o,IM n0 wi Gi μi nt F' H' { a with defers:={ target:=.collected D,args:=#[] }::a.defers } (C.putObj L o):=by
    intro F' H' st' pe G' μ' bt;have nS:∀ b,b<W1.heap.size->¬ X b:=λb hb hs=>Nat.lt_irrefl _ (Nat.lt_of_lt_of_le hb (bt.seq b (bt.sub b hs)).2)
    have hLC:C.heap[L]?=some (.loop (rec st' pe)):=(st.keep L (NZ bt.atL) (nS L (by omega))).trans bt.atL;have hDC:C.heap[D]?=some (.deferred (some [])):=(st.keep D (NZ bt.atD) (nS D (by omega))).trans bt.atD;refine⟨hLC,λo=>?_⟩;have x1:=a0N (T':=λ_=>False) (Gx:=λ_=>False) bt.winv (λb hb=>(bt.seq b hb).1) bt.sub bt.good bt.base st (λb hb=>hb.elim) (λb hb=>hb.elim);have x2:=(aYR (T':=λ_=>False) (Gx:=λ_=>False) bt.winv bt.sub bt.good bt.base st (λb hb=>hb.elim) (λb hb=>hb.elim)).wider (n0:=n0) λb hb=>hb.1
    have nL:¬ (G' L\/False):=λh=>h.elim bt.notL id
    have nD:¬ (G' D\/False):=λh=>h.elim bt.notD id
    have x3:=aH5 (o':=o) x2 hLC ⟨λ_ _ _ h=>(by cases h),λ_ _ h=>(by cases h)⟩ nL;have x4:=aKR (G:=G'.or λ_=>False) (n0:=n0) (μ:=μ') (o':=o) hLC ⟨λ_ _ _ h=>(by cases h),λ_ _ h=>(by cases h)⟩ nL hn0L;refine⟨G'.or λ_=>False,μ',(bt.ext.trans x1).trans x4,x3,bt.finv.mono (x1.toMono.trans x4.toMono),⟨D,rfl,?_,?_,nD,?_⟩,?_⟩
    ·rw[World.putObj_heap_other (by omega)]; exact hDC
    ·have:=e.size; omega
    ·intro d' hd' he;subst he;have:=markN _ hd';omega
    ·refine bt.marks.to λb hb h1 h2=>⟨?_,λh=>h.elim h2 id⟩
     have hbw:=markN b hb;rw[World.putObj_heap_other (by omega),st.keep b (NZ h1) (nS b (by omega))];exact h1
   rcases hJ with ⟨y,hy,G',μ',bt⟩|⟨pre,hne,G',μ',bt⟩
   ·obtain⟨h1,h2⟩:=hstep bt;rw[List.drop_length]at hy;simp only[aSX]at hy;have hel:=run_endLoop (P:=P) h1 (by rw[hrec]; simp);have k:=λo=>(h2 o).aPD hfl0 hy
    have hpn:(rec .ready none).pending=none:=by rw[hrec]
    rw[hpn]at hel;exact⟨none,_,hel,by rw[(k (.deferred none)).1]; rfl,(k _).2,λh=>by cases h⟩
   ·obtain⟨h1,h2⟩:=hstep bt;have hel:=run_endLoop (P:=P) h1 (by rw[hrec]; simp);have hpn:(rec .done (some (aCI exits z).1.code)).pending=some (aCI exits z).1.code:=by rw[hrec]
    rw[hpn]at hel;refine⟨some (aCI exits z).1.code,_,hel,?_⟩;dsimp only;clear hel hpn h1 bt;generalize aCI exits z=zz at hne h2 ⊢;obtain⟨ex,F',H'⟩:=zz;cases ex with
    | normal=>exact absurd rfl hne
    | ret=>exact wpIn_ret ⟨rfl,h2 _,λh=>by cases h⟩
    | exit i=>exact wpIn_exit ⟨rfl,h2 _,λh=>by cases h⟩
  case start =>
   refine⟨x,by simpa using hz,G,μ,eW1,b2.wider λb hb=>⟨hb,id⟩,hF.mono (a1.toMono.trans b1.toMono),λb h=>h,λb _ h=>h,λb h=>h.elim,λb h=>h.elim,oM _,hGL,hGD,hL1,hD1,marks1⟩
  case round =>
   rintro pre el post T X B T' X' A us Gx m' hlst ⟨y,hy,G',μ',bt⟩ st hT' hX' hGx hus;have hdrop:lst.drop pre.length=el::post:=by rw[hlst]; simp
   have hdrop2:lst.drop (pre++[el]).length=post:=by rw[hlst]; simp
   rw[hdrop]at hy;simp only[aSX]at hy;obtain⟨v,hv⟩:∃ v,step y el=some v:=by
    cases h:step y el with
    | none=>rw[h]at hy; cases hy
    | some v=>exact⟨v,rfl⟩
   have hrg:=hr y el;rw[hv]at hrg;unfold aQ9 at hrg;obtain⟨hck,hrg⟩:=cC hrg;simp only[oA,List.all_eq_true]at hck;have hpl:=oE hck.1;have hpt:∀ t∈ps.toList,t<nt:=λt ht=>SG (hck.2 t ht)
   -- the world in which the element comes
   have nT:∀ b,b<W1.heap.size->¬ T b:=λb hb hs=>Nat.lt_irrefl _ (Nat.lt_of_lt_of_le hb (bt.seq b hs).2)
   have nS:∀ b,b<W1.heap.size->¬ X b:=λb hb hs=>nT b hb (bt.sub b hs)
   have hLB:=NZ bt.atL;have hDB:=NZ bt.atD;have hLA:A.heap[L]?=some (.loop (rec .ready none)):=(st.keep L hLB (nS L (by omega))).trans bt.atL;have hDA:A.heap[D]?=some (.deferred (some [])):=(st.keep D hDB (nS D (by omega))).trans bt.atD;have x1:=a0N bt.winv (λb hb=>(bt.seq b hb).1) bt.sub bt.good bt.base st hT' (λb hb=>(hGx b hb).1);have x2:=aYR bt.winv bt.sub bt.good bt.base st hT' (λb hb=>(hGx b hb).1)
   have nS':∀ b,b<B.heap.size->¬ T b->¬ T' b:=by
    intro b hb hs h;rcases(hT' b h).1 with h'|h'
    ·exact hs h'
    ·omega
   have nG2:∀ b,b<B.heap.size->¬ T b->¬ G' b->¬ (G' b\/Gx b):=by
    rintro b hb ht hg (h|h)
    ·exact hg h
    ·rcases(hGx b h).1 with h'|h'
     ·exact hg (bt.base b h')
     ·exact nS' b hb ht h'
   have nL2:=nG2 L hLB (nT L (by omega)) bt.notL;have nD2:=nG2 D hDB (nT D (by omega)) bt.notD;have marksA:Marks wi A (G'.or Gx) a.defers:=bt.marks.to λb hb h1 h2=>⟨by rw[st.keep b (NZ h1) (nS b (by have:=markN b hb; omega))]; exact h1,nG2 b (NZ h1) (nT b (by have:=markN b hb; omega)) h2⟩
   obtain⟨G2,hG2⟩:∃ G2,G2=G'.or Gx:=⟨_,rfl⟩;rw[<- hG2]at x1 x2 marksA;have nL2:¬ G2 L:=by rw[hG2]; exact nL2
   have nD2:¬ G2 D:=by rw[hG2]; exact nD2
   have hxS:∀ b,(b=L\/b=D\/({ target:=.collected b,args:=#[] }:Deferred)∈a.defers)->b<A.heap.size/\(∀ c t fr,A.heap[b]?≠some (.cells c t fr))/\∀ es clk,A.heap[b]?≠some (.map es clk):=by
    rintro b (rfl|rfl|hb)
    ·exact⟨NZ hLA,λc t fr h=>(by rw[hLA]at h; cases h),λ_ _ h=>(by rw[hLA]at h; cases h)⟩
    ·exact⟨NZ hDA,λc t fr h=>(by rw[hDA]at h; cases h),λ_ _ h=>(by rw[hDA]at h; cases h)⟩
    ·obtain⟨b',e1,e2,_⟩:=marksA.mem _ hb;have:b=b':=by injection e1 with e1 _; injection e1
     subst this;exact⟨NZ e2,λc t fr h=>(by rw[e2]at h; cases h),λ_ _ h=>(by rw[e2]at h; cases h)⟩
   have x3:=x2.less hxS;obtain⟨n1,hn1⟩:∃ n1:Nat->Prop,n1=λb=>(n0 b/\¬ T' b)/\¬ (b=L\/b=D\/({ target:=.collected b,args:=#[] }:Deferred)∈a.defers):=⟨_,rfl⟩
   rw[<- hn1]at x3;have n1n0:∀ b,n1 b->n0 b:=λb h=>by rw[hn1]at h; exact h.1.1
   have n1S:∀ b,n1 b->¬ T' b:=λb h=>by rw[hn1]at h; exact h.1.2
   have n1L:¬ n1 L:=λh=>by rw[hn1]at h; exact h.2 (.inl rfl)
   have n1D:¬ n1 D:=λh=>by rw[hn1]at h; exact h.2 (.inr (.inl rfl))
   have n1M:∀ b,({ target:=.collected b,args:=#[] }:Deferred)∈a.defers->¬ n1 b:=λb hb h=>by rw[hn1]at h; exact h.2 (.inr (.inr hb))
   have hFA:qJ A G2 μ' nt (JE sh y 0) { a with defers:=[] }:=bt.finv.mono x1.toMono;have husA:VRs A G2 μ' (MU ks el) us:=VRs.mono (⟨λb hb=>⟨by rw[hG2]; exact .inr hb,rfl⟩,λ_ _ h=>(by cases h),λ_ _ h=>(by cases h),λ_ _ h=>h,λ_ _ h=>(by cases h),λ_ _ h=>(by cases h)⟩:Mono A (Gd.of Gx) aZ A G2 μ') _ _ hus;have hlen:us.length=ps.size:=by rw[<- husA.length,aMO,<- hpl,Array.length_toList]
   have hyield:=run_yield (P:=P) (args:=us.toArray) hLA (by rw[hrec]; simpa using hlen);have hfold:(ps.zip us.toArray).foldl (λtmps (t,a)=>tmps.setIfInBounds t a) a.tmps=(ps.toList.zip us).foldl (λt (p,v)=>t.setIfInBounds p v) a.tmps:=by rw[<- Array.foldl_toList,Array.toList_zip]
   rw[hrec]at hyield;dsimp only at hyield;rw[hfold]at hyield;refine⟨fn,_,as1,body,hyield,roundIn_of_wpIn trivial ?_⟩
   -- the assignment
   have hI0:IM n1 A G2 (aAL μ' (aAM sh 0)) nt (aYD ps.toList (MU ks el) (JE sh y 0)) (MX sh y) { tmps:=(ps.toList.zip us).foldl (λt (p,v)=>t.setIfInBounds p v) a.tmps,defers:=[] } A :=
    ⟨G2,μ',aO8 _,x3,aVT (by rw[aMO]; exact hpl) hpt husA hFA,trivial⟩
   obtain⟨⟨ex1,F1,H1⟩,hk1,hrun1⟩:=TW hcl hP as1 _ _ _ _ has hrg;dsimp only at hk1;cases ex1 with
   | ret=>cases hk1
   | exit i=>cases hk1
   | normal =>
   dsimp only at hk1;obtain⟨⟨ex2,F2,H2⟩,hk2,hrun2⟩:=TW hcl hP body _ _ _ _ hbd hk1;show as1.wpIn (Fr (some L)) m' P _ _ A;refine wpIn_mono (hrun1 (some L) m' n1 A G2 _ _ A (λh=>by cases h) (λr h=>aKY r h) hI0) ?_;rintro e1 act1 A1 ⟨rfl,⟨G3,μ3,y1,y2,y3,y4⟩,hd1⟩;have hd1:act1.defers=[]:=hd1 rfl;have nL3:¬ G3 L:=λh=>(y1.new L h).elim nL2 n1L
   have hL1':A1.heap[L]?=some (.loop (rec .ready none)):=(y1.old L (NZ hLA) n1L).trans hLA;refine⟨_,run_beginRound hL1' (by rw[hrec]),?_⟩;obtain⟨A2,hA2⟩:∃ A2,A1.putObj L (.loop { rec .ready none with state:=.busy })=A2:=⟨_,rfl⟩;rw[hA2];have p1:Mono A1 G3 μ3 A2 G3 μ3:=by rw[<- hA2]; exact aBI hL1' ⟨λ_ _ _ h=>(by cases h),λ_ _ h=>(by cases h)⟩ nL3
   have p2:eA n1 G3 μ3 H1 A2:=by rw[<- hA2]; exact aH5 y2 hL1' ⟨λ_ _ _ h=>(by cases h),λ_ _ h=>(by cases h)⟩ nL3
   have hL2':A2.heap[L]?=some (.loop { rec .ready none with state:=.busy }):=by rw[<- hA2]; exact World.putObj_heap_same (NZ hL1')
   have e12:Ext n0 A1 G3 μ3 A2 G3 μ3:=by rw[<- hA2]; exact aKR hL1' ⟨λ_ _ _ h=>(by cases h),λ_ _ h=>(by cases h)⟩ nL3 hn0L
   have hI2:IM n1 A2 G3 (aAL μ' (aAM sh 0)) nt F1 H1 act1 A2 :=
    ⟨G3,μ3,{ aO8 (n0:=n1) (w:=A2) (G:=G3) (μ:=μ') []with
     map:=y1.map
     len:=y1.len
     sh:=y1.sh
     good:=λb hb=>⟨hb,rfl⟩
     room:=λ_ _ h=>h
     new:=λb hb=>.inl hb },p2,y3.mono p1,by rw[hd1]; trivial⟩
   show body.wpIn (Fr (some L)) m' P _ act1 A2;refine wpIn_mono (hrun2 (some L) m' n1 A2 G3 _ act1 A2 (λh=>by cases h) (λr h=>aKY r h) hI2) ?_;rintro e2 act2 A3 ⟨rfl,⟨G4,μ4,z1,z2,z3,z4⟩,hd2⟩;have nL4:¬ G4 L:=λh=>(z1.new L h).elim nL3 n1L
   have hL3':A3.heap[L]?=some (.loop { rec .ready none with state:=.busy }):=(z1.old L (NZ hL2') n1L).trans hL2';have hdn:act2.defers=[]:=(hd2 rfl).trans hd1
   -- back with the caller
   have hFend:qJ A3 G4 μ4 nt (JE sh y 0) { a with defers:=[] }:=by
    refine⟨hFA.size,λt=>?_,rfl⟩;have v0:=aVL (T:=aAM sh 0) sh y 0 (λr h=>h) (hFA.slot t);have v1:=VR.mono (⟨y1.good,λ_ _ h=>h,λ_ _ h=>h,y1.room,y1.row,λ_ _ _=>rfl⟩:Mono A G2 (aAL μ' (aAM sh 0)) A1 G3 (aAL μ' (aAM sh 0))) _ _ v0;have v2:=VR.mono (⟨p1.good,λ_ _ h=>h,λ_ _ h=>h,p1.room,p1.row,λ_ _ _=>rfl⟩:Mono A1 G3 (aAL μ' (aAM sh 0)) A2 G3 (aAL μ' (aAM sh 0))) _ _ v1;exact VR.mono z1.toMono _ _ v2
   have back:∀ (o:Obj) (F5:Frm) (H5:Heap),(∀ {n0:Nat->Prop} {wi:World} {Gi:Gd} {μi:Mp} {a:Act} {w:World},(∀ r,¬ r∈([]:List Nat)->μi.loc r=none/\μi.len r=none)->IM n0 wi Gi μi nt (JE sh y 0) H2 a w->IM n0 wi Gi μi nt F5 H5 a w) ->
     ∃ G5 μ5,Btw n0 wi Gi μi nt a G W1.heap.size L D F5 H5 T' X' (A3.putObj L o) o G5 μ5:=by
    intro o F5 H5 hdec;have q1:=aH5 (o':=o) z2 hL3' ⟨λ_ _ _ h=>(by cases h),λ_ _ h=>(by cases h)⟩ nL4;have q2:=aBI (μ:=μ4) (o':=o) hL3' ⟨λ_ _ _ h=>(by cases h),λ_ _ h=>(by cases h)⟩ nL4;have q3:=aKR (n0:=n0) (μ:=μ4) (o':=o) hL3' ⟨λ_ _ _ h=>(by cases h),λ_ _ h=>(by cases h)⟩ nL4 hn0L;have hIe:IM n1 (A3.putObj L o) G4 aZ nt (JE sh y 0) H2 { a with defers:=[] } (A3.putObj L o) :=
     ⟨G4,μ4,{ aO8 (n0:=n1) (w:=A3.putObj L o) (G:=G4) (μ:=μ4) []with
      map:=λ_ _ h=>by cases h
      len:=λ_ _ h=>by cases h
      sh:=λ_ _ h=>by cases h
      good:=λb hb=>⟨hb,rfl⟩
      room:=λ_ _ h=>h
      new:=λb hb=>.inl hb },q1,hFend.mono q2,trivial⟩
    obtain⟨G5,μ5,r1,r2,r3,_⟩:=hdec (λ_ _=>⟨rfl,rfl⟩) hIe;have g45:∀ b,G5 b->G2 b\/n1 b:=λb h=>by
     rcases r1.new b h with h|h
     ·rcases z1.new b h with h|h
      ·exact y1.new b h
      ·exact .inr h
     ·exact .inr h
    have mk:∀ b,({ target:=.collected b,args:=#[] }:Deferred)∈a.defers->A.heap[b]?=some (.deferred (some []))->(A3.putObj L o).heap[b]?=some (.deferred (some [])):=by
     intro b hb h1;have hbw:=markN b hb;have k1:=(y1.old b (NZ h1) (n1M b hb)).trans h1;have k2:A2.heap[b]?=some (.deferred (some [])):=by rw[<- hA2,World.putObj_heap_other (by omega)]; exact k1
     have k3:=(z1.old b (NZ k2) (n1M b hb)).trans k2;rw[World.putObj_heap_other (by omega)]; exact k3
    refine⟨G5,μ5,?_,r2.wider λb hb=>⟨n1n0 b hb,n1S b hb⟩,r3,?_,?_,?_,?_,?_,?_,?_,?_,?_,?_⟩
    ·have t1:=((bt.ext.plain.trans x1.plain).trans (y1.wider n1n0).plain).trans e12.plain;exact Ext.back hfl (((t1.trans (z1.wider n1n0).plain).trans q3.plain).trans (r1.wider n1n0).plain)
    ·intro b hb;have h2:G2 b:=by rw[hG2]; exact .inl (bt.base b hb)
     exact(r1.good b (z1.good b (y1.good b h2).1).1).1
    ·intro b hb hs;rcases g45 b hb with h|h
     ·rw[hG2]at h;rcases h with h|h
      ·rcases(hX' b hs).2 with h'|h'
       ·exact bt.good b h h'
       ·exact Nat.lt_irrefl _ (Nat.lt_of_lt_of_le (bt.winv.lt b h) h')
      ·exact(hGx b h).2 hs
     ·exact n1S b h (hX' b hs).1
    ·exact λb hs=>(hX' b hs).1
    ·intro b hs;rcases(hT' b hs).1 with h|h
     ·exact bt.seq b h
     ·exact⟨(bt.winv.base b h).1,oR bt.size h⟩
    ·have s1:=bt.size;have s2:=st.size;have s3:=y1.size;have s4:=e12.size;have s5:=z1.size;rw[World.putObj_size];omega
    ·exact λh=>(g45 L h).elim nL2 n1L
    ·exact λh=>(g45 D h).elim nD2 n1D
    ·exact World.putObj_heap_same (NZ hL3')
    ·have k1:=(y1.old D (NZ hDA) n1D).trans hDA;have k2:A2.heap[D]?=some (.deferred (some [])):=by rw[<- hA2,World.putObj_heap_other (by omega)]; exact k1
     have k3:=(z1.old D (NZ k2) n1D).trans k2;rw[World.putObj_heap_other (by omega)]; exact k3
    ·refine marksA.to λb hb h1 h2=>⟨mk b hb h1,λhg=>?_⟩
     exact(g45 b hg).elim h2 (n1M b hb)
   have frame:∀ (o:Obj) (b:Nat),b<A.heap.size->G b\/T' b->(A3.putObj L o).heap[b]?=A.heap[b]?:=by
    intro o b hb h;have hbL:b≠L:=by
     rintro rfl;rcases h with h|h
     ·exact hGL h
     ·exact nS' b hLB (nT b (by omega)) h
    have k1:A1.heap[b]?=A.heap[b]?/\(G3 b\/T' b):=by
     rcases h with h|h
     ·have:=y1.good b (by rw[hG2]; exact .inl (bt.base b h));exact⟨this.2,.inl this.1⟩
     ·exact⟨y1.old b hb λhn=>n1S b hn h,.inr h⟩
    have k2:A2.heap[b]?=A.heap[b]?:=by rw[<- hA2,World.putObj_heap_other hbL]; exact k1.1
    have k3:A3.heap[b]?=A2.heap[b]?:=by
     rcases k1.2 with h|h
     ·exact(z1.good b h).2
     ·refine z1.old b ?_ λhn=>n1S b hn h
      have s3:=y1.size;have s4:=e12.size;omega
    rw[World.putObj_heap_other hbL,k3,k2]
   have hroom:∀ (o:Obj) (b n:Nat),Room A b n->Room (A3.putObj L o) b n:=λo b n h =>
    (aBI (μ:=μ4) (o':=o) hL3' ⟨λ_ _ _ h=>(by cases h),λ_ _ h=>(by cases h)⟩ nL4).room b n (z1.room b n (p1.room b n (y1.room b n h)))
   have hsz:∀ o,A.heap.size<=(A3.putObj L o).heap.size:=by
    intro o;have s3:=y1.size;have s4:=e12.size;have s5:=z1.size;rw[World.putObj_size]; omega
   rw[hv]at hy;unfold a6Q at hk2;dsimp only at hk2;rcases aQ1 hk2 with ⟨x',rfl,e2,e3⟩|⟨z',rfl,e2,e3⟩
   ·subst e2;dsimp only at hy;refine⟨_,_,run_endRound none hL3',⟨frame _,hroom _,hsz _⟩,.inl ⟨rfl,⟨x',by rw[hdrop2]; exact hy,?_⟩⟩⟩;have:=back (.loop (rec .ready none)) (JE sh x' 0) (MX sh x') (λh hI=>hI.dec h e3);rw[hrec]at this ⊢;exact this
   ·dsimp only at hy;have hzz:z'=z:=oB hy;subst hzz;obtain⟨o1,_⟩:=aKM e3;have hb:=back (.loop (rec .done (some ex2.code))) (aCI exits z').2.1 (aCI exits z').2.2 (λh hI=>(hI.aPD h e3).2);rw[hrec]at hb;cases ex2 with
    | normal=>exact absurd rfl e2
    | ret =>
     refine⟨_,_,run_endRound (some .ret) hL3',⟨frame _,hroom _,hsz _⟩,.inr ⟨rfl,by rw[o1]; exact e2,?_⟩⟩;rw[o1,hrec];exact hb
    | exit i =>
     refine⟨_,_,run_endRound (some (.exit i)) hL3',⟨frame _,hroom _,hsz _⟩,.inr ⟨rfl,by rw[o1]; exact e2,?_⟩⟩;rw[o1,hrec];exact hb
end
section
variable {P:Program} {n0:Nat->Prop} {w w' wi:World} {G G' Gi:Gd} {μ μ' μi:Mp} {H:Heap} {F:Frm} {nt n:Nat}
theorem aB2 {fn tmps R}(hb:∀ b,wi.heap.size<=b->n0 b)(hend:∀ w',IM n0 wi Gi μi nt F H { tmps:=tmps,defers:=[] } w'->LeavesIn Fence.wide n P fn tmps R [] .returning w') :
  ∀ ds w,IM n0 wi Gi μi nt F H { tmps:=tmps,defers:=ds } w->LeavesInM Fence.wide n P fn tmps R ds .returning w
 | [],w,h=>hend w h
 | d::ds,w,h=>by
  obtain⟨G,μ,e,hW,hF,⟨b,rfl,h1,h2,h3,h4⟩,hm⟩:=h;refine⟨by simp,.inl ⟨b,_,rfl,run_takeDeferred h1,aB2 hb hend ds _ ⟨G,μ,e.trans (aKR h1 ⟨λ_ _ _ h=>(by cases h),λ_ _ h=>(by grind)⟩ h3 (hb b h2)),aH5 hW h1 ⟨λ_ _ _ h=>(by grind),λ_ _ h=>(by grind)⟩ h3,hF.mono (aBI h1 ⟨λ_ _ _ h=>(by cases h),λ_ _ h=>(by cases h)⟩ h3),?_⟩⟩⟩;refine hm.to λb' hb' k1 k2=>⟨?_,k2⟩
  rw[World.putObj_heap_other]
  ·omega
  grind
def a4G(P:Program)(E:Env)(fn:Func)(keep:Nat)(lt rt:Nat->Option C8)(c:Code) args rets (x:aL args):Option (aL rets) :=
 bif Nat.ble (MU args x).length fn.ntmps then aBT P E fn.ntmps keep lt rt false [] c (start keep 0 (MU args x)) [] (aY0 P fn.results.toList rets) else none
theorem a0I {E} (hP:aEU P) (hE:OK P E) {g:Nat} {fn} (hg:P.funcs[g]?=some fn) {c} (hc:fn.body=some c) {keep lt rt args rets f}
  (hl:∀ a∈TY c,aJ5 P fn.ntmps lt rt false [] a) (hb:∀ x,a4G P E fn keep lt rt c args rets x=f x):RB P g args rets f:=by
 intro x y hy;rw[<- hb]at hy;obtain⟨hlen,hy⟩:=cC hy;obtain⟨⟨ex,F',H'⟩,h1,h2⟩:=TW hE.callee hP.mixed c _ _ _ _ hl hy;obtain⟨vs,q,hex,hvs,hq,hd⟩:∃ vs q,(ex=.normal\/ex=.ret)/\U9 P F' H' fn.results.toList=some vs/\aWM H' (HP vs)=some q/\aYA rets q=some y:=by
  unfold aY0 at h1;split at h1
  ·cases h1
  ·rename_i hne;split at h1
   ·rename_i vs hvs;split at h1
    ·rename_i q hq;refine⟨vs,q,?_,hvs,hq,h1⟩;cases ex with
     | normal=>exact .inl rfl
     | ret=>exact .inr rfl
     | exit i=>exact absurd rfl (hne i)
    ·cases h1
   ·cases h1
 have hcall:∀ {n0 G μ w us},eA n0 G μ [] w->VRs w G μ (MU args x) us->vQ P n0 w G μ g us.toArray (HP vs) H':=by
  intro n0 G μ w us hW hv;refine⟨enters hg (hP.names g fn hg) (by rw[hc]; rfl) _ _,(callsIn_wide (n:=0)).1 (callsIn_of_wp_marks hg hc trivial ?_)⟩;have hI:I n0 w G μ fn.ntmps (start keep 0 (MU args x)) [] ⟨us.toArray++Array.replicate (fn.ntmps-us.toArray.size) undef,[]⟩ w:=⟨G,μ,Ext.refl _ _ _ _,hW,U3 (by simpa using hv) (oL hlen)⟩;refine wpIn_mono (h2 none 0 n0 w G μ _ w (λ_=>rfl) (λr _=>hW.top r (Nat.zero_le _)) hI.a63) ?_
  rintro e ⟨tm,ds⟩ w' ⟨rfl,hI',_⟩;have hend:∀ w',IM n0 w G μ fn.ntmps F' H' { tmps:=tm,defers:=[] } w'->LeavesIn Fence.wide 0 P fn tm (λe w'=>∃ v' G'' μ'',e=.returned v'/\Ext n0 w G μ w' G'' μ''/\eA n0 G'' μ'' H' w'/\VR w' G'' μ'' (HP vs) v') [] .returning w':=by
   rintro w' ⟨G',μ',e',hW',hF',_⟩;obtain⟨ws,h3,h4⟩:=UF (P:=P) hW' hF' hvs;have hres:(results fn tm).run P w'=.ok (if hh:ws.toArray.size=1 then ws.toArray[0] else .tuple ws.toArray) w':=by
    rw[ZT,Array.mapM_eq_mapM_toList]
    simp_all
   exact⟨_,hres,_,G',μ',rfl,e',hW',VJ h4⟩
  rcases hex with rfl|rfl
  ·exact aB2 (λb hb=>hW.base b hb) hend ds w' hI'
  ·exact aB2 (λb hb=>hW.base b hb) hend ds w' hI'
 have hp:=aB6 hcall (YQ hq).1 (YQ hq).2;intro w G us hlt hv;obtain⟨h3,h4⟩:=hp w G us hlt hv;refine⟨h3,h4.mono ?_⟩;rintro e w' ⟨v',G',rfl,e1,e2,e3⟩;exact⟨v',G',rfl,e1,e2,aM8 hd e3⟩
def aZQ(P:Program) (nt:Nat) (lt rt:Nat->Option C8) (rd:Bool) (T:List Nat):List Code->Prop
 | []=>True
 | a::r=>aJ5 P nt lt rt rd T a/\aZQ P nt lt rt rd T r
theorem aT4 {lt rt rd T}:∀ {l},aZQ P nt lt rt rd T l->∀ a∈l,aJ5 P nt lt rt rd T a
 | [],_,a,ha=>by grind
 | b::r,h,a,ha=>by
  rcases List.mem_cons.1 ha with rfl|ha
  ·exact h.1
  ·exact aT4 h.2 a ha
theorem aHZ {lt rt rd T c l}(hc:TY c=l)(h:aZQ P nt lt rt rd T l):∀ a∈TY c,aJ5 P nt lt rt rd T a:=by rw[hc]; exact aT4 h
theorem aYB {lt rt rd T a i s0}(hf:R0 a=i)(hlt:lt i=some s0)(h:aJD P nt rd T (.loop a) s0):aJ5 P nt lt rt rd T (.loop a):=by
 intro s hs;grind
theorem a1B {lt rt g ps as1 a i s0}(hf:R0 a=i)(hrt:rt i=some s0)(h:aJD P nt false [] (.rangeFunc g ps as1 a) s0):aJ5 P nt lt rt false [] (.rangeFunc g ps as1 a):=by
 intro _ s hs;grind
def aXX(c:Code) (i:Nat):Code:=(TY c).getD i .skip
def inLoop:Code->Code
 | .loop a=>a
 | .rangeFunc _ _ _ a=>a
 | _=>.skip
def aAV:Code->Code
 | .rangeFunc _ _ as1 _=>as1
 | _=>.skip
def aQA:Code->Operand
 | .rangeFunc g _ _ _=>g
 | _=>.const undef
def aWU:Code->Array Tmp
 | .rangeFunc _ ps _ _=>ps
 | _=>#[]
theorem aOH {lt rt r i s0}(hr:r=.rangeFunc (aQA r) (aWU r) (aAV r) (inLoop r))(hf:R0 (inLoop r)=i)(hrt:rt i=some s0)(h:aJD P nt false [] r s0):aJ5 P nt lt rt false [] r:=by
 rw[hr]at h ⊢;exact a1B hf hrt h
theorem aRG {E keep lt rt} (hE:OK P E) (hP:aEU P) {r} (hrc:r=.rangeFunc (aQA r) (aWU r) (aAV r) (inLoop r)) {gf:Nat} {fn c ts ks f}
  (hg:P.funcs[gf]?=some fn) (hc:fn.body=some c) (hit:aZS P gf ts ks f)
  {sh exits step} {cap:Shape.den sh->LP ts}
  (has:TY (aAV r)=[]) (hbd:∀ b∈TY (inLoop r),aJ5 P nt lt rt true (aAM sh 0) b)
  (hsq:∀ x,aX9 gf ts sh (aQA r) x=some (cap x))
  (hr:∀ y e,aQ9 P E nt keep lt rt (aWU r).toList (aAV r) (inLoop r) ks sh exits y e=step y e) :
  aJD P nt false [] r ⟨sh,exits,a1X sh exits (λx=>f (cap x)) step⟩:=by
 have:=a3N hE.callee hP.mixed hit (λargs w=>enters hg (hP.names gf fn hg) (by grind) args w) (by grind) hbd (λx l hl=>⟨cap x,hsq x,hl⟩) hr;grind
end
def WR:Code->Nat
 | .region _ ops _=>aMK ops.toList ops.toList 0 0
 | .seq a b=>WR a ||| WR b
 | .cond c a b=>a3T c ||| WR a ||| WR b
 | .block _ a=>WR a
 | .loop a=>WR a
 | .scope a=>WR a
 | .rangeFunc g _ as1 a=>a3T g ||| WR as1 ||| WR a
 | _=>0
def aMS(fn:Func):Nat:=match fn.body with
 | some c=>aIB fn.results.toList (WR c)
 | none=>0
end Go.PM
namespace Go.Proofs
open Go Go.RowKit Go.Sort Go.Lib
set_option maxHeartbeats 6400000
theorem Tryz.aNW (u:Nat)(hu64:u<18446744073709551616)(w:World)(htab:Lib.TabIs Tryz.prog w "internal/strconv.uint64pow10" .u64 Lib.pow10Tab) :
  Calls Tryz.prog 180 #[.int .u64 u,.int .i64 10] w λe w'=>e=.returned (.string ⟨(Lib.decDigits u).toArray⟩)/\∃ k os,w'=grow (w.drewN k) os:=by
 by_cases hs:u<100
 ·go_enter Tryz.func180,Tryz.ntmps180
  have hwr:IntKind.i64.wrap (u:Int)=(u:Int):=by rw[IntKind.wrap_i64]; omega
  go_wp2_with (go_at_call 181; refine(Tryz.internal_strconv_small u hs _).mono ?_; rintro e w' ⟨rfl,rfl⟩)
  go_ret
  exact⟨rfl,0,#[],by simp[World.drewN_zero]⟩
 ·have hu1:1<=u:=by omega
  have hnd20:Lib.nDigits u<=20:=by have:=Lib.numDigits_eq u hu1 hu64; split at this <;> omega
  have hal:Tryz.prog.arrayLen 224=24:=by simp[Program.arrayLen,Tryz.underlying224]
  have hsl:∀ W,(Instr.sliceAt 224 (.pointer (some ⟨w.heap.size,0,none⟩)) none (some (.int .i64 (Lib.nDigits u:Int))) none).run Tryz.prog W=.ok (.slice (some ⟨w.heap.size,0,none⟩) (Lib.nDigits u) 24) W:=λW=>by
   rw[run_sliceAt_array_h W 224 ⟨w.heap.size,0,none⟩ (by simp[Program.arrayLen,Program.elem,Tryz.underlying224]) .i64 (Lib.nDigits u:Int) (by omega) (by rw[hal]; omega)]
   go_simp
  have hH0:=Lib.holds_zero0 w 224 (Lib.nDigits u) (by omega);have hfmt:=Tryz.internal_strconv_formatBase10 w.heap.size 0 24 u (Array.replicate (Lib.nDigits u) 0) (w.alloc (.cells Lib.zeros24 224)) hH0 (by rw[Array.size_replicate]; exact Lib.lt_pow_nDigits u) hu64 (by rw[Array.size_replicate]; omega);rw[Array.size_replicate]at hfmt;have HH0:=Lib.hid hH0;clear hH0 hal
  go_enter Tryz.func180,Tryz.ntmps180
  go_wp2_with (first
   | (go_at_call 182; refine(Tryz.internal_strconv_numDigits u hu1 hu64 _ (Lib.tabIs_alloc htab _)).mono ?_; rintro e w' ⟨rfl,rfl⟩))
  go_at_call 183
  refine hfmt.mono ?_;rintro e w' ⟨rfl,k,v',dk,rfl,hF⟩;have hcv:(convert 204 9 (.slice (some ⟨w.heap.size,0,none⟩) (Lib.nDigits u) 24)).run Tryz.prog ((putRow (λ(b:UInt8)=>Value.int .u8 (b.toNat:Int)) (w.alloc (.cells Lib.zeros24 224)) w.heap.size 0 dk).drewN k)=.ok (.string ⟨(Lib.decDigits u).toArray⟩) ((putRow (λ(b:UInt8)=>Value.int .u8 (b.toNat:Int)) (w.alloc (.cells Lib.zeros24 224)) w.heap.size 0 dk).drewN k):=by
   have h:=run_convert_bytes_back (P:=Tryz.prog) ((putRow (λ(b:UInt8)=>Value.int .u8 (b.toNat:Int)) (w.alloc (.cells Lib.zeros24 224)) w.heap.size 0 dk).drewN k) 204 9 5 ⟨w.heap.size,0,none⟩ 24 (Lib.decDigits u) Tryz.underlying204 Tryz.underlying5 Tryz.underlying9 (λj hj=>by
    rw[Lib.row_is_numeral hF j hj,Lib.add_plain,World.cell?_drewN];exact cell?_putRow (λ(b:UInt8)=>Value.int .u8 (b.toNat:Int)) _ w.heap.size 0 _ dk HH0.out (by rw[hF.size,Array.size_replicate]) j (by rw[hF.size]; rw[Lib.decDigits_length]at hj; exact hj))
   rw[Lib.decDigits_length]at h;exact h
  go_wp2
  go_ret
  obtain⟨os,eo⟩:=Lib.fin_at w (.cells Lib.zeros24 224) dk k 0;exact⟨rfl,k,os,eo⟩
theorem Tryz.aLM (u:Nat)(hu64:u<18446744073709551616)(w:World)(htab:Lib.TabIs Tryz.prog w "internal/strconv.uint64pow10" .u64 Lib.pow10Tab) :
  Calls Tryz.prog 164 #[.int .u64 u,.int .i64 10] w λe w'=>e=.returned (.string ⟨(Lib.decDigits u).toArray⟩)/\∃ k os,w'=grow (w.drewN k) os:=by
 go_enter Tryz.func164,Tryz.ntmps164
 go_wp2_with (go_at_call 180; refine(Tryz.aNW u hu64 _ htab).mono ?_; rintro e w' ⟨rfl,k,os,rfl⟩)
 go_ret
 exact⟨rfl,k,os,rfl⟩
end Go.Proofs
namespace Go.PM
open Go Go.RowKit Go.Proofs Tryz
theorem a0Y {w:World}{G:Nat->Prop}(h:Lt w G):Lib.TabIs Tryz.prog w "internal/strconv.uint64pow10" .u64 Lib.pow10Tab:=by
 have hm:(2,NR .u64 [1,10,100,1000,10000,100000,1000000,10000000,100000000,1000000000,10000000000,100000000000,1000000000000,10000000000000,100000000000000,1000000000000000,10000000000000000,100000000000000000,1000000000000000000,10000000000000000000])∈Q1:=by simp[Q1]
 obtain⟨-,t,fr,ht⟩:=h.tab _ hm;have hg:Tryz.prog.globalNamed "internal/strconv.uint64pow10"=some 2:=by kernel_rfl
 unfold Lib.TabIs World.var?;rw[hg];simp only[Option.bind_some];rw[ht];rfl
theorem aY1 {w G}(hG:∀ b,G b->b<w.heap.size) k os:Ext (OL w) w (Gd.of G) aZ (Sort.grow (w.drewN k) os) (Gd.of G) aZ :=
 have hb :=λb hb=>Lib.heap_grow_old w k os b hb
 {good:=λb h=>⟨h,hb b (hG b h)⟩
  row:=λ_ _ h=>h
  map:=λ_ _ h=>(by omega)
  len:=λ_ _ h=>(by grind)
  room:=λb n ⟨c,t,fr,h1,h2⟩=>⟨c,t,fr,by grind,h2⟩
  os:=rfl
  tape:=rfl
  output:=rfl
  size:=by simp
  old:=λb h _=>hb b h
  new:=λb h=>.inl h }
theorem aVE {w w' G}(hG:∀ b,G b->b<w.heap.size)(h:Below w.heap.size w w'):Ext (OL w) w (Gd.of G) aZ w' (Gd.of G) aZ :=
 {good:=λb hb=>⟨hb,h.block b (hG b hb)⟩
  row:=λ_ _ h=>h
  map:=λ_ _ h=>(by grind)
  len:=λ_ _ h=>(by grind)
  room:=λb n ⟨c,t,fr,h1,h2⟩=>⟨c,t,fr,by rw[h.block b (NZ h1)]; omega,h2⟩
  os:=h.os
  tape:=h.tape
  output:=h.output
  size:=h.size
  old:=λb hb _=>h.block b hb
  new:=λb hb=>.inl hb }
theorem aNH {w G}(hG:∀ b,G b->b<w.heap.size) e t:Ext (OL w) w (Gd.of G) aZ (Lib.bytesWorld w e t) (Gd.of G) aZ :=
 aVE hG (Joins.below_bytesWorld _ w e t (oM _))
def AB:Nat->Nat->List UInt8->List UInt8
 | 0,_,acc=>acc
 | f+1,u,acc=>bif Nat.blt u 10 then UInt8.ofNat (48+u)::acc else AB f (u/10) (UInt8.ofNat (48+u%10)::acc)
theorem BU:∀ f u acc,u<10^(f+1)->AB (f+1) u acc=Lib.decDigits u++acc
 | f,u,acc,h=>by
  rw[Lib.decDigits]
  by_cases h1:u<10
  ·rw[dif_pos h1,AB];have:Nat.blt u 10=true:=by simp_all
   grind
  ·rw[dif_neg h1,AB];have:Nat.blt u 10=false:=by rw[bE]; simpa using h1
   rw[this,oD];cases f with
   | zero=>omega
   | succ f =>
    rw[BU f (u/10) _ (by grind)];simp
def IY:Int->ByteArray
 | .ofNat u=>⟨(AB 20 u []).toArray⟩
 | .negSucc u=>⟨(45::AB 20 (u+1) []).toArray⟩
theorem K3 {n}(h:n.natAbs<10^20):IY n=⟨(Lib.itoa n).toArray⟩:=by
 cases n with
 | ofNat u =>
  have h1:¬ (Int.ofNat u<0):=by simp
  unfold Lib.itoa;show (⟨(AB (19+1) u []).toArray⟩:ByteArray)=⟨(Lib.decDigits u).toArray⟩;rw[BU 19 u [] h,List.append_nil]
 | negSucc u =>
  have h1 :=Int.negSucc_lt_zero u;unfold Lib.itoa;rw[if_pos h1];show (⟨(45::AB (19+1) (u+1) []).toArray⟩:ByteArray)=⟨(45::Lib.decDigits (u+1)).toArray⟩;rw[BU 19 (u+1) [] h,List.append_nil]
def xC(x:aL [.int .i64]):oK [.str]:=match x with
 | (n,())=>bif !(ltI n (-9223372036854775808))&&!(ltI 9223372036854775807 n) then some (IY n,()) else none
def xG(x:aL [.str]):oK [.int .i64,.nilI]:=match x with
 | (s,())=>bif Nat.ble s.size 18 then (match Lib.atoi s.data.toList with
  | some n=>some (n,(),())
  | none=>none) else none
def IW(x:aL [.str,.int .i64,.int .i64]):oK [.int .i64,.nilI]:=match x with
 | (s,b,c,())=>bif Nat.ble s.size 1000000000&&(eqI b 10&&eqI c 64) then (match Lib.parseIntB 64 s.data.toList with
  | .ok n=>some (n,(),())
  | _=>none) else none
def tA(x:aL [.str,.int .i64,.int .i64]):oK [.int .u64,.nilI]:=match x with
 | (s,b,c,())=>bif Nat.ble s.size 1000000000&&(eqI b 10&&eqI c 64) then (match Lib.parseUintB 64 s.data.toList with
  | .ok n=>some ((n:Int),(),())
  | _=>none) else none
def sG(x:aL [.int .u64,.int .i64]):oK [.str]:=match x with
 | (n,b,())=>bif !(ltI n 0)&&(ltI n 18446744073709551616&&eqI b 10) then some (IY n,()) else none
theorem a4O {w G u vs}(h:VRs w G aZ [.lit u] vs.toList):vs=#[u]:=by
 obtain⟨v,us,hvs,h1,h2⟩:=h;rw[VRs]at h2;rw[VR]at h1;grind
theorem a8J {w G u1 u2 vs}(h:VRs w G aZ [.lit u1,.lit u2] vs.toList):vs=#[u1,u2]:=by
 obtain⟨v,us,hvs,h1,h2⟩:=h;obtain⟨v2,us2,hvs2,h3,h4⟩:=h2;rw[VRs]at h4;rw[VR]at h1 h3;grind
theorem a7G {w G u1 u2 u3 vs}(h:VRs w G aZ [.lit u1,.lit u2,.lit u3] vs.toList):vs=#[u1,u2,u3]:=by
 obtain⟨v,us,hvs,h1,h2⟩:=h;obtain⟨v2,us2,hvs2,h3,h4⟩:=h2;obtain⟨v3,us3,hvs3,h5,h6⟩:=h4;rw[VRs]at h6;rw[VR]at h1 h3 h5;grind
theorem aL6 {w G} k n:VR w G aZ (.tuple [.lit (.int k n),.lit .nilIface]) (.tuple #[.int k n,.nilIface]):=by
 refine⟨_,rfl,?_⟩;refine⟨_,_,rfl,by rfl,?_⟩;exact⟨_,_,rfl,by rfl,by rfl⟩
theorem a38 {w G} s:VR w G aZ (.lit (.string s)) (.string s):=by rfl
theorem aUH:RB Tryz.prog 105 _ _ xC:=by
 rintro⟨n,⟨⟩⟩ y h w G vs hG hv;unfold xC at h;obtain⟨hb,h⟩:=cC h;simp only[oA,Bool.not_eq_true',aE,decide_eq_false_iff_not]at hb;obtain rfl:=oB h;obtain rfl:=a4O hv;refine⟨enters func105 (by kernel_rfl) (by kernel_rfl) _ _,(Tryz.strconv_Itoa n (by omega) (by omega) w (a0Y hG)).mono ?_⟩;rintro e w' ⟨rfl,k,os,rfl⟩;rw[<- K3 (by omega)];have he:=aY1 hG.lt k os;exact⟨_,G,rfl,he,λb hb=>Nat.lt_of_lt_of_le (hG b hb) he.size,a38 _⟩
theorem aS2:RB Tryz.prog 133 _ _ xG:=by
 rintro⟨s,⟨⟩⟩ y h w G vs hG hv;unfold xG at h;obtain⟨hb,h4⟩:=cC h;clear h;have hl:=oL hb;split at h4
 ·rename_i n hn;obtain rfl:=oB h4;obtain rfl:=a4O hv;refine⟨enters func133 (by kernel_rfl) (by kernel_rfl) _ _,(Tryz.strconv_Atoi s n hl hn w).mono ?_⟩;rintro e w' ⟨rfl,t,rfl⟩;have he:=aNH hG.lt 5 t;exact⟨_,G,rfl,he,λb hb=>Nat.lt_of_lt_of_le (hG b hb) he.size,aL6 _ n⟩
 ·cases h4
theorem aZP:RB Tryz.prog 70 _ _ IW:=by
 rintro⟨s,b,c,⟨⟩⟩ y h w G vs hG hv;unfold IW at h;obtain⟨hb,h4⟩:=cC h;clear h;simp only[oA,bT,decide_eq_true_eq]at hb;obtain⟨hb1,rfl,rfl⟩:=hb;have hl:=oL hb1;split at h4
 ·rename_i n hn;obtain rfl:=oB h4;obtain rfl:=a7G hv;refine⟨enters func70 (by kernel_rfl) (by kernel_rfl) _ _,(Tryz.strconv_ParseInt_10_at64_ok s (by omega) n hn w).mono ?_⟩;rintro e w' ⟨rfl,hw⟩;rcases hw with rfl|⟨t,rfl⟩
  ·exact⟨_,G,rfl,Ext.refl _ _ _ _,hG.lt,aL6 _ n⟩
  ·have he:=aNH hG.lt 5 t;exact⟨_,G,rfl,he,λb hb=>Nat.lt_of_lt_of_le (hG b hb) he.size,aL6 _ n⟩
 ·cases h4
theorem aNT:RB Tryz.prog 179 _ _ tA:=by
 rintro⟨s,b,c,⟨⟩⟩ y h w G vs hG hv;unfold tA at h;obtain⟨hb,h4⟩:=cC h;clear h;simp only[oA,bT,decide_eq_true_eq]at hb;obtain⟨hb1,rfl,rfl⟩:=hb;have hl:=oL hb1;split at h4
 ·rename_i n hn;obtain rfl:=oB h4;obtain rfl:=a7G hv;refine⟨enters func179 (by kernel_rfl) (by kernel_rfl) _ _,(Tryz.strconv_ParseUint_10_at64_ok s (by omega) n hn w).mono ?_⟩;rintro e w' ⟨rfl,hw⟩;rcases hw with rfl|rfl
  ·exact⟨_,G,rfl,Ext.refl _ _ _ _,hG.lt,aL6 _ n⟩
  ·have he:=aNH hG.lt 5 s;exact⟨_,G,rfl,he,λb hb=>Nat.lt_of_lt_of_le (hG b hb) he.size,aL6 _ n⟩
 ·cases h4
theorem aM3:RB Tryz.prog 164 _ _ sG:=by
 rintro⟨n,b,⟨⟩⟩ y h w G vs hG hv;unfold sG at h;obtain⟨hb,h4⟩:=cC h;clear h;simp only[oA,Bool.not_eq_true',aE,bT,decide_eq_true_eq,decide_eq_false_iff_not]at hb;obtain⟨hb1,hb2,rfl⟩:=hb;obtain rfl:=oB h4;obtain rfl:=a8J hv;obtain⟨u,hu⟩:∃ u:Nat,(n:Int)=(u:Int):=⟨Int.toNat n,(Int.toNat_of_nonneg (Int.not_lt.1 hb1)).symm⟩;subst hu;refine⟨enters func164 (by kernel_rfl) (by kernel_rfl) _ _,(Tryz.aLM u (Int.ofNat_lt.1 hb2) w (a0Y hG)).mono ?_⟩
 rintro e w' ⟨rfl,k,os,rfl⟩;have hi:(⟨(Lib.decDigits u).toArray⟩:ByteArray)=IY (u:Int):=by
  have h1:u<10^20:=Nat.lt_trans (Int.ofNat_lt.1 hb2) (by decide);rw[K3 (by simpa using h1),Lib.itoa_nonneg]
 rw[hi];have he:=aY1 hG.lt k os;exact⟨_,G,rfl,he,λb hb=>Nat.lt_of_lt_of_le (hG b hb) he.size,a38 _⟩
abbrev aUW:Ent:=⟨105,_,_,xC⟩
theorem aRB:Ent.OK Tryz.prog aUW:=aUH
abbrev aUK:Ent:=⟨133,_,_,xG⟩
theorem aQ7:Ent.OK Tryz.prog aUK:=aS2
abbrev aOR:Ent:=⟨179,_,_,tA⟩
theorem aLI:Ent.OK Tryz.prog aOR:=aNT
abbrev aNZ:Ent:=⟨164,_,_,sG⟩
theorem aK1:Ent.OK Tryz.prog aNZ:=aM3
set_option maxHeartbeats 4000000
theorem a4H(s:ByteArray)(hl:s.size<=1000000000)(v:Int)(h:Lib.parseIntB 64 s.data.toList=.ok v)(w:World) :
  Calls Tryz.prog 32 #[.string s] w λe w'=>e=.returned (.tuple #[.int .i64 v,.bool true])/\(w'=w\/∃ t,w'=Lib.bytesWorld w 5 t):=by
 go_enter func32,ntmps32
 go_wp2_with (go_at_call 70; refine(Tryz.strconv_ParseInt_10_at64_ok s (by omega) v h _).mono ?_; rintro e w' ⟨rfl,hw⟩)
 all_goals refine bodyPost_ret (results_tmp2 rfl _ _ _) rfl ?_
 exact⟨rfl,hw⟩
theorem aYI(s:ByteArray)(hl:s.size<=1000000000)(h:Lib.parseIntB 64 s.data.toList=.range)(ev:Value)(w:World)(hv:w.cell? ⟨1,0,none⟩=some ev)(hev:ev=.nilIface\/∃ te pe,ev=.iface te pe) :
  Calls Tryz.prog 32 #[.string s] w λe w'=>e=.returned (.tuple #[.int .i64 0,.bool false])/\Below w.heap.size w w':=by
 go_enter func32,ntmps32
 go_wp2_with (go_at_call 70; refine(Tryz.strconv_ParseInt_10_at64_range s (by omega) h ev _ hv hev).mono ?_; rintro e w' ⟨N,rfl,hN1,hN2,hB⟩)
 all_goals refine bodyPost_ret (results_tmp2 rfl _ _ _) rfl ?_
 exact⟨rfl,hB⟩
theorem a4K {w:World}{G:Nat->Prop}(h:Lt w G):∃ te pe,w.cell? ⟨1,0,none⟩=some (.iface te pe):=by
 have hm:(1,AO)∈Q1:=by simp[Q1]
 obtain⟨-,te,pe,t,fr,ht⟩:=h.tab _ hm;refine⟨te,pe,?_⟩;simp only[World.cell?];rw[ht];rfl
theorem aTY {w G} k n b:VR w G aZ (.tuple [.lit (.int k n),.lit (.bool b)]) (.tuple #[.int k n,.bool b]):=by
 refine⟨_,rfl,?_⟩;refine⟨_,_,rfl,by rfl,?_⟩;exact⟨_,_,rfl,by rfl,by rfl⟩
def gV(x:aL [.str]):oK [.int .i64,.bool]:=match x with
 | (s,())=>bif Nat.ble s.size 1000000000 then (match Lib.parseIntB 64 s.data.toList with
  | .ok n=>some (n,true,())
  | .range=>some (0,false,())
  | _=>none) else none
theorem aUR:RB Tryz.prog 32 _ _ gV:=by
 rintro⟨s,⟨⟩⟩ y h w G vs hG hv;unfold gV at h;obtain⟨hb,h4⟩:=cC h;clear h;have hl:=oL hb;split at h4
 ·rename_i n hn;obtain rfl:=oB h4;obtain rfl:=a4O hv;refine⟨enters func32 (by kernel_rfl) (by kernel_rfl) _ _,(a4H s hl n hn w).mono ?_⟩;rintro e w' ⟨rfl,hw⟩;rcases hw with rfl|⟨t,rfl⟩
  ·exact⟨_,G,rfl,Ext.refl _ _ _ _,hG.lt,aTY _ n true⟩
  ·have he:=aNH hG.lt 5 t;exact⟨_,G,rfl,he,λb hb=>Nat.lt_of_lt_of_le (hG b hb) he.size,aTY _ n true⟩
 ·rename_i hn;obtain rfl:=oB h4;obtain rfl:=a4O hv;obtain⟨te,pe,hc⟩:=a4K hG;refine⟨enters func32 (by kernel_rfl) (by kernel_rfl) _ _,(aYI s hl hn _ w hc (.inr ⟨te,pe,rfl⟩)).mono ?_⟩;rintro e w' ⟨rfl,hB⟩;have he:=aVE hG hB;exact⟨_,G,rfl,he,λb hb=>Nat.lt_of_lt_of_le (hG b hb) he.size,aTY _ 0 false⟩
 ·cases h4
abbrev aQI:Ent:=⟨32,_,_,gV⟩
theorem aLE:Ent.OK Tryz.prog aQI:=aUR
end Go.PM
namespace Go.PM
open Go Go.RowKit
abbrev arB(ae:TypeId) (t:Ty) (A:List (List t.den)):Blk:=⟨aP (.rows t) A,ae,false,false,some ⟨.rows t,A⟩⟩
abbrev owB(e:TypeId)(t:Ty)(l:List t.den):Blk:=⟨aP t l,e,true,false,some ⟨t,l⟩⟩
abbrev OwA:=Option (Nat×Blk)
def aH6:OwA->Heap->Heap
 | none,H=>H
 | some (r,_),H=>H.set r none
def aEI:OwA->Heap
 | none=>[]
 | some (_,k)=>[some k]
def a7T(μ:Mp):OwA->Option Nat
 | none=>none
 | some (r,_)=>μ.loc r
def a8K(μ:Mp):OwA->Option Nat
 | none=>none
 | some (r,_)=>μ.len r
def shA(μ:Mp):OwA->Nat
 | none=>0
 | some (r,_)=>μ.sh r
def wrA(w:World) (G:Gd) (μ:Mp) (ow:OwA):Nat->Prop:=λb=>w.heap.size<=b\/a7T μ ow=some b\/∃ j,G.row j=some b
def mpA(μ:Mp) (ow:OwA) (n:Nat):Mp:=⟨λq=>if q<(aEI ow).length then a7T μ ow else none,λq=>if q<(aEI ow).length then a8K μ ow else if q=(aEI ow).length then some n else none,λq=>if q<(aEI ow).length then shA μ ow else 0⟩
structure a1A (H:Heap) (ow:OwA):Prop where
 at_:∀ r k,ow=some (r,k)->H[r]?=some (some k)/\k.grown=true/\k.frozen=false/\k.tag.isSome=true
section
variable {P:Program} {n0:Nat->Prop} {w w':World} {G G1 G2:Gd} {μ μ2:Mp} {H H':Heap} {ae:TypeId} {t:Ty} {A B:List (List t.den)}
theorem a1V {ow s k}(h:(aH6 ow H)[s]?=some (some k)):H[s]?=some (some k)/\∀ r k',ow=some (r,k')->s≠r:=by
 cases ow with
 | none=>exact⟨h,λr k' e=>by grind⟩
 | some p =>
  obtain⟨h1,h2⟩:=sU h;grind
theorem aW1 {ow}:(aH6 ow H).length=H.length:=by
 cases ow with
 | none=>rfl
 | some p=>simp[aH6]
theorem a69(hW:eA n0 G μ H w) {ow:OwA} (ho:a1A H ow):∀ b,wrA w G μ ow b->n0 b:=by
 rintro b (h|h|⟨j,h⟩)
 ·exact hW.base b h
 ·cases ow with
  | none=>cases h
  | some p =>
   obtain⟨r,k⟩:=p;obtain⟨h1,_,h3,_⟩:=ho.at_ r k rfl;obtain⟨_,_,_,_,_,h6⟩:=hW.blk r k b h1 h;grind
 ·exact(hW.rows.sep j b h).2.1
theorem a1R(hW:eA n0 G μ H w) {ow:OwA} (ho:a1A H ow) {s:Nat} {k:Blk} {b:Nat} (hs:H[s]?=some (some k)) (hne:∀ r k',ow=some (r,k')->s≠r) (hb:μ.loc s=some b):¬ wrA w G μ ow b:=by
 rintro(h|h|⟨j,h⟩)
 ·exact Nat.not_lt.2 h (hW.GQ hs hb)
 ·cases ow with
  | none=>cases h
  | some p =>
   obtain⟨r,k'⟩:=p;obtain⟨h1,_,h3,_⟩:=ho.at_ r k' rfl;cases hf:k.frozen with
   | false=>exact hne r k' rfl (hW.inj s r k k' b hs h1 hf h3 hb h)
   | true =>
    obtain⟨_,_,_,_,h5,_⟩:=hW.blk s k b hs hb;obtain⟨_,_,_,_,_,h6⟩:=hW.blk r k' b h1 h;grind
 ·obtain⟨_,_,a3,a4⟩:=hW.rows.sep j b h;cases hf:k.frozen with
  | false=>exact a4 s k hs hf hb
  | true =>
   obtain⟨_,_,_,_,h5,_⟩:=hW.blk s k b hs hb;grind
theorem aPE(hW:eA n0 G μ H w) {ow:OwA} (ho:a1A H ow) {ra:Nat} (har:H[ra]?=some (some (arB ae t A))) :
  eA (wrA w G μ ow) G (mpA μ ow A.length) (aEI ow++[some (arB ae t A)]) w:=by
 have key:∀ (s:Nat) (k:Blk),(aEI ow++[some (arB ae t A)])[s]?=some (some k)->(s<(aEI ow).length/\∃ r,ow=some (r,k)/\s=0)\/(s=(aEI ow).length/\k=arB ae t A):=by
  intro s k hs;rcases B6 (H:=aEI ow) s k hs with ⟨h1,h2⟩|⟨h1,h2⟩
  ·grind
  ·left;refine⟨h1,?_⟩;cases ow with
   | none=>simp[aEI]at h1
   | some p =>
    obtain⟨r,k'⟩:=p;simp only[aEI,List.length_cons,List.length_nil]at h1;have:s=0:=by omega
    subst this;simp only[aEI,List.getElem?_cons_zero,oJ]at h2;grind
 refine⟨?_,?_,?_,hW.lt,?_,λb hb=>.inl hb,?_⟩
 ·intro s k b hs hb;rcases key s k hs with ⟨h1,r,rfl,rfl⟩|⟨h1,rfl⟩
  ·have hb:μ.loc r=some b:=by
    have:(mpA μ (some (r,k)) A.length).loc 0=μ.loc r:=rfl;grind
   obtain⟨q1,q2,q3,q4⟩:=ho.at_ r k rfl;obtain⟨c,a1,a2,a3,a4,a5⟩:=hW.blk r k b q1 hb;refine⟨c,a1,?_,a3,a4,λhf=>⟨.inr (.inl hb),(a5 hf).2⟩⟩;obtain⟨g,hg⟩:=Option.isSome_iff_exists.1 q4;rw[(hW.tags r k g q1 hg).1]at a2 ⊢;exact EA (nN _ _) a2
  ·subst h1;simp only[mpA,Nat.lt_irrefl,if_false]at hb;cases hb
 ·intro s k g hs hg;rcases key s k hs with ⟨h1,r,rfl,rfl⟩|⟨h1,rfl⟩
  ·obtain⟨q1,_⟩:=ho.at_ r k rfl;obtain⟨a1,a2⟩:=hW.tags r k g q1 hg;exact⟨a1,a2⟩
  ·cases hg;subst h1;refine⟨rfl,?_⟩;simp only[mpA,Nat.lt_irrefl,if_false,if_true]
 ·intro s1 s2 k1 k2 b h1 h2 f1 f2 m1 m2;rcases key s1 k1 h1 with ⟨p1,r1,e1,rfl⟩|⟨p1,rfl⟩
  ·rcases key s2 k2 h2 with ⟨p2,r2,e2,rfl⟩|⟨p2,rfl⟩
   ·rfl
   ·subst p2;simp only[mpA,Nat.lt_irrefl,if_false]at m2;cases m2
  ·subst p1;simp only[mpA,Nat.lt_irrefl,if_false]at m1;cases m1
 ·intro s hs;rw[oH]at hs;simp only[List.length_cons,List.length_nil]at hs;have h1:¬ s<(aEI ow).length:=by omega
  have h2:¬ s=(aEI ow).length:=by omega
  simp only[mpA,h1,h2,if_false,and_self]
 ·refine(hW.rows.rel (λs s'=>(s<(aEI ow).length/\∃ r k,ow=some (r,k)/\s'=r)\/(s=(aEI ow).length/\s'=ra)) ?_ ?_).DL λj b hj _=>.inr (.inr ⟨j,hj⟩)
  ·rintro s s2 q (⟨h1,r,k,h3,h4⟩|⟨h1,h3⟩) (⟨h2,r2,k2,h5,h6⟩|⟨h2,h5⟩)
   ·have:(aEI ow).length<=1:=by rw[h3]; simp[aEI]
    omega
   ·exfalso;obtain⟨q1,q2,_⟩:=ho.at_ r k h3;rw[<- h4,h5,har]at q1;cases q1;cases q2
   ·exfalso;obtain⟨q1,q2,_⟩:=ho.at_ r2 k2 h5;rw[<- h6,h3,har]at q1;cases q1;cases q2
   ·rw[h1,h2]
  ·intro s k' hs;rcases key s k' hs with ⟨h1,r,rfl,rfl⟩|⟨h1,rfl⟩
   ·exact⟨r,k',.inl ⟨h1,r,k',rfl,rfl⟩,(ho.at_ r k' rfl).1,rfl,rfl,rfl,rfl,rfl⟩
   ·refine⟨ra,_,.inr ⟨h1,rfl⟩,har,rfl,rfl,rfl,rfl,?_⟩;subst h1;simp only[mpA,Nat.lt_irrefl,if_false];exact(hW.rows.arn ra _ t A har rfl rfl).1.symm
abbrev OsA:=Option (Nat×Blk×Blk)
def aZJ:OsA->Heap
 | none=>[]
 | some (_,_,k)=>[some k]
def a4N(μ:Mp):OsA->Option Nat
 | none=>none
 | some (r,_,_)=>μ.loc r
def shS(μ:Mp):OsA->Nat
 | none=>0
 | some (r,_,_)=>μ.sh r
def a4C:OsA->Option Nat
 | none=>none
 | some (_,_,k)=>match k.tag with
  | some g=>some g.l.length
  | none=>none
structure a6V (H:Heap) (os:OsA):Prop where
 at_:∀ r k k',os=some (r,k,k')->H[r]?=some (some k)/\k'.grown=true/\k.frozen=false/\k'.frozen=false/\k'.ty=k.ty/\∃ g n,k'.tag=some g/\k'.cells=aP g.t g.l/\k'.cells=k.cells.take n
def UM(μ μ2:Mp) (N n:Nat) (os:OsA):Mp:=⟨λq=>if q<N then μ.loc q else if q=N+1 then a4N μ2 os else none,λq=>if q<N then μ.len q else if q=N then some n else if q=N+1 then a4C os else none,λq=>if q<N then μ.sh q else if q=N+1 then shS μ2 os else 0⟩
theorem aSP(hW:eA n0 G μ H w) {ow:OwA} (ho:a1A H ow) {ra:Nat} (har:H[ra]?=some (some (arB ae t A))) (ee:Ext (wrA w G μ ow) w G aZ w' G1 μ2) (hW':eA (wrA w G μ ow) G1 μ2 H' w')
  {rb:Nat} (hrb:H'[rb]?=some (some (arB ae t B))) {os:OsA} (hos:a6V H' os) (hrow:∀ j,G2.row j=G1.row j) (h12:∀ b,G1 b->G2 b)
  (h21:∀ b,G2 b->G1 b\/∃ s k,H'[s]?=some (some k)/\k.frozen=false/\μ2.loc s=some b/\∀ r k' k2,os=some (r,k',k2)->s≠r) :
  Ext n0 w G μ w' G2 (UM μ μ2 H.length B.length os)/\eA n0 G2 (UM μ μ2 H.length B.length os) (((aH6 ow H).set ra none)++(some (arB ae t B)::aZJ os)) w':=by
 have hwr:=a69 hW ho;have hblk:∀ s k b,H'[s]?=some (some k)->k.frozen=false->μ2.loc s=some b->wrA w G μ ow b:=λs k b hs hf hb=>by
  obtain⟨_,_,_,_,_,h6⟩:=hW'.blk s k b hs hb;grind
 have hG2:∀ b,G2 b->G b\/wrA w G μ ow b:=λb hb=>by
  rcases h21 b hb with h|⟨s,k,h1,h2,h3,_⟩
  ·exact ee.new b h
  ·grind
 have hlt2:Lt w' G2.ok:=hW'.lt.step (λb hb=>⟨h12 b hb,rfl⟩) λb hb=>by
  rcases h21 b hb with h|⟨s,k,h1,_,h3,_⟩
  ·exact hW'.lt b h
  ·exact hW'.GQ h1 h3
 have e2:Ext n0 w G μ w' G2 (UM μ μ2 H.length B.length os):={
  good:=λb hb=>⟨h12 b (ee.good b hb).1,(ee.good b hb).2⟩
  map:=λr b hr=>by
   have:r<H.length:=by
    rcases oG r H.length with h|h
    ·exact h
    ·rw[(hW.top r h).1]at hr; cases hr
   simp only[UM,this,if_true]; exact hr
  len:=λr b hr=>by
   have:r<H.length:=by
    rcases oG r H.length with h|h
    ·exact h
    ·rw[(hW.top r h).2]at hr; cases hr
   simp only[UM,this,if_true]; exact hr
  sh:=λr b hr=>by
   have:r<H.length:=by
    rcases oG r H.length with h|h
    ·exact h
    ·rw[(hW.top r h).1]at hr; cases hr
   simp only[UM,this,if_true]
  room:=ee.room
  row:=λj b hj=>by rw[hrow]; exact ee.row j b hj
  os:=ee.os
  tape:=ee.tape
  output:=ee.output
  size:=ee.size
  old:=λb hb hn=>ee.old b hb λh=>hn (hwr b h)
  new:=λb hb=>(hG2 b hb).imp id (hwr b) }
 have hlen:((aH6 ow H).set ra none).length=H.length:=by rw[List.length_set,aW1]
 have key:∀ (s:Nat) (k:Blk),(((aH6 ow H).set ra none)++(some (arB ae t B)::aZJ os))[s]?=some (some k) ->
   (s<H.length/\s≠ra/\H[s]?=some (some k)/\∀ r k',ow=some (r,k')->s≠r)\/(s=H.length/\k=arB ae t B)\/(s=H.length+1/\∃ r k0,os=some (r,k0,k)):=by
  intro s k hs;rcases oG s H.length with hl|hl
  ·rw[List.getElem?_append_left (by rw[hlen]; exact hl)]at hs;obtain⟨h1,h2⟩:=sU hs;obtain⟨h3,h4⟩:=a1V h1;exact .inl ⟨hl,h2,h3,h4⟩
  ·rw[List.getElem?_append_right (by rw[hlen]; exact hl),hlen]at hs;rcases Nat.eq_zero_or_pos (s-H.length)with h0|h0
   ·rw[h0]at hs;simp only[List.getElem?_cons_zero,oJ]at hs;exact .inr (.inl ⟨by omega,hs.symm⟩)
   ·obtain⟨m,hm⟩:∃ m,s-H.length=m+1:=⟨s-H.length-1,by omega⟩;rw[hm,List.getElem?_cons_succ]at hs;cases os with
    | none=>simp[aZJ]at hs
    | some p =>
     obtain⟨r,k0,k'⟩:=p;cases m with
     | zero =>
      simp only[aZJ,List.getElem?_cons_zero,oJ]at hs;subst hs;exact .inr (.inr ⟨by omega,r,k0,rfl⟩)
     | succ m=>simp[aZJ]at hs
 have l0:∀ s,s<H.length->(UM μ μ2 H.length B.length os).loc s=μ.loc s/\(UM μ μ2 H.length B.length os).len s=μ.len s/\(UM μ μ2 H.length B.length os).sh s=μ.sh s:=λs hs=>by simp[UM,hs]
 have l1:(UM μ μ2 H.length B.length os).loc H.length=none/\(UM μ μ2 H.length B.length os).len H.length=some B.length:=by simp[UM]
 have l2:(UM μ μ2 H.length B.length os).loc (H.length+1)=a4N μ2 os/\(UM μ μ2 H.length B.length os).len (H.length+1)=a4C os:=by
  have h1:¬ H.length+1<H.length:=by omega
  have h2:¬ H.length+1=H.length:=by omega
  simp only[UM,h1,h2,if_false,if_true,and_self]
 have l3:(UM μ μ2 H.length B.length os).sh (H.length+1)=shS μ2 os:=by
  have h1:¬ H.length+1<H.length:=by omega
  simp only[UM,h1,if_false,if_true]
 have hold:∀ s k b,H[s]?=some (some k)->(∀ r k',ow=some (r,k')->s≠r)->μ.loc s=some b->w'.heap[b]?=w.heap[b]?/\¬ wrA w G μ ow b:=λs k b h1 h2 h3=>by
  have h4:=a1R hW ho h1 h2 h3;exact⟨ee.old b (hW.GQ h1 h3) h4,h4⟩
 refine⟨e2,?_,?_,?_,hlt2,?_,λb hb=>hW.base b (oR ee.size hb),?_⟩
 ·intro s k b hs hb;rcases key s k hs with ⟨h1,h2,h3,h4⟩|⟨h1,rfl⟩|⟨h1,r,k0,h2⟩
  ·rw[(l0 s h1).1]at hb;obtain⟨c,a1,a2,a3,a4,a5⟩:=hW.blk s k b h3 hb;obtain⟨g1,g2⟩:=hold s k b h3 h4 hb;rw[(l0 s h1).2.2];refine⟨c,g1.trans a1,aK.mono e2.toMono g1 _ _ a2,a3,λhf=>h12 b (ee.good b (a4 hf)).1,λhf=>⟨(a5 hf).1,λhg=>?_⟩⟩;rcases hG2 b hg with h|h
   ·exact(a5 hf).2 h
   ·exact g2 h
  ·subst h1;rw[l1.1]at hb; cases hb
  ·subst h1; subst h2;rw[l2.1]at hb;obtain⟨q1,q2,q3,q4,q5,g,nc,q6,q7,q8⟩:=hos.at_ r k0 k rfl;obtain⟨c,a1,a2,a3,a4,a5⟩:=hW'.blk r k0 b q1 hb;rw[l3];refine⟨c,by rw[q5]; exact a1,?_,(λhf=>by rw[q2]at hf; cases hf),(λhf=>by rw[q4]at hf; cases hf),λhf=>⟨hwr b (a5 q3).1,λhg=>?_⟩⟩
   ·replace a2:=a2.take nc;rw[<- q8,q7]at a2;rw[q7];obtain⟨us,u1,u2⟩:=a2.values;have m12:Mono w' G1 aZ w' G2 (UM μ μ2 H.length B.length (some (r,k0,k))):=⟨λb hb=>⟨h12 b hb,rfl⟩,λ_ _ h=>(by cases h),λ_ _ h=>(by cases h),λ_ _ h=>h,λj b hj=>by rw[hrow]; exact hj,λ_ _ h=>(by cases h)⟩;exact aK.gF (VRs.mono m12 _ _ (eF _ _ (nN _ _) u1)) u2
   ·rcases h21 b hg with h|⟨s2,k2,z1,z2,z3,z4⟩
    ·exact(a5 q3).2 h
    ·exact z4 r k0 k rfl (hW'.inj s2 r k2 k0 b z1 q1 z2 q3 z3 hb)
 ·intro s k g hs hg;rcases key s k hs with ⟨h1,h2,h3,h4⟩|⟨h1,rfl⟩|⟨h1,r,k0,h2⟩
  ·rw[(l0 s h1).2.1];exact hW.tags s k g h3 hg
  ·cases hg;subst h1;exact⟨rfl,l1.2⟩
  ·subst h1; subst h2;rw[l2.2];obtain⟨_,_,_,_,_,g',_,q6,q7,_⟩:=hos.at_ r k0 k rfl;rw[hg]at q6;cases q6;exact⟨q7,by simp only[a4C,hg]⟩
 ·intro s1 s2 k1 k2 b h1 h2 f1 f2 m1 m2;rcases key s1 k1 h1 with ⟨p1,p2,p3,p4⟩|⟨p1,rfl⟩|⟨p1,r,k0,p2⟩
  ·rw[(l0 s1 p1).1]at m1;rcases key s2 k2 h2 with ⟨q1,q2,q3,q4⟩|⟨q1,rfl⟩|⟨q1,r2,k02,q2⟩
   ·rw[(l0 s2 q1).1]at m2;exact hW.inj s1 s2 k1 k2 b p3 q3 f1 f2 m1 m2
   ·subst q1; rw[l1.1]at m2; cases m2
   ·subst q1; subst q2;rw[l2.1]at m2;exact absurd (hblk r2 k02 b (hos.at_ r2 k02 k2 rfl).1 (hos.at_ r2 k02 k2 rfl).2.2.1 m2) (hold s1 k1 b p3 p4 m1).2
  ·subst p1; rw[l1.1]at m1; cases m1
  ·subst p1; subst p2;rw[l2.1]at m1;rcases key s2 k2 h2 with ⟨q1,q2,q3,q4⟩|⟨q1,rfl⟩|⟨q1,r2,k02,q2⟩
   ·rw[(l0 s2 q1).1]at m2;exact absurd (hblk r k0 b (hos.at_ r k0 k1 rfl).1 (hos.at_ r k0 k1 rfl).2.2.1 m1) (hold s2 k2 b q3 q4 m2).2
   ·subst q1; rw[l1.1]at m2; cases m2
   ·exact q1.symm
 ·intro s hs;rw[oH,hlen,List.length_cons]at hs;have h1:¬ s<H.length:=by omega
  have h2:¬ s=H.length:=by omega
  by_cases h3:s=H.length+1
  ·cases os with
   | none=>rw[h3]; exact l2
   | some p =>
    obtain⟨r,k0,k1⟩:=p;simp only[aZJ,List.length_cons,List.length_nil]at hs;omega
  ·simp[UM,h1,h2,h3]
 ·have hr':=hW'.rows;refine⟨λi j b h1 h2=>hr'.inj i j b (by rw[<- hrow]; exact h1) (by rw[<- hrow]; exact h2),?_,?_,?_,?_⟩
  ·intro j b hj;rw[hrow]at hj;obtain⟨a1,a2,a3,a4⟩:=hr'.sep j b hj;refine⟨a1,hwr b a2,λhg=>?_,λs k hs hf hl=>?_⟩
   ·rcases h21 b hg with h|⟨s,k,z1,z2,z3,_⟩
    ·exact a3 h
    ·exact a4 s k z1 z2 z3
   ·rcases key s k hs with ⟨p1,p2,p3,p4⟩|⟨p1,rfl⟩|⟨p1,r,k0,p2⟩
    ·rw[(l0 s p1).1]at hl;exact(hold s k b p3 p4 hl).2 a2
    ·subst p1; rw[l1.1]at hl; cases hl
    ·subst p1; subst p2;rw[l2.1]at hl;exact a4 r k0 (hos.at_ r k0 k rfl).1 (hos.at_ r k0 k rfl).2.2.1 hl
  ·intro j b hj;rw[hrow]at hj;exact hr'.cel j b hj
  ·intro s k t1 l1' hs hg ht;rcases key s k hs with ⟨p1,p2,p3,p4⟩|⟨p1,rfl⟩|⟨p1,r,k0,p2⟩
   ·exact absurd (hW.rows.one s ra k _ t1 l1' t A p3 hg ht har rfl rfl) p2
   ·cases ht;subst p1;obtain⟨_,a2,a3⟩:=hr'.arn rb _ t B hrb rfl rfl;refine⟨l1.1,λj hj=>by rw[hrow]; exact a2 j hj,λj row hj=>?_⟩;rcases a3 j row hj with h|⟨b,z1,z2⟩
    ·exact .inl h
    ·have m12:Mono w' G1 aZ w' G2 aZ:=⟨λb hb=>⟨h12 b hb,rfl⟩,λ_ _ h=>h,λ_ _ h=>h,λ_ _ h=>h,λj b hj=>by rw[hrow]; exact hj,λ_ _ _=>rfl⟩;exact .inr ⟨b,by rw[hrow]; exact z1,z2.mono m12 rfl⟩
   ·subst p2;rw[(hos.at_ r k0 k rfl).2.1]at hg; cases hg
  ·have only:∀ (s:Nat) (k:Blk) (t1:Ty) (l1':List (List t1.den)),(((aH6 ow H).set ra none)++(some (arB ae t B)::aZJ os))[s]?=some (some k)->k.grown=false->k.tag=some ⟨.rows t1,l1'⟩->s=H.length:=by
    intro s k t1 l1' hs hg ht;rcases key s k hs with ⟨p1,p2,p3,p4⟩|⟨p1,_⟩|⟨p1,r,k0,p2⟩
    ·exact absurd (hW.rows.one s ra k _ t1 l1' t A p3 hg ht har rfl rfl) p2
    ·exact p1
    ·subst p2;rw[(hos.at_ r k0 k rfl).2.1]at hg; cases hg
   intro r s k k' t1 l1' t2 l2' h1 g1 t1' h2 g2 t2';rw[only r k t1 l1' h1 g1 t1',only s k' t2 l2' h2 g2 t2']
end
theorem aQK:∀ ts x,iU.noRefs (LX ts x)=true
 | [],_=>rfl
 | t::r,(x,xs)=>by simp only[LX,iU.noRefs,iU,aQK r xs,Bool.and_self]
theorem aYP:∀ k x r,aN3 (k::r)=true->iU (KD k x 0)=true/\aN3 r=true
 | .int _,_,_,h=>⟨rfl,h⟩
 | .bool,_,_,h=>⟨rfl,h⟩
 | .str,_,_,h=>⟨rfl,h⟩
 | .list _,_,_,h=>⟨rfl,h⟩
 | .agg t,x,_,h=>⟨xK t x,h⟩
 | .own _ _,_,_,h=>by cases h
 | .box _ _,_,_,h=>by cases h
 | .win _ _,_,_,h=>by cases h
 | .bown _ _ _,_,_,h=>by cases h
 | .bque _ _ _,_,_,h=>by cases h
 | .bag _ _ _ _ _,_,_,h=>by cases h
 | .bag2 _ _ _ _ _ _,_,_,h=>by simp only[aN3]at h; grind
 | .ar _ _,_,_,h=>by cases h
 | .hnd _,_,_,h=>⟨rfl,h⟩
 | .mpk _,_,_,h=>⟨rfl,h⟩
 | .ptr t,x,_,h=>⟨rfl,h⟩
 | .fn _,_,_,h=>⟨rfl,h⟩
 | .nil0,_,_,h=>⟨rfl,h⟩
 | .val,_,_,h=>⟨rfl,h⟩
 | .nilI,_,_,h=>⟨rfl,h⟩
 | .clo _ ts,x,_,h=>⟨by simp only[KD,iU,iU.noRefs,aQK ts x,Bool.and_self],h⟩
theorem aF4:∀ l x,aN3 l=true->iU.noRefs (MU l x)=true
 | [],_,_=>rfl
 | k::r,(x,xs),h=>by
  obtain⟨h1,h2⟩:=aYP k x r h;simp only[MU,iU.noRefs,h1,aF4 r xs h2,Bool.and_self]
inductive Tk where
 | none
 | own (e:TypeId) (t:Ty)
@[reducible] def Tk.den:Tk->Type
 | .none=>Unit
 | .own _ t=>List t.den
def Tk.pv:Tk->Nat->List PV
 | .none,_=>[]
 | .own _ t,r=>[.own r t.size]
def Tk.ow:(k:Tk)->k.den->Nat->OwA
 | .none,_,_=>Option.none
 | .own e t,l,r=>some (r,owB e t l)
inductive An where
 | data (l:List Kd)
 | own (e:TypeId) (t:Ty)
@[reducible] def An.den:An->Type
 | .data l=>aL l
 | .own _ t=>List t.den
def An.pv:(a:An)->a.den->Nat->PV
 | .data l,y,_=>RP l y
 | .own _ t,_,n=>.own n t.size
def An.hp:(a:An)->a.den->Heap
 | .data _,_=>[]
 | .own e t,l=>[some (owB e t l)]
def aFF(P:Program) (g:FuncId) (ae:TypeId) (t:Ty) (tk:Tk) (args:List Kd) (an:An) (f:tk.den->aL args->List (List t.den)->Option (an.den×List (List t.den))):Prop :=
 ∀ l x A y B,f l x A=some (y,B)->∀ {n0 G μ H w us ra r},eA n0 G μ H w->H[ra]?=some (some (arB ae t A))->a1A H (tk.ow l r)->VRs w G μ (tk.pv r++MU args x) us ->
  vQ P n0 w G μ g us.toArray (an.pv y (H.length+1)) (((aH6 (tk.ow l r) H).set ra none)++(some (arB ae t B)::an.hp y))
def a1W(ae:TypeId) (t:Ty) (H:Heap):Option (Nat×List (List t.den)):=match yT 0 H with
 | some (r,k)=>match k.tag with
  | some g=>match pI g.t (.rows t) g.l with
   | some l=>bif Nat.beq k.ty ae&&!k.frozen then some (r,l) else none
   | none=>none
  | none=>none
 | none=>none
def a7E(e:TypeId)(t:Ty)(H:Heap):PV->Option (List t.den)
 | .own r sz=>sD e t (.own r sz) H r
 | .win r lo n sz=>bif Nat.beq lo 0 then match sD e t (.own r sz) H r with
  | some l=>some (l.take n)
  | none=>none
  else none
 | _=>none
def aZ5:(an:An)->PV->Heap->Option an.den
 | .data l,q,H=>match inl false H depth q with
  | some q'=>aYA l q'
  | none=>none
 | .own e t,q,H=>a7E e t H q
def a5K(P:Program)(rs:List ResultVar)(ae:TypeId)(t:Ty)(an:An)(ex:Ex)(F:Frm)(H:Heap):Option (an.den×List (List t.den)):=match ex with
 | .exit _=>none
 | _=>match U9 P F H rs with
  | some vs=>match a1W ae t H with
   | some B=>match aZ5 an (HP vs) H with
    | some y=>some (y,B.2)
    | none=>none
   | none=>none
  | none=>none
def aBF(P:Program)(E:Env)(fn:Func)(keep:Nat)(lt:Nat->Option C8)(c:Code)(ae:TypeId)(t:Ty)(tk:Tk) args (an:An)(l:tk.den)(x:aL args)(A:List (List t.den)):Option (an.den×List (List t.den)) :=
 bif Nat.ble (tk.pv 0++MU args x).length fn.ntmps then Z9 P E fn.ntmps keep lt c (start keep 0 (tk.pv 0++MU args x)) (aEI (tk.ow l 0)++[some (arB ae t A)]) (a5K P fn.results.toList ae t an) else none
section
variable {P:Program} {n0:Nat->Prop} {w w':World} {G G1 G2:Gd} {μ μ2:Mp} {H H':Heap} {ae:TypeId} {t:Ty} {A B:List (List t.den)}
theorem aO4(hW:eA n0 G μ H w){p}(h:a1W ae t H=some p):H[p.1]?=some (some (arB ae t p.2)):=by
 unfold a1W at h;split at h
 ·rename_i r k hk;obtain⟨h1,h2⟩:=L9 hk;split at h
  ·rename_i g hg;split at h
   ·rename_i l hc;obtain⟨hb,h⟩:=cC h;simp only[oA]at hb;simp only[oJ]at h;subst h;have hb3:=oE hb.1;have ht:=(hW.tags r k g h1 hg).1;have hge:=L8 hc;obtain⟨k1,k2,k3,k4,k5⟩:=k;grind
   grind
  grind
 grind
theorem aUE(hW:eA n0 G μ H w) {e:TypeId} {u:Ty} {p:PV} {l:List u.den} {v:Value} (h:a7E e u H p=some l) (hv:VR w G μ p v) :
  ∃ r l0,a6V H (some (r,owB e u l0,owB e u l))/\∀ G2 μ3 n,μ3.loc n=μ.loc r->μ3.len n=some l.length->μ3.sh n=μ.sh r->VR w G2 μ3 (.own n u.size) v:=by
 have key:∀ (l0:List u.den) (r m:Nat),H[r]?=some (some (owB e u l0))->a6V H (some (r,owB e u l0,owB e u (l0.take m))):=λl0 r m h0=>⟨λr' k k' he=>by
  cases he;exact⟨h0,rfl,rfl,rfl,rfl,⟨u,l0.take m⟩,m*u.size,rfl,rfl,(vV u m l0).symm⟩⟩
 unfold a7E at h;split at h
 ·rename_i r sz;obtain⟨h1,h2⟩:=jT hW h;cases h1;refine⟨r,l,by have:=key l r l.length h2; rwa[List.take_length]at this,λG2 μ3 n q1 q2 q3=>?_⟩;obtain⟨m,a1,a2⟩:=hv;have:=(hW.tags r _ _ h2 rfl).2;rw[this]at a1;cases a1;refine⟨_,q2,?_⟩;grind
 ·rename_i r lo n sz;obtain⟨hb,h⟩:=cC h;have hb:=oE hb;subst hb;split at h
  ·rename_i l0 hl0;obtain rfl:=oB h;obtain⟨h1,h2⟩:=jT hW hl0;cases h1;refine⟨r,l0,key l0 r n h2,λG2 μ3 m q1 q2 q3=>?_⟩;obtain⟨b,c,m',a1,a2,a3,a4,a5,a6,a7⟩:=hv;have:=(hW.tags r _ _ h2 rfl).2;rw[this]at a5;cases a5;refine⟨n,by rw[q2,List.length_take]; change 0+n<=l0.length at a6; congr 1; omega,.inr ⟨b,c,by rw[q1]; exact a1,by rw[a2,q3,Nat.zero_mul]; rfl,a3,?_,by rw[q3]; exact a7.2⟩⟩;grind
  ·cases h
 ·cases h
theorem a1E {α:Type 1}{b x}{y:α}(h:(bif b then x else none)=some y):b=true/\x=some y:=by grind
theorem X2 {E:Env} (hP:aEU P) (hE:OK P E) {g:Nat} {fn:Func} (hg:P.funcs[g]?=some fn) {c:Code} (hc:fn.body=some c) {keep:Nat} {lt:Nat->Option C8} {ae:TypeId} {t:Ty} {tk:Tk} {args:List Kd} {an:An} {f:tk.den->aL args->List (List t.den)->Option (an.den×List (List t.den))}
  (hd:aN3 args=true) (hl:∀ a∈RY c,∀ s,lt (R0 a)=some s->SF P fn.ntmps a s) (hb:∀ l x A,aBF P E fn keep lt c ae t tk args an l x A=f l x A):aFF P g ae t tk args an f:=by
 intro l x A y B hy n0 G μ H w us ra r hW har ho hv;rw[<- hb]at hy;obtain⟨hlen,hy⟩:=cC hy;obtain⟨⟨ex,F',H'⟩,h1,h2⟩:=TJ hE.callee hP.mixed c _ _ _ _ hl hy;obtain⟨vs,B',hex,hvs,hB,hq,rfl⟩:∃ vs B',(ex=.normal\/ex=.ret)/\U9 P F' H' fn.results.toList=some vs/\a1W ae t H'=some B'/\aZ5 an (HP vs) H'=some y/\B'.2=B:=by
  unfold a5K at h1;split at h1
  ·cases h1
  ·rename_i hne;split at h1
   ·rename_i vs hvs;split at h1
    ·rename_i B' hB;split at h1
     ·rename_i y' hy';simp only[oJ,oP]at h1;obtain⟨rfl,h1⟩:=h1;refine⟨vs,B',?_,hvs,hB,hy',h1⟩;cases ex with
      | normal=>exact .inl rfl
      | ret=>exact .inr rfl
      | exit i=>exact absurd rfl (hne i)
     ·cases h1
    ·cases h1
   ·cases h1
 have hargs:VRs w G (mpA μ (tk.ow l r) A.length) (tk.pv 0++MU args x) us:=by
  have hn:=aF4 args x hd;cases tk with
  | none=>exact VRs.fK (eF _ _ hn hv)
  | own e u =>
   change VRs w G μ (.own r u.size::MU args x) us at hv;change VRs w G _ (.own 0 u.size::MU args x) us;rw[VRs]at hv ⊢;obtain⟨v,us',rfl,q1,q2⟩:=hv;refine⟨v,us',rfl,?_,VRs.fK (eF _ _ hn q2)⟩;rw[VR]at q1 ⊢;exact q1
 have howb:aEI (tk.ow l 0)=aEI (tk.ow l r):=by cases tk <;> rfl
 have hW1:=aPE hW ho har;rw[<- howb]at hW1;have e0:Ext (wrA w G μ (tk.ow l r)) w G aZ w G (mpA μ (tk.ow l r) A.length) :=
  ⟨⟨λb hb=>⟨hb,rfl⟩,λ_ _ h=>(by cases h),λ_ _ h=>(by cases h),λ_ _ h=>h,λ_ _ h=>h,λ_ _ h=>(by cases h)⟩,rfl,rfl,rfl,oM _,λ_ _ _=>rfl,λ_ h=>.inl h⟩
 refine⟨enters hg (hP.names g fn hg) (by rw[hc]; rfl) _ _,calls_of_wp hg hc ?_⟩;have hI:I (wrA w G μ (tk.ow l r)) w G aZ fn.ntmps (start keep 0 (tk.pv 0++MU args x)) (aEI (tk.ow l 0)++[some (arB ae t A)]) ⟨us.toArray++Array.replicate (fn.ntmps-us.toArray.size) undef,[]⟩ w :=
  ⟨G,_,e0,hW1,U3 (by simpa using hargs) (oL hlen)⟩
 refine wp_mono (h2 _ w G aZ _ w (λr=>⟨rfl,rfl⟩) hI) ?_;rintro e1 a' w' ⟨rfl,G1,μ1,ee,hW',hF'⟩;obtain⟨ws,h3,h4⟩:=UF (P:=P) hW' hF' hvs;have hres:(results fn a'.tmps).run P w'=.ok (if hh:ws.toArray.size=1 then ws.toArray[0] else .tuple ws.toArray) w':=by
  rw[ZT,Array.mapM_eq_mapM_toList];simp only[Sem.run_bind,Sem.run_map,h3,Result.andThen_ok,Sem.run_pure]
 have hrb:=aO4 hW' hB;obtain⟨G2,μ3,b1,b2,b3⟩:∃ G2 μ3,Ext n0 w G μ w' G2 μ3/\eA n0 G2 μ3 (((aH6 (tk.ow l r) H).set ra none)++(some (arB ae t B'.2)::an.hp y)) w'/\VR w' G2 μ3 (an.pv y (H.length+1)) (if hh:ws.toArray.size=1 then ws.toArray[0] else .tuple ws.toArray):=by
  have hvr:=VJ h4;cases an with
  | data rets =>
   simp only[aZ5]at hq;split at hq
   ·rename_i q hq';have hb:=aSP (G2:=⟨λb=>G1 b\/∃ s k,H'[s]?=some (some k)/\k.frozen=false/\μ1.loc s=some b,G1.row⟩) hW ho har ee hW' hrb (os:=none) ⟨λ_ _ _ h=>by cases h⟩ (λ_=>rfl) (λb hb=>.inl hb) (λb hb=>by
     rcases hb with h|⟨s,k,z1,z2,z3⟩
     ·exact .inl h
     ·exact .inr ⟨s,k,z1,z2,z3,λ_ _ _ h=>by cases h⟩)
    refine⟨_,_,hb.1,hb.2,?_⟩;have:=CW (G':=⟨λb=>G1 b\/∃ s k,H'[s]?=some (some k)/\k.frozen=false/\μ1.loc s=some b,G1.row⟩) hW' (λ_ _ h=>h) (λb hb=>.inl hb) (λs k1 b hs _ hb=>by
     obtain⟨_,_,_,_,g5,_⟩:=hW'.blk s k1 b hs hb;cases hf:k1.frozen with
     | true=>exact .inl (g5 hf)
     | false=>exact .inr ⟨s,k1,hs,hf,hb⟩) depth _ q _ hq' hvr
    exact(aM8 hq this).fK
   ·cases hq
  | own e u =>
   simp only[aZ5]at hq;obtain⟨r1,l0,hos,hvv⟩:=aUE hW' hq hvr;have hb:=aSP (G2:=G1) hW ho har ee hW' hrb hos (λ_=>rfl) (λb hb=>hb) (λb hb=>.inl hb);refine⟨_,_,hb.1,hb.2,hvv _ _ _ ?_ ?_ ?_⟩
   ·have h1:¬ H.length+1<H.length:=by omega
    simp[UM,h1,a4N]
   ·have h1:¬ H.length+1<H.length:=by omega
    simp[UM,h1,a4C]
   ·have h1:¬ H.length+1<H.length:=by omega
    simp[UM,h1,shS]
 have hpost:a'.defers=[]/\∃ v,(results fn a'.tmps).run P w'=.ok v w'/\(∃ v' G'' μ'',Ending.returned v=.returned v'/\Ext n0 w G μ w' G'' μ''/\eA n0 G'' μ'' (((aH6 (tk.ow l r) H).set ra none)++(some (arB ae t B'.2)::an.hp y)) w'/\VR w' G'' μ'' (an.pv y (H.length+1)) v') :=
  ⟨hF'.defers,_,hres,_,G2,μ3,rfl,b1,b2,b3⟩
 rcases hex with rfl|rfl
 ·exact hpost
 ·exact hpost
def aRN(P:Program) (E:Env) (fn:Func) (keep:Nat) (lt:Nat->Option C8) (c:Code) (ae:TypeId) (t:Ty) (args rets:List Kd) (x:aL args):Option (aL rets) :=
 bif Nat.ble (MU args x).length fn.ntmps then Z9 P E fn.ntmps keep lt c (start keep 0 (MU args x)) [some (arB ae t [])] (aY0 P fn.results.toList rets) else none
theorem aUC {E} (hP:aEU P) (hE:OK P E) {g:Nat} {fn} (hg:P.funcs[g]?=some fn) {c} (hc:fn.body=some c) {keep lt ae t args rets f}
  (hl:∀ a∈RY c,∀ s,lt (R0 a)=some s->SF P fn.ntmps a s) (hb:∀ x,aRN P E fn keep lt c ae t args rets x=f x):RB P g args rets f:=by
 intro x y hy;rw[<- hb]at hy;obtain⟨hlen,hy⟩:=cC hy;obtain⟨⟨ex,F',H'⟩,h1,h2⟩:=TJ hE.callee hP.mixed c _ _ _ _ hl hy;obtain⟨vs,q,hex,hvs,hq,hd⟩:∃ vs q,(ex=.normal\/ex=.ret)/\U9 P F' H' fn.results.toList=some vs/\aWM H' (HP vs)=some q/\aYA rets q=some y:=by
  unfold aY0 at h1;split at h1
  ·cases h1
  ·rename_i hne;split at h1
   ·rename_i vs hvs;split at h1
    ·rename_i q hq;refine⟨vs,q,?_,hvs,hq,h1⟩;cases ex with
     | normal=>exact .inl rfl
     | ret=>exact .inr rfl
     | exit i=>exact absurd rfl (hne i)
    ·cases h1
   ·cases h1
 obtain⟨hq1,hq2⟩:=YQ hq;intro w G us hlt hv;have at0:∀ (s:Nat) (k1:Blk),([some (arB ae t [])]:Heap)[s]?=some (some k1)->s=0/\k1=arB ae t []:=by grind
 have hW:eA (OL w) (Gd.of G) ⟨λ_=>none,λr=>if r=0 then some 0 else none,λ_=>0⟩ [some (arB ae t [])] w:=by
  refine⟨(λr k b h hb=>by cases hb),(λr k g h hg=>?_),(λr s k l b h _ _ _ hb=>by cases hb),hlt,(λr hr=>⟨rfl,?_⟩),λ_ h=>h,⟨(λ_ _ _ h=>by cases h),(λ_ _ h=>by cases h),(λ_ _ h=>by cases h),(λr k u l h hgr ht=>?_),(λr s k k' u l u' l' h1 g1 t1 h2 g2 t2=>by rw[(at0 r k h1).1,(at0 s k' h2).1])⟩⟩
  ·obtain⟨rfl,rfl⟩:=at0 r k h;cases hg;grind
  ·grind
  ·obtain⟨rfl,rfl⟩:=at0 r k h;cases ht;exact⟨rfl,λ_ _=>rfl,λj row hj=>by simp at hj⟩
 have e0:Ext (OL w) w (Gd.of G) aZ w (Gd.of G) ⟨λ_=>none,λr=>if r=0 then some 0 else none,λ_=>0⟩ :=
  ⟨⟨λb hb=>⟨hb,rfl⟩,λ_ _ h=>(by cases h),λ_ _ h=>(by cases h),λ_ _ h=>h,λ_ _ h=>h,λ_ _ h=>(by cases h)⟩,rfl,rfl,rfl,oM _,λ_ _ _=>rfl,λ_ h=>.inl h⟩
 refine⟨enters hg (hP.names g fn hg) (by rw[hc]; rfl) _ _,calls_of_wp hg hc ?_⟩;have hI:I (OL w) w (Gd.of G) aZ fn.ntmps (start keep 0 (MU args x)) [some (arB ae t [])] ⟨us++Array.replicate (fn.ntmps-us.size) undef,[]⟩ w:=⟨Gd.of G,_,e0,hW,U3 hv.fK (oL hlen)⟩;refine wp_mono (h2 _ w (Gd.of G) aZ _ w (λr=>⟨rfl,rfl⟩) hI) ?_;rintro e a' w' ⟨rfl,G1,μ1,e1,e2,hF'⟩;obtain⟨ws,h3,h4⟩:=UF (P:=P) e2 hF' hvs;have hres:(results fn a'.tmps).run P w'=.ok (if hh:ws.toArray.size=1 then ws.toArray[0] else .tuple ws.toArray) w':=by
  rw[ZT,Array.mapM_eq_mapM_toList];simp only[Sem.run_bind,Sem.run_map,h3,Result.andThen_ok,Sem.run_pure]
 have hval:=F4 (G:=⟨λb=>G1 b\/∃ r k,H'[r]?=some (some k)/\μ1.loc r=some b,G1.row⟩) (G':=Gd.of λb=>G1 b\/∃ r k,H'[r]?=some (some k)/\μ1.loc r=some b) (λb h=>h) _ _ _ hq2
   (CW (G':=⟨λb=>G1 b\/∃ r k,H'[r]?=some (some k)/\μ1.loc r=some b,G1.row⟩) e2 (λ_ _ h=>h) (λb hb=>.inl hb) (λr k b hr _ hb=>.inr ⟨r,k,hr,hb⟩) depth _ q _ hq1 (VJ h4))
 have hext:Ext (OL w) w (Gd.of G) aZ w' (Gd.of λb=>G1 b\/∃ r k,H'[r]?=some (some k)/\μ1.loc r=some b) aZ:={
  good:=λb hb=>⟨.inl (e1.good b hb).1,(e1.good b hb).2⟩
  map:=λ_ _ h=>h
  len:=λ_ _ h=>h
  room:=e1.room
  row:=λ_ _ h=>h
  os:=e1.os
  tape:=e1.tape
  output:=e1.output
  size:=e1.size
  old:=e1.old
  new:=λb hb=>by
   rcases hb with hb|⟨r,k,hr,hb⟩
   ·exact e1.new b hb
   ·obtain⟨c,_,_,_,g5,g6⟩:=e2.blk r k b hr hb;cases hf:k.frozen with
    | true=>exact e1.new b (g5 hf)
    | false=>exact .inr (g6 hf).1 }
 have hlt':∀ b,(G1 b\/∃ r k,H'[r]?=some (some k)/\μ1.loc r=some b)->b<w'.heap.size:=by
  rintro b (hb|⟨r,k,hr,hb⟩)
  ·exact e2.lt b hb
  ·exact e2.GQ hr hb
 have hpost:a'.defers=[]/\∃ v,(results fn a'.tmps).run P w'=.ok v w'/\(∃ v' G',Ending.returned v=.returned v'/\Ext (OL w) w (Gd.of G) aZ w' (Gd.of G') aZ/\(∀ b,G' b->b<w'.heap.size)/\VR w' (Gd.of G') aZ (RP rets y) v') :=
  ⟨hF'.defers,_,hres,_,_,rfl,hext,hlt',aM8 hd hval⟩
 rcases hex with rfl|rfl
 ·exact hpost
 ·exact hpost
def PZ(e:TypeId)(t:Ty)(H:Heap):List PV->Option (List t.den×Nat×List PV)
 | .own r sz::ps=>match sD e t (.own r sz) H r with
  | some l=>some (l,r,ps)
  | none=>none
 | _=>none
def Tk.dec:(tk:Tk)->List PV->Heap->Option (tk.den×Nat×List PV)
 | .none,qs,_=>some ((),0,qs)
 | .own e t,qs,H=>PZ e t H qs
theorem aL1(hW:eA n0 G μ H w){e u qs l r ps}(h:PZ e u H qs=some (l,r,ps)):H[r]?=some (some (owB e u l))/\qs=.own r u.size::ps:=by
 unfold PZ at h;split at h
 ·split at h
  ·rename_i l1 hl1;obtain⟨g1,g2⟩:=jT hW hl1;grind
  grind
 grind
theorem Tk.a08 (hW:eA n0 G μ H w){tk:Tk}{qs l r ps}(h:tk.dec qs H=some (l,r,ps)):a1A H (tk.ow l r)/\qs=tk.pv r++ps:=by
 cases tk with
 | none =>
  obtain⟨_,_,rfl⟩:=h;exact⟨⟨λ_ _ h=>by cases h⟩,rfl⟩
 | own e u =>
  obtain⟨h1,h2⟩:=aL1 hW h;refine⟨⟨λr' k he=>?_⟩,h2⟩;cases he;grind
def arH(ae:TypeId) (t:Ty) (tk:Tk) (args:List Kd) (an:An) (f:tk.den->aL args->List (List t.den)->Option (an.den×List (List t.den))) (qs:List PV) (H:Heap):Option Q7:=match tk.dec qs H with
 | some (l,r,ps)=>match a1W ae t H with
  | some (ra,A)=>match aUV args ps with
   | some x=>bif iU.noRefs ps then some ⟨an.den×List (List t.den),f l x A,λy=>(an.pv y.1 (H.length+1),((aH6 (tk.ow l r) H).set ra none)++(some (arB ae t y.2)::an.hp y.1))⟩ else none
   | none=>none
  | none=>none
 | none=>none
theorem ZD {g tk args an f}(hf:aFF P g ae t tk args an f) :
  ∀ qs H r,arH ae t tk args an f qs H=some r->∀ y,r.val=some y->∀ {n0 G μ w vs},eA n0 G μ H w->VRs w G μ qs vs->vQ P n0 w G μ g vs.toArray (r.out y).1 (r.out y).2:=by
 intro qs H rh h y hy n0 G μ w vs hW hv;unfold arH at h;split at h
 ·rename_i l r ps hl;split at h
  ·rename_i ra A hA;split at h
   ·rename_i x hx;obtain⟨hb,h⟩:=a1E h;simp only[oJ]at h;subst h;obtain⟨ho,rfl⟩:=Tk.a08 hW hl;have hv':VRs w G μ (tk.pv r++MU args x) vs:=by
     cases tk with
     | none=>exact(aB7 args hx (eF _ _ hb hv)).fK
     | own e u =>
      obtain⟨v,us,rfl,q1,q2⟩:=hv;exact⟨v,us,rfl,q1,(aB7 args hx (eF _ _ hb q2)).fK⟩
    obtain⟨y1,y2⟩:=y;exact hf l x A y1 y2 hy hW (aO4 hW hA) ho hv'
   grind
  grind
 grind
end
def forced(ops:Array Oper) (s:Nat):Bool:=(List.range ops.size).all λj=>Nat.blt j s||Nat.beq (Nat.land ((OO ops).getD j 0) (2^j-1)) (2^j-1)
def aTN(l:List Oper):Bool:=(List.range l.length).all λi=>match l[i]? with
 | some o=>match o.guard with
  | some (g,_)=>Nat.blt g i
  | none=>true
 | none=>true
def aKI(ops:Array Oper)(s:Nat):Bool:=aGP (OO ops) 0 ops.toList&&forced ops s&&aTN ops.toList&&aQD ops&&Nat.ble s ops.size
section
variable {P:Program} {ops:Array Oper} {s:Nat}
theorem aS5(h:forced ops s=true){j b}(hj:j<ops.size)(hs:s<=j)(hb:b<j):((OO ops).getD j 0).testBit b=true:=by
 have:=List.all_eq_true.1 h j (List.mem_range.2 hj);rw[Bool.or_eq_true]at this;rcases this with h1|h1
 ·have:=SG h1; omega
 ·have h2:=oE h1;have h3:(Nat.land ((OO ops).getD j 0) (2^j-1)).testBit b=(2^j-1).testBit b:=by grind
  have h4:(2^j-1).testBit b=true:=by grind
  rw[h4]at h3;have h5:((OO ops).getD j 0 &&& (2^j-1)).testBit b=true:=h3;grind
theorem aM7(hm:aGP (OO ops) 0 ops.toList=true){i o}(ho:ops[i]?=some o):(OO ops).getD i 0=aPR (OO ops) o.after.toList/\∀ e∈o.after,Region.binds .any e=true->e.on<i:=by
 have:=aQ2 hm (by simpa using ho);grind
theorem aR0(hm:aGP (OO ops) 0 ops.toList=true) {listed:Array Bool} (hc:aIY (OO ops) (λi=>listed.getD i false)) {i:Nat} (hi:i∈Region.ready .any ops listed) :
  i<ops.size/\listed.getD i true=false/\∀ b,((OO ops).getD i 0).testBit b=true->listed.getD b false=true:=by
 obtain⟨h1,o,ho,h2⟩:=mem_ready.1 hi;refine⟨(Array.getElem?_eq_some_iff.1 ho).1,by simpa using h1,λb hb=>?_⟩;rw[(aM7 hm ho).1]at hb;rcases aF3 _ _ hb with h3|⟨e,h3,h4,h5⟩
 ·grind
 ·have h6:=h2 e (Array.mem_toList_iff.1 h3) h4;rcases h5 with rfl|h5
  ·exact h6
  ·exact hc e.on h6 b h5
theorem a5M(hm:aGP (OO ops) 0 ops.toList=true):∀ i b,i<ops.size->((OO ops).getD i 0).testBit b=true->b<i:=by
 intro i
 induction i using Nat.strongRecOn with
 | _ i ih =>
  intro b hi hb;obtain⟨o,ho⟩:∃ o,ops[i]?=some o:=⟨ops[i],Array.getElem?_eq_getElem hi⟩;have hma:=aM7 hm ho;rw[hma.1]at hb;rcases aF3 _ _ hb with h3|⟨e,h3,h4,h5⟩
  ·grind
  grind
variable {ro:Option Nat} {n:Nat} {Q:Exit->Act->World->Prop}
theorem aX6(hm:aGP (OO ops) 0 ops.toList=true) (hf:forced ops s=true):∀ (k j:Nat) (L:Array Bool) (a:Act) (w:World),j+k=ops.size->s<=j->L.size=ops.size->(∀ i,i<ops.size->L.getD i false=decide (i<j)) ->
  wpListIn (Fr ro) n P ops Q (ops.toList.drop j) a w->wpAnyIn (Fr ro) n P .any ops Q k L a w
 | 0,j,L,a,w,hk,hs,hsz,hL,h=>by
  have hd:ops.toList.drop j=[]:=List.drop_of_length_le (by simp; omega);rw[hd]at h;refine⟨?_,h⟩
  by_cases hr:Region.ready .any ops L=[]
  ·exact hr
  ·obtain⟨i,hi⟩:=List.exists_mem_of_ne_nil _ hr;obtain⟨h1,o,ho,_⟩:=mem_ready.1 hi;grind
 | k+1,j,L,a,w,hk,hs,hsz,hL,h=>by
  have hj:j<ops.size:=by omega
  have hcl:aIY (OO ops) (λi=>L.getD i false):=by
   intro i hi b hb;replace hi:L.getD i false=true:=hi;have hilt:i<ops.size:=by grind
   have h1:=hL i hilt;rw[hi]at h1;have h2:=of_decide_eq_true h1.symm;have h3:=a5M hm i b hilt hb;grind
  have hready:∀ i∈Region.ready .any ops L,i=j:=by
   intro i hi;obtain⟨h1,h2,h3⟩:=aR0 hm hcl hi;have h4:¬ i<j:=λhij=>by grind
   rcases oG j i with hji|hji
   ·exfalso;have h5:=h3 j (aS5 hf h1 (by omega) hji);grind
   ·omega
  obtain⟨o,ho⟩:∃ o,ops[j]?=some o:=⟨ops[j],Array.getElem?_eq_getElem hj⟩;have hd:ops.toList.drop j=o::ops.toList.drop (j+1):=by
   rw[List.drop_eq_getElem_cons (by simpa using hj)];grind
  rw[hd]at h;unfold wpListIn at h;have ih:∀ a w,wpListIn (Fr ro) n P ops Q (ops.toList.drop (j+1)) a w->wpAnyIn (Fr ro) n P .any ops Q k (L.setIfInBounds j true) a w:=λa w h=>by
   refine aX6 hm hf k (j+1) _ a w (by omega) (by omega) (by simpa using hsz) (λi hi=>?_) h
   by_cases hij:j=i
   ·simp_all
   ·rw[getD_set_ne false hij,hL i hi]
    by_cases h2:i<j
    ·rw[oT h2,oT (by omega)]
    ·rw[oF h2,oF (by omega)]
  refine⟨λhr=>?_,λi hi=>?_⟩
  ·exfalso;have:j∈Region.ready .any ops L:=mem_ready.2 ⟨by
    have:=hL j hj;rw[oF (by omega)]at this;have hlt:j<L.size:=by omega
    simpa[Array.getD,hlt]using this,o,ho,λe he hb=>by
     have:=(aM7 hm ho).2 e he hb;rw[hL e.on (by omega)];exact oT this⟩
   rw[hr]at this;cases this
  ·have:=hready i hi;subst this;unfold wpOpIn;rw[ho];simp only
   by_cases hw:Region.wanted o (yielded ops a.tmps)=true
   ·rw[if_pos hw]at h ⊢;exact Oper.wpIn_mono ih h
   ·rw[if_neg hw]at h ⊢;exact⟨h.1,ih _ _ h.2⟩
theorem aZA {o y y'}(h:∀ g b,o.guard=some (g,b)->y g=y' g):Region.wanted o y=Region.wanted o y':=by
 unfold Region.wanted;grind
theorem aWF {l}(h:aTN l=true){i:Nat}{o}(ho:l[i]?=some o){g b}(hg:o.guard=some (g,b)):g<i:=by
 have:=List.all_eq_true.1 h i (List.mem_range.2 (oO.1 ho).1)
 simp_all
theorem a3O {ds:List Deferred} {Q1:Exit->Act->World->Prop} (hm:aGP (OO ops) 0 ops.toList=true) (hf:forced ops s=true) (hg:aTN ops.toList=true) (hnd:aQD ops=true) (hs:s<=ops.size)
  (hno:∀ e a w,Q1 e a w->e=.normal) (hQ:∀ a w,Q1 .normal a w->wpListIn (Fr ro) n P ops Q (ops.toList.drop s) (XI ds a) w) :
  ∀ (k:Nat) (L1 L:Array Bool) (a:Act) (w:World),L1.size=s->L.size=ops.size->(∀ i,i<s->L1.getD i false=L.getD i false)->(∀ i,s<=i->L.getD i false=false)->aIY (OO ops) (λi=>L.getD i false)->(List.range s).countP (λi=>!L.getD i false)=k ->
   wpAny P .any (ops.toList.take s).toArray Q1 k L1 a w->wpAnyIn (Fr ro) n P .any ops Q (k+(ops.size-s)) L (XI ds a) w
 | 0,L1,L,a,w,h1,h2,h3,h4,hc,hk,h=>by
  rw[Nat.zero_add];refine aX6 hm hf (ops.size-s) s L _ w (by omega) (oM _) h2 (λi hi=>?_) (hQ a w h.2)
  by_cases his:i<s
  ·rw[oT his];rw[List.countP_eq_zero]at hk;grind
  ·grind
 | k+1,L1,L,a,w,h1,h2,h3,h4,hc,hk,h=>by
  have hun:∃ i,i<s/\L.getD i false=false:=by
   have:0<(List.range s).countP (λi=>!L.getD i false):=by omega
   obtain⟨i,hi,hp⟩:=List.countP_pos_iff.1 this;grind
  obtain⟨i0,hi0,hu0⟩:=hun;rw[show k+1+(ops.size-s)=(k+(ops.size-s))+1 by omega];refine⟨λhr=>?_,λi hi=>?_⟩
  ·exfalso;have all:∀ i,i<ops.size->L.getD i false=true:=by
    intro i
    induction i using Nat.strongRecOn with
    | _ i ih =>
     intro hi;cases hli:L.getD i false with
     | true=>rfl
     | false =>
      obtain⟨o,ho⟩:∃ o,ops[i]?=some o:=⟨ops[i],Array.getElem?_eq_getElem hi⟩;have:i∈Region.ready .any ops L:=mem_ready.2 ⟨by
       have hlt:i<L.size:=by omega
       simpa[Array.getD,hlt]using hli,o,ho,λe he hb=>ih e.on ((aM7 hm ho).2 e he hb) (by have:=(aM7 hm ho).2 e he hb; omega)⟩
      grind
   grind
  ·obtain⟨hi1,hi2,hi3⟩:=aR0 hm hc hi;have his:i<s:=by
    rcases oG i s with h|h
    ·exact h
    ·have:=hi3 i0 (aS5 hf hi1 h (by omega));rw[hu0]at this; cases this
   obtain⟨_,o,ho,hdeps⟩:=mem_ready.1 hi;have hLi:L.getD i false=false:=by
    have hlt:i<L.size:=by omega
    simp only[Array.getD,hlt,dif_pos]at hi2 ⊢;exact hi2
   have hpre:∀ j,j<s->(ops.toList.take s).toArray[j]?=ops[j]?:=by
    intro j hj;simp only[List.getElem?_toArray,List.getElem?_take,hj,if_true,Array.getElem?_toList]
   have hready:i∈Region.ready .any (ops.toList.take s).toArray L1:=mem_ready.2 ⟨by
    have:=h3 i his;rw[hLi]at this;have hlt:i<L1.size:=by omega
    simpa[Array.getD,hlt]using this,o,by rw[hpre i his]; exact ho,λe he hb=>by
     have h5:=(aM7 hm ho).2 e he hb;rw[h3 e.on (by omega)];exact hdeps e he hb⟩
   have hop:=h.2 i hready;have hw:Region.wanted o (yielded (ops.toList.take s).toArray a.tmps)=Region.wanted o (yielded ops (XI ds a).tmps):=aZA λg b hgu=>by
    have hgi:=aWF hg (i:=i) (o:=o) (by simpa using ho) hgu;unfold yielded;rw[hpre g (by omega)];rfl
   have hset:∀ a w,wpAny P .any (ops.toList.take s).toArray Q1 k (L1.setIfInBounds i true) a w->wpAnyIn (Fr ro) n P .any ops Q (k+(ops.size-s)) (L.setIfInBounds i true) (XI ds a) w:=by
    intro a w h;have hLs:∀ j,j≠i->(L.setIfInBounds i true).getD j false=L.getD j false:=λj hj=>getD_set_ne false (λe=>hj e.symm)
    have hL1s:∀ j,j≠i->(L1.setIfInBounds i true).getD j false=L1.getD j false:=λj hj=>getD_set_ne false (λe=>hj e.symm)
    have hSi:(L.setIfInBounds i true).getD i false=true:=by
     have hlt:i<L.size:=by omega
     simp[Array.getD,hlt]
    have hS1i:(L1.setIfInBounds i true).getD i false=true:=by
     have hlt:i<L1.size:=by omega
     simp[Array.getD,hlt]
    refine a3O hm hf hg hnd hs hno hQ k _ _ a w (by simpa using h1) (by simpa using h2) ?_ ?_ ?_ ?_ h
    ·intro j hj
     by_cases hji:j=i
     ·subst hji; rw[hSi,hS1i]
     ·rw[hLs j hji,hL1s j hji,h3 j hj]
    ·intro j hj;rw[hLs j (by omega)]; exact h4 j hj
    ·intro j hj b hb;show (L.setIfInBounds i true).getD b false=true
     by_cases hbi:b=i
     ·subst hbi; exact hSi
     ·rw[hLs b hbi]
      by_cases hji:j=i
      ·subst hji; exact hi3 b hb
      ·have hj':L.getD j false=true:=by rw[<- hLs j hji]; exact hj
       exact hc j hj' b hb
    ·have:=aRE (p:=λi=>!L.getD i false) (p':=λj=>!(L.setIfInBounds i true).getD j false) (i:=i) (by simp only[hLi,Bool.not_false]) (by simp only[hSi,Bool.not_true]) (λj hj=>by simp only[hLs j hj]) s his;omega
   unfold wpOp at hop;rw[hpre i his,ho]at hop;simp only at hop;unfold wpOpIn;rw[ho];simp only;rw[hw]at hop
   by_cases hww:Region.wanted o (yielded ops (XI ds a).tmps)=true
   ·rw[if_pos hww]at hop ⊢;rcases hop with hop|⟨_,a0,w0,h0⟩
    ·exact aWC (aH3 hnd (by rw[<- Array.getElem?_toList]at ho; exact List.mem_of_getElem? ho)) hset (λch a w h=>by cases hno _ a w h) (λa w h=>by cases hno _ a w h) hop
    ·cases hno _ a0 w0 h0
   ·rw[if_neg hww]at hop ⊢;refine⟨λ_ _=>trivial,?_⟩;rw[aGQ];exact hset _ _ hop
theorem X1 {F Q1 l2}(hno:∀ e a w,Q1 e a w->e=.normal)(hQ:∀ a w,Q1 .normal a w->wpListIn F n P ops Q l2 a w):∀ {l1 a w},wpListIn F n P ops Q1 l1 a w->wpListIn F n P ops Q (l1++l2) a w
 | [],a,w,h=>hQ a w h
 | o::l1,a,w,h=>by
  rw[List.cons_append];unfold wpListIn at h ⊢;split at h
  ·rename_i hw;rw[if_pos hw];refine⟨h.1,?_⟩;have h2:=h.2;generalize (o.semAt F.round a.eval).run P w=r at h2 ⊢;cases r with
   | ok x w' =>
    cases x with
    | value v=>exact X1 hno hQ h2
    | skip=>exact X1 hno hQ h2
    | defer d=>exact X1 hno hQ h2
    | enter f args =>
     refine⟨h2.1,CallsIn.mono h2.2 ?_⟩;rintro e w'' he;cases e with
     | returned v=>exact X1 hno hQ he
     | panicked ch=>cases hno _ _ _ he
     | outgrown=>obtain⟨a0,w0,h0⟩:=he; cases hno _ _ _ h0
    | row row args=>exact⟨h2.1,RowsIn.mono h2.2 λv w'' he=>X1 hno hQ he⟩
    | round l f t as1 b =>
     refine⟨h2.1,RoundIn.mono h2.2 ?_⟩;rintro e w'' he;cases e with
     | returned v=>exact X1 hno hQ he
     | panicked ch=>cases hno _ _ _ he
     | outgrown=>obtain⟨a0,w0,h0⟩:=he; cases hno _ _ _ h0
    | _=>exact h2.elim
   | halt x w' =>
    cases x <;> first|(cases hno _ _ _ h2; done)|exact h2.elim
  ·rename_i hw;rw[if_neg hw];exact⟨h.1,X1 hno hQ h.2⟩
end
section
variable {P:Program} {E:Env} {nt:Nat} {F F':Frm} {H H':Heap} {ops:Array Oper} {s:Nat}
theorem aWA(hcl:BM P (NM P E)) (hP:P.follows .mixedOrders=true) {id:Nat} {draw:Bool} (hsp:aKI ops s=true)
  (hrun:(bif draw then aIC P (NM P E) nt (ops.toList.take s).toArray F H else aFD P (NM P E) nt ops.toList (ops.toList.take s) F H)=some (F',H'))
  {ro:Option Nat} {n:Nat} {n0:Nat->Prop} {wi:World} {Gi:Gd} {μi:Mp} {a:Act} {w:World} {ds:List Deferred} {Q:Exit->Act->World->Prop} (hI:I n0 wi Gi μi nt F H a w)
  (hQ:∀ a' w',I n0 wi Gi μi nt F' H' a' w'->wpListIn (Fr ro) n P ops Q (ops.toList.drop s) (XI ds a') w'):(Code.region id ops draw).wpIn (Fr ro) n P Q (XI ds a) w:=by
 simp only[aKI,oA]at hsp;obtain⟨⟨⟨⟨hm,hf⟩,hg⟩,hnd⟩,hs⟩:=hsp;have hs:=oL hs;cases draw with
 | true =>
  have h1:=aMG (Q:=λe a' w'=>e=.normal/\I n0 wi Gi μi nt F' H' a' w') hcl hrun hI (λa' w' h=>⟨rfl,h⟩);refine wpIn_region_any hP ?_;have hsz:(ops.toList.take s).toArray.size=s:=by simp[List.length_take]; omega
  rw[hsz]at h1;have hfalse:∀ m j,(Array.replicate m false).getD j false=false:=λm j=>by
   simp only[Array.getD]
   simp_all
  have:=a3O (n:=n) (ro:=ro) (ds:=ds) (Q:=Q) hm hf hg hnd hs (λe a w h=>h.1) (λa w h=>hQ a w h.2) s (Array.replicate s false) (Array.replicate ops.size false) a _ (by simp) (by simp) (λi _=>by rw[hfalse,hfalse]) (λi _=>hfalse _ i) (λj hj b hb=>by
   have:(Array.replicate ops.size false).getD j false=true:=hj;rw[hfalse]at this; cases this) (by
   rw[List.countP_eq_length.2]
   ·simp
   ·intro i _;rw[hfalse]; rfl) h1
  grind
 | false =>
  refine wpIn_region_list ?_;rw[<- List.take_append_drop s ops.toList];have h1:=YG (Q:=λe a' w'=>e=.normal/\I n0 wi Gi μi nt F' H' a' w') hcl (ops.toList.take s) F H a w hrun hI (λa' w' h=>⟨rfl,h⟩);have h2:=aPL (ro:=ro) (n:=n) (ds:=ds) (Q':=λe a' w'=>e=.normal/\wpListIn (Fr ro) n P ops Q (ops.toList.drop s) a' w') (λa w h=>by cases h.1) (λe a w h=>⟨h.1,hQ a w h.2⟩) (λo ho=>aH3 hnd (List.mem_of_mem_take ho)) h1
  exact X1 (λe a w h=>h.1) (λa w h=>h.2) h2
end
def Sg(Φ:(Nat->Prop)->(Nat->Prop)->World->Prop) (G0 G:Gd) (μ:Mp) (H:Heap) (A:World):Prop :=
 ∃ (T X:Nat->Prop) (B:World) (GB:Gd) (μB:Mp),Φ T X B/\(∀ b,X b->T b)/\(∀ b,T b->b<B.heap.size)/\(∀ b,GB b->G0 b\/T b)/\(∀ b,G0 b->GB b) /\
  Ext (λb=>X b\/B.heap.size<=b) B GB μB A G μ/\eA (λb=>X b\/B.heap.size<=b) G μ H A
def GF(sl:List Nat) (F:Frm):Frm:=sl.map λt=>(t,iL F t)
def aOI:Code->List (Nat×Array Oper)
 | .seq a b=>aOI a++aOI b
 | .cond _ a b=>aOI a++aOI b
 | .block _ a=>aOI a
 | .loop a=>aOI a
 | .region id ops _=>[(id,ops)]
 | _=>[]
def a6M:List (Nat×Array Oper)->Nat->Array Oper
 | [],_=>#[]
 | (j,o)::r,i=>bif Nat.beq j i then o else a6M r i
def SY(c:Code)(i:Nat):Array Oper:=a6M (aOI c) i
def VS(c:Code)(i j:Nat):Oper:=(SY c i).toList.getD j default
def aKA(o:Oper):Call:=match o.op with
 | .call c=>c
 | _=>{ callee:=.value (.const undef),args:=#[],argTypes:=#[] }
section
variable {P:Program} {Φ:(Nat->Prop)->(Nat->Prop)->World->Prop} {G0 G G':Gd} {μ μ':Mp} {H H':Heap} {A A' W:World} {F F':Frm} {nt n:Nat} {a:Act}
theorem Sg.start {J g0}(hlt:Lt W g0)(h:J (λ_=>False) (λ_=>False) W):Sg J (Gd.of g0) (Gd.of g0) aZ [] W :=
 ⟨_,_,W,Gd.of g0,aZ,h,λb h=>h,λb h=>h.elim,λb h=>.inl h,λb h=>h,Ext.refl _ _ _ _,λr k b h=>by grind,λr k g h=>by grind,λr s k l b h=>by simp,hlt,λ_ _=>⟨rfl,rfl⟩,λb hb=>.inr hb,qO.none _ _ (λ_=>rfl) _ _ (λr k h=>by grind)⟩
theorem Sg.open_ (h:Sg Φ G0 G μ H A):∃ n0,eA n0 G μ H A/\(∀ b,G0 b->G b)/\∀ A' G' μ' H',Ext n0 A G μ A' G' μ'->eA n0 G' μ' H' A'->Sg Φ G0 G' μ' H' A':=by
 obtain⟨T,X,B,GB,μB,h1,h2,h3,h4,h5,h6,h7⟩:=h;exact⟨_,h7,λb hb=>(h6.good b (h5 b hb)).1,λA' G' μ' H' e w=>⟨T,X,B,GB,μB,h1,h2,h3,h4,h5,h6.trans e,w⟩⟩
theorem Sg.renamed (h:Sg Φ G0 G μ H A) (hs:∀ n0,eA n0 G μ H A->eA n0 G μ' H' A):Sg Φ G0 G μ' H' A:=by
 obtain⟨T,X,B,GB,μB,h1,h2,h3,h4,h5,h6,h7⟩:=h;refine⟨T,X,B,GB,aZ,h1,h2,h3,h4,h5,?_,hs _ h7⟩;exact { good:=h6.good,map:=λ_ _ h=>(by cases h),len:=λ_ _ h=>(by cases h),room:=h6.room,row:=h6.row,os:=h6.os,tape:=h6.tape,output:=h6.output,size:=h6.size,old:=h6.old,new:=h6.new }
theorem Sg.stp (h:Sg Φ G0 G μ H A):∃ T X B,Stp X B A/\Φ T X B:=by
 obtain⟨T,X,B,GB,μB,h1,h2,h3,h4,h5,h6,h7⟩:=h;exact⟨T,X,B,⟨λb hb hx=>h6.old b hb (by grind),h6.room,h6.os,h6.tape,h6.output,h6.size⟩,h1⟩
theorem Sg.freeze (h:Sg Φ G0 G μ H A) {r:Nat} {k:Blk} (hr:H[r]?=some (some k)) (hf:k.frozen=false):Sg Φ G0 (G.or λx=>μ.loc r=some x) μ (H.set r (some { k with frozen:=true })) A/\Mono A G μ A (G.or λx=>μ.loc r=some x) μ:=by
 obtain⟨n0,hW,_,hS⟩:=h.open_;obtain⟨e,w⟩:=vU hW hr hf;exact⟨hS _ _ _ _ e w,e.toMono⟩
theorem Sg.a8F {k:Blk} {H:Heap} (h:Sg Φ G0 G μ (some k::H) A) (ht:k.tag.isSome=true):Sg Φ G0 G (uP μ [0]) [some k] A:=by
 refine h.renamed λn0 hW=>JS hW rfl ?_
 simp only[C0,fO,List.getElem?_cons_zero,ht,oC]
theorem aZR {B GB μB}(hm:Mono A G μ B GB μB)(htop:∀ r,1<=r->μ.loc r=none/\μ.len r=none):Mono A G μ B GB (uP μB [0]):=by
 refine⟨hm.good,?_,?_,hm.room,hm.row,?_⟩
 ·intro r b hr;cases r with
  | zero=>exact hm.map 0 b hr
  | succ r=>grind
 ·intro r b hr;cases r with
  | zero=>exact hm.len 0 b hr
  | succ r=>grind
 ·intro r b hr;cases r with
  | zero=>exact hm.sh 0 b hr
  | succ r=>grind
theorem DD t:∀ sl ,iL (GF sl F) t=iL F t\/iL (GF sl F) t=.junk
 | []=>.inr rfl
 | s::sl=>by
  show iL ((s,iL F s)::GF sl F) t=iL F t\/iL ((s,iL F s)::GF sl F) t=.junk;rw[uD]
  by_cases hs:t=s
  ·grind
  ·rw[if_neg hs]; exact DD t sl
theorem qJ.pick (h:qJ A G μ nt F a) sl:qJ A G μ nt (GF sl F) a:=⟨h.size,λt=>by
 rcases DD t sl with h1|h1
 ·rw[h1]; exact h.slot t
 ·rw[h1,VR]; simp,h.defers⟩
theorem VL {E:Env} (hcl:BM P (NM P E)) (hP:P.follows .mixedOrders=true) {id:Nat} {ops:Array Oper} {draw:Bool} {sl:List Nat} (h:TR P E nt ops draw F H (λF H=>some (GF sl F,H))=some (F',H'))
  {Q:Exit->Act->World->Prop} (hS:Sg Φ G0 G μ H A) (hF:qJ A G μ nt F a) (hQ:∀ G' μ' a' A',Sg Φ G0 G' μ' H' A'->Mono A G μ A' G' μ'->qJ A' G' μ' nt F' a'->Q .normal a' A') :
  (Code.region id ops draw).wpIn Fence.wide n P Q a A:=by
 obtain⟨F1,H1,h1,h2⟩:=aN5 (id:=id) hcl hP h;obtain⟨rfl,rfl⟩:=h1;obtain⟨n0,hW,_,hS2⟩:=hS.open_;refine wpIn_wide.2 (h2 (n0:=n0) (wi:=A) (Gi:=G) (μi:=μ) ⟨G,μ,Ext.refl _ _ _ _,hW,hF⟩ ?_);rintro a' A' ⟨G',μ',e,hW',hF'⟩;exact hQ G' μ' a' A' (hS2 _ _ _ _ e hW') e.toMono (hF'.pick sl)
theorem a27 {E:Env} (hcl:BM P (NM P E)) (hP:P.follows .mixedOrders=true) {id s:Nat} {ops:Array Oper} {draw:Bool} {sl:List Nat} (hsp:aKI ops s=true)
  (h:(bif draw then TR P E nt (ops.toList.take s).toArray true F H (λF H=>some (GF sl F,H)) else aF1 P E nt ops.toList (ops.toList.take s) F H (λF H=>some (GF sl F,H)))=some (F',H'))
  {Q:Exit->Act->World->Prop} (hS:Sg Φ G0 G μ H A) (hF:qJ A G μ nt F a) (hQ:∀ G' μ' a' A',Sg Φ G0 G' μ' H' A'->Mono A G μ A' G' μ'->qJ A' G' μ' nt F' a'->wpListIn Fence.wide n P ops Q (ops.toList.drop s) a' A') :
  (Code.region id ops draw).wpIn Fence.wide n P Q a A:=by
 obtain⟨F1,hrun,hF1⟩:∃ F1,(bif draw then aIC P (NM P E) nt (ops.toList.take s).toArray F H else aFD P (NM P E) nt ops.toList (ops.toList.take s) F H)=some (F1,H')/\GF sl F1=F':=by
  cases draw with
  | true =>
   obtain⟨F1,H1,h2,h3⟩:=aKD h;grind
  | false =>
   obtain⟨F1,H1,h2,h3⟩:=aCD h;grind
 obtain⟨n0,hW,_,hS2⟩:=hS.open_;have:=aWA (ro:=none) (n:=n) (ds:=[]) (Q:=Q) hcl hP (id:=id) hsp hrun (n0:=n0) (wi:=A) (Gi:=G) (μi:=μ) (a:=a) (w:=A) ⟨G,μ,Ext.refl _ _ _ _,hW,hF⟩ (λa' w' h=>by
  obtain⟨G',μ',e,hW',hF'⟩:=h;have e1:XI [] a'=a':=by simp[XI]
  rw[e1];rw[<- hF1]at hQ;exact hQ G' μ' a' w' (hS2 _ _ _ _ e hW') e.toMono (hF'.pick sl))
 have e1:XI [] a=a:=by simp[XI]
 rw[e1]at this;exact this
theorem aJH {E} (hcl:BM P (NM P E)) (hP:P.follows .mixedOrders=true) {id s ops sl} (hsp:aKI ops s=true)
  (h:TR P E nt (ops.toList.take s).toArray true F H (λF H=>some (GF sl F,H))=some (F',H'))
  {Q} (hS:Sg Φ G0 G μ H A) (hF:qJ A G μ nt F a) (hQ:∀ G' μ' a' A',Sg Φ G0 G' μ' H' A'->Mono A G μ A' G' μ'->qJ A' G' μ' nt F' a'->wpListIn Fence.wide n P ops Q (ops.toList.drop s) a' A') :
  (Code.region id ops true).wpIn Fence.wide n P Q a A:=a27 (draw:=true) hcl hP hsp h hS hF hQ
theorem Sg.yield {ks:List Kd} {l:Nat} {all:List (aL ks)} {J Jx:List (aL ks)->(Nat->Prop)->(Nat->Prop)->World->Prop}
  (hY:∀ pre e post T X B T' X' A us Gx m',all=pre++e::post->J pre T X B->Stp X B A->(∀ b,T' b->(T b\/B.heap.size<=b)/\b<A.heap.size)->(∀ b,X' b->T' b/\(X b\/B.heap.size<=b)) ->
   (∀ b,Gx b->(G0 b\/T' b)/\¬ X' b)->VRs A (Gd.of Gx) aZ (MU ks e) us ->
   YieldAt Fence.wide m' P l us.toArray A λen C =>
    ((∀ b,b<A.heap.size->G0 b\/T' b->C.heap[b]?=A.heap[b]?)/\(∀ b n,Room A b n->Room C b n)/\A.heap.size<=C.heap.size)/\((en=.returned (.bool true)/\J (pre++[e]) T' X' C)\/(en=.returned (.bool false)/\Jx (pre++[e]) T' X' C)))
  {pre post:List (aL ks)} {e:aL ks} (hall:all=pre++e::post) {us:List Value} (h:Sg (J pre) G0 G μ H A) (hus:VRs A G aZ (MU ks e) us) (hpl:iM.noRows (MU ks e)=true) (m':Nat) :
  YieldAt Fence.wide m' P l us.toArray A λen C=>Mono A G μ C G μ/\((en=.returned (.bool true)/\Sg (J (pre++[e])) G0 G μ H C)\/(en=.returned (.bool false)/\Sg (Jx (pre++[e])) G0 G μ H C)):=by
 obtain⟨T,X,B,GB,μB,h1,h2,h3,h4,h5,h6,h7⟩:=h;obtain⟨T',hT'⟩:∃ T':Nat->Prop,T'=λb=>T b\/(B.heap.size<=b/\b<A.heap.size):=⟨_,rfl⟩
 obtain⟨X',hX'⟩:∃ X':Nat->Prop,X'=λb=>(∃ r k,H[r]?=some (some k)/\k.frozen=false/\μ.loc r=some b)\/∃ j,G.row j=some b:=⟨_,rfl⟩
 have hGT:∀ b,G b->G0 b\/T' b:=by
  intro b hb;have hlt:=h7.lt b hb;rw[hT'];rcases h6.new b hb with h|h|h
  ·grind
  ·grind
  ·grind
 have hXT:∀ b,X' b->T' b/\(X b\/B.heap.size<=b)/\¬ G b:=by
  intro b hb;rw[hX']at hb;rcases hb with ⟨r,k,g1,g2,g3⟩|⟨j,hj⟩
  case inr =>
   obtain⟨s1,s2,s3,_⟩:=h7.rows.sep j b hj;grind
  obtain⟨c,q1,_,_,_,q5⟩:=h7.blk r k b g1 g3;grind
 have hst:Stp X B A:=⟨λb hb hx=>h6.old b hb (by rintro(h|h); exact hx h; omega),h6.room,h6.os,h6.tape,h6.output,h6.size⟩;obtain⟨fn,tmps,as1,body,y1,y2⟩:=hY pre e post T X B T' X' A us G.ok m' hall h1 hst (λb hb=>by
  rw[hT']at hb;rcases hb with hb|hb
  ·exact⟨.inl hb,Nat.lt_of_lt_of_le (h3 b hb) h6.size⟩
  ·exact⟨.inr hb.1,hb.2⟩) (λb hb=>⟨(hXT b hb).1,(hXT b hb).2.1⟩) (λb hb=>⟨hGT b hb,λhx=>(hXT b hx).2.2 hb⟩) (pO (G:=G) (G':=Gd.of G.ok) (λb h=>h) _ _ _ hpl hus)
 refine⟨fn,tmps,as1,body,y1,y2.mono ?_⟩;rintro en C ⟨⟨k1,k2,k3⟩,hout⟩;have hgood:∀ b,G b->C.heap[b]?=A.heap[b]?:=λb hb=>k1 b (h7.lt b hb) (hGT b hb)
 have hmono:Mono A G μ C G μ:=⟨λb hb=>⟨hb,hgood b hb⟩,λ_ _ h=>h,λ_ _ h=>h,k2,λ_ _ h=>h,λ_ _ _=>rfl⟩;have hTs:∀ b,T' b->b<C.heap.size:=by
  intro b hb;rw[hT']at hb;rcases hb with hb|hb
  ·have:=h3 b hb; have:=h6.size; omega
  ·omega
 have hwinv:eA (λb=>X' b\/C.heap.size<=b) G μ H C:=by
  refine⟨?_,h7.tags,h7.inj,h7.lt.step (λb hb=>⟨hb,hgood b hb⟩) λb hb=>Nat.lt_of_lt_of_le (h7.lt b hb) k3,h7.top,λb hb=>.inr hb,(h7.rows.DL (n1:=λb=>X' b\/C.heap.size<=b) λj b hj _=>.inl (by rw[hX']; exact .inr ⟨j,hj⟩)).step hmono.aZ k3 (λ_=>rfl) (λj b hj=>⟨?_,id,λr k h1 h2 h3=>⟨r,k,h1,h2,h3⟩⟩) (λr k _ _ h1 _ _=>⟨k,h1,rfl,rfl,rfl,rfl⟩)⟩
  case refine_2 =>
   exact k1 b (h7.rows.sep j b hj).1 (.inr (hXT b (by rw[hX']; exact .inr ⟨j,hj⟩)).1)
  intro r k b hr hb;obtain⟨c,q1,q2,q3,q4,q5⟩:=h7.blk r k b hr hb;have hx:k.frozen=false->X' b:=λhf=>by rw[hX']; exact .inl ⟨r,k,hr,hf,hb⟩
  have heq:C.heap[b]?=A.heap[b]?:=by
   cases hf:k.frozen with
   | true=>exact hgood b (q4 hf)
   | false=>exact k1 b (h7.GQ hr hb) (.inr (hXT b (hx hf)).1)
  exact⟨c,heq.trans q1,aK.mono hmono heq _ _ q2,q3,q4,λhf=>⟨.inl (hx hf),(q5 hf).2⟩⟩
 have key:∀ {Ψ:(Nat->Prop)->(Nat->Prop)->World->Prop},Ψ T' X' C->Sg Ψ G0 G μ H C:=λhψ =>
  ⟨T',X',C,G,μ,hψ,λb hb=>(hXT b hb).1,hTs,hGT,λb hb=>(h6.good b (h5 b hb)).1,Ext.refl _ _ _ _,hwinv⟩
 refine⟨hmono,?_⟩;rcases hout with ⟨rfl,hj⟩|⟨rfl,hj⟩
 ·exact .inl ⟨rfl,key hj⟩
 ·exact .inr ⟨rfl,key hj⟩
variable {ops:Array Oper} {Q:Exit->Act->World->Prop}
theorem a4F {o:Oper} {c:Call} {f:Operand} {rest:List Oper} {l:Nat} {us:Array Value} {R:Ending->World->Prop} (ho:o.op=.call c) (hc:c.callee=.value f) (hw:Region.wanted o (yielded ops a.tmps)=true) (hf:a.eval f=.func (.yield l) #[] #[]) (hargs:c.args.map a.eval=us)
  (hy:∀ m',YieldAt Fence.wide m' P l us A R) (hR:∀ en C,R en C->∃ v,en=.returned v/\wpListIn Fence.wide n P ops Q rest (a.put o.dst v) C):wpListIn Fence.wide n P ops Q (o::rest) a A:=by
 obtain⟨fn,tmps,as1,body,y1,y2⟩:=hy (n-1);unfold wpListIn;rw[if_pos hw];refine⟨λ_ _=>trivial,?_⟩;have hs:(o.semAt none a.eval).run P A=.ok (.round l fn tmps as1 body) A:=by
  rw[Oper.semAt_none];simp[execOp,ho,resolve,hc,hf,hargs,Deferred.ofValue,Sem.run_bind,Sem.run_pure,Result.andThen_ok,invoke,y1]
 show Oper.uponIn Fence.wide n P o a _ Q ((o.semAt none a.eval).run P A);rw[hs];refine⟨λh=>(by cases h),y2.mono ?_⟩;grind
theorem aX5 {o:Oper} {c:Call} {f:Operand} {rest:List Oper} {g:FuncId} {caps us:Array Value} {R:Ending->World->Prop} (ho:o.op=.call c) (hc:c.callee=.value f) (hw:Region.wanted o (yielded ops a.tmps)=true) (hf:a.eval f=.func (.func g) #[] caps) (hargs:c.args.map a.eval++caps=us)
  (hen:(callFunc g us).run P A=.ok (.enter g us) A) (hy:∀ m',CallsIn Fence.wide m' P g us A R) (hR:∀ en C,R en C->∃ v,en=.returned v/\wpListIn Fence.wide n P ops Q rest (a.put o.dst v) C):wpListIn Fence.wide n P ops Q (o::rest) a A:=by
 unfold wpListIn;rw[if_pos hw];refine⟨λ_ _=>trivial,?_⟩;have hs:(o.semAt none a.eval).run P A=.ok (.enter g us) A:=by
  rw[Oper.semAt_none];simp[execOp,ho,resolve,hc,hf,hargs,Deferred.ofValue,Sem.run_bind,Sem.run_pure,Result.andThen_ok,invoke,hen]
 show Oper.uponIn Fence.wide n P o a _ Q ((o.semAt none a.eval).run P A);rw[hs];refine⟨λh=>(by cases h),(hy (n-1)).mono ?_⟩;grind
theorem a0Q {o:Oper} {rest:List Oper} (hw:Region.wanted o (yielded ops a.tmps)=false) (h:wpListIn Fence.wide n P ops Q rest (a.put o.dst undef) A):wpListIn Fence.wide n P ops Q (o::rest) a A:=by
 unfold wpListIn;rw[if_neg (by rw[hw]; decide)];exact⟨λ_ _=>trivial,h⟩
theorem aPT {E:Env} (hcl:BM P (NM P E)) {l:List Oper} {sl:List Nat} (h:aF1 P E nt ops.toList l F H (λF H=>some (GF sl F,H))=some (F',H')) (hnd:(l.all λo=>!aSS o.op)=true)
  (hS:Sg Φ G0 G μ H A) (hF:qJ A G μ nt F a) (hQ:∀ G' μ' a' A',Sg Φ G0 G' μ' H' A'->Mono A G μ A' G' μ'->qJ A' G' μ' nt F' a'->Q .normal a' A'):wpListIn Fence.wide n P ops Q l a A:=by
 obtain⟨F1,H1,hrun,h3⟩:=aCD h;simp only[oJ,oP]at h3;obtain⟨hF1,rfl⟩:=h3;obtain⟨n0,hW,_,hS2⟩:=hS.open_;have h1:=YG (Q:=λe a' w'=>e=.normal/\I n0 A G μ nt F1 H1 a' w') hcl l F H a A hrun ⟨G,μ,Ext.refl _ _ _ _,hW,hF⟩ (λa' w' h=>⟨rfl,h⟩);have h2:=aPL (ro:=none) (n:=n) (ds:=[]) (Q':=Q) (λa w h=>by cases h.1) (λe a' w' h=>by
  obtain⟨rfl,G',μ',e,hW',hF'⟩:=h;have e1:XI [] a'=a':=by simp[XI]
  rw[e1];rw[<- hF1]at hQ;exact hQ G' μ' a' w' (hS2 _ _ _ _ e hW') e.toMono (hF'.pick sl)) (λo ho c hc=>by
  have:=List.all_eq_true.1 hnd o ho;rw[hc]at this;cases this) h1
 have e1:XI [] a=a:=by simp[XI]
 rw[e1]at h2;exact h2
theorem YP {t b}(hF:qJ A G μ nt F a)(h:iL F t=.lit (.bool b)):a.eval (.tmp t)=.bool b:=by
 have:=hF.slot t;rw[h,VR]at this;exact this
theorem aTD {t v}(hF:qJ A G μ nt F a)(h:iL F t=.lit v):a.eval (.tmp t)=v:=by
 have:=hF.slot t;rw[h,VR]at this;exact this
theorem aQT(a:Act)(t:Nat):(#[Operand.tmp t]).map a.eval=#[a.tmps.getD t undef]:=by
 simp only[List.map_toArray];rfl
theorem aRK {o y}(h:o.guard=none):Region.wanted o y=true:=by
 unfold Region.wanted;grind
end
structure L4 (Y:Type) where
 sh:List (Nat×Kd)
 exits:List (Ex×List (Nat×Kd))
 run:Shape.den sh->Option (List Y×fR exits)
section
variable {α:Type} (P:Program) (E:Env) (nt keep:Nat) (lt:Nat->Option C8) (ks:List Kd) (li:Nat->Option (L4 (Value×aL ks)))
end
section
variable {P:Program} {E:Env} {nt keep:Nat} {lt:Nat->Option C8} {ks:List Kd} {li:Nat->Option (L4 (Value×aL ks))}
variable {Φ:(Nat->Prop)->(Nat->Prop)->World->Prop} {G0 G G':Gd} {μ μ':Mp} {H H':Heap} {A A' W:World} {F F':Frm} {n:Nat} {a:Act}
end
end Go.PM
namespace Go.PM
open Go
theorem aG i n:aF i n=decide (0<=i/\i<n):=by
 cases i with
 | ofNat m =>
  show Nat.blt m n=_;rw[bE];simp
 | negSucc m =>
  rfl
theorem bY(m n:Nat):Nat.ble m n=decide (m<=n):=by
 cases h:Nat.ble m n with
 | true=>simp_all
 | false =>
  refine(oF λhl=>?_).symm;rw[Nat.ble_eq_true_of_le hl]at h;grind
theorem wrap64 {x}(h1 : -9223372036854775808<=x)(h2:x<9223372036854775808):aB .i64 x=x:=by
 cases x with
 | ofNat m =>
  have:m<9223372036854775808:=by grind
  unfold aB;simp only[bE,oT this,oC]
 | negSucc m =>
  have:m<9223372036854775808:=by omega
  unfold aB;simp only[bE,oT this,oC]
theorem aT(i:Nat)(h:i<9223372036854775807):aB .i64 (i+1)=((i+1:Nat)):=by rw[wrap64 (by omega) (by omega)]; rfl
theorem uO {x}(h1 : -9223372036854775808<=x)(h2:x<9223372036854775808):IntKind.wrap .i64 x=x:=by rw[<- BL]; exact wrap64 h1 h2
theorem aN {α:Type} p [Decidable p](a b:α):(bif decide p then a else b)=if p then a else b:=by simp
theorem aD {τ α} x (k:τ->Option α):aC (some x) k=k x:=rfl
theorem eV p [Decidable p]:(!decide p)=decide (¬ p):=by simp
theorem pN {β γ α}(z:β) f (g:γ->Option α):iB (.inl z) f g=f z:=rfl
theorem eG {β γ α}(z:γ)(f:β->Option α) g:iB (.inr z) f g=g z:=rfl
section
variable {σ τ:Type} {step:σ->Option (σ⊕τ)}
theorem aV n x:aO step (n+1) x=match step x with
  | some (.inl y)=>aO step n y
  | some (.inr z)=>some z
  | none=>none:=rfl
theorem vS(F:Nat->σ) k:∀ m j,(∀ i,j<=i->i<j+m->step (F i)=some (.inl (F (i+1))))->aO step (m+k) (F j)=aO step k (F (j+m))
 | 0,j,_=>by simp
 | m+1,j,h=>by
  rw[Nat.add_right_comm,aV,h j (oM _) (by simp)];show aO step (m+k) (F (j+1))=_;rw[vS F k m (j+1) λi h1 h2=>h i (by omega) (by omega)];grind
theorem aQ {N:Nat} (F:Nat->σ) (m:Nat) (z:τ) (hN:m<N) (h:∀ i,i<m->step (F i)=some (.inl (F (i+1)))) (he:step (F m)=some (.inr z)):aO step N (F 0)=some z:=by
 obtain⟨k,rfl⟩:∃ k,N=m+(k+1):=⟨N-m-1,by omega⟩;rw[vS F (k+1) m 0 (λi _ h2=>h i (by omega)),Nat.zero_add,aV,he]
theorem wI(F:Nat->σ) (stop:Nat->Option τ) (z:τ) (k:Nat):∀ (m j:Nat),(∀ i,j<=i->i<j+m->step (F i)=some (match stop i with|some y=>.inr y|none=>.inl (F (i+1))))->step (F (j+m))=some (.inr z) ->
   aO step (m+(k+1)) (F j)=some (((List.range' j m).findSome? stop).getD z)
 | 0,j,_,he=>by rw[Nat.zero_add,aV,show F j=F (j+0) from rfl,he]; rfl
 | m+1,j,h,he=>by
  rw[Nat.add_right_comm,aV,h j (oM _) (by omega),List.range'_succ,List.findSome?_cons];cases hs:stop j with
  | some y=>rfl
  | none =>
   show aO step (m+(k+1)) (F (j+1))=_;exact wI F stop z k m (j+1) (λi h1 h2=>h i (by omega) (by omega)) (by rw[<- he]; congr 2; omega)
theorem j8 {N}(F:Nat->σ) stop m z (hN:m<N)(h:∀ i,i<m->step (F i)=some (match stop i with|some y=>.inr y|none=>.inl (F (i+1))))(he:step (F m)=some (.inr z)) :
  aO step N (F 0)=some (((List.range m).findSome? stop).getD z):=by
 obtain⟨k,rfl⟩:∃ k,N=m+(k+1):=⟨N-m-1,by omega⟩;rw[List.range_eq_range'];exact wI F stop z k m 0 (λi _ h2=>h i (by omega)) (by grind)
end
open Go Go.RowKit
section
variable {P:Program} {n0:Nat->Prop} {w w':World} {G G':Gd} {μ μ1:Mp} {H H1:Heap}
def aES(μ μ1:Mp)(h:Nat):Mp:=⟨λr=>if r<h then μ.loc r else μ1.loc (r-h),λr=>if r<h then μ.len r else μ1.len (r-h),λr=>if r<h then μ.sh r else μ1.sh (r-h)⟩
theorem WD {h r}(hr:r<h):(aES μ μ1 h).loc r=μ.loc r/\(aES μ μ1 h).len r=μ.len r/\(aES μ μ1 h).sh r=μ.sh r:=by simp[aES,hr]
theorem XH {h r}(hr:h<=r):(aES μ μ1 h).loc r=μ1.loc (r-h)/\(aES μ μ1 h).len r=μ1.len (r-h)/\(aES μ μ1 h).sh r=μ1.sh (r-h):=by
 have:¬ r<h:=by omega
 simp[aES,this]
theorem aYH(hW:eA n0 G μ H w)(e:Ext (OL w) w G.bare aZ w' G' μ1):Ext n0 w G μ w' (G'.with G) (aES μ μ1 H.length):={
 good:=e.good
 map:=λr b hr=>by
  rcases oG r H.length with hl|hl
  ·rw[(WD hl).1]; omega
  ·rw[(hW.top r hl).1]at hr; grind
 len:=λr b hr=>by
  rcases oG r H.length with hl|hl
  ·rw[(WD hl).2.1]; omega
  ·rw[(hW.top r hl).2]at hr; grind
 sh:=λr b hr=>by
  rcases oG r H.length with hl|hl
  ·exact(WD hl).2.2
  ·rw[(hW.top r hl).1]at hr; cases hr
 room:=e.room
 row:=λ_ _ h=>h
 os:=e.os
 tape:=e.tape
 output:=e.output
 size:=e.size
 old:=λb hb _=>e.old b hb (Nat.not_le.2 hb)
 new:=λb hb=>by
  rcases e.new b hb with h|h
  ·exact .inl h
  ·exact .inr (hW.base b h) }
theorem a15(hW:eA n0 G μ H w)(e:Ext (OL w) w G.bare aZ w' G' μ1)(h1:eA (OL w) G' μ1 H1 w')(ht:aKB H1=true)(hp:∀ (r:Nat) k,H1[r]?=some (some k)->iM.noRows k.cells=true/\∀ t l,k.tag≠some ⟨.rows t,l⟩):eA n0 (G'.with G) (aES μ μ1 H.length) (H++H1) w':=by
 have e':=aYH hW e;have key:∀ (r:Nat) (k:Blk),(H++H1)[r]?=some (some k)->(r<H.length/\H[r]?=some (some k))\/(H.length<=r/\H1[r-H.length]?=some (some k)):=by
  intro r k hr;rcases oG r H.length with hl|hl
  ·rw[List.getElem?_append_left hl]at hr; exact .inl ⟨hl,hr⟩
  ·rw[List.getElem?_append_right hl]at hr; exact .inr ⟨hl,hr⟩
 refine⟨?_,?_,?_,h1.lt,?_,λb hb=>hW.base b (oR e.size hb),hW.rows.step e'.toMono.aZ e.size (λ_=>rfl) (λj b hj=>?_) (λr k t l hr hg htg=>?_)⟩
 case refine_5 =>
  have hlt:=(hW.rows.sep j b hj).1;refine⟨e.old b hlt (Nat.not_le.2 hlt),λhg=>?_,λr k hr hf hl=>?_⟩
  ·rcases e.new b hg with h|h
   ·exact h
   ·exact absurd hlt (Nat.not_lt.2 h)
  ·rcases key r k hr with ⟨hl2,hr⟩|⟨hl2,hr⟩
   ·rw[(WD hl2).1]at hl; exact⟨r,k,hr,hf,hl⟩
   ·rw[(XH hl2).1]at hl;obtain⟨_,_,_,_,_,a5⟩:=h1.blk _ k b hr hl;exact absurd hlt (Nat.not_lt.2 (a5 hf).1)
 case refine_6 =>
  rcases key r k hr with ⟨hl2,hr⟩|⟨hl2,hr⟩
  ·exact⟨k,hr,rfl,rfl,rfl,(WD hl2).1⟩
  ·exact absurd htg ((hp _ k hr).2 t l)
 ·intro r k b hr hb;rcases key r k hr with ⟨hl,hr⟩|⟨hl,hr⟩
  ·rw[(WD hl).1]at hb;obtain⟨c,a1,a2,a3,a4,a5⟩:=hW.blk r k b hr hb;have hlt:=hW.GQ hr hb;have ho:=e.old b hlt (Nat.not_le.2 hlt);rw[(WD hl).2.2];refine⟨c,ho.trans a1,aK.mono e'.toMono ho _ _ a2,a3,λhf=>(e.good b (a4 hf)).1,λhf=>⟨(a5 hf).1,λhg=>?_⟩⟩;rcases e.new b hg with h|h
   ·exact(a5 hf).2 h
   ·omega
  ·rw[(XH hl).1]at hb;obtain⟨c,a1,a2,a3,a4,a5⟩:=h1.blk _ k b hr hb;rw[(XH hl).2.2];refine⟨c,a1,?_,a3,a4,λhf=>⟨hW.base b (a5 hf).1,(a5 hf).2⟩⟩;refine rP (G:=G') (G':=G'.with G) (λb h=>h) _ _ _ _ (hp _ k hr).1 ?_;rcases aKX ht hr with hg|hg
   ·obtain⟨g,hg⟩:=Option.isSome_iff_exists.1 hg;have:=(h1.tags _ k g hr hg).1;rw[this]at a2 ⊢;exact EA (nN _ _) a2
   ·exact EA hg a2
 ·intro r k g hr hg;rcases key r k hr with ⟨hl,hr⟩|⟨hl,hr⟩
  ·rw[(WD hl).2.1]; exact hW.tags r k g hr hg
  ·rw[(XH hl).2.1]; exact h1.tags _ k g hr hg
 ·intro r s k l b hr hs fk fl m1 m2;rcases key r k hr with ⟨hl,hr⟩|⟨hl,hr⟩ <;> rcases key s l hs with ⟨hl2,hs⟩|⟨hl2,hs⟩
  ·rw[(WD hl).1]at m1;rw[(WD hl2).1]at m2;exact hW.inj r s k l b hr hs fk fl m1 m2
  ·rw[(WD hl).1]at m1;rw[(XH hl2).1]at m2;obtain⟨_,_,_,_,_,a5⟩:=h1.blk _ l b hs m2;have:=hW.GQ hr m1;have:=(a5 fl).1;omega
  ·rw[(XH hl).1]at m1;rw[(WD hl2).1]at m2;obtain⟨_,_,_,_,_,a5⟩:=h1.blk _ k b hr m1;have:=hW.GQ hs m2;have:=(a5 fk).1;omega
  ·rw[(XH hl).1]at m1;rw[(XH hl2).1]at m2;have:=h1.inj _ _ k l b hr hs fk fl m1 m2;omega
 ·intro r hr;simp only[oH]at hr;have hl:H.length<=r:=by omega
  rw[(XH hl).1,(XH hl).2.1];exact h1.top _ (by omega)
theorem a2G {r sz v}(h:VR w' G' μ1 (.own r sz) v):VR w' G' (aES μ μ1 H.length) (.own (H.length+r) sz) v:=by
 have e:=XH (μ:=μ) (μ1:=μ1) (h:=H.length) (r:=H.length+r) (by simp);rw[VR]at h ⊢;grind
def a0L(P:Program) (g:FuncId) (args:List Kd) (e:TypeId) (ty:Ty) (f:aL args->Option (List ty.den)):Prop :=
 ∀ x l,f x=some l->∀ {n0 G μ w us},eA n0 G μ [] w->VRs w G μ (MU args x) us->vQ P n0 w G μ g us.toArray (.own 0 ty.size) [some ⟨aP ty l,e,true,false,some ⟨ty,l⟩⟩]
def a7Z(t:Nat)(e:TypeId)(ty:Ty)(ex:Ex)(F:Frm)(H:Heap):Option (List ty.den):=match ex with
 | .exit _=>none
 | _=>match aH7 [(t,.own e ty)] F H with
  | some x=>some x.1
  | none=>none
def a3U(P:Program)(E:Env)(fn:Func)(keep:Nat)(lt:Nat->Option C8)(c:Code) args (t:Nat)(e:TypeId)(ty:Ty)(x:aL args):Option (List ty.den) :=
 bif Nat.ble (MU args x).length fn.ntmps then Z9 P E fn.ntmps keep lt c (start keep 0 (MU args x)) [] (a7Z t e ty) else none
theorem a6C {E} (hP:aEU P) (hE:OK P E) {g:Nat} {fn} (hg:P.funcs[g]?=some fn) {c} (hc:fn.body=some c) {keep lt args} {t:Nat} (hr:fn.results.toList=[.tmp t]) {e ty f}
  (hl:∀ a∈RY c,∀ s,lt (R0 a)=some s->SF P fn.ntmps a s) (hb:∀ x,a3U P E fn keep lt c args t e ty x=f x):a0L P g args e ty f:=by
 intro x l hy n0 G μ w us hW hv;rw[<- hb]at hy;unfold a3U at hy;obtain⟨hlen,hy⟩:=cC hy;obtain⟨⟨ex,F',H'⟩,h1,h2⟩:=TJ hE.callee hP.mixed c _ _ _ _ hl hy;obtain⟨y,hex,hd,hyl⟩:∃ y,(ex=.normal\/ex=.ret)/\aH7 [(t,.own e ty)] F' H'=some y/\y.1=l:=by
  unfold a7Z at h1;split at h1
  ·cases h1
  ·rename_i hne;split at h1
   ·rename_i y hy;simp only[oJ]at h1;refine⟨y,?_,hy,h1⟩;cases ex with
    | normal=>exact .inl rfl
    | ret=>exact .inr rfl
    | exit i=>exact absurd rfl (hne i)
   ·cases h1
 obtain⟨yl,⟨⟩⟩:=y;dsimp only at hyl;subst hyl;refine⟨enters hg (hP.names g fn hg) (by rw[hc]; rfl) _ _,calls_of_wp hg hc ?_⟩;have hI:I n0 w G μ fn.ntmps (start keep 0 (MU args x)) [] ⟨us.toArray++Array.replicate (fn.ntmps-us.toArray.size) undef,[]⟩ w:=⟨G,μ,Ext.refl _ _ _ _,hW,U3 (by simpa using hv) (oL hlen)⟩;refine wp_mono (h2 n0 w G μ _ w (λr=>hW.top r (Nat.zero_le _)) hI) ?_;rintro e0 a' w' ⟨rfl,hI'⟩
 obtain⟨G',μ',e',hW',hF'⟩:=aAR hd (λr=>hW.top r (Nat.zero_le _)) hI';have hvs:U9 P (JE [(t,.own e ty)] (yl,()) 0) (MX [(t,.own e ty)] (yl,())) fn.results.toList=some [.own 0 ty.size]:=by
  rw[hr];simp[U9,aSR,JE,KD,iL]
 obtain⟨ws,h3,h4⟩:=UF (P:=P) hW' hF' hvs;have hres:(results fn a'.tmps).run P w'=.ok (if hh:ws.toArray.size=1 then ws.toArray[0] else .tuple ws.toArray) w':=by
  rw[ZT,Array.mapM_eq_mapM_toList];simp only[Sem.run_bind,Sem.run_map,h3,Result.andThen_ok,Sem.run_pure]
 have hpost:a'.defers=[]/\∃ v,(results fn a'.tmps).run P w'=.ok v w'/\(∃ v' G'' μ'',Ending.returned v=.returned v'/\Ext n0 w G μ w' G'' μ''/\eA n0 G'' μ'' (MX [(t,.own e ty)] (yl,())) w'/\VR w' G'' μ'' (.own 0 ty.size) v') :=
  ⟨hF'.defers,_,hres,_,G',μ',rfl,e',hW',VJ h4⟩
 rcases hex with rfl|rfl
 ·exact hpost
 ·exact hpost
def a3V(args:List Kd) (e:TypeId) (ty:Ty) (f:aL args->Option (List ty.den)) (qs:List PV) (H:Heap):Option Q7 :=
 bif iU.noRefs qs&&(iM.noRows qs&&ty.plain) then match aUV args qs with
  | some x=>some ⟨List ty.den,f x,λl=>(.own H.length ty.size,H++[some ⟨aP ty l,e,true,false,some ⟨ty,l⟩⟩])⟩
  | none=>none
 else none
def a6Y(args:List Kd) (e:TypeId) (ty:Ty) (f:aL args->Option (List ty.den)) (qs:List PV) (H:Heap):Option Q7 :=
 match QL (rG H (PQ qs)) qs with
 | some ps=>a3V args e ty f ps (rG H (PQ qs))
 | none=>none
theorem a3Z {g args e ty f}(hf:a0L P g args e ty f):UA P (g,a3V args e ty f):=by
 intro qs H r h y hy n0 G μ w vs hW hv;dsimp only at h;unfold a3V at h;obtain⟨hn,h⟩:=aC3 h;split at h
 ·rename_i x hx;have h:=oB h;subst h;simp only[oA]at hn;obtain⟨hn,hnr,hpl⟩:=hn;have hW0:eA (OL w) G.bare aZ [] w:=⟨λr k b h=>by simp at h,λr k g h=>by simp at h,λr s k l b h=>by simp at h,hW.lt,λ_ _=>⟨rfl,rfl⟩,λ_ h=>h,qO.none _ _ (λ_=>rfl) _ _ (λr k h=>by simp at h)⟩;obtain⟨h1,h2⟩:=hf x y hy hW0 (aB7 args hx (pO (G:=G) (G':=G.bare) (λb h=>h) _ _ _ hnr (eF _ _ hn hv)));refine⟨h1,h2.mono ?_⟩;rintro e' w' ⟨v',G',μ1,rfl,e1,e2,e3⟩
  refine⟨v',G'.with G,aES μ μ1 H.length,rfl,aYH hW e1,a15 hW e1 e2 rfl (λr k hr=>?_),?_⟩
  ·cases r with
   | zero =>
    simp only[List.getElem?_cons_zero,oJ]at hr;subst hr;exact⟨uZ _ hpl _,λt l h=>by obtain⟨rfl,_⟩:=h; cases hpl⟩
   | succ r=>simp at hr
  have:=a2G (H:=H) (μ:=μ) e3;rw[VR]at this ⊢;simpa using this
 ·cases h
theorem a5J {g args e ty f}(hf:a0L P g args e ty f):UA P (g,a6Y args e ty f):=by
 intro qs H r h y hy n0 G μ w vs hW hv;dsimp only at h;unfold a6Y at h;split at h
 ·rename_i ps hps;obtain⟨G1,e1,hW1⟩:=vE (PQ qs) H G hW;obtain⟨h1,h2⟩:=a3Z hf ps _ r h y hy hW1 (aW0 hW1 hps (VRs.mono e1.toMono _ _ hv)).fK;refine⟨h1,h2.mono ?_⟩;rintro e' w' ⟨v',G',μ1,rfl,q1,q2,q3⟩;exact⟨v',G',μ1,rfl,e1.trans q1,q2,q3⟩
 grind
end
end Go.PM
