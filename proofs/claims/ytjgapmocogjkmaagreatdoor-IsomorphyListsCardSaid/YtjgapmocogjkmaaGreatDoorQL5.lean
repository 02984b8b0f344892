/- Texts of one proof, joined (5). -/
import Derived.OrdersIn
import Derived.TacticsIn
import Derived.RangeFuncRecord
import Derived.Sort.LoopGhostIn
import Derived.RangeFuncSeq
import Derived.Test.YtjgapmocogjkmaaGreatDoorProg
import Derived.Lib.AppendIntMem
import Derived.WalkKit
import Derived.BigCall
import Derived.BigGuard
import Derived.Lib.SmallJoins
import Derived.Lib.Walk
import Derived.Lib.SliceRun
import Derived.Lib.AppendZerosOnto
import Derived.Deep.Upon
import Derived.Test.YtjgapmocogjkmaaGreatDoorQL4
set_option linter.unusedSimpArgs false
set_option linter.unusedVariables false
namespace Go.PM
open Go Go.RowKit
@[reducible] def Fr (ro : Option Nat) : Fence:={ Fence.wide with round:=ro }
def nM (ds : List Deferred) (a : Act) : Act:={ a with defers:=a.defers ++ ds }
theorem aTF (ds : List Deferred) (a : Act) : (nM ds a).eval = a.eval:=by
 funext x; cases x <;> rfl
theorem CW (ds : List Deferred) (a : Act) (d : Option Tmp) (v : Value) : (nM ds a).put d v = nM ds (a.put d v):=by
 cases d <;> rfl
theorem aOE {ro : Option Nat} {n : Nat} {P : Program} {f : FuncId} {args : Array Value} {w : World} {R : Ending→World→Prop} (h : Calls P f args w R) : CallsIn (Fr ro) n P f args w R :=
 (callsIn_wide (n:=n)).2 h
theorem aSL {ro : Option Nat} {n : Nat} {P : Program} {row : String} {args : Array Value} {w : World} {R : Value→World→Prop} (h : Rows P row args w R) : RowsIn (Fr ro) n P row args w R :=
 fun c cs _=>let ⟨v,w',r,s⟩:=h c cs; ⟨v,w',r,stepsIn_wide.2 s⟩

section
variable {P : Program} {ro : Option Nat} {n : Nat} {ds : List Deferred} {Q Q' : Exit→Act→World→Prop}
def aJC : Op→Bool
 | .defer _=>true
 | _=>false
def I4 (ops : Array Oper) : Bool:=ops.toList.all fun o=>!aJC o.op
theorem DQ {ops : Array Oper} (h : I4 ops = true) {o : Oper} (ho : o ∈ ops.toList) : ∀ c,o.op ≠ .defer c:=by
 intro c hc
 have:=List.all_eq_true.1 h o ho
 rw [hc] at this
 cases this
theorem aVR {o : Oper} (h : ∀ c,o.op ≠ .defer c) (ρ : Operand→Value) : o.semAt ro ρ = execOp ρ o:=by
 cases ro with
 | none=>exact Oper.semAt_none ρ o
 | some l=>exact Oper.semAt_some l ρ o h

theorem aHR {o : Oper} {a : Act} {w : World} {K K' : Act→World→Prop} (hd : ∀ c,o.op ≠ .defer c) (hK : ∀ a w,K a w→K' (nM ds a) w) (hQ : ∀ ch a w,Q (.panic ch) a w→Q' (.panic ch) (nM ds a) w) (hno : ∀ a w,¬ Q .outgrown a w) (h : o.wp P a w K Q) :
  o.wpIn (Fr ro) n P (nM ds a) w K' Q':=by
 refine ⟨fun _ _=>trivial,?_⟩
 unfold Oper.wp at h
 rw [aTF,aVR hd]
 generalize (execOp a.eval o).run P w = r at h ⊢
 cases r with
 | ok x w' =>
  cases x with
  | value v=>show K' ((nM ds a).put o.dst v) w'; rw [CW]; exact hK _ _ h
  | skip=>show K' ((nM ds a).put o.dst undef) w'; rw [CW]; exact hK _ _ h
  | defer d =>
   have:=hK _ _ h
   show K' (({ nM ds a with defers:=d :: (nM ds a).defers } : Act).put o.dst undef) w'
   have e : (({ nM ds a with defers:=d :: (nM ds a).defers } : Act).put o.dst undef) = nM ds (({ a with defers:=d :: a.defers } : Act).put o.dst undef):=by
    cases o.dst <;> rfl
   rw [e]; exact this
  | enter f args =>
   refine ⟨fun h=>(by cases h),aOE (Calls.mono h ?_)⟩
   rintro e w'' he
   cases e with
   | returned v=>show K' ((nM ds a).put o.dst v) w''; rw [CW]; exact hK _ _ he
   | panicked ch=>exact hQ _ _ _ he
   | outgrown =>
    obtain ⟨a0,w0,h0⟩:=he
    exact (hno a0 w0 h0).elim
  | row row args=>exact ⟨fun h=>(by cases h),aSL (Rows.mono h fun v w'' he=>by show K' ((nM ds a).put o.dst v) w''; rw [CW]; exact hK _ _ he)⟩
  | _=>exact h.elim
 | halt x w' =>
  cases x <;> first | exact hQ _ _ _ h | exact h.elim

theorem R7 {ops : Array Oper} (hno : ∀ a w,¬ Q .outgrown a w) (hQ : ∀ e a w,Q e a w→Q' e (nM ds a) w) : ∀ {l : List Oper},(∀ o ∈ l,∀ c,o.op ≠ .defer c)→∀ {a w},wpList P ops Q l a w→wpListIn (Fr ro) n P ops Q' l (nM ds a) w
 | [],_,a,w,h=>hQ _ _ _ h
 | o :: l,hd,a,w,h=>by
  simp only [wpList] at h
  unfold wpListIn
  split at h
  ·rename_i hw
   have hw' : Region.wanted o (yielded ops (nM ds a).tmps) = true:=hw
   rw [if_pos hw']
   rcases h with h | ⟨_,a0,w0,h0⟩
   ·exact aHR (hd o List.mem_cons_self) (fun a w hk=>R7 hno hQ (fun o ho=>hd o (List.mem_cons_of_mem _ ho)) hk) (fun _ _ _ h=>hQ _ _ _ h) hno h
   ·exact (hno a0 w0 h0).elim
  ·rename_i hw
   have hw' : ¬ Region.wanted o (yielded ops (nM ds a).tmps) = true:=hw
   rw [if_neg hw']
   refine ⟨fun _ _=>trivial,?_⟩
   rw [CW]
   exact R7 hno hQ (fun o ho=>hd o (List.mem_cons_of_mem _ ho)) h

theorem aGR {ops : Array Oper} {md : Region.Mode} (hno : ∀ a w,¬ Q .outgrown a w) (hQ : ∀ e a w,Q e a w→Q' e (nM ds a) w) (hd : ∀ o ∈ ops.toList,∀ c,o.op ≠ .defer c) : ∀ {fuel : Nat} {listed : Array Bool} {a w},wpAny P md ops Q fuel listed a w→wpAnyIn (Fr ro) n P md ops Q' fuel listed (nM ds a) w
 | 0,listed,a,w,h=>⟨h.1,hQ _ _ _ h.2⟩
 | fuel + 1,listed,a,w,h=>by
  refine ⟨fun hr=>hQ _ _ _ (h.1 hr),fun i hi=>?_⟩
  have h2:=h.2 i hi
  unfold wpOp at h2
  unfold wpOpIn
  split
  ·rename_i hn
   rw [hn] at h2
   exact aGR hno hQ hd h2
  ·rename_i o ho
   rw [ho] at h2
   simp only at h2
   have hm : o ∈ ops.toList:=by
    rw [← Array.getElem?_toList] at ho
    exact List.mem_of_getElem? ho
   split at h2
   ·rename_i hw
    have hw' : Region.wanted o (yielded ops (nM ds a).tmps) = true:=hw
    rw [if_pos hw']
    rcases h2 with h2 | ⟨_,a0,w0,h0⟩
    ·exact aHR (hd o hm) (fun a w hk=>aGR hno hQ hd hk) (fun _ _ _ h=>hQ _ _ _ h) hno h2
    ·exact (hno a0 w0 h0).elim
   ·rename_i hw
    have hw' : ¬ Region.wanted o (yielded ops (nM ds a).tmps) = true:=hw
    rw [if_neg hw']
    refine ⟨fun _ _=>trivial,?_⟩
    rw [CW]
    exact aGR hno hQ hd h2
end
def Marks (wi w : World) (G : Gd) : List Deferred→Prop
 | []=>True
 | d :: ds=>(∃ b,d = { target:=.collected b,args:=#[] }∧w.heap[b]? = some (.deferred (some []))∧wi.heap.size ≤ b∧¬ G b∧∀ d' ∈ ds,d' ≠ d)∧Marks wi w G ds
theorem Marks.mem {wi w : World} {G : Gd} : ∀ {ds : List Deferred},Marks wi w G ds→∀ d ∈ ds,∃ b,d = { target:=.collected b,args:=#[] }∧w.heap[b]? = some (.deferred (some []))∧wi.heap.size ≤ b∧¬ G b
 | [],_,d,hd=>by cases hd
 | x :: ds,h,d,hd=>by
  rcases List.mem_cons.1 hd with rfl | hd
  ·obtain ⟨b,h1,h2,h3,h4,_⟩:=h.1
   exact ⟨b,h1,h2,h3,h4⟩
  ·exact Marks.mem h.2 d hd
theorem Marks.to {wi w w' : World} {G G' : Gd} : ∀ {ds : List Deferred},Marks wi w G ds→(∀ b,({ target:=.collected b,args:=#[] } : Deferred) ∈ ds→w.heap[b]? = some (.deferred (some []))→¬ G b→w'.heap[b]? = some (.deferred (some []))∧¬ G' b)→Marks wi w' G' ds
 | [],_,_=>trivial
 | x :: ds,h,hs=>by
  obtain ⟨⟨b,rfl,h2,h3,h4,h5⟩,h6⟩:=h
  obtain ⟨k1,k2⟩:=hs b List.mem_cons_self h2 h4
  exact ⟨⟨b,rfl,k1,h3,k2,h5⟩,Marks.to h6 fun b hb=>hs b (List.mem_cons_of_mem _ hb)⟩

def IM (n0 : Nat→Prop) (wi : World) (Gi : Gd) (μi : Mp) (nt : Nat) (F : Frm) (H : Heap) (a : Act) (w : World) : Prop :=
 ∃ G μ,Ext n0 wi Gi μi w G μ∧aV n0 G μ H w∧eP w G μ nt F { a with defers:=[] }∧Marks wi w G a.defers

section
variable {P : Program} {E : Env} {n0 n1 : Nat→Prop} {w w' wi : World} {G G' Gi : Gd} {μ μ' μi : Mp} {H : Heap} {F : Frm} {a : Act} {nt : Nat}
theorem Ext.wider (h : Ext n1 w G μ w' G' μ') (hn : ∀ b,n1 b→n0 b) : Ext n0 w G μ w' G' μ' :=
 ⟨h.toMono,h.os,h.tape,h.output,h.size,fun b hb hnb=>h.old b hb fun h1=>hnb (hn b h1),fun b hb=>(h.new b hb).imp id (hn b)⟩
theorem aV.wider (h : aV n1 G μ H w) (hn : ∀ b,n1 b→n0 b) : aV n0 G μ H w :=
 ⟨fun r k b hr hb=>by
  obtain ⟨c,h1,h2,h3,h4,h5⟩:=h.blk r k b hr hb
  exact ⟨c,h1,h2,h3,h4,fun hf=>⟨hn b (h5 hf).1,(h5 hf).2⟩⟩,h.tags,h.inj,h.lt,h.top,fun b hb=>hn b (h.base b hb),h.rows.QV fun _ b _=>hn b⟩
theorem aV.less (h : aV n0 G μ H w) {S : Nat→Prop} (hS : ∀ b,S b→b < w.heap.size∧(∀ c t fr,w.heap[b]? ≠ some (.cells c t fr))∧∀ es clk,w.heap[b]? ≠ some (.map es clk)) : aV (fun b=>n0 b∧¬ S b) G μ H w :=
 ⟨fun r k b hr hb=>by
  obtain ⟨c,h1,h2,h3,h4,h5⟩:=h.blk r k b hr hb
  exact ⟨c,h1,h2,h3,h4,fun hf=>⟨⟨(h5 hf).1,fun hs=>(hS b hs).2.1 _ _ _ h1⟩,(h5 hf).2⟩⟩,h.tags,h.inj,h.lt,h.top,fun b hb=>⟨h.base b hb,fun hs=>Nat.lt_irrefl _ (Nat.lt_of_lt_of_le (hS b hs).1 hb)⟩,h.rows.QV fun j b hj hn=>⟨hn,fun hs=>by
   rcases h.rows.cel j b hj with ⟨c,t,fr,hc⟩ | ⟨es,clk,hc⟩
   ·exact (hS b hs).2.1 c t fr hc
   ·exact (hS b hs).2.2 es clk hc⟩⟩
theorem eP.same (h : eP w G μ nt F a) : eP w G μ nt F { a with defers:=[] }:=⟨h.size,h.slot,rfl⟩
theorem I.a8F (h : I n0 wi Gi μi nt F H a w) : IM n0 wi Gi μi nt F H a w:=by
 obtain ⟨G,μ,e,hW,hF⟩:=h
 refine ⟨G,μ,e,hW,hF.same,?_⟩
 rw [hF.defers]; trivial


theorem aA9 {nt : Nat} {id : Nat} {ops : Array Oper} {draw : Bool} {F : Frm} {H : Heap} {α : Type} {z : α} {k : Frm→Heap→Option α} (hcl : cV P (dR P E)) (hP : P.follows .mixedOrders = true) (hd : I4 ops = true) (h : sX P E nt ops draw F H k = some z) :
  ∃ F' H',k F' H' = some z∧∀ {ro : Option Nat} {n : Nat} {n0 wi Gi μi} {a w} {Q : Exit→Act→World→Prop},IM n0 wi Gi μi nt F H a w→(∀ a' w',a'.defers = a.defers→IM n0 wi Gi μi nt F' H' a' w'→Q .normal a' w')→(Code.region id ops draw).wpIn (Fr ro) n P Q a w:=by
 have core : ∃ F' H',k F' H' = some z∧∀ {ro : Option Nat} {n : Nat} {n0 wi Gi μi} {a w} {ds : List Deferred} {Q : Exit→Act→World→Prop},I n0 wi Gi μi nt F H a w→(∀ a' w',I n0 wi Gi μi nt F' H' a' w'→Q .normal (nM ds a') w')→(Code.region id ops draw).wpIn (Fr ro) n P Q (nM ds a) w:=by
  cases draw with
  | true =>
   obtain ⟨F',H',h2,h3⟩:=HC h
   refine ⟨F',H',h3,?_⟩
   intro ro n n0 wi Gi μi a w ds Q hI hQ
   refine wpIn_region_any hP (aGR (Q:=fun e a' w'=>e = .normal∧I n0 wi Gi μi nt F' H' a' w') (fun a w h=>by cases h.1) (fun e a' w' h=>by obtain ⟨rfl,h⟩:=h; exact hQ a' w' h) (fun o ho=>DQ hd ho) ?_)
   exact KO hcl h2 hI (fun a' w' h=>⟨rfl,h⟩)
  | false =>
   unfold sX at h
   simp only [cond_false] at h
   obtain ⟨F',H',h2,h3⟩:=o9 h
   refine ⟨F',H',h3,?_⟩
   intro ro n n0 wi Gi μi a w ds Q hI hQ
   refine wpIn_region_list (R7 (Q:=fun e a' w'=>e = .normal∧I n0 wi Gi μi nt F' H' a' w') (fun a w h=>by cases h.1) (fun e a' w' h=>by obtain ⟨rfl,h⟩:=h; exact hQ a' w' h) (fun o ho=>DQ hd ho) ?_)
   exact rR hcl ops.toList F H _ _ h2 hI (fun a' w' h=>⟨rfl,h⟩)
 obtain ⟨F',H',h1,h2⟩:=core
 refine ⟨F',H',h1,?_⟩
 intro ro n n0 wi Gi μi a w Q hI hQ
 obtain ⟨G,μ,e,hW,hF,hm⟩:=hI
 have hS : ∀ b,({ target:=.collected b,args:=#[] } : Deferred) ∈ a.defers→b < w.heap.size∧(∀ c t fr,w.heap[b]? ≠ some (.cells c t fr))∧∀ es clk,w.heap[b]? ≠ some (.map es clk):=by
  intro b hb
  obtain ⟨b',e1,e2,_⟩:=hm.mem _ hb
  have : b = b':=by injection e1 with e1 _; injection e1
  subst this
  exact ⟨dC e2,fun c t fr h=>(by rw [e2] at h; cases h),fun _ _ h=>(by rw [e2] at h; cases h)⟩
 have e0 : a = nM a.defers { a with defers:=[] }:=rfl
 rw [e0]
 refine h2 (n0:=fun b=>n0 b∧¬ ({ target:=.collected b,args:=#[] } : Deferred) ∈ a.defers) (wi:=w) (Gi:=G) (μi:=μ) ⟨G,μ,Ext.refl _ _ _ _,hW.less hS,hF⟩ ?_
 rintro a' w' ⟨G',μ',e',hW',hF'⟩
 have hW2 : aV n0 G' μ' H' w':=hW'.wider fun b hb=>hb.1
 have hdef : (nM a.defers a').defers = a.defers:=by
  show a'.defers ++ a.defers = a.defers
  rw [hF'.defers]; rfl
 refine hQ _ _ hdef ⟨G',μ',e.trans (e'.wider fun b hb=>hb.1),hW2,hF'.same,?_⟩
 rw [hdef]
 refine hm.to fun b hb h1 h2=>⟨?_,fun hg=>?_⟩
 ·rw [e'.old b (hS b hb).1 (fun h=>h.2 hb)]; exact h1
 ·rcases e'.new b hg with h | h
  ·exact h2 h
  ·exact h.2 hb
end
end Go.PM
set_option linter.unusedSimpArgs false
set_option linter.unusedVariables false
namespace Go.PM
open Go Go.RowKit
def EJ (T : List Nat) : (l : List (Ex×List (Nat×Kd)))→Ex→Frm→Heap→Option (aR l)
 | [],_,_,_=>none
 | [(e,s)],ex,F,H=>bif aKP e ex then pO T s F H else none
 | (e,s) :: b :: r,ex,F,H=>bif aKP e ex then (match pO T s F H with | some x=>some (.inl x) | none=>none) else (match EJ T (b :: r) ex F H with | some y=>some (.inr y) | none=>none)
section
variable {α : Type} (P : Program) (E : Env) (nt aU : Nat) (lt rt : Nat→Option aS) (rd : Bool) (T : List Nat)
def qS : Code→Frm→Heap→(Ex→Frm→Heap→Option α)→Option α
 | .skip,F,H,k=>k .normal F H
 | .label _,F,H,k=>k .normal F H
 | .region _ ops draw,F,H,k=>bif I4 ops then sX P E nt ops draw F H fun F H=>K7 aU F fun F=>k .normal F H else none
 | .seq a b,F,H,k=>qS a F H fun ex F H=>match ex with
  | .normal=>qS b F H k
  | .exit i=>k (.exit i) F H
  | .ret=>k .ret F H
 | .cond c a b,F,H,k=>match ev F c with
  | .lit (.bool t)=>aOL F c t fun F t=>bif t then qS a F H k else qS b F H k
  | _=>none
 | .block id a,F,H,k=>qS a F H fun ex F H=>match ex with
  | .exit i=>bif Nat.beq i id then k .normal F H else k (.exit i) F H
  | .normal=>k .normal F H
  | .ret=>k .ret F H
 | .loop a,F,H,k=>match lt (aG a) with
  | some s=>match pO T s.sh F H with
   | some x=>aB (s.run x) fun z=>aPN s.exits z k
   | none=>none
  | none=>none
 | .rangeFunc _ _ _ a,F,H,k=>bif rd then none else match rt (aG a) with
  | some s=>match pO T s.sh F H with
   | some x=>aB (s.run x) fun z=>aPN s.exits z k
   | none=>none
  | none=>none
 | .exit id,F,H,k=>k (.exit id) F H
 | .ret,F,H,k=>k .ret F H
 | _,_,_,_=>none
def XJ (T : List Nat) (sh : List (Nat×Kd)) (exits : List (Ex×List (Nat×Kd))) (ex : Ex) (F : Frm) (H : Heap) : Option (Shape.den sh ⊕ aR exits):=match ex with
 | .normal=>match pO T sh F H with
  | some y=>some (.inl y)
  | none=>none
 | .exit i=>match EJ T exits (.exit i) F H with
  | some z=>some (.inr z)
  | none=>none
 | .ret=>match EJ T exits .ret F H with
  | some z=>some (.inr z)
  | none=>none
def EM (a : Code) (sh : List (Nat×Kd)) (exits : List (Ex×List (Nat×Kd))) (x : Shape.den sh) : Option (Shape.den sh ⊕ aR exits) :=
 qS P E nt aU lt rt rd T a (pJ sh x 0) (wQ sh x) (XJ T sh exits)
end
def bQ : Code→List Code
 | .seq a b=>bQ a ++ bQ b
 | .cond _ a b=>bQ a ++ bQ b
 | .block _ a=>bQ a
 | .loop a=>[.loop a]
 | .rangeFunc g ps as1 a=>[.rangeFunc g ps as1 a]
 | _=>[]

section
variable {α : Type} {P : Program} {E : Env} {nt aU : Nat} {lt rt : Nat→Option aS} {rd : Bool} {T : List Nat}
def aJX (P : Program) (nt : Nat) (rd : Bool) (T : List Nat) (c : Code) (F : Frm) (H : Heap) (r : Ex×Frm×Heap) : Prop :=
 ∀ (ro : Option Nat) (n : Nat) (n0 : Nat→Prop) (wi : World) (Gi : Gd) (μi : Mp) (a : Act) (w : World),(rd = false→ro = none)→(∀ r,¬ r ∈ T→μi.loc r = none∧μi.len r = none)→IM n0 wi Gi μi nt F H a w →
  c.wpIn (Fr ro) n P (fun e a' w'=>e = r.1.to∧IM n0 wi Gi μi nt r.2.1 r.2.2 a' w'∧(rd = true→a'.defers = a.defers)) a w
def qJ (P : Program) (nt : Nat) (rd : Bool) (T : List Nat) (c : Code) (s : aS) : Prop :=
 ∀ x z,s.run x = some z→aJX P nt rd T c (pJ s.sh x 0) (wQ s.sh x) (rJ s.exits z)
def DI (P : Program) (nt : Nat) (lt rt : Nat→Option aS) (rd : Bool) (T : List Nat) : Code→Prop
 | .loop a=>∀ s,lt (aG a) = some s→qJ P nt rd T (.loop a) s
 | .rangeFunc g ps as1 a=>rd = false→∀ s,rt (aG a) = some s→qJ P nt rd T (.rangeFunc g ps as1 a) s
 | _=>True

theorem IM.a1C {n0 : Nat→Prop} {wi : World} {Gi : Gd} {μi : Mp} {F F' : Frm} {H : Heap} {a : Act} {w : World} (h : IM n0 wi Gi μi nt F H a w) (hF : ∀ t,cQ F' t = cQ F t ∨ cQ F' t = .junk) : IM n0 wi Gi μi nt F' H a w:=by
 obtain ⟨G,μ,e,hW,hI,hm⟩:=h
 refine ⟨G,μ,e,hW,⟨hI.size,fun t=>?_,rfl⟩,hm⟩
 rcases hF t with h1 | h1
 ·rw [h1]; exact hI.slot t
 ·rw [h1,VR]; trivial
theorem IM.same {n0 : Nat→Prop} {wi : World} {Gi : Gd} {μi : Mp} {F F' : Frm} {H H' : Heap} {a : Act} {w : World} (hfl : ∀ r,¬ r ∈ T→μi.loc r = none∧μi.len r = none)
  (hs : ∀ {n0 : Nat→Prop} {wi : World} {Gi : Gd} {μi : Mp} {a : Act},(∀ r,¬ r ∈ T→μi.loc r = none∧μi.len r = none)→I n0 wi Gi μi nt F H a w→I n0 wi Gi μi nt F' H' a w) (h : IM n0 wi Gi μi nt F H a w) : IM n0 wi Gi μi nt F' H' a w:=by
 obtain ⟨G,μ,e,hW,hF,hm⟩:=h
 have hS : ∀ b,({ target:=.collected b,args:=#[] } : Deferred) ∈ a.defers→b < w.heap.size∧(∀ c t fr,w.heap[b]? ≠ some (.cells c t fr))∧∀ es clk,w.heap[b]? ≠ some (.map es clk):=by
  intro b hb
  obtain ⟨b',e1,e2,_⟩:=hm.mem _ hb
  have : b = b':=by injection e1 with e1 _; injection e1
  subst this
  exact ⟨dC e2,fun c t fr h=>(by rw [e2] at h; cases h),fun _ _ h=>(by rw [e2] at h; cases h)⟩
 have e0 : Ext (fun b=>n0 b∧¬ ({ target:=.collected b,args:=#[] } : Deferred) ∈ a.defers) w G μi w G μ:=⟨⟨fun _ h=>⟨h,rfl⟩,e.map,e.len,fun _ _ h=>h,fun _ _ h=>h⟩,rfl,rfl,rfl,Nat.le_refl _,fun _ _ _=>rfl,fun _ h=>.inl h⟩
 obtain ⟨G',μ',e',hW',hF'⟩:=hs (n0:=fun b=>n0 b∧¬ ({ target:=.collected b,args:=#[] } : Deferred) ∈ a.defers) (wi:=w) (Gi:=G) (μi:=μi) (a:={ a with defers:=[] }) hfl ⟨G,μ,e0,hW.less hS,hF⟩
 refine ⟨G',μ',?_,hW'.wider fun b hb=>hb.1,hF',hm.to fun b hb h1 h2=>⟨h1,fun hg=>?_⟩⟩
 ·exact {
   cW:=fun b hb=>⟨(e'.cW b (e.cW b hb).1).1,(e.cW b hb).2⟩
   map:=e'.map
   len:=e'.len
   room:=e.room
   row:=fun j b hj=>e'.row j b (e.row j b hj)
   os:=e.os
   tape:=e.tape
   output:=e.output
   size:=e.size
   old:=e.old
   new:=fun b hb=>by
    rcases e'.new b hb with h | h
    ·exact e.new b h
    ·exact .inr h.1 }
 ·rcases e'.new b hg with h | h
  ·exact h2 h
  ·exact h.2 hb

theorem IM.dec {n0 : Nat→Prop} {wi : World} {Gi : Gd} {μi : Mp} {F : Frm} {H : Heap} {a : Act} {w : World} (hfl : ∀ r,¬ r ∈ T→μi.loc r = none∧μi.len r = none) {sh : List (Nat×Kd)} {x : Shape.den sh} (h : pO T sh F H = some x) (hI : IM n0 wi Gi μi nt F H a w) : IM n0 wi Gi μi nt (pJ sh x 0) (wQ sh x) a w :=
 hI.same hfl fun hfl hI=>uZ h hfl hI
theorem zY {ex : Ex} {F : Frm} {H : Heap} : ∀ {l : List (Ex×List (Nat×Kd))} {z : aR l},EJ T l ex F H = some z →
  (rJ l z).1 = ex∧∃ sh,∃ x : Shape.den sh,pO T sh F H = some x∧(rJ l z).2.1 = pJ sh x 0∧(rJ l z).2.2 = wQ sh x
 | [],z,_=>Empty.elim z
 | [(e,s)],z,h=>by
  simp only [EJ] at h
  obtain ⟨hb,h⟩:=aM h
  exact ⟨YU hb,s,z,h,rfl,rfl⟩
 | (e,s) :: b :: r,z,h=>by
  simp only [EJ] at h
  cases hb : aKP e ex with
  | true =>
   rw [hb] at h
   simp only [cond_true] at h
   split at h
   ·rename_i x hx
    simp only [Option.some.injEq] at h
    subst h
    exact ⟨YU hb,s,x,hx,rfl,rfl⟩
   ·cases h
  | false =>
   rw [hb] at h
   simp only [cond_false] at h
   split at h
   ·rename_i x hx
    simp only [Option.some.injEq] at h
    subst h
    exact zY (l:=b :: r) (z:=x) hx
   ·cases h
theorem IM.NV {n0 : Nat→Prop} {wi : World} {Gi : Gd} {μi : Mp} {F : Frm} {H : Heap} {a : Act} {w : World} {ex : Ex} (hfl : ∀ r,¬ r ∈ T→μi.loc r = none∧μi.len r = none) {l : List (Ex×List (Nat×Kd))} {z : aR l} (h : EJ T l ex F H = some z) (hI : IM n0 wi Gi μi nt F H a w) :
  (rJ l z).1 = ex∧IM n0 wi Gi μi nt (rJ l z).2.1 (rJ l z).2.2 a w:=by
 obtain ⟨h1,sh,x,h2,h3,h4⟩:=zY h
 exact ⟨h1,by rw [h3,h4]; exact hI.dec hfl h2⟩

theorem iG (hcl : cV P (dR P E)) (hP : P.follows .mixedOrders = true) : ∀ (c : Code) (F : Frm) (H : Heap) (k : Ex→Frm→Heap→Option α) (z : α),(∀ a ∈ bQ c,DI P nt lt rt rd T a) →
  qS P E nt aU lt rt rd T c F H k = some z→∃ r : Ex×Frm×Heap,k r.1 r.2.1 r.2.2 = some z∧aJX P nt rd T c F H r
 | .skip,F,H,k,z,hl,h=>⟨(.normal,F,H),h,fun _ _ _ _ _ _ _ _ _ _ hI=>wpIn_skip ⟨rfl,hI,fun _=>rfl⟩⟩
 | .label l,F,H,k,z,hl,h=>⟨(.normal,F,H),h,fun _ _ _ _ _ _ _ _ _ _ hI=>wpIn_label ⟨rfl,hI,fun _=>rfl⟩⟩
 | .region id ops draw,F,H,k,z,hl,h=>by
  simp only [qS] at h
  obtain ⟨hd,h⟩:=aM h
  obtain ⟨F1,H1,h1,h2⟩:=aA9 (id:=id) hcl hP hd h
  obtain ⟨F2,h3,h4⟩:=AU aU F1 fun F=>k .normal F H1
  rw [h3] at h1
  exact ⟨(.normal,F2,H1),h1,fun _ _ _ _ _ _ _ _ _ _ hI=>h2 hI fun a' w' hd' hI'=>⟨rfl,hI'.a1C h4,fun _=>hd'⟩⟩
 | .seq x y,F,H,k,z,hl,h=>by
  simp only [qS] at h
  obtain ⟨⟨ex,F1,H1⟩,h1,h2⟩:=iG hcl hP x F H _ z (fun a ha=>hl a (by simp [bQ,ha])) h
  cases ex with
  | normal =>
   obtain ⟨r,h3,h4⟩:=iG hcl hP y F1 H1 k z (fun a ha=>hl a (by simp [bQ,ha])) h1
   refine ⟨r,h3,fun ro n n0 wi Gi μi a w hro hfl hI=>wpIn_seq (wpIn_mono (h2 ro n n0 wi Gi μi a w hro hfl hI) ?_)⟩
   rintro e a' w' ⟨rfl,hI',hd'⟩
   refine wpIn_mono (h4 ro n n0 wi Gi μi a' w' hro hfl hI') ?_
   rintro e a'' w'' ⟨e1,e2,e3⟩
   exact ⟨e1,e2,fun hr=>(e3 hr).trans (hd' hr)⟩
  | exit i =>
   refine ⟨(.exit i,F1,H1),h1,fun ro n n0 wi Gi μi a w hro hfl hI=>wpIn_seq (wpIn_mono (h2 ro n n0 wi Gi μi a w hro hfl hI) ?_)⟩
   rintro e a' w' ⟨rfl,hI'⟩
   exact ⟨rfl,hI'⟩
  | ret =>
   refine ⟨(.ret,F1,H1),h1,fun ro n n0 wi Gi μi a w hro hfl hI=>wpIn_seq (wpIn_mono (h2 ro n n0 wi Gi μi a w hro hfl hI) ?_)⟩
   rintro e a' w' ⟨rfl,hI'⟩
   exact ⟨rfl,hI'⟩
 | .cond c x y,F,H,k,z,hl,h=>by
  simp only [qS] at h
  split at h
  ·rename_i t ht
   replace h:=FV h ht
   have hc : ∀ {n0 wi Gi μi a w},IM n0 wi Gi μi nt F H a w→a.eval c = .bool t:=fun {n0 wi Gi μi a w} hI=>by
    obtain ⟨G,μ,e,hW,hF,_⟩:=hI
    have hc:=bX hF c
    rw [ht,VR] at hc
    rw [← hc]
    cases c <;> rfl
   cases t with
   | true =>
    obtain ⟨r,h3,h4⟩:=iG hcl hP x F H k z (fun a ha=>hl a (by simp [bQ,ha])) h
    exact ⟨r,h3,fun ro n n0 wi Gi μi a w hro hfl hI=>wpIn_cond (hc hI) (h4 ro n n0 wi Gi μi a w hro hfl hI)⟩
   | false =>
    obtain ⟨r,h3,h4⟩:=iG hcl hP y F H k z (fun a ha=>hl a (by simp [bQ,ha])) h
    exact ⟨r,h3,fun ro n n0 wi Gi μi a w hro hfl hI=>wpIn_cond (hc hI) (h4 ro n n0 wi Gi μi a w hro hfl hI)⟩
  ·cases h
 | .block id x,F,H,k,z,hl,h=>by
  simp only [qS] at h
  obtain ⟨⟨ex,F1,H1⟩,h1,h2⟩:=iG hcl hP x F H _ z (fun a ha=>hl a (by simp [bQ,ha])) h
  cases ex with
  | normal =>
   refine ⟨(.normal,F1,H1),h1,fun ro n n0 wi Gi μi a w hro hfl hI=>wpIn_block (wpIn_mono (h2 ro n n0 wi Gi μi a w hro hfl hI) ?_)⟩
   rintro e a' w' ⟨rfl,hI'⟩
   exact ⟨rfl,hI'⟩
  | ret =>
   refine ⟨(.ret,F1,H1),h1,fun ro n n0 wi Gi μi a w hro hfl hI=>wpIn_block (wpIn_mono (h2 ro n n0 wi Gi μi a w hro hfl hI) ?_)⟩
   rintro e a' w' ⟨rfl,hI'⟩
   exact ⟨rfl,hI'⟩
  | exit i =>
   simp only at h1
   cases hi : Nat.beq i id with
   | true =>
    rw [hi] at h1
    have:=Nat.eq_of_beq_eq_true hi
    subst this
    refine ⟨(.normal,F1,H1),h1,fun ro n n0 wi Gi μi a w hro hfl hI=>wpIn_block (wpIn_mono (h2 ro n n0 wi Gi μi a w hro hfl hI) ?_)⟩
    rintro e a' w' ⟨rfl,hI'⟩
    simp only [Ex.to,Exit.inBlock,if_true]
    exact ⟨trivial,hI'⟩
   | false =>
    rw [hi] at h1
    have hne : ¬ i = id:=fun e=>by rw [e] at hi; simp at hi
    refine ⟨(.exit i,F1,H1),h1,fun ro n n0 wi Gi μi a w hro hfl hI=>wpIn_block (wpIn_mono (h2 ro n n0 wi Gi μi a w hro hfl hI) ?_)⟩
    rintro e a' w' ⟨rfl,hI'⟩
    simp only [Ex.to,Exit.inBlock,hne,if_false]
    exact ⟨trivial,hI'⟩
 | .loop x,F,H,k,z,hl,h=>by
  simp only [qS] at h
  split at h
  ·rename_i s hs
   split at h
   ·rename_i x0 hx
    obtain ⟨y,h1,h2⟩:=n9 h
    exact ⟨rJ s.exits y,A7 h2,fun ro n n0 wi Gi μi a w hro hfl hI=>hl (.loop x) (by simp [bQ]) s hs x0 y h1 ro n n0 wi Gi μi a w hro hfl (hI.dec hfl hx)⟩
   ·cases h
  ·cases h
 | .rangeFunc g ps as1 x,F,H,k,z,hl,h=>by
  simp only [qS] at h
  cases hrd : rd with
  | true=>rw [hrd] at h; cases h
  | false =>
   rw [hrd] at h
   simp only [cond_false] at h
   split at h
   ·rename_i s hs
    split at h
    ·rename_i x0 hx
     obtain ⟨y,h1,h2⟩:=n9 h
     refine ⟨rJ s.exits y,A7 h2,fun ro n n0 wi Gi μi a w hro hfl hI=>?_⟩
     have:=hl (.rangeFunc g ps as1 x) (by simp [bQ]) hrd s hs x0 y h1 ro n n0 wi Gi μi a w (by rw [hrd]; exact hro) hfl (hI.dec hfl hx)
     rw [hrd] at this
     exact this
    ·cases h
   ·cases h
 | .exit id,F,H,k,z,hl,h=>⟨(.exit id,F,H),h,fun _ _ _ _ _ _ _ _ _ _ hI=>wpIn_exit ⟨rfl,hI,fun _=>rfl⟩⟩
 | .scope x,F,H,k,z,hl,h=>by simp only [qS] at h; cases h
 | .ret,F,H,k,z,hl,h=>⟨(.ret,F,H),h,fun _ _ _ _ _ _ _ _ _ _ hI=>wpIn_ret ⟨rfl,hI,fun _=>rfl⟩⟩
 | .goto l,F,H,k,z,hl,h=>by simp only [qS] at h; cases h
 | .refuse s,F,H,k,z,hl,h=>by simp only [qS] at h; cases h

theorem FD {sh : List (Nat×Kd)} {exits : List (Ex×List (Nat×Kd))} {ex : Ex} {F : Frm} {H : Heap} {y : Shape.den sh ⊕ aR exits} (h : XJ T sh exits ex F H = some y) :
  (∃ x,y = .inl x∧ex = .normal∧pO T sh F H = some x) ∨ (∃ z,y = .inr z∧ex ≠ .normal∧EJ T exits ex F H = some z):=by
 cases ex with
 | normal =>
  simp only [XJ] at h
  split at h
  ·rename_i x hx
   exact .inl ⟨x,(Option.some.inj h).symm,rfl,hx⟩
  ·cases h
 | exit i =>
  simp only [XJ] at h
  split at h
  ·rename_i x hx
   exact .inr ⟨x,(Option.some.inj h).symm,by simp,hx⟩
  ·cases h
 | ret =>
  simp only [XJ] at h
  split at h
  ·rename_i x hx
   exact .inr ⟨x,(Option.some.inj h).symm,by simp,hx⟩
  ·cases h

theorem vF (hcl : cV P (dR P E)) (hP : P.follows .mixedOrders = true) {a : Code} {sh : List (Nat×Kd)} {exits : List (Ex×List (Nat×Kd))} {step : Shape.den sh→Option (Shape.den sh ⊕ aR exits)} (L : Nat)
  (hl : ∀ b ∈ bQ a,DI P nt lt rt rd T b) (hr : ∀ x,EM P E nt aU lt rt rd T a sh exits x = step x) : qJ P nt rd T (.loop a) ⟨sh,exits,bM step L⟩:=by
 intro x z hz ro n n0 wi Gi μi act w hro hfl hI
 refine wpIn_loop_ghost (fun k a w=>(∃ x,bM step k x = some z∧IM n0 wi Gi μi nt (pJ sh x 0) (wQ sh x) a w)∧(rd = true→a.defers = act.defers)) L ⟨⟨x,hz,hI⟩,fun _=>rfl⟩ ?_
 rintro k act1 w ⟨⟨x,hz,hI⟩,hdef⟩
 cases k with
 | zero=>cases hz
 | succ k =>
  simp only [bM] at hz
  split at hz
  ·rename_i y hs
   rw [← hr] at hs
   obtain ⟨⟨ex,F',H'⟩,h1,h2⟩:=iG hcl hP a _ _ _ _ hl hs
   refine wpIn_mono (h2 ro n n0 wi Gi μi act1 w hro hfl hI) ?_
   rintro e a' w' ⟨rfl,hI',hd'⟩
   rcases FD h1 with ⟨y',e1,e2,e3⟩ | ⟨z',e1,_,_⟩
   ·cases e1
    dsimp only at e2
    subst e2
    exact ⟨k,by omega,⟨y,hz,hI'.dec hfl e3⟩,fun hr=>(hd' hr).trans (hdef hr)⟩
   ·cases e1
  ·rename_i y hs
   simp only [Option.some.injEq] at hz
   subst hz
   rw [← hr] at hs
   obtain ⟨⟨ex,F',H'⟩,h1,h2⟩:=iG hcl hP a _ _ _ _ hl hs
   refine wpIn_mono (h2 ro n n0 wi Gi μi act1 w hro hfl hI) ?_
   rintro e a' w' ⟨rfl,hI',hd'⟩
   rcases FD h1 with ⟨y',e1,e2,e3⟩ | ⟨z',e1,e2,e3⟩
   ·cases e1
   ·cases e1
    dsimp only at e2 e3 hI'
    obtain ⟨h3,h5⟩:=hI'.NV hfl e3
    have h6 : (rd = true→a'.defers = act.defers):=fun hr=>(hd' hr).trans (hdef hr)
    cases ex with
    | normal=>exact absurd rfl e2
    | exit i=>exact ⟨by rw [h3],h5,h6⟩
    | ret=>exact ⟨by rw [h3],h5,h6⟩
  ·cases hz
end
end Go.PM
set_option linter.unusedSimpArgs false
set_option linter.unusedVariables false
namespace Go.PM
open Go Go.RowKit
def L3 : Kd→Nat→List Nat
 | .own _ _,n | .box _ _,n | .bown _ _ _,n | .bag _ _ _ _ _,n | .bag2 _ _ _ _ _ _,n=>[n]
 | .win j _,_=>[j]
 | _,_=>[]
def sI : List (Nat×Kd)→Nat→List Nat
 | [],_=>[]
 | (_,k) :: r,n=>L3 k n ++ sI r (n + k.pos)
structure Stp (S : Nat→Prop) (B A : World) : Prop where
 aU : ∀ b,b < B.heap.size→¬ S b→A.heap[b]? = B.heap[b]?
 room : ∀ b n,Room B b n→Room A b n
 os : A.os = B.os
 tape : A.tape = B.tape
 output : A.output = B.output
 size : B.heap.size ≤ A.heap.size
theorem Stp.trans {S : Nat→Prop} {A B C : World} (h : Stp S A B) (k : Stp S B C) : Stp S A C :=
 ⟨fun b hb hs=>(k.aU b (Nat.lt_of_lt_of_le hb h.size) hs).trans (h.aU b hb hs),fun b n hr=>k.room b n (h.room b n hr),k.os.trans h.os,k.tape.trans h.tape,k.output.trans h.output,Nat.le_trans h.size k.size⟩

def PG (P : Program) (gf : FuncId) (ts : List Ty) (ks : List Kd) (f : tN ts→Option (List (aI ks))) : Prop :=
 ∀ x all,f x = some all→∀ (m l : Nat) (W : World) (G : Nat→Prop) (vs : List Value),Lt W G→VRs W (Gd.of G) aL (HK ts x) vs →
  ∀ (J Jx : List (aI ks)→(Nat→Prop)→(Nat→Prop)→World→Prop),
  (∀ pre e post T X B T' X' A us Gx m',all = pre ++ e :: post→J pre T X B→Stp X B A→(∀ b,T' b→(T b ∨ B.heap.size ≤ b)∧b < A.heap.size)→(∀ b,X' b→T' b∧(X b ∨ B.heap.size ≤ b)) →
   (∀ b,Gx b→(G b ∨ T' b)∧¬ X' b)→VRs A (Gd.of Gx) aL (iP ks e) us →
   YieldAt Fence.wide m' P l us.toArray A fun en C =>
    ((∀ b,b < A.heap.size→G b ∨ T' b→C.heap[b]? = A.heap[b]?)∧(∀ b n,Room A b n→Room C b n)∧A.heap.size ≤ C.heap.size)∧((en = .returned (.bool true)∧J (pre ++ [e]) T' X' C) ∨ (en = .returned (.bool false)∧Jx (pre ++ [e]) T' X' C))) →
  J [] (fun _=>False) (fun _=>False) W →
  CallsIn Fence.wide m P gf ((#[.func (.yield l) #[] #[]] : Array Value) ++ vs.toArray) W fun en C=>(∃ v,en = .returned v)∧∃ T X B,Stp X B C∧(J all T X B ∨ ∃ pre,Jx pre T X B)

def GV {σ τ ε : Type} (step : σ→ε→Option (σ ⊕ τ)) (fin : σ→Option τ) : List ε→σ→Option τ
 | [],y=>fin y
 | e :: es,y=>match step y e with
  | some (.inl y')=>GV step fin es y'
  | some (.inr z)=>some z
  | none=>none
def aGC : List Nat→List PV→Frm→Frm
 | t :: ts,p :: ps,F=>aGC ts ps ((t,p) :: F)
 | _,_,F=>F
def a5I (sh : List (Nat×Kd)) (exits : List (Ex×List (Nat×Kd))) (F0 : Frm) (ex : Ex) (_ : Frm) (H : Heap) : Option (Shape.den sh ⊕ aR exits):=XJ [] sh exits ex F0 H
def J9 (P : Program) (E : Env) (nt aU : Nat) (lt rt : Nat→Option aS) (ps : List Nat) (assign body : Code) (ks : List Kd) (sh : List (Nat×Kd)) (exits : List (Ex×List (Nat×Kd))) (y : Shape.den sh) (e : aI ks) : Option (Shape.den sh ⊕ aR exits) :=
 bif Nat.beq ps.length ks.length && ps.all (fun t=>Nat.blt t nt) then
  qS P E nt aU lt rt true (sI sh 0) assign (aGC ps (iP ks e) (pJ sh y 0)) (wQ sh y) fun ex F H=>match ex with
   | .normal=>qS P E nt aU lt rt true (sI sh 0) body F H (a5I sh exits (pJ sh y 0))
   | _=>none
 else none
def a4P (sh : List (Nat×Kd)) (exits : List (Ex×List (Nat×Kd))) (y : Shape.den sh) : Option (aR exits):=EJ [] exits .normal (pJ sh y 0) (wQ sh y)
def aCS (sh : List (Nat×Kd)) (exits : List (Ex×List (Nat×Kd))) {ε : Type} (all : Shape.den sh→Option (List ε)) (step : Shape.den sh→ε→Option (Shape.den sh ⊕ aR exits)) (x : Shape.den sh) : Option (aR exits) :=
 match all x with
 | some l=>GV step (a4P sh exits) l x
 | none=>none
def aAY (gf : FuncId) (ts : List Ty) (sh : List (Nat×Kd)) (g : Operand) (x : Shape.den sh) : Option (tN ts):=bif ts.all Ty.plain then aHN gf ts (ev (pJ sh x 0) g) else none

section
variable {P : Program} {n0 : Nat→Prop} {w wi : World} {G Gi : Gd} {μ μi : Mp} {H : Heap} {F : Frm} {a : Act} {nt : Nat}
theorem tP {l : Nat} {o o' : Obj} (hl : w.heap[l]? = some o) (ho : (∀ c t fr,o ≠ .cells c t fr)∧∀ es clk,o ≠ .map es clk) (hG : ¬ G l) : Mono w G μ (w.putObj l o') G μ :=
 ⟨fun b hb=>⟨hb,World.putObj_heap_other (by rintro rfl; exact hG hb)⟩,fun _ _ h=>h,fun _ _ h=>h,fun b n ⟨cs,t,fr,h1,h2⟩=>⟨cs,t,fr,by
  rw [World.putObj_heap_other]
  ·exact h1
  ·rintro rfl
   rw [hl] at h1
   exact ho.1 cs t fr (Option.some.inj h1),h2⟩,fun _ _ h=>h⟩
theorem DU (hW : aV n0 G μ H w) {l : Nat} {o o' : Obj} (hl : w.heap[l]? = some o) (ho : (∀ c t fr,o ≠ .cells c t fr)∧∀ es clk,o ≠ .map es clk) (hG : ¬ G l) : aV n0 G μ H (w.putObj l o'):=by
 have m:=tP (μ:=μ) (o':=o') hl ho hG
 refine ⟨?_,hW.tags,hW.inj,hW.lt.step m.cW fun b hb=>by rw [World.putObj_size]; exact hW.lt b hb,hW.top,fun b hb=>hW.base b (by rw [World.putObj_size] at hb; exact hb),hW.rows.step m.aL (by rw [World.putObj_size]; exact Nat.le_refl _) (fun _=>rfl) (fun j b hj=>⟨?_,id,fun r k h1 h2 h3=>⟨r,k,h1,h2,h3⟩⟩) (fun r k _ _ h1 _ _=>⟨k,h1,rfl,rfl,rfl,rfl⟩)⟩
 case refine_2 =>
  rw [World.putObj_heap_other]
  rintro rfl
  rcases hW.rows.cel j _ hj with ⟨c,t,fr,hc⟩ | ⟨es,clk,hc⟩
  ·rw [hl] at hc
   exact ho.1 c t fr (Option.some.inj hc)
  ·rw [hl] at hc
   exact ho.2 es clk (Option.some.inj hc)
 intro r k b hr hb
 obtain ⟨c,h1,h2,h3,h4⟩:=hW.blk r k b hr hb
 have e : (w.putObj l o').heap[b]? = w.heap[b]?:=by
  rw [World.putObj_heap_other]
  rintro rfl
  rw [hl] at h1
  exact ho.1 _ _ _ (Option.some.inj h1)
 exact ⟨c,e.trans h1,aP.mono m e 0 _ h2,h3,h4⟩
theorem HW {l : Nat} {o o' : Obj} (hl : w.heap[l]? = some o) (ho : (∀ c t fr,o ≠ .cells c t fr)∧∀ es clk,o ≠ .map es clk) (hG : ¬ G l) (hn : n0 l) : Ext n0 w G μ (w.putObj l o') G μ :=
 {toMono:=tP hl ho hG
  os:=rfl
  tape:=rfl
  output:=rfl
  size:=by simp
  old:=fun b hb hnb=>World.putObj_heap_other (by rintro rfl; exact hnb hn)
  new:=fun b hb=>.inl hb }

theorem aP4 {T X T' Gx G1 : Nat→Prop} {A B : World} (hW : aV (fun b=>n0 b∧¬ T b) G μ H B) (hn : ∀ b,T b→n0 b) (hTX : ∀ b,X b→T b) (hGX : ∀ b,G b→¬ X b) (hG1 : ∀ b,G1 b→G b) (st : Stp X B A) (hT : ∀ b,T' b→(T b ∨ B.heap.size ≤ b)∧b < A.heap.size) (hx : ∀ b,Gx b→G1 b ∨ T' b) :
  Ext n0 B G μ A (G.or Gx) μ:={
 cW:=fun b hb=>⟨.inl hb,st.aU b (hW.lt b hb) (hGX b hb)⟩
 map:=fun _ _ h=>h
 len:=fun _ _ h=>h
 room:=st.room
 row:=fun _ _ h=>h
 os:=st.os
 tape:=st.tape
 output:=st.output
 size:=st.size
 old:=fun b hb hnb=>st.aU b hb fun hs=>hnb (hn b (hTX b hs))
 new:=fun b hb=>by
  rcases hb with hb | hb
  ·exact .inl hb
  ·rcases hx b hb with h | h
   ·exact .inl (hG1 b h)
   ·rcases (hT b h).1 with h | h
    ·exact .inr (hn b h)
    ·exact .inr (hW.base b h).1 }
theorem aL4 {T X T' Gx G1 : Nat→Prop} {A B : World} (hW : aV (fun b=>n0 b∧¬ T b) G μ H B) (hTX : ∀ b,X b→T b) (hGX : ∀ b,G b→¬ X b) (hG1 : ∀ b,G1 b→G b) (st : Stp X B A) (hT : ∀ b,T' b→(T b ∨ B.heap.size ≤ b)∧b < A.heap.size) (hx : ∀ b,Gx b→G1 b ∨ T' b) :
  aV (fun b=>n0 b∧¬ T' b) (G.or Gx) μ H A:=by
 have m : Mono B G μ A (G.or Gx) μ:=⟨fun b hb=>⟨.inl hb,st.aU b (hW.lt b hb) (hGX b hb)⟩,fun _ _ h=>h,fun _ _ h=>h,st.room,fun _ _ h=>h⟩
 refine ⟨?_,hW.tags,hW.inj,?_,hW.top,fun b hb=>⟨(hW.base b (Nat.le_trans st.size hb)).1,fun hs=>Nat.lt_irrefl _ (Nat.lt_of_lt_of_le (hT b hs).2 hb)⟩,?_⟩
 case refine_3 =>
  have nT : ∀ j b,G.row j = some b→¬ T' b:=fun j b hj hs=>by
   obtain ⟨a1,a2,_⟩:=hW.rows.sep j b hj
   rcases (hT b hs).1 with h | h
   ·exact a2.2 h
   ·omega
  refine (hW.rows.QV (n1:=fun b=>n0 b∧¬ T' b) fun j b hj hn=>⟨hn.1,nT j b hj⟩).step m.aL st.size (fun _=>rfl) (fun j b hj=>⟨?_,?_,fun r k h1 h2 h3=>⟨r,k,h1,h2,h3⟩⟩) (fun r k _ _ h1 _ _=>⟨k,h1,rfl,rfl,rfl,rfl⟩)
  ·obtain ⟨a1,a2,_⟩:=hW.rows.sep j b hj
   exact st.aU b a1 fun hx=>a2.2 (hTX b hx)
  ·rintro (h | h)
   ·exact h
   ·rcases hx b h with h' | h'
    ·exact hG1 b h'
    ·exact absurd h' (nT j b hj)
 ·intro r k b hr hb
  obtain ⟨c,h1,h2,h3,h4,h5⟩:=hW.blk r k b hr hb
  have hlt:=hW.iS hr hb
  have hns : ¬ X b:=by
   cases hf : k.frozen with
   | true=>exact hGX b (h4 hf)
   | false=>exact fun hx=>(h5 hf).1.2 (hTX b hx)
  have e:=st.aU b hlt hns
  have nT : k.frozen = false→¬ T' b:=fun hf hs=>by
   rcases (hT b hs).1 with h | h
   ·exact (h5 hf).1.2 h
   ·omega
  refine ⟨c,e.trans h1,aP.mono m e 0 _ h2,h3,fun hf=>.inl (h4 hf),fun hf=>⟨⟨(h5 hf).1.1,nT hf⟩,?_⟩⟩
  rintro (h | h)
  ·exact (h5 hf).2 h
  ·rcases hx b h with h' | h'
   ·exact (h5 hf).2 (hG1 b h')
   ·exact nT hf h'
 ·refine hW.lt.step m.cW ?_
  rintro b (hb | hb)
  ·exact Nat.lt_of_lt_of_le (hW.lt b hb) st.size
  ·rcases hx b hb with h | h
   ·exact Nat.lt_of_lt_of_le (hW.lt b (hG1 b h)) st.size
   ·exact (hT b h).2

theorem aFU : ∀ {ps : List Nat} {qs : List PV} {us : List Value} {F : Frm} {tmps : Array Value},ps.length = qs.length→(∀ t ∈ ps,t < nt)→VRs w G μ qs us→eP w G μ nt F { tmps:=tmps,defers:=[] } →
  eP w G μ nt (aGC ps qs F) { tmps:=(ps.zip us).foldl (fun t (p,v)=>t.setIfInBounds p v) tmps,defers:=[] }
 | [],[],us,F,tmps,_,_,hv,hF=>by
  simp only [aGC,List.zip_nil_left,List.foldl_nil]; exact hF
 | t :: ts,q :: qs,us,F,tmps,hl,hb,hv,hF=>by
  rw [VRs] at hv
  obtain ⟨v,vs,rfl,h1,h2⟩:=hv
  simp only [aGC,List.zip_cons_cons,List.foldl_cons]
  exact aFU (by simpa using hl) (fun s hs=>hb s (List.mem_cons_of_mem _ hs)) h2 (hF.cons (hb t List.mem_cons_self) h1)
 | [],_ :: _,us,F,tmps,hl,_,_,_=>by simp at hl
 | _ :: _,[],us,F,tmps,hl,_,_,_=>by simp at hl
end
end Go.PM
set_option linter.unusedSimpArgs false
set_option linter.unusedVariables false
namespace Go.PM
open Go Go.RowKit
def tI (μ : Mp) (T : List Nat) : Mp:=⟨fun r=>if r ∈ T then μ.loc r else none,fun r=>if r ∈ T then μ.len r else none⟩

section
variable {P : Program} {n0 : Nat→Prop} {w w' wi : World} {G G' Gi : Gd} {μ μ' μi : Mp} {H : Heap} {F : Frm} {a : Act} {nt : Nat}
theorem uG {T : List Nat} {r : Nat} (h : r ∈ T) : (tI μ T).loc r = μ.loc r∧(tI μ T).len r = μ.len r:=by simp [tI,h]
theorem GS {T : List Nat} : ∀ r,¬ r ∈ T→(tI μ T).loc r = none∧(tI μ T).len r = none:=fun r h=>by simp [tI,h]
theorem O2 (T : List Nat) : Ext n0 w G (tI μ T) w G μ:={
 cW:=fun _ h=>⟨h,rfl⟩
 map:=fun r b hr=>by
  by_cases h : r ∈ T
  ·rw [(uG h).1] at hr; exact hr
  ·rw [(GS r h).1] at hr; cases hr
 len:=fun r b hr=>by
  by_cases h : r ∈ T
  ·rw [(uG h).2] at hr; exact hr
  ·rw [(GS r h).2] at hr; cases hr
 room:=fun _ _ h=>h
 row:=fun _ _ h=>h
 os:=rfl
 tape:=rfl
 output:=rfl
 size:=Nat.le_refl _
 old:=fun _ _ _=>rfl
 new:=fun _ h=>.inl h }
theorem Q8 : ∀ (ts : List Ty) (x : tN ts),c6.noRefs (HK ts x) = true
 | [],_=>rfl
 | t :: r,(x,xs)=>by simp only [HK,c6.noRefs,c6,Q8 r xs,Bool.and_self]
theorem aS3 {T : List Nat} : ∀ (k : Kd) (x : k.den) (n : Nat) {v : Value},(∀ r,r ∈ L3 k n→r ∈ T)→VR w G μ (oR k x n) v→VR w G (tI μ T) (oR k x n) v
 | .int _,x,n,v,_,h=>by simp only [oR] at h ⊢; rw [VR] at h ⊢; exact h
 | .bool,x,n,v,_,h=>by simp only [oR] at h ⊢; rw [VR] at h ⊢; exact h
 | .str,x,n,v,_,h=>by simp only [oR] at h ⊢; rw [VR] at h ⊢; exact h
 | .list t,x,n,v,_,h=>(pU (oR (.list t) x n) v rfl h).bD
 | .agg t,x,n,v,_,h=>(pU (oR (.agg t) x n) v (by simp only [oR,c6]; exact wR t x) h).bD
 | .own e t,x,n,v,hT,h=>by
  have:=uG (μ:=μ) (hT n (by simp [L3]))
  simp only [oR] at h ⊢
  rw [VR] at h ⊢; rw [this.1,this.2]; exact h
 | .box e t,x,n,v,hT,h=>by
  have:=uG (μ:=μ) (hT n (by simp [L3]))
  simp only [oR] at h ⊢
  rw [VR] at h ⊢; rw [this.1]; exact h
 | .bown e et t,x,n,v,hT,h=>by
  have:=uG (μ:=μ) (hT n (by simp [L3]))
  simp only [oR] at h ⊢
  rw [VR] at h ⊢; rw [this.1]; exact h
 | .bag e t1 et t t2,x,n,v,hT,h=>by
  have:=uG (μ:=μ) (hT n (by simp [L3]))
  simp only [oR] at h ⊢
  rw [VR] at h ⊢; rw [this.1]; exact h
 | .bag2 e t1 et t eu u,x,n,v,hT,h=>by
  have:=uG (μ:=μ) (hT n (by simp [L3]))
  simp only [oR] at h ⊢
  rw [VR] at h ⊢; rw [this.1]; exact h
 | .ptr t,x,n,v,_,h=>(pU (oR (.ptr t) x n) v rfl h).bD
 | .fn g,x,n,v,_,h=>by simp only [oR] at h ⊢; rw [VR] at h ⊢; exact h
 | .nil0,x,n,v,_,h=>by simp only [oR] at h ⊢; rw [VR] at h ⊢; exact h
 | .val,x,n,v,_,h=>by simp only [oR] at h ⊢; rw [VR] at h ⊢; exact h
 | .hnd sz,x,n,v,_,h=>(pU (oR (.hnd sz) x n) v rfl h).bD
 | .mpk j,x,n,v,_,h=>(pU (oR (.mpk j) x n) v rfl h).bD
 | .ar e t,x,n,v,_,h=>by simp only [oR]; rw [VR]; trivial
 | .nilI,x,n,v,_,h=>by simp only [oR] at h ⊢; rw [VR] at h ⊢; exact h
 | .clo g ts,x,n,v,_,h=>(pU (oR (.clo g ts) x n) v (by simp only [oR,c6,c6.noRefs,Q8 ts x,Bool.and_self]) h).bD
 | .win j sz,x,n,v,hT,h=>by
  have:=uG (μ:=μ) (hT j (by simp [L3]))
  simp only [oR] at h ⊢
  rw [VR] at h ⊢; rw [this.1,this.2]; exact h
theorem aGH {T : List Nat} : ∀ (sh : List (Nat×Kd)) (x : Shape.den sh) (n : Nat) {t : Nat} {v : Value},(∀ r,r ∈ sI sh n→r ∈ T)→VR w G μ (cQ (pJ sh x n) t) v→VR w G (tI μ T) (cQ (pJ sh x n) t) v
 | [],_,_,t,v,_,h=>by simp only [pJ,cQ]; rw [VR]; trivial
 | (s,k) :: r,(x,xs),n,t,v,hT,h=>by
  simp only [pJ] at h ⊢
  rw [eI] at h ⊢
  by_cases hs : t = s
  ·rw [if_pos hs] at h ⊢
   exact aS3 k x n (fun r hr=>hT r (by simp only [sI]; exact List.mem_append_left _ hr)) h
  ·rw [if_neg hs] at h ⊢
   exact aGH r xs (n + k.pos) (fun r hr=>hT r (by simp only [sI]; exact List.mem_append_right _ hr)) h

theorem W8 (hW : aV n0 G μ H w) (o : Obj) : Ext n0 w G μ (w.alloc o) G μ∧aV n0 G μ H (w.alloc o):=by
 have e : Ext n0 w G μ (w.alloc o) G μ:={
  cW:=fun b hb=>⟨hb,Below.heap_alloc _ _ _ (hW.lt b hb)⟩
  map:=fun _ _ h=>h
  len:=fun _ _ h=>h
  room:=fun b n hc=>by
   obtain ⟨cs,t,fr,h1,h2⟩:=hc
   exact ⟨cs,t,fr,by rw [Below.heap_alloc _ _ _ (dC h1)]; exact h1,h2⟩
  row:=fun _ _ h=>h
  os:=rfl
  tape:=rfl
  output:=rfl
  size:=by simp
  old:=fun b hb _=>Below.heap_alloc _ _ _ hb
  new:=fun b hb=>.inl hb }
 exact ⟨e,hW.aU e ⟨fun _=>rfl,fun j b hj=>⟨Below.heap_alloc _ _ _ (hW.rows.sep j b hj).1,id⟩⟩ (fun r k b hr hb=>⟨Below.heap_alloc _ _ _ (hW.iS hr hb),id⟩) fun b hb=>Nat.lt_of_lt_of_le (hW.lt b hb) e.size⟩
theorem Ext.plain (h : Ext n0 w G μ w' G' μ') : Ext n0 w G aL w' G' aL :=
 {cW:=h.cW,map:=fun _ _ h=>(by cases h),len:=fun _ _ h=>(by cases h),room:=h.room,row:=h.row,os:=h.os,tape:=h.tape,output:=h.output,size:=h.size,old:=h.old,new:=h.new }
theorem Ext.back (hfl : ∀ r,μi.loc r = none∧μi.len r = none) (h : Ext n0 w G aL w' G' aL) : Ext n0 w G μi w' G' μ' :=
 {cW:=h.cW,map:=fun r b hr=>(by rw [(hfl r).1] at hr; cases hr),len:=fun r b hr=>(by rw [(hfl r).2] at hr; cases hr),room:=h.room,row:=h.row,os:=h.os,tape:=h.tape,output:=h.output,size:=h.size,old:=h.old,new:=h.new }

def Ex.code : Ex→Code
 | .normal=>.skip
 | .ret=>.ret
 | .exit i=>.exit i

structure Btw (n0 : Nat→Prop) (wi : World) (Gi : Gd) (μi : Mp) (nt : Nat) (a : Act) (G0 : Gd) (N L D : Nat) (F : Frm) (H : Heap) (T X : Nat→Prop) (B : World) (rec : Obj) (G : Gd) (μ : Mp) : Prop where
 ext : Ext n0 wi Gi μi B G μ
 winv : aV (fun b=>n0 b∧¬ T b) G μ H B
 finv : eP B G μ nt F { a with defers:=[] }
 base : ∀ b,G0 b→G b
 cW : ∀ b,G b→¬ X b
 sub : ∀ b,X b→T b
 seq : ∀ b,T b→n0 b∧N ≤ b
 size : N ≤ B.heap.size
 notL : ¬ G L
 notD : ¬ G D
 atL : B.heap[L]? = some rec
 atD : B.heap[D]? = some (.deferred (some []))
 marks : Marks wi B G a.defers

theorem aS6 {gf : FuncId} {ts : List Ty} {c : tN ts} {v : Value} (h : VR w G aL (.clo (.func gf) [] (HK ts c)) v) : ∃ cs : Array Value,v = .func (.func gf) #[] cs∧VRs w G aL (HK ts c) cs.toList:=by
 rw [VR] at h
 obtain ⟨fs,cs,h1,h2,h3⟩:=h
 rw [VRs] at h2
 have : fs = #[]:=by
  apply Array.ext'
  simpa using h2
 subst this
 exact ⟨cs,h1,h3⟩
theorem KW : ∀ (l : List Kd) (x : aI l),(iP l x).length = l.length
 | [],_=>rfl
 | k :: r,(x,xs)=>by simp only [iP,List.length_cons,KW r xs]

set_option maxHeartbeats 2000000 in
theorem aV7 {E : Env} {aU : Nat} {lt rt : Nat→Option aS} (hcl : cV P (dR P E)) (hP : P.follows .mixedOrders = true) {g : Operand} {ps : Array Tmp} {as1 body : Code} {gf : FuncId} {ts : List Ty} {ks : List Kd} {f : tN ts→Option (List (aI ks))}
  (hit : PG P gf ts ks f) (hgf : ∀ args w,(callFunc gf args).run P w = .ok (.enter gf args) w)
  {sh : List (Nat×Kd)} {exits : List (Ex×List (Nat×Kd))} {step : Shape.den sh→aI ks→Option (Shape.den sh ⊕ aR exits)} {all : Shape.den sh→Option (List (aI ks))}
  (has : ∀ b ∈ bQ as1,DI P nt lt rt true (sI sh 0) b) (hbd : ∀ b ∈ bQ body,DI P nt lt rt true (sI sh 0) b)
  (hsq : ∀ x l,all x = some l→∃ c,aAY gf ts sh g x = some c∧f c = some l)
  (hr : ∀ y e,J9 P E nt aU lt rt ps.toList as1 body ks sh exits y e = step y e) :
  qJ P nt false [] (.rangeFunc g ps as1 body) ⟨sh,exits,aCS sh exits all step⟩:=by
 intro x z hz ro n n0 wi Gi μi a w hro hfl0 hI
 have hfl : ∀ r,μi.loc r = none∧μi.len r = none:=fun r=>hfl0 r (by simp)
 have hro:=hro rfl
 subst hro
 show (Code.rangeFunc g ps as1 body).wpIn Fence.wide n P _ a w
 dsimp only at hz hI ⊢
 unfold aCS at hz
 obtain ⟨lst,hall⟩ : ∃ lst,all x = some lst:=by
  cases h : all x with
  | none=>rw [h] at hz; cases hz
  | some l=>exact ⟨l,rfl⟩
 rw [hall] at hz
 dsimp only at hz
 obtain ⟨c,hc1,hc2⟩:=hsq x lst hall
 obtain ⟨G,μ,e,hW,hF,hm⟩:=hI
 have hgv : VR w G μ (ev (pJ sh x 0) g) (a.eval g):=by
  have:=bX hF g
  have e1 : ({ a with defers:=[] } : Act).eval g = a.eval g:=by cases g <;> rfl
  rwa [e1] at this
 obtain ⟨hpl0,hc1⟩:=aM hc1
 obtain ⟨lb,hg,hvs⟩:=aS6 (IE hc1 hgv)
 refine wpIn_rangeFunc ?_
 intro fn _
 obtain ⟨rec,hrec⟩ : ∃ rec : LoopState→Option Code→Loop,rec = fun st pe=>{ state:=st,pending:=pe,fn,tmps:=a.tmps,params:=ps,assign:=as1,body,defers:=w.heap.size }:=⟨_,rfl⟩
 obtain ⟨W1,hW1⟩ : ∃ W1,(w.alloc (.deferred (some []))).alloc (.loop (rec .ready none)) = W1:=⟨_,rfl⟩
 obtain ⟨L,hLe⟩ : ∃ L,w.heap.size + 1 = L:=⟨_,rfl⟩
 obtain ⟨D,hDe⟩ : ∃ D,w.heap.size = D:=⟨_,rfl⟩
 have hs1 : W1.heap.size = w.heap.size + 2:=by rw [← hW1]; simp
 have hL1 : W1.heap[L]? = some (.loop (rec .ready none)):=by
  rw [← hW1,← hLe]; have:=World.alloc_heap_new (w.alloc (.deferred (some []))) (.loop (rec .ready none)); rwa [World.size_alloc] at this
 have hD1 : W1.heap[D]? = some (.deferred (some [])):=by
  rw [← hW1,← hDe]; exact (Below.heap_alloc _ _ _ (by simp)).trans (World.alloc_heap_new w _)
 obtain ⟨a1,a2⟩:=W8 (n0:=n0) hW (.deferred (some []))
 obtain ⟨b1,b2⟩:=W8 (n0:=n0) a2 (.loop (rec .ready none))
 rw [hW1] at b1 b2
 have eW1 : Ext n0 wi Gi μi W1 G μ:=(e.trans a1).trans b1
 have hvs1 : VRs W1 G aL (HK ts c) lb.toList:=VRs.mono (a1.toMono.trans b1.toMono).aL _ _ hvs
 have hGL : ¬ G L:=fun h=>by have:=hW.lt L h; omega
 have hGD : ¬ G D:=fun h=>by have:=hW.lt D h; omega
 have hn0L : n0 L:=hW.base L (by omega)
 have hn0D : n0 D:=hW.base D (by omega)
 have marks1 : Marks wi W1 G a.defers:=hm.to fun b hb h1 h2=>⟨by rw [← hW1,Below.heap_alloc _ _ _ (by have:=dC h1; simp; omega),Below.heap_alloc _ _ _ (dC h1)]; exact h1,h2⟩
 have markN : ∀ b,({ target:=.collected b,args:=#[] } : Deferred) ∈ a.defers→b < w.heap.size:=by
  intro b hb
  obtain ⟨b',e1,e2,_⟩:=hm.mem _ hb
  have : b = b':=by injection e1 with e1 _; injection e1
  subst this
  exact dC e2
 -- the states between the rounds
 let J : List (aI ks)→(Nat→Prop)→(Nat→Prop)→World→Prop:=fun pre T X B=>∃ y,GV step (a4P sh exits) (lst.drop pre.length) y = some z∧∃ G' μ',Btw n0 wi Gi μi nt a G W1.heap.size L D (pJ sh y 0) (wQ sh y) T X B (.loop (rec .ready none)) G' μ'
 let Jx : List (aI ks)→(Nat→Prop)→(Nat→Prop)→World→Prop:=fun pre T X B=>(rJ exits z).1 ≠ .normal∧∃ G' μ',Btw n0 wi Gi μi nt a G W1.heap.size L D (rJ exits z).2.1 (rJ exits z).2.2 T X B (.loop (rec .done (some (rJ exits z).1.code))) G' μ'
 refine ⟨L,[{ target:=.collected D,args:=#[] }],W1,{ target:=.fn (.func gf) lb,args:=#[.func (.yield L) #[] #[]] },W1,gf,#[.func (.yield L) #[] #[]] ++ lb,W1,?_,?_,fun _ _=>trivial,?_,fun h=>(by cases h),?_⟩
 ·rw [← hW1,hrec,← hLe,← hDe]; exact run_enterLoop_outer _ _ _ _ _
 ·simp only [resolve,hg]
  simp [go_sem]
 ·simp [invoke,go_sem,hgf]
 ·have hcall:=hit c lst hc2 (n - 1) L W1 G.ok lb.toList b2.lt (lP (G:=G) (G':=Gd.of G.ok) (fun b h=>h) _ _ _ (QF ts c hpl0) hvs1) J Jx ?round ?start
  ·rw [Array.toArray_toList] at hcall
   refine hcall.mono ?_
   rintro en C ⟨⟨v,rfl⟩,T,X,B,st,hJ⟩
   have hstep : ∀ {F' : Frm} {H' : Heap} {st' : LoopState} {pe : Option Code} {G' : Gd} {μ' : Mp},Btw n0 wi Gi μi nt a G W1.heap.size L D F' H' T X B (.loop (rec st' pe)) G' μ' →
     C.heap[L]? = some (.loop (rec st' pe))∧∀ o,IM n0 wi Gi μi nt F' H' { a with defers:={ target:=.collected D,args:=#[] } :: a.defers } (C.putObj L o):=by
    intro F' H' st' pe G' μ' bt
    have nS : ∀ b,b < W1.heap.size→¬ X b:=fun b hb hs=>Nat.lt_irrefl _ (Nat.lt_of_lt_of_le hb (bt.seq b (bt.sub b hs)).2)
    have hLC : C.heap[L]? = some (.loop (rec st' pe)):=(st.aU L (dC bt.atL) (nS L (by omega))).trans bt.atL
    have hDC : C.heap[D]? = some (.deferred (some [])):=(st.aU D (dC bt.atD) (nS D (by omega))).trans bt.atD
    refine ⟨hLC,fun o=>?_⟩
    have x1:=aP4 (T':=fun _=>False) (Gx:=fun _=>False) bt.winv (fun b hb=>(bt.seq b hb).1) bt.sub bt.cW bt.base st (fun b hb=>hb.elim) (fun b hb=>hb.elim)
    have x2:=(aL4 (T':=fun _=>False) (Gx:=fun _=>False) bt.winv bt.sub bt.cW bt.base st (fun b hb=>hb.elim) (fun b hb=>hb.elim)).wider (n0:=n0) fun b hb=>hb.1
    have nL : ¬ (G' L ∨ False):=fun h=>h.elim bt.notL id
    have nD : ¬ (G' D ∨ False):=fun h=>h.elim bt.notD id
    have x3:=DU (o':=o) x2 hLC ⟨fun _ _ _ h=>(by cases h),fun _ _ h=>(by cases h)⟩ nL
    have x4:=HW (G:=G'.or fun _=>False) (n0:=n0) (μ:=μ') (o':=o) hLC ⟨fun _ _ _ h=>(by cases h),fun _ _ h=>(by cases h)⟩ nL hn0L
    refine ⟨G'.or fun _=>False,μ',(bt.ext.trans x1).trans x4,x3,bt.finv.mono (x1.toMono.trans x4.toMono),⟨D,rfl,?_,?_,nD,?_⟩,?_⟩
    ·rw [World.putObj_heap_other (by omega)]; exact hDC
    ·have:=e.size; omega
    ·intro d' hd' he
     subst he
     have:=markN _ hd'
     omega
    ·refine bt.marks.to fun b hb h1 h2=>⟨?_,fun h=>h.elim h2 id⟩
     have hbw:=markN b hb
     rw [World.putObj_heap_other (by omega),st.aU b (dC h1) (nS b (by omega))]
     exact h1
   rcases hJ with ⟨y,hy,G',μ',bt⟩ | ⟨pre,hne,G',μ',bt⟩
   ·obtain ⟨h1,h2⟩:=hstep bt
    rw [List.drop_length] at hy
    simp only [GV] at hy
    have hel:=run_endLoop (P:=P) h1 (by rw [hrec]; simp)
    have k:=fun o=>(h2 o).NV hfl0 hy
    have hpn : (rec .ready none).pending = none:=by rw [hrec]
    rw [hpn] at hel
    exact ⟨none,_,hel,by rw [(k (.deferred none)).1]; rfl,(k _).2,fun h=>by cases h⟩
   ·obtain ⟨h1,h2⟩:=hstep bt
    have hel:=run_endLoop (P:=P) h1 (by rw [hrec]; simp)
    have hpn : (rec .done (some (rJ exits z).1.code)).pending = some (rJ exits z).1.code:=by rw [hrec]
    rw [hpn] at hel
    refine ⟨some (rJ exits z).1.code,_,hel,?_⟩
    dsimp only
    clear hel hpn h1 bt
    generalize rJ exits z = zz at hne h2 ⊢
    obtain ⟨ex,F',H'⟩:=zz
    cases ex with
    | normal=>exact absurd rfl hne
    | ret=>exact wpIn_ret ⟨rfl,h2 _,fun h=>by cases h⟩
    | exit i=>exact wpIn_exit ⟨rfl,h2 _,fun h=>by cases h⟩
  case start =>
   refine ⟨x,by simpa using hz,G,μ,eW1,b2.wider fun b hb=>⟨hb,id⟩,hF.mono (a1.toMono.trans b1.toMono),fun b h=>h,fun b _ h=>h,fun b h=>h.elim,fun b h=>h.elim,Nat.le_refl _,hGL,hGD,hL1,hD1,marks1⟩
  case round =>
   rintro pre el post T X B T' X' A us Gx m' hlst ⟨y,hy,G',μ',bt⟩ st hT' hX' hGx hus
   have hdrop : lst.drop pre.length = el :: post:=by rw [hlst]; simp
   have hdrop2 : lst.drop (pre ++ [el]).length = post:=by rw [hlst]; simp
   rw [hdrop] at hy
   simp only [GV] at hy
   obtain ⟨v,hv⟩ : ∃ v,step y el = some v:=by
    cases h : step y el with
    | none=>rw [h] at hy; cases hy
    | some v=>exact ⟨v,rfl⟩
   have hrg:=hr y el
   rw [hv] at hrg
   unfold J9 at hrg
   obtain ⟨hck,hrg⟩:=aM hrg
   simp only [Bool.and_eq_true,List.all_eq_true] at hck
   have hpl:=Nat.eq_of_beq_eq_true hck.1
   have hpt : ∀ t ∈ ps.toList,t < nt:=fun t ht=>dP (hck.2 t ht)
   -- the world in which the element comes
   have nT : ∀ b,b < W1.heap.size→¬ T b:=fun b hb hs=>Nat.lt_irrefl _ (Nat.lt_of_lt_of_le hb (bt.seq b hs).2)
   have nS : ∀ b,b < W1.heap.size→¬ X b:=fun b hb hs=>nT b hb (bt.sub b hs)
   have hLB:=dC bt.atL
   have hDB:=dC bt.atD
   have hLA : A.heap[L]? = some (.loop (rec .ready none)):=(st.aU L hLB (nS L (by omega))).trans bt.atL
   have hDA : A.heap[D]? = some (.deferred (some [])):=(st.aU D hDB (nS D (by omega))).trans bt.atD
   have x1:=aP4 bt.winv (fun b hb=>(bt.seq b hb).1) bt.sub bt.cW bt.base st hT' (fun b hb=>(hGx b hb).1)
   have x2:=aL4 bt.winv bt.sub bt.cW bt.base st hT' (fun b hb=>(hGx b hb).1)
   have nS' : ∀ b,b < B.heap.size→¬ T b→¬ T' b:=by
    intro b hb hs h
    rcases (hT' b h).1 with h' | h'
    ·exact hs h'
    ·omega
   have nG2 : ∀ b,b < B.heap.size→¬ T b→¬ G' b→¬ (G' b ∨ Gx b):=by
    rintro b hb ht hg (h | h)
    ·exact hg h
    ·rcases (hGx b h).1 with h' | h'
     ·exact hg (bt.base b h')
     ·exact nS' b hb ht h'
   have nL2:=nG2 L hLB (nT L (by omega)) bt.notL
   have nD2:=nG2 D hDB (nT D (by omega)) bt.notD
   have marksA : Marks wi A (G'.or Gx) a.defers:=bt.marks.to fun b hb h1 h2=>⟨by rw [st.aU b (dC h1) (nS b (by have:=markN b hb; omega))]; exact h1,nG2 b (dC h1) (nT b (by have:=markN b hb; omega)) h2⟩
   obtain ⟨G2,hG2⟩ : ∃ G2,G2 = G'.or Gx:=⟨_,rfl⟩
   rw [← hG2] at x1 x2 marksA
   have nL2 : ¬ G2 L:=by rw [hG2]; exact nL2
   have nD2 : ¬ G2 D:=by rw [hG2]; exact nD2
   have hxS : ∀ b,(b = L ∨ b = D ∨ ({ target:=.collected b,args:=#[] } : Deferred) ∈ a.defers)→b < A.heap.size∧(∀ c t fr,A.heap[b]? ≠ some (.cells c t fr))∧∀ es clk,A.heap[b]? ≠ some (.map es clk):=by
    rintro b (rfl | rfl | hb)
    ·exact ⟨dC hLA,fun c t fr h=>(by rw [hLA] at h; cases h),fun _ _ h=>(by rw [hLA] at h; cases h)⟩
    ·exact ⟨dC hDA,fun c t fr h=>(by rw [hDA] at h; cases h),fun _ _ h=>(by rw [hDA] at h; cases h)⟩
    ·obtain ⟨b',e1,e2,_⟩:=marksA.mem _ hb
     have : b = b':=by injection e1 with e1 _; injection e1
     subst this
     exact ⟨dC e2,fun c t fr h=>(by rw [e2] at h; cases h),fun _ _ h=>(by rw [e2] at h; cases h)⟩
   have x3:=x2.less hxS
   obtain ⟨n1,hn1⟩ : ∃ n1 : Nat→Prop,n1 = fun b=>(n0 b∧¬ T' b)∧¬ (b = L ∨ b = D ∨ ({ target:=.collected b,args:=#[] } : Deferred) ∈ a.defers):=⟨_,rfl⟩
   rw [← hn1] at x3
   have n1n0 : ∀ b,n1 b→n0 b:=fun b h=>by rw [hn1] at h; exact h.1.1
   have n1S : ∀ b,n1 b→¬ T' b:=fun b h=>by rw [hn1] at h; exact h.1.2
   have n1L : ¬ n1 L:=fun h=>by rw [hn1] at h; exact h.2 (.inl rfl)
   have n1D : ¬ n1 D:=fun h=>by rw [hn1] at h; exact h.2 (.inr (.inl rfl))
   have n1M : ∀ b,({ target:=.collected b,args:=#[] } : Deferred) ∈ a.defers→¬ n1 b:=fun b hb h=>by rw [hn1] at h; exact h.2 (.inr (.inr hb))
   have hFA : eP A G2 μ' nt (pJ sh y 0) { a with defers:=[] }:=bt.finv.mono x1.toMono
   have husA : VRs A G2 μ' (iP ks el) us:=VRs.mono (⟨fun b hb=>⟨by rw [hG2]; exact .inr hb,rfl⟩,fun _ _ h=>(by cases h),fun _ _ h=>(by cases h),fun _ _ h=>h,fun _ _ h=>(by cases h)⟩ : Mono A (Gd.of Gx) aL A G2 μ') _ _ hus
   have hlen : us.length = ps.size:=by
    rw [← husA.length,KW,← hpl,Array.length_toList]
   have hyield:=run_yield (P:=P) (args:=us.toArray) hLA (by rw [hrec]; simpa using hlen)
   have hfold : (ps.zip us.toArray).foldl (fun tmps (t,a)=>tmps.setIfInBounds t a) a.tmps = (ps.toList.zip us).foldl (fun t (p,v)=>t.setIfInBounds p v) a.tmps:=by
    rw [← Array.foldl_toList,Array.toList_zip]
   rw [hrec] at hyield
   dsimp only at hyield
   rw [hfold] at hyield
   refine ⟨fn,_,as1,body,hyield,roundIn_of_wpIn trivial ?_⟩
   -- the assignment
   have hI0 : IM n1 A G2 (tI μ' (sI sh 0)) nt (aGC ps.toList (iP ks el) (pJ sh y 0)) (wQ sh y) { tmps:=(ps.toList.zip us).foldl (fun t (p,v)=>t.setIfInBounds p v) a.tmps,defers:=[] } A :=
    ⟨G2,μ',O2 _,x3,aFU (by rw [KW]; exact hpl) hpt husA hFA,trivial⟩
   obtain ⟨⟨ex1,F1,H1⟩,hk1,hrun1⟩:=iG hcl hP as1 _ _ _ _ has hrg
   dsimp only at hk1
   cases ex1 with
   | ret=>cases hk1
   | exit i=>cases hk1
   | normal =>
   dsimp only at hk1
   obtain ⟨⟨ex2,F2,H2⟩,hk2,hrun2⟩:=iG hcl hP body _ _ _ _ hbd hk1
   show as1.wpIn (Fr (some L)) m' P _ _ A
   refine wpIn_mono (hrun1 (some L) m' n1 A G2 _ _ A (fun h=>by cases h) (fun r h=>GS r h) hI0) ?_
   rintro e1 act1 A1 ⟨rfl,⟨G3,μ3,y1,y2,y3,y4⟩,hd1⟩
   have hd1 : act1.defers = []:=hd1 rfl
   have nL3 : ¬ G3 L:=fun h=>(y1.new L h).elim nL2 n1L
   have hL1' : A1.heap[L]? = some (.loop (rec .ready none)):=(y1.old L (dC hLA) n1L).trans hLA
   refine ⟨_,run_beginRound hL1' (by rw [hrec]),?_⟩
   obtain ⟨A2,hA2⟩ : ∃ A2,A1.putObj L (.loop { rec .ready none with state:=.busy }) = A2:=⟨_,rfl⟩
   rw [hA2]
   have p1 : Mono A1 G3 μ3 A2 G3 μ3:=by rw [← hA2]; exact tP hL1' ⟨fun _ _ _ h=>(by cases h),fun _ _ h=>(by cases h)⟩ nL3
   have p2 : aV n1 G3 μ3 H1 A2:=by rw [← hA2]; exact DU y2 hL1' ⟨fun _ _ _ h=>(by cases h),fun _ _ h=>(by cases h)⟩ nL3
   have hL2' : A2.heap[L]? = some (.loop { rec .ready none with state:=.busy }):=by rw [← hA2]; exact World.putObj_heap_same (dC hL1')
   have e12 : Ext n0 A1 G3 μ3 A2 G3 μ3:=by rw [← hA2]; exact HW hL1' ⟨fun _ _ _ h=>(by cases h),fun _ _ h=>(by cases h)⟩ nL3 hn0L
   have hI2 : IM n1 A2 G3 (tI μ' (sI sh 0)) nt F1 H1 act1 A2 :=
    ⟨G3,μ3,{ O2 (n0:=n1) (w:=A2) (G:=G3) (μ:=μ') [] with
     map:=y1.map
     len:=y1.len
     cW:=fun b hb=>⟨hb,rfl⟩
     room:=fun _ _ h=>h
     new:=fun b hb=>.inl hb },p2,y3.mono p1,by rw [hd1]; trivial⟩
   show body.wpIn (Fr (some L)) m' P _ act1 A2
   refine wpIn_mono (hrun2 (some L) m' n1 A2 G3 _ act1 A2 (fun h=>by cases h) (fun r h=>GS r h) hI2) ?_
   rintro e2 act2 A3 ⟨rfl,⟨G4,μ4,z1,z2,z3,z4⟩,hd2⟩
   have nL4 : ¬ G4 L:=fun h=>(z1.new L h).elim nL3 n1L
   have hL3' : A3.heap[L]? = some (.loop { rec .ready none with state:=.busy }):=(z1.old L (dC hL2') n1L).trans hL2'
   have hdn : act2.defers = []:=(hd2 rfl).trans hd1
   -- back with the caller
   have hFend : eP A3 G4 μ4 nt (pJ sh y 0) { a with defers:=[] }:=by
    refine ⟨hFA.size,fun t=>?_,rfl⟩
    have v0:=aGH (T:=sI sh 0) sh y 0 (fun r h=>h) (hFA.slot t)
    have v1:=VR.mono (⟨y1.cW,fun _ _ h=>h,fun _ _ h=>h,y1.room,y1.row⟩ : Mono A G2 (tI μ' (sI sh 0)) A1 G3 (tI μ' (sI sh 0))) _ _ v0
    have v2:=VR.mono (⟨p1.cW,fun _ _ h=>h,fun _ _ h=>h,p1.room,p1.row⟩ : Mono A1 G3 (tI μ' (sI sh 0)) A2 G3 (tI μ' (sI sh 0))) _ _ v1
    exact VR.mono z1.toMono _ _ v2
   have back : ∀ (o : Obj) (F5 : Frm) (H5 : Heap),(∀ {n0 : Nat→Prop} {wi : World} {Gi : Gd} {μi : Mp} {a : Act} {w : World},(∀ r,¬ r ∈ ([] : List Nat)→μi.loc r = none∧μi.len r = none)→IM n0 wi Gi μi nt (pJ sh y 0) H2 a w→IM n0 wi Gi μi nt F5 H5 a w) →
     ∃ G5 μ5,Btw n0 wi Gi μi nt a G W1.heap.size L D F5 H5 T' X' (A3.putObj L o) o G5 μ5:=by
    intro o F5 H5 hdec
    have q1:=DU (o':=o) z2 hL3' ⟨fun _ _ _ h=>(by cases h),fun _ _ h=>(by cases h)⟩ nL4
    have q2:=tP (μ:=μ4) (o':=o) hL3' ⟨fun _ _ _ h=>(by cases h),fun _ _ h=>(by cases h)⟩ nL4
    have q3:=HW (n0:=n0) (μ:=μ4) (o':=o) hL3' ⟨fun _ _ _ h=>(by cases h),fun _ _ h=>(by cases h)⟩ nL4 hn0L
    have hIe : IM n1 (A3.putObj L o) G4 aL nt (pJ sh y 0) H2 { a with defers:=[] } (A3.putObj L o) :=
     ⟨G4,μ4,{ O2 (n0:=n1) (w:=A3.putObj L o) (G:=G4) (μ:=μ4) [] with
      map:=fun _ _ h=>by cases h
      len:=fun _ _ h=>by cases h
      cW:=fun b hb=>⟨hb,rfl⟩
      room:=fun _ _ h=>h
      new:=fun b hb=>.inl hb },q1,hFend.mono q2,trivial⟩
    obtain ⟨G5,μ5,r1,r2,r3,_⟩:=hdec (fun _ _=>⟨rfl,rfl⟩) hIe
    have g45 : ∀ b,G5 b→G2 b ∨ n1 b:=fun b h=>by
     rcases r1.new b h with h | h
     ·rcases z1.new b h with h | h
      ·exact y1.new b h
      ·exact .inr h
     ·exact .inr h
    have mk : ∀ b,({ target:=.collected b,args:=#[] } : Deferred) ∈ a.defers→A.heap[b]? = some (.deferred (some []))→(A3.putObj L o).heap[b]? = some (.deferred (some [])):=by
     intro b hb h1
     have hbw:=markN b hb
     have k1:=(y1.old b (dC h1) (n1M b hb)).trans h1
     have k2 : A2.heap[b]? = some (.deferred (some [])):=by rw [← hA2,World.putObj_heap_other (by omega)]; exact k1
     have k3:=(z1.old b (dC k2) (n1M b hb)).trans k2
     rw [World.putObj_heap_other (by omega)]; exact k3
    refine ⟨G5,μ5,?_,r2.wider fun b hb=>⟨n1n0 b hb,n1S b hb⟩,r3,?_,?_,?_,?_,?_,?_,?_,?_,?_,?_⟩
    ·have t1:=((bt.ext.plain.trans x1.plain).trans (y1.wider n1n0).plain).trans e12.plain
     exact Ext.back hfl (((t1.trans (z1.wider n1n0).plain).trans q3.plain).trans (r1.wider n1n0).plain)
    ·intro b hb
     have h2 : G2 b:=by rw [hG2]; exact .inl (bt.base b hb)
     exact (r1.cW b (z1.cW b (y1.cW b h2).1).1).1
    ·intro b hb hs
     rcases g45 b hb with h | h
     ·rw [hG2] at h
      rcases h with h | h
      ·rcases (hX' b hs).2 with h' | h'
       ·exact bt.cW b h h'
       ·exact Nat.lt_irrefl _ (Nat.lt_of_lt_of_le (bt.winv.lt b h) h')
      ·exact (hGx b h).2 hs
     ·exact n1S b h (hX' b hs).1
    ·exact fun b hs=>(hX' b hs).1
    ·intro b hs
     rcases (hT' b hs).1 with h | h
     ·exact bt.seq b h
     ·exact ⟨(bt.winv.base b h).1,Nat.le_trans bt.size h⟩
    ·have s1:=bt.size
     have s2:=st.size
     have s3:=y1.size
     have s4:=e12.size
     have s5:=z1.size
     rw [World.putObj_size]
     omega
    ·exact fun h=>(g45 L h).elim nL2 n1L
    ·exact fun h=>(g45 D h).elim nD2 n1D
    ·exact World.putObj_heap_same (dC hL3')
    ·have k1:=(y1.old D (dC hDA) n1D).trans hDA
     have k2 : A2.heap[D]? = some (.deferred (some [])):=by rw [← hA2,World.putObj_heap_other (by omega)]; exact k1
     have k3:=(z1.old D (dC k2) n1D).trans k2
     rw [World.putObj_heap_other (by omega)]; exact k3
    ·refine marksA.to fun b hb h1 h2=>⟨mk b hb h1,fun hg=>?_⟩
     exact (g45 b hg).elim h2 (n1M b hb)
   have frame : ∀ (o : Obj) (b : Nat),b < A.heap.size→G b ∨ T' b→(A3.putObj L o).heap[b]? = A.heap[b]?:=by
    intro o b hb h
    have hbL : b ≠ L:=by
     rintro rfl
     rcases h with h | h
     ·exact hGL h
     ·exact nS' b hLB (nT b (by omega)) h
    have k1 : A1.heap[b]? = A.heap[b]?∧(G3 b ∨ T' b):=by
     rcases h with h | h
     ·have:=y1.cW b (by rw [hG2]; exact .inl (bt.base b h))
      exact ⟨this.2,.inl this.1⟩
     ·exact ⟨y1.old b hb fun hn=>n1S b hn h,.inr h⟩
    have k2 : A2.heap[b]? = A.heap[b]?:=by rw [← hA2,World.putObj_heap_other hbL]; exact k1.1
    have k3 : A3.heap[b]? = A2.heap[b]?:=by
     rcases k1.2 with h | h
     ·exact (z1.cW b h).2
     ·refine z1.old b ?_ fun hn=>n1S b hn h
      have s3:=y1.size
      have s4:=e12.size
      omega
    rw [World.putObj_heap_other hbL,k3,k2]
   have hroom : ∀ (o : Obj) (b n : Nat),Room A b n→Room (A3.putObj L o) b n:=fun o b n h =>
    (tP (μ:=μ4) (o':=o) hL3' ⟨fun _ _ _ h=>(by cases h),fun _ _ h=>(by cases h)⟩ nL4).room b n (z1.room b n (p1.room b n (y1.room b n h)))
   have hsz : ∀ o,A.heap.size ≤ (A3.putObj L o).heap.size:=by
    intro o
    have s3:=y1.size
    have s4:=e12.size
    have s5:=z1.size
    rw [World.putObj_size]; omega
   rw [hv] at hy
   unfold a5I at hk2
   dsimp only at hk2
   rcases FD hk2 with ⟨x',rfl,e2,e3⟩ | ⟨z',rfl,e2,e3⟩
   ·subst e2
    dsimp only at hy
    refine ⟨_,_,run_endRound none hL3',⟨frame _,hroom _,hsz _⟩,.inl ⟨rfl,⟨x',by rw [hdrop2]; exact hy,?_⟩⟩⟩
    have:=back (.loop (rec .ready none)) (pJ sh x' 0) (wQ sh x') (fun h hI=>hI.dec h e3)
    rw [hrec] at this ⊢
    exact this
   ·dsimp only at hy
    have hzz : z' = z:=Option.some.inj hy
    subst hzz
    obtain ⟨o1,_⟩:=zY e3
    have hb:=back (.loop (rec .done (some ex2.code))) (rJ exits z').2.1 (rJ exits z').2.2 (fun h hI=>(hI.NV h e3).2)
    rw [hrec] at hb
    cases ex2 with
    | normal=>exact absurd rfl e2
    | ret =>
     refine ⟨_,_,run_endRound (some .ret) hL3',⟨frame _,hroom _,hsz _⟩,.inr ⟨rfl,by rw [o1]; exact e2,?_⟩⟩
     rw [o1,hrec]
     exact hb
    | exit i =>
     refine ⟨_,_,run_endRound (some (.exit i)) hL3',⟨frame _,hroom _,hsz _⟩,.inr ⟨rfl,by rw [o1]; exact e2,?_⟩⟩
     rw [o1,hrec]
     exact hb
end
end Go.PM
set_option linter.unusedSimpArgs false
set_option linter.unusedVariables false
namespace Go.PM
open Go Go.RowKit
section
variable {P : Program} {n0 : Nat→Prop} {w w' wi : World} {G G' Gi : Gd} {μ μ' μi : Mp} {H : Heap} {F : Frm} {nt n : Nat}
theorem pK {fn : Func} {tmps : Array Value} {R : Ending→World→Prop} (hb : ∀ b,wi.heap.size ≤ b→n0 b) (hend : ∀ w',IM n0 wi Gi μi nt F H { tmps:=tmps,defers:=[] } w'→LeavesIn Fence.wide n P fn tmps R [] .returning w') :
  ∀ (ds : List Deferred) (w : World),IM n0 wi Gi μi nt F H { tmps:=tmps,defers:=ds } w→LeavesInM Fence.wide n P fn tmps R ds .returning w
 | [],w,h=>hend w h
 | d :: ds,w,h=>by
  obtain ⟨G,μ,e,hW,hF,⟨b,rfl,h1,h2,h3,h4⟩,hm⟩:=h
  refine ⟨by simp,.inl ⟨b,_,rfl,run_takeDeferred h1,pK hb hend ds _ ⟨G,μ,e.trans (HW h1 ⟨fun _ _ _ h=>(by cases h),fun _ _ h=>(by cases h)⟩ h3 (hb b h2)),DU hW h1 ⟨fun _ _ _ h=>(by cases h),fun _ _ h=>(by cases h)⟩ h3,hF.mono (tP h1 ⟨fun _ _ _ h=>(by cases h),fun _ _ h=>(by cases h)⟩ h3),?_⟩⟩⟩
  refine hm.to fun b' hb' k1 k2=>⟨?_,k2⟩
  rw [World.putObj_heap_other]
  ·exact k1
  ·rintro rfl
   exact h4 _ hb' rfl

def aAD (P : Program) (E : Env) (fn : Func) (aU : Nat) (lt rt : Nat→Option aS) (c : Code) (args rets : List Kd) (x : aI args) : Option (aI rets) :=
 bif Nat.ble (iP args x).length fn.ntmps then qS P E fn.ntmps aU lt rt false [] c (start aU 0 (iP args x)) [] (aKT P fn.results.toList rets) else none

theorem RK {E : Env} (hP : B0 P) (hE : aZ P E) {g : Nat} {fn : Func} (hg : P.funcs[g]? = some fn) {c : Code} (hc : fn.body = some c) {aU : Nat} {lt rt : Nat→Option aS} {args rets : List Kd} {f : aI args→Option (aI rets)}
  (hl : ∀ a ∈ bQ c,DI P fn.ntmps lt rt false [] a) (hb : ∀ x,aAD P E fn aU lt rt c args rets x = f x) : bY P g args rets f:=by
 intro x y hy
 rw [← hb] at hy
 unfold aAD at hy
 obtain ⟨hlen,hy⟩:=aM hy
 obtain ⟨⟨ex,F',H'⟩,h1,h2⟩:=iG hE.callee hP.mixed c _ _ _ _ hl hy
 obtain ⟨vs,q,hex,hvs,hq,hd⟩ : ∃ vs q,(ex = .normal ∨ ex = .ret)∧mY P F' H' fn.results.toList = some vs∧aNT H' (fC vs) = some q∧aL8 rets q = some y:=by
  unfold aKT at h1
  split at h1
  ·cases h1
  ·rename_i hne
   split at h1
   ·rename_i vs hvs
    split at h1
    ·rename_i q hq
     refine ⟨vs,q,?_,hvs,hq,h1⟩
     cases ex with
     | normal=>exact .inl rfl
     | ret=>exact .inr rfl
     | exit i=>exact absurd rfl (hne i)
    ·cases h1
   ·cases h1
 have hcall : ∀ {n0 G μ w us},aV n0 G μ [] w→VRs w G μ (iP args x) us→pL P n0 w G μ g us.toArray (fC vs) H':=by
  intro n0 G μ w us hW hv
  refine ⟨enters hg (hP.names g fn hg) (by rw [hc]; rfl) _ _,(callsIn_wide (n:=0)).1 (callsIn_of_wp_marks hg hc trivial ?_)⟩
  have hI : I n0 w G μ fn.ntmps (start aU 0 (iP args x)) [] ⟨us.toArray ++ Array.replicate (fn.ntmps - us.toArray.size) undef,[]⟩ w:=⟨G,μ,Ext.refl _ _ _ _,hW,rA (by simpa using hv) (Nat.le_of_ble_eq_true hlen)⟩
  refine wpIn_mono (h2 none 0 n0 w G μ _ w (fun _=>rfl) (fun r _=>hW.top r (Nat.zero_le _)) hI.a8F) ?_
  rintro e ⟨tm,ds⟩ w' ⟨rfl,hI',_⟩
  have hend : ∀ w',IM n0 w G μ fn.ntmps F' H' { tmps:=tm,defers:=[] } w'→LeavesIn Fence.wide 0 P fn tm (fun e w'=>∃ v' G'' μ'',e = .returned v'∧Ext n0 w G μ w' G'' μ''∧aV n0 G'' μ'' H' w'∧VR w' G'' μ'' (fC vs) v') [] .returning w':=by
   rintro w' ⟨G',μ',e',hW',hF',_⟩
   obtain ⟨ws,h3,h4⟩:=lM (P:=P) hW' hF' hvs
   have hres : (results fn tm).run P w' = .ok (if hh : ws.toArray.size = 1 then ws.toArray[0] else .tuple ws.toArray) w':=by
    rw [tL,Array.mapM_eq_mapM_toList]
    simp only [Sem.run_bind,Sem.run_map,h3,Result.andThen_ok,Sem.run_pure]
   exact ⟨_,hres,_,G',μ',rfl,e',hW',nH h4⟩
  rcases hex with rfl | rfl
  ·exact pK (fun b hb=>hW.base b hb) hend ds w' hI'
  ·exact pK (fun b hb=>hW.base b hb) hend ds w' hI'
 have hp:=MA hcall (A5 hq).1 (A5 hq).2
 intro w G us hlt hv
 obtain ⟨h3,h4⟩:=hp w G us hlt hv
 refine ⟨h3,h4.mono ?_⟩
 rintro e w' ⟨v',G',rfl,e1,e2,e3⟩
 exact ⟨v',G',rfl,e1,e2,M4 hd e3⟩

def aOQ (P : Program) (nt : Nat) (lt rt : Nat→Option aS) (rd : Bool) (T : List Nat) : List Code→Prop
 | []=>True
 | a :: r=>DI P nt lt rt rd T a∧aOQ P nt lt rt rd T r
theorem Z5 {lt rt : Nat→Option aS} {rd : Bool} {T : List Nat} : ∀ {l : List Code},aOQ P nt lt rt rd T l→∀ a ∈ l,DI P nt lt rt rd T a
 | [],_,a,ha=>by simp at ha
 | b :: r,h,a,ha=>by
  rcases List.mem_cons.1 ha with rfl | ha
  ·exact h.1
  ·exact Z5 h.2 a ha
theorem kK {lt rt : Nat→Option aS} {rd : Bool} {T : List Nat} {c : Code} {l : List Code} (hc : bQ c = l) (h : aOQ P nt lt rt rd T l) : ∀ a ∈ bQ c,DI P nt lt rt rd T a:=by
 rw [hc]; exact Z5 h
theorem xW {lt rt : Nat→Option aS} {rd : Bool} {T : List Nat} {a : Code} {i : Nat} {s0 : aS} (hf : aG a = i) (hlt : lt i = some s0) (h : qJ P nt rd T (.loop a) s0) : DI P nt lt rt rd T (.loop a):=by
 intro s hs
 rw [hf,hlt] at hs
 cases hs
 exact h
theorem aUN {lt rt : Nat→Option aS} {g : Operand} {ps : Array Tmp} {as1 a : Code} {i : Nat} {s0 : aS} (hf : aG a = i) (hrt : rt i = some s0) (h : qJ P nt false [] (.rangeFunc g ps as1 a) s0) : DI P nt lt rt false [] (.rangeFunc g ps as1 a):=by
 intro _ s hs
 rw [hf,hrt] at hs
 cases hs
 exact h
def zO (c : Code) (i : Nat) : Code:=(bQ c).getD i .skip
def inLoop : Code→Code
 | .loop a=>a
 | .rangeFunc _ _ _ a=>a
 | _=>.skip
def lW : Code→Code
 | .rangeFunc _ _ as1 _=>as1
 | _=>.skip
def DT : Code→Operand
 | .rangeFunc g _ _ _=>g
 | _=>.const undef
def R8 : Code→Array Tmp
 | .rangeFunc _ ps _ _=>ps
 | _=>#[]
theorem A8 {lt rt : Nat→Option aS} {r : Code} {i : Nat} {s0 : aS} (hr : r = .rangeFunc (DT r) (R8 r) (lW r) (inLoop r)) (hf : aG (inLoop r) = i) (hrt : rt i = some s0) (h : qJ P nt false [] r s0) : DI P nt lt rt false [] r:=by
 rw [hr] at h ⊢
 exact aUN hf hrt h
theorem FR {E : Env} {aU : Nat} {lt rt : Nat→Option aS} (hE : aZ P E) (hP : B0 P) {r : Code} (hrc : r = .rangeFunc (DT r) (R8 r) (lW r) (inLoop r)) {gf : Nat} {fn : Func} {c : Code} {ts : List Ty} {ks : List Kd} {f : tN ts→Option (List (aI ks))}
  (hg : P.funcs[gf]? = some fn) (hc : fn.body = some c) (hit : PG P gf ts ks f)
  {sh : List (Nat×Kd)} {exits : List (Ex×List (Nat×Kd))} {step : Shape.den sh→aI ks→Option (Shape.den sh ⊕ aR exits)} {cap : Shape.den sh→tN ts}
  (has : bQ (lW r) = []) (hbd : ∀ b ∈ bQ (inLoop r),DI P nt lt rt true (sI sh 0) b)
  (hsq : ∀ x,aAY gf ts sh (DT r) x = some (cap x))
  (hr : ∀ y e,J9 P E nt aU lt rt (R8 r).toList (lW r) (inLoop r) ks sh exits y e = step y e) :
  qJ P nt false [] r ⟨sh,exits,aCS sh exits (fun x=>f (cap x)) step⟩:=by
 have:=aV7 (g:=DT r) (ps:=R8 r) (as1:=lW r) (body:=inLoop r) hE.callee hP.mixed hit (fun args w=>enters hg (hP.names gf fn hg) (by rw [hc]; rfl) args w) (by rw [has]; intro b hb; cases hb) hbd (fun x l hl=>⟨cap x,hsq x,hl⟩) hr
 rw [← hrc] at this
 exact this
end
end Go.PM
namespace Go.PM
open Go Go.RowKit
def nK : Code→Nat
 | .region _ ops _=>MC ops.toList ops.toList 0 0
 | .seq a b=>nK a ||| nK b
 | .cond c a b=>aX0 c ||| nK a ||| nK b
 | .block _ a=>nK a
 | .loop a=>nK a
 | .scope a=>nK a
 | .rangeFunc g _ as1 a=>aX0 g ||| nK as1 ||| nK a
 | _=>0
def nU (fn : Func) : Nat:=match fn.body with
 | some c=>DL fn.results.toList (nK c)
 | none=>0
end Go.PM
set_option linter.unusedSimpArgs false
set_option linter.unusedVariables false
namespace Go.Proofs
open Go Go.RowKit Go.Sort Go.Lib
set_option maxHeartbeats 6400000
set_option maxRecDepth 100000
theorem Tryz.NQ (u : Nat) (hu64 : u < 18446744073709551616) (w : World) (htab : Lib.TabIs Tryz.prog w "internal/strconv.uint64pow10" .u64 Lib.pow10Tab) :
  Calls Tryz.prog 205 #[.int .u64 u,.int .i64 10] w fun e w'=>e = .returned (.string ⟨(Lib.decDigits u).toArray⟩)∧∃ k os,w' = grow (w.drewN k) os:=by
 by_cases hs : u < 100
 ·go_enter Tryz.func205,Tryz.ntmps205
  have hwr : IntKind.i64.wrap (u : Int) = (u : Int):=by rw [IntKind.wrap_i64]; omega
  go_wp2_with (go_at_call 178; refine (Tryz.internal_strconv_small u hs _).mono ?_; rintro e w' ⟨rfl,rfl⟩)
  go_ret
  exact ⟨rfl,0,#[],by simp [World.drewN_zero]⟩
 ·have hu1 : 1 ≤ u:=by omega
  have hnd20 : Lib.nDigits u ≤ 20:=by have:=Lib.numDigits_eq u hu1 hu64; split at this <;> omega
  have hal : Tryz.prog.arrayLen 252 = 24:=by simp [Program.arrayLen,Tryz.underlying252]
  have hsl : ∀ W,(Instr.sliceAt 252 (.pointer (some ⟨w.heap.size,0,none⟩)) none (some (.int .i64 (Lib.nDigits u : Int))) none).run Tryz.prog W = .ok (.slice (some ⟨w.heap.size,0,none⟩) (Lib.nDigits u) 24) W:=fun W=>by
   rw [run_sliceAt_array_h W 252 ⟨w.heap.size,0,none⟩ (by simp [Program.arrayLen,Program.elem,Tryz.underlying252]) .i64 (Lib.nDigits u : Int) (by omega) (by rw [hal]; omega)]
   go_simp
  have hH0:=Lib.holds_zero0 w 252 (Lib.nDigits u) (by omega)
  have hfmt:=Tryz.internal_strconv_formatBase10 w.heap.size 0 24 u (Array.replicate (Lib.nDigits u) 0) (w.alloc (.cells Lib.zeros24 252)) hH0 (by rw [Array.size_replicate]; exact Lib.lt_pow_nDigits u) hu64 (by rw [Array.size_replicate]; omega)
  rw [Array.size_replicate] at hfmt
  have HH0:=Lib.hid hH0
  clear hH0 hal
  go_enter Tryz.func205,Tryz.ntmps205
  go_wp2_with (first
   | (go_at_call 179; refine (Tryz.internal_strconv_numDigits u hu1 hu64 _ (Lib.tabIs_alloc htab _)).mono ?_; rintro e w' ⟨rfl,rfl⟩))
  go_at_call 180
  refine hfmt.mono ?_
  rintro e w' ⟨rfl,k,v',dk,rfl,hF⟩
  have hcv : (convert 187 9 (.slice (some ⟨w.heap.size,0,none⟩) (Lib.nDigits u) 24)).run Tryz.prog ((putRow (fun (b : UInt8)=>Value.int .u8 (b.toNat : Int)) (w.alloc (.cells Lib.zeros24 252)) w.heap.size 0 dk).drewN k) = .ok (.string ⟨(Lib.decDigits u).toArray⟩) ((putRow (fun (b : UInt8)=>Value.int .u8 (b.toNat : Int)) (w.alloc (.cells Lib.zeros24 252)) w.heap.size 0 dk).drewN k):=by
   have h:=run_convert_bytes_back (P:=Tryz.prog) ((putRow (fun (b : UInt8)=>Value.int .u8 (b.toNat : Int)) (w.alloc (.cells Lib.zeros24 252)) w.heap.size 0 dk).drewN k) 187 9 5 ⟨w.heap.size,0,none⟩ 24 (Lib.decDigits u) Tryz.underlying187 Tryz.underlying5 Tryz.underlying9 (fun j hj=>by
    rw [Lib.row_is_numeral hF j hj,Lib.add_plain,World.cell?_drewN]
    exact cell?_putRow (fun (b : UInt8)=>Value.int .u8 (b.toNat : Int)) _ w.heap.size 0 _ dk HH0.out (by rw [hF.size,Array.size_replicate]) j (by rw [hF.size]; rw [Lib.decDigits_length] at hj; exact hj))
   rw [Lib.decDigits_length] at h
   exact h
  go_wp2
  go_ret
  obtain ⟨os,eo⟩:=Lib.fin_at w (.cells Lib.zeros24 252) dk k 0
  exact ⟨rfl,k,os,eo⟩
theorem Tryz.J5 (u : Nat) (hu64 : u < 18446744073709551616) (w : World) (htab : Lib.TabIs Tryz.prog w "internal/strconv.uint64pow10" .u64 Lib.pow10Tab) :
  Calls Tryz.prog 186 #[.int .u64 u,.int .i64 10] w fun e w'=>e = .returned (.string ⟨(Lib.decDigits u).toArray⟩)∧∃ k os,w' = grow (w.drewN k) os:=by
 go_enter Tryz.func186,Tryz.ntmps186
 go_wp2_with (go_at_call 205; refine (Tryz.NQ u hu64 _ htab).mono ?_; rintro e w' ⟨rfl,k,os,rfl⟩)
 go_ret
 exact ⟨rfl,k,os,rfl⟩
end Go.Proofs
set_option linter.unusedSimpArgs false
set_option linter.unusedVariables false
namespace Go.PM
open Go Go.RowKit Go.Proofs
set_option maxRecDepth 100000
theorem aP6 {w : World} {G : Nat→Prop} (h : Lt w G) : Lib.TabIs Tryz.prog w "internal/strconv.uint64pow10" .u64 Lib.pow10Tab:=by
 have hm : (0,aQS .u64 [1,10,100,1000,10000,100000,1000000,10000000,100000000,1000000000,10000000000,100000000000,1000000000000,10000000000000,100000000000000,1000000000000000,10000000000000000,100000000000000000,1000000000000000000,10000000000000000000]) ∈ a73:=by simp [a73]
 obtain ⟨-,t,fr,ht⟩:=h.tab _ hm
 have hg : Tryz.prog.globalNamed "internal/strconv.uint64pow10" = some 0:=by kernel_rfl
 unfold Lib.TabIs World.var?
 rw [hg]
 simp only [Option.bind_some]
 rw [ht]
 rfl
theorem aMT {w : World} {G : Nat→Prop} (hG : ∀ b,G b→b < w.heap.size) (k : Nat) (os : Array Obj) : Ext (oX w) w (Gd.of G) aL (Sort.grow (w.drewN k) os) (Gd.of G) aL :=
 have hb : ∀ b,b < w.heap.size→(Sort.grow (w.drewN k) os).heap[b]? = w.heap[b]?:=fun b hb=>Lib.heap_grow_old w k os b hb
 {cW:=fun b h=>⟨h,hb b (hG b h)⟩
  row:=fun _ _ h=>h
  map:=fun _ _ h=>(by cases h)
  len:=fun _ _ h=>(by cases h)
  room:=fun b n ⟨c,t,fr,h1,h2⟩=>⟨c,t,fr,by rw [hb b (dC h1)]; exact h1,h2⟩
  os:=rfl
  tape:=rfl
  output:=rfl
  size:=by show w.heap.size ≤ (w.heap ++ os).size; simp
  old:=fun b h _=>hb b h
  new:=fun b h=>.inl h }
theorem U4 {w w' : World} {G : Nat→Prop} (hG : ∀ b,G b→b < w.heap.size) (h : Below w.heap.size w w') : Ext (oX w) w (Gd.of G) aL w' (Gd.of G) aL :=
 {cW:=fun b hb=>⟨hb,h.block b (hG b hb)⟩
  row:=fun _ _ h=>h
  map:=fun _ _ h=>(by cases h)
  len:=fun _ _ h=>(by cases h)
  room:=fun b n ⟨c,t,fr,h1,h2⟩=>⟨c,t,fr,by rw [h.block b (dC h1)]; exact h1,h2⟩
  os:=h.os
  tape:=h.tape
  output:=h.output
  size:=h.size
  old:=fun b hb _=>h.block b hb
  new:=fun b hb=>.inl hb }
theorem VJ {w : World} {G : Nat→Prop} (hG : ∀ b,G b→b < w.heap.size) (e : TypeId) (t : ByteArray) : Ext (oX w) w (Gd.of G) aL (Lib.bytesWorld w e t) (Gd.of G) aL :=
 U4 hG (Joins.below_bytesWorld _ w e t (Nat.le_refl _))
def GH : Nat→Nat→List UInt8→List UInt8
 | 0,_,acc=>acc
 | f + 1,u,acc=>bif Nat.blt u 10 then UInt8.ofNat (48 + u) :: acc else GH f (u / 10) (UInt8.ofNat (48 + u % 10) :: acc)
theorem ZG : ∀ (f u : Nat) (acc : List UInt8),u < 10 ^ (f + 1)→GH (f + 1) u acc = Lib.decDigits u ++ acc
 | f,u,acc,h=>by
  rw [Lib.decDigits]
  by_cases h1 : u < 10
  ·rw [dif_pos h1,GH]
   have : Nat.blt u 10 = true:=by rw [cY]; simpa using h1
   rw [this]; rfl
  ·rw [dif_neg h1,GH]
   have : Nat.blt u 10 = false:=by rw [cY]; simpa using h1
   rw [this,cond_false]
   cases f with
   | zero=>omega
   | succ f =>
    rw [ZG f (u / 10) _ (by rw [Nat.pow_succ] at h; omega)]
    simp
def rX : Int→ByteArray
 | .ofNat u=>⟨(GH 20 u []).toArray⟩
 | .negSucc u=>⟨(45 :: GH 20 (u + 1) []).toArray⟩
theorem ZX {n : Int} (h : n.natAbs < 10 ^ 20) : rX n = ⟨(Lib.itoa n).toArray⟩:=by
 cases n with
 | ofNat u =>
  have h1 : ¬ (Int.ofNat u < 0):=by simp
  unfold Lib.itoa
  rw [if_neg h1]
  show (⟨(GH (19 + 1) u []).toArray⟩ : ByteArray) = ⟨(Lib.decDigits u).toArray⟩
  rw [ZG 19 u [] h,List.append_nil]
 | negSucc u =>
  have h1 : Int.negSucc u < 0:=Int.negSucc_lt_zero u
  unfold Lib.itoa
  rw [if_pos h1]
  show (⟨(45 :: GH (19 + 1) (u + 1) []).toArray⟩ : ByteArray) = ⟨(45 :: Lib.decDigits (u + 1)).toArray⟩
  rw [ZG 19 (u + 1) [] h,List.append_nil]
def lJ (x : aI [.int .i64]) : Option (aI [.str]):=match x with
 | (n,())=>bif !(ltI n (-9223372036854775808)) && !(ltI 9223372036854775807 n) then some (rX n,()) else none
def sV (x : aI [.str]) : Option (aI [.int .i64,.nilI]):=match x with
 | (s,())=>bif Nat.ble s.size 18 then (match Lib.atoi s.data.toList with
  | some n=>some (n,(),())
  | none=>none) else none
def nA (x : aI [.str,.int .i64,.int .i64]) : Option (aI [.int .i64,.nilI]):=match x with
 | (s,b,c,())=>bif Nat.ble s.size 1000000000 && (eqI b 10 && eqI c 64) then (match Lib.parseIntB 64 s.data.toList with
  | .ok n=>some (n,(),())
  | _=>none) else none
def lR (x : aI [.str,.int .i64,.int .i64]) : Option (aI [.int .u64,.nilI]):=match x with
 | (s,b,c,())=>bif Nat.ble s.size 1000000000 && (eqI b 10 && eqI c 64) then (match Lib.parseUintB 64 s.data.toList with
  | .ok n=>some ((n : Int),(),())
  | _=>none) else none
def kZ (x : aI [.int .u64,.int .i64]) : Option (aI [.str]):=match x with
 | (n,b,())=>bif !(ltI n 0) && (ltI n 18446744073709551616 && eqI b 10) then some (rX n,()) else none
theorem bD3 {w : World} {G : Gd} {u : Value} {vs : Array Value} (h : VRs w G aL [.lit u] vs.toList) : vs = #[u]:=by
 rw [VRs] at h
 obtain ⟨v,us,hvs,h1,h2⟩:=h
 rw [VRs] at h2
 rw [VR] at h1
 subst h2; subst h1
 exact Array.ext' (by simpa using hvs)
theorem bEJ {w : World} {G : Gd} {u1 u2 : Value} {vs : Array Value} (h : VRs w G aL [.lit u1,.lit u2] vs.toList) : vs = #[u1,u2]:=by
 rw [VRs] at h
 obtain ⟨v,us,hvs,h1,h2⟩:=h
 rw [VRs] at h2
 obtain ⟨v2,us2,hvs2,h3,h4⟩:=h2
 rw [VRs] at h4
 rw [VR] at h1 h3
 subst h4; subst h3; subst h1; subst hvs2
 exact Array.ext' (by simpa using hvs)
theorem bDM {w : World} {G : Gd} {u1 u2 u3 : Value} {vs : Array Value} (h : VRs w G aL [.lit u1,.lit u2,.lit u3] vs.toList) : vs = #[u1,u2,u3]:=by
 rw [VRs] at h
 obtain ⟨v,us,hvs,h1,h2⟩:=h
 rw [VRs] at h2
 obtain ⟨v2,us2,hvs2,h3,h4⟩:=h2
 rw [VRs] at h4
 obtain ⟨v3,us3,hvs3,h5,h6⟩:=h4
 rw [VRs] at h6
 rw [VR] at h1 h3 h5
 subst h6; subst h5; subst h3; subst h1; subst hvs3; subst hvs2
 exact Array.ext' (by simpa using hvs)
theorem LN {w : World} {G : Gd} (k : IntKind) (n : Int) : VR w G aL (.tuple [.lit (.int k n),.lit .nilIface]) (.tuple #[.int k n,.nilIface]):=by
 rw [VR]
 refine ⟨_,rfl,?_⟩
 show VRs w G aL _ [.int k n,.nilIface]
 rw [VRs]
 refine ⟨_,_,rfl,by rw [VR],?_⟩
 rw [VRs]
 exact ⟨_,_,rfl,by rw [VR],by rw [VRs]⟩
theorem aJH {w : World} {G : Gd} (s : ByteArray) : VR w G aL (.lit (.string s)) (.string s):=by rw [VR]
theorem ZY : bY Tryz.prog 86 [.int .i64] [.str] lJ:=by
 rintro ⟨n,⟨⟩⟩ y h w G vs hG hv
 unfold lJ at h
 obtain ⟨hb,h⟩:=aM h
 simp only [Bool.and_eq_true,Bool.not_eq_true',aN,decide_eq_false_iff_not] at hb
 obtain rfl:=Option.some.inj h
 obtain rfl:=bD3 hv
 refine ⟨enters Tryz.func86 (by kernel_rfl) (by kernel_rfl) _ _,(Tryz.strconv_Itoa n (by omega) (by omega) w (aP6 hG)).mono ?_⟩
 rintro e w' ⟨rfl,k,os,rfl⟩
 rw [← ZX (by omega)]
 have he:=aMT hG.lt k os
 exact ⟨_,G,rfl,he,fun b hb=>Nat.lt_of_lt_of_le (hG b hb) he.size,aJH _⟩
theorem ZS : bY Tryz.prog 154 [.str] [.int .i64,.nilI] sV:=by
 rintro ⟨s,⟨⟩⟩ y h w G vs hG hv
 unfold sV at h
 obtain ⟨hb,h4⟩:=aM h
 clear h
 have hl:=Nat.le_of_ble_eq_true hb
 split at h4
 ·rename_i n hn
  obtain rfl:=Option.some.inj h4
  obtain rfl:=bD3 hv
  refine ⟨enters Tryz.func154 (by kernel_rfl) (by kernel_rfl) _ _,(Tryz.strconv_Atoi s n hl hn w).mono ?_⟩
  rintro e w' ⟨rfl,t,rfl⟩
  have he:=VJ hG.lt 5 t
  exact ⟨_,G,rfl,he,fun b hb=>Nat.lt_of_lt_of_le (hG b hb) he.size,LN _ n⟩
 ·cases h4
theorem QE : bY Tryz.prog 143 [.str,.int .i64,.int .i64] [.int .i64,.nilI] nA:=by
 rintro ⟨s,b,c,⟨⟩⟩ y h w G vs hG hv
 unfold nA at h
 obtain ⟨hb,h4⟩:=aM h
 clear h
 simp only [Bool.and_eq_true,dY,decide_eq_true_eq] at hb
 obtain ⟨hb1,rfl,rfl⟩:=hb
 have hl:=Nat.le_of_ble_eq_true hb1
 split at h4
 ·rename_i n hn
  obtain rfl:=Option.some.inj h4
  obtain rfl:=bDM hv
  refine ⟨enters Tryz.func143 (by kernel_rfl) (by kernel_rfl) _ _,(Tryz.strconv_ParseInt_10_at64_ok s (by omega) n hn w).mono ?_⟩
  rintro e w' ⟨rfl,hw⟩
  rcases hw with rfl | ⟨t,rfl⟩
  ·exact ⟨_,G,rfl,Ext.refl _ _ _ _,hG.lt,LN _ n⟩
  ·have he:=VJ hG.lt 5 t
   exact ⟨_,G,rfl,he,fun b hb=>Nat.lt_of_lt_of_le (hG b hb) he.size,LN _ n⟩
 ·cases h4
theorem ND : bY Tryz.prog 204 [.str,.int .i64,.int .i64] [.int .u64,.nilI] lR:=by
 rintro ⟨s,b,c,⟨⟩⟩ y h w G vs hG hv
 unfold lR at h
 obtain ⟨hb,h4⟩:=aM h
 clear h
 simp only [Bool.and_eq_true,dY,decide_eq_true_eq] at hb
 obtain ⟨hb1,rfl,rfl⟩:=hb
 have hl:=Nat.le_of_ble_eq_true hb1
 split at h4
 ·rename_i n hn
  obtain rfl:=Option.some.inj h4
  obtain rfl:=bDM hv
  refine ⟨enters Tryz.func204 (by kernel_rfl) (by kernel_rfl) _ _,(Tryz.strconv_ParseUint_10_at64_ok s (by omega) n hn w).mono ?_⟩
  rintro e w' ⟨rfl,hw⟩
  rcases hw with rfl | rfl
  ·exact ⟨_,G,rfl,Ext.refl _ _ _ _,hG.lt,LN _ n⟩
  ·have he:=VJ hG.lt 5 s
   exact ⟨_,G,rfl,he,fun b hb=>Nat.lt_of_lt_of_le (hG b hb) he.size,LN _ n⟩
 ·cases h4
theorem KL : bY Tryz.prog 186 [.int .u64,.int .i64] [.str] kZ:=by
 rintro ⟨n,b,⟨⟩⟩ y h w G vs hG hv
 unfold kZ at h
 obtain ⟨hb,h4⟩:=aM h
 clear h
 simp only [Bool.and_eq_true,Bool.not_eq_true',aN,dY,decide_eq_true_eq,decide_eq_false_iff_not] at hb
 obtain ⟨hb1,hb2,rfl⟩:=hb
 obtain rfl:=Option.some.inj h4
 obtain rfl:=bEJ hv
 obtain ⟨u,hu⟩ : ∃ u : Nat,(n : Int) = (u : Int):=⟨Int.toNat n,(Int.toNat_of_nonneg (Int.not_lt.1 hb1)).symm⟩
 subst hu
 refine ⟨enters Tryz.func186 (by kernel_rfl) (by kernel_rfl) _ _,(Tryz.J5 u (Int.ofNat_lt.1 hb2) w (aP6 hG)).mono ?_⟩
 rintro e w' ⟨rfl,k,os,rfl⟩
 have hi : (⟨(Lib.decDigits u).toArray⟩ : ByteArray) = rX (u : Int):=by
  have h1 : u < 10 ^ 20:=Nat.lt_trans (Int.ofNat_lt.1 hb2) (by decide)
  rw [ZX (by simpa using h1),Lib.itoa_nonneg]
 rw [hi]
 have he:=aMT hG.lt k os
 exact ⟨_,G,rfl,he,fun b hb=>Nat.lt_of_lt_of_le (hG b hb) he.size,aJH _⟩
abbrev EV : Ent:=⟨86,[.int .i64],[.str],lJ⟩
theorem FJ : Ent.OK Tryz.prog EV:=ZY
abbrev N2 : Ent:=⟨154,[.str],[.int .i64,.nilI],sV⟩
theorem UY : Ent.OK Tryz.prog N2:=ZS
abbrev DM : Ent:=⟨143,[.str,.int .i64,.int .i64],[.int .i64,.nilI],nA⟩
theorem KR : Ent.OK Tryz.prog DM:=QE
abbrev B2 : Ent:=⟨204,[.str,.int .i64,.int .i64],[.int .u64,.nilI],lR⟩
theorem JQ : Ent.OK Tryz.prog B2:=ND
abbrev zQ : Ent:=⟨186,[.int .u64,.int .i64],[.str],kZ⟩
theorem IF : Ent.OK Tryz.prog zQ:=KL
end Go.PM
set_option linter.unusedSimpArgs false
set_option linter.unusedVariables false
namespace Go.PM
open Go Go.RowKit Go.Proofs
set_option maxRecDepth 100000
def uH : List ByteArray→List UInt8→List UInt8
 | [],_=>[]
 | [x],_=>x.data.toList
 | x :: y :: r,sep=>x.data.toList ++ (sep ++ uH (y :: r) sep)
theorem aBE : ∀ (l : List ByteArray) (sep : List UInt8),uH l sep = Lib.join (l.map (·.data.toList)) sep
 | [],sep=>by simp [uH,Lib.join]
 | [x],sep=>by simp [uH,Lib.join,List.intercalate]
 | x :: y :: r,sep=>by
  rw [uH,aBE (y :: r) sep]
  simp [Lib.join,List.intercalate,List.intersperse]
def nG (x : aI [.list .str,.str]) : Option (aI [.str]):=match x with
 | (l,sep,())=>bif Nat.ble l.length 1048576 && Nat.ble (uH l sep.data.toList).length 1048576 then some (⟨(uH l sep.data.toList).toArray⟩,()) else none
theorem aN6 (l : List ByteArray) (j : Nat) (x : ByteArray) (h : l[j]? = some x) : (aJ .str l)[j]? = some (.lit (.string x)):=by
 induction l generalizing j with
 | nil=>simp at h
 | cons a l ih =>
  have e : aJ .str (a :: l) = .lit (.string a) :: aJ .str l:=rfl
  rw [e]
  cases j with
  | zero=>simp at h; subst h; rfl
  | succ j=>simpa using ih j (by simpa using h)
theorem Z9 : bY Tryz.prog 87 [.list .str,.str] [.str] nG:=by
 rintro ⟨l,sep,⟨⟩⟩ y h
 unfold nG at h
 dsimp only at h
 cases hc : (Nat.ble l.length 1048576 && Nat.ble (uH l sep.data.toList).length 1048576) with
 | false=>rw [hc] at h; cases h
 | true =>
 rw [hc] at h
 cases Option.some.inj h
 rw [Bool.and_eq_true] at hc
 have hl:=Nat.le_of_ble_eq_true hc.1
 have hj:=Nat.le_of_ble_eq_true hc.2
 intro w G vs hG hv
 refine ⟨enters Tryz.func87 (by kernel_rfl) (by kernel_rfl) _ _,?_⟩
 have k1 : VRs w (Gd.of G) aL [qL .str l none,.lit (.string sep)] vs.toList:=hv
 rw [VRs] at k1
 obtain ⟨v,us,hvs,g1,g2⟩:=k1
 rw [VRs] at g2
 obtain ⟨v2,us2,rfl,g2,g3⟩:=g2
 rw [VRs] at g3
 subst g3
 rw [VR] at g2
 subst g2
 unfold qL at g1
 rw [VR] at g1
 obtain ⟨g1,-⟩:=g1
 rw [VR] at g1
 obtain ⟨ao,c,rfl,hc1,-,hc2⟩:=g1
 have hvs : vs = #[.slice ao l.length c,.string sep]:=Array.ext' (by simpa using hvs)
 subst hvs
 cases l with
 | nil =>
  refine (Tryz.strings_Join_none ao c sep w).mono ?_
  rintro e w' ⟨rfl,rfl⟩
  exact ⟨_,G,rfl,Ext.refl _ _ _ _,hG,aJH _⟩
 | cons a l =>
  rcases hc2 with h0 | ⟨b,off,rfl,hb,hcs⟩
  ·cases h0
  ·refine (Tryz.strings_Join b off c (a :: l) sep w ?_ (hG.lt b hb) (by simp at hl ⊢; omega) hc1 (by rw [← aBE]; omega)).mono ?_
   ·intro j x hx
    obtain ⟨v,h1,h2⟩:=hcs.get (aN6 _ _ _ hx)
    rw [VR] at h2
    subst h2
    exact h1
   ·rintro e w' ⟨rfl,hbl⟩
    have he:=U4 (G:=G) hG.lt hbl
    exact ⟨_,G,rfl,he,fun b hb=>Nat.lt_of_lt_of_le (hG.lt b hb) he.size,by rw [← aBE]; exact aJH _⟩
abbrev N1 : Ent:=⟨87,[.list .str,.str],[.str],nG⟩
theorem VP : Ent.OK Tryz.prog N1:=Z9
end Go.PM
set_option linter.unusedSimpArgs false
set_option linter.unusedVariables false
namespace Go.PM
open Go Go.RowKit
section
variable {P : Program} {n0 : Nat→Prop} {w w' : World} {G G' : Gd} {μ μ1 : Mp} {H H1 : Heap}
def EE (μ μ1 : Mp) (h : Nat) : Mp:=⟨fun r=>if r < h then μ.loc r else μ1.loc (r - h),fun r=>if r < h then μ.len r else μ1.len (r - h)⟩
theorem p6 {h r : Nat} (hr : r < h) : (EE μ μ1 h).loc r = μ.loc r∧(EE μ μ1 h).len r = μ.len r:=by simp [EE,hr]
theorem pY {h r : Nat} (hr : h ≤ r) : (EE μ μ1 h).loc r = μ1.loc (r - h)∧(EE μ μ1 h).len r = μ1.len (r - h):=by
 have : ¬ r < h:=by omega
 simp [EE,this]
theorem aJZ (hW : aV n0 G μ H w) (e : Ext (oX w) w G.bare aL w' G' μ1) : Ext n0 w G μ w' (G'.with G) (EE μ μ1 H.length):={
 cW:=e.cW
 map:=fun r b hr=>by
  rcases Nat.lt_or_ge r H.length with hl | hl
  ·rw [(p6 hl).1]; exact hr
  ·rw [(hW.top r hl).1] at hr; cases hr
 len:=fun r b hr=>by
  rcases Nat.lt_or_ge r H.length with hl | hl
  ·rw [(p6 hl).2]; exact hr
  ·rw [(hW.top r hl).2] at hr; cases hr
 room:=e.room
 row:=fun _ _ h=>h
 os:=e.os
 tape:=e.tape
 output:=e.output
 size:=e.size
 old:=fun b hb _=>e.old b hb (Nat.not_le.2 hb)
 new:=fun b hb=>by
  rcases e.new b hb with h | h
  ·exact .inl h
  ·exact .inr (hW.base b h) }
theorem aTN (hW : aV n0 G μ H w) (e : Ext (oX w) w G.bare aL w' G' μ1) (h1 : aV (oX w) G' μ1 H1 w') (ht : HX H1 = true) (hp : ∀ (r : Nat) (k : Blk),H1[r]? = some (some k)→dK.noRows k.cells = true∧∀ t l,k.tag ≠ some ⟨.rows t,l⟩) : aV n0 (G'.with G) (EE μ μ1 H.length) (H ++ H1) w':=by
 have e':=aJZ hW e
 have key : ∀ (r : Nat) (k : Blk),(H ++ H1)[r]? = some (some k)→(r < H.length∧H[r]? = some (some k)) ∨ (H.length ≤ r∧H1[r - H.length]? = some (some k)):=by
  intro r k hr
  rcases Nat.lt_or_ge r H.length with hl | hl
  ·rw [List.getElem?_append_left hl] at hr; exact .inl ⟨hl,hr⟩
  ·rw [List.getElem?_append_right hl] at hr; exact .inr ⟨hl,hr⟩
 refine ⟨?_,?_,?_,h1.lt,?_,fun b hb=>hW.base b (Nat.le_trans e.size hb),hW.rows.step e'.toMono.aL e.size (fun _=>rfl) (fun j b hj=>?_) (fun r k t l hr hg htg=>?_)⟩
 case refine_5 =>
  have hlt:=(hW.rows.sep j b hj).1
  refine ⟨e.old b hlt (Nat.not_le.2 hlt),fun hg=>?_,fun r k hr hf hl=>?_⟩
  ·rcases e.new b hg with h | h
   ·exact h
   ·exact absurd hlt (Nat.not_lt.2 h)
  ·rcases key r k hr with ⟨hl2,hr⟩ | ⟨hl2,hr⟩
   ·rw [(p6 hl2).1] at hl; exact ⟨r,k,hr,hf,hl⟩
   ·rw [(pY hl2).1] at hl
    obtain ⟨_,_,_,_,_,a5⟩:=h1.blk _ k b hr hl
    exact absurd hlt (Nat.not_lt.2 (a5 hf).1)
 case refine_6 =>
  rcases key r k hr with ⟨hl2,hr⟩ | ⟨hl2,hr⟩
  ·exact ⟨k,hr,rfl,rfl,rfl,(p6 hl2).1⟩
  ·exact absurd htg ((hp _ k hr).2 t l)
 ·intro r k b hr hb
  rcases key r k hr with ⟨hl,hr⟩ | ⟨hl,hr⟩
  ·rw [(p6 hl).1] at hb
   obtain ⟨c,a1,a2,a3,a4,a5⟩:=hW.blk r k b hr hb
   have hlt:=hW.iS hr hb
   have ho:=e.old b hlt (Nat.not_le.2 hlt)
   refine ⟨c,ho.trans a1,aP.mono e'.toMono ho 0 _ a2,a3,fun hf=>(e.cW b (a4 hf)).1,fun hf=>⟨(a5 hf).1,fun hg=>?_⟩⟩
   rcases e.new b hg with h | h
   ·exact (a5 hf).2 h
   ·omega
  ·rw [(pY hl).1] at hb
   obtain ⟨c,a1,a2,a3,a4,a5⟩:=h1.blk _ k b hr hb
   refine ⟨c,a1,?_,a3,a4,fun hf=>⟨hW.base b (a5 hf).1,(a5 hf).2⟩⟩
   refine mV (G:=G') (G':=G'.with G) (fun b h=>h) _ _ _ _ (hp _ k hr).1 ?_
   rcases II ht hr with hg | hg
   ·obtain ⟨g,hg⟩:=Option.isSome_iff_exists.1 hg
    have:=(h1.tags _ k g hr hg).1
    rw [this] at a2 ⊢
    exact kH (fL _ _) a2
   ·exact kH hg a2
 ·intro r k g hr hg
  rcases key r k hr with ⟨hl,hr⟩ | ⟨hl,hr⟩
  ·rw [(p6 hl).2]; exact hW.tags r k g hr hg
  ·rw [(pY hl).2]; exact h1.tags _ k g hr hg
 ·intro r s k l b hr hs fk fl m1 m2
  rcases key r k hr with ⟨hl,hr⟩ | ⟨hl,hr⟩ <;> rcases key s l hs with ⟨hl2,hs⟩ | ⟨hl2,hs⟩
  ·rw [(p6 hl).1] at m1
   rw [(p6 hl2).1] at m2
   exact hW.inj r s k l b hr hs fk fl m1 m2
  ·rw [(p6 hl).1] at m1
   rw [(pY hl2).1] at m2
   obtain ⟨_,_,_,_,_,a5⟩:=h1.blk _ l b hs m2
   have:=hW.iS hr m1
   have:=(a5 fl).1
   omega
  ·rw [(pY hl).1] at m1
   rw [(p6 hl2).1] at m2
   obtain ⟨_,_,_,_,_,a5⟩:=h1.blk _ k b hr m1
   have:=hW.iS hs m2
   have:=(a5 fk).1
   omega
  ·rw [(pY hl).1] at m1
   rw [(pY hl2).1] at m2
   have:=h1.inj _ _ k l b hr hs fk fl m1 m2
   omega
 ·intro r hr
  simp only [List.length_append] at hr
  have hl : H.length ≤ r:=by omega
  rw [(pY hl).1,(pY hl).2]
  exact h1.top _ (by omega)
theorem aYM {r sz : Nat} {v : Value} (h : VR w' G' μ1 (.own r sz) v) : VR w' G' (EE μ μ1 H.length) (.own (H.length + r) sz) v:=by
 have e:=pY (μ:=μ) (μ1:=μ1) (h:=H.length) (r:=H.length + r) (by omega)
 rw [VR] at h ⊢
 rw [e.1,e.2,Nat.add_sub_cancel_left]
 exact h

def aYV (P : Program) (g : FuncId) (args : List Kd) (e : TypeId) (ty : Ty) (f : aI args→Option (List ty.den)) : Prop :=
 ∀ x l,f x = some l→∀ {n0 G μ w us},aV n0 G μ [] w→VRs w G μ (iP args x) us→pL P n0 w G μ g us.toArray (.own 0 ty.size) [some ⟨aJ ty l,e,true,false,some ⟨ty,l⟩⟩]
def bCN (t : Nat) (e : TypeId) (ty : Ty) (ex : Ex) (F : Frm) (H : Heap) : Option (List ty.den):=match ex with
 | .exit _=>none
 | _=>match D2 [(t,.own e ty)] F H with
  | some x=>some x.1
  | none=>none
def aVJ (P : Program) (E : Env) (fn : Func) (aU : Nat) (lt : Nat→Option aS) (c : Code) (args : List Kd) (t : Nat) (e : TypeId) (ty : Ty) (x : aI args) : Option (List ty.den) :=
 bif Nat.ble (iP args x).length fn.ntmps then sN P E fn.ntmps aU lt c (start aU 0 (iP args x)) [] (bCN t e ty) else none
theorem a2G {E : Env} (hP : B0 P) (hE : aZ P E) {g : Nat} {fn : Func} (hg : P.funcs[g]? = some fn) {c : Code} (hc : fn.body = some c) {aU : Nat} {lt : Nat→Option aS} {args : List Kd} {t : Nat} (hr : fn.results.toList = [.tmp t]) {e : TypeId} {ty : Ty} {f : aI args→Option (List ty.den)}
  (hl : ∀ a ∈ aF c,∀ s,lt (aG a) = some s→cE P fn.ntmps a s) (hb : ∀ x,aVJ P E fn aU lt c args t e ty x = f x) : aYV P g args e ty f:=by
 intro x l hy n0 G μ w us hW hv
 rw [← hb] at hy
 unfold aVJ at hy
 obtain ⟨hlen,hy⟩:=aM hy
 obtain ⟨⟨ex,F',H'⟩,h1,h2⟩:=jO hE.callee hP.mixed c _ _ _ _ hl hy
 obtain ⟨y,hex,hd,hyl⟩ : ∃ y,(ex = .normal ∨ ex = .ret)∧D2 [(t,.own e ty)] F' H' = some y∧y.1 = l:=by
  unfold bCN at h1
  split at h1
  ·cases h1
  ·rename_i hne
   split at h1
   ·rename_i y hy
    simp only [Option.some.injEq] at h1
    refine ⟨y,?_,hy,h1⟩
    cases ex with
    | normal=>exact .inl rfl
    | ret=>exact .inr rfl
    | exit i=>exact absurd rfl (hne i)
   ·cases h1
 obtain ⟨yl,⟨⟩⟩:=y
 dsimp only at hyl
 subst hyl
 refine ⟨enters hg (hP.names g fn hg) (by rw [hc]; rfl) _ _,calls_of_wp hg hc ?_⟩
 have hI : I n0 w G μ fn.ntmps (start aU 0 (iP args x)) [] ⟨us.toArray ++ Array.replicate (fn.ntmps - us.toArray.size) undef,[]⟩ w:=⟨G,μ,Ext.refl _ _ _ _,hW,rA (by simpa using hv) (Nat.le_of_ble_eq_true hlen)⟩
 refine wp_mono (h2 n0 w G μ _ w (fun r=>hW.top r (Nat.zero_le _)) hI) ?_
 rintro e0 a' w' ⟨rfl,hI'⟩
 obtain ⟨G',μ',e',hW',hF'⟩:=sU hd (fun r=>hW.top r (Nat.zero_le _)) hI'
 have hvs : mY P (pJ [(t,.own e ty)] (yl,()) 0) (wQ [(t,.own e ty)] (yl,())) fn.results.toList = some [.own 0 ty.size]:=by
  rw [hr]
  simp [mY,Y1,pJ,oR,cQ]
 obtain ⟨ws,h3,h4⟩:=lM (P:=P) hW' hF' hvs
 have hres : (results fn a'.tmps).run P w' = .ok (if hh : ws.toArray.size = 1 then ws.toArray[0] else .tuple ws.toArray) w':=by
  rw [tL,Array.mapM_eq_mapM_toList]
  simp only [Sem.run_bind,Sem.run_map,h3,Result.andThen_ok,Sem.run_pure]
 have hpost : a'.defers = []∧∃ v,(results fn a'.tmps).run P w' = .ok v w'∧(∃ v' G'' μ'',Ending.returned v = .returned v'∧Ext n0 w G μ w' G'' μ''∧aV n0 G'' μ'' (wQ [(t,.own e ty)] (yl,())) w'∧VR w' G'' μ'' (.own 0 ty.size) v') :=
  ⟨hF'.defers,_,hres,_,G',μ',rfl,e',hW',nH h4⟩
 rcases hex with rfl | rfl
 ·exact hpost
 ·exact hpost

def bBH (args : List Kd) (e : TypeId) (ty : Ty) (f : aI args→Option (List ty.den)) (qs : List PV) (H : Heap) : Option aM8 :=
 bif c6.noRefs qs && (dK.noRows qs && ty.plain) then match aGQ args qs with
  | some x=>some ⟨List ty.den,f x,fun l=>(.own H.length ty.size,H ++ [some ⟨aJ ty l,e,true,false,some ⟨ty,l⟩⟩])⟩
  | none=>none
 else none
theorem aZ0 {g : FuncId} {args : List Kd} {e : TypeId} {ty : Ty} {f : aI args→Option (List ty.den)} (hf : aYV P g args e ty f) : FH P (g,bBH args e ty f):=by
 intro qs H r h y hy n0 G μ w vs hW hv
 dsimp only at h
 unfold bBH at h
 obtain ⟨hn,h⟩:=VN h
 split at h
 ·rename_i x hx
  have h:=Option.some.inj h
  subst h
  simp only [Bool.and_eq_true] at hn
  obtain ⟨hn,hnr,hpl⟩:=hn
  have hW0 : aV (oX w) G.bare aL [] w:=⟨fun r k b h=>by simp at h,fun r k g h=>by simp at h,fun r s k l b h=>by simp at h,hW.lt,fun _ _=>⟨rfl,rfl⟩,fun _ h=>h,lD.none _ _ (fun _=>rfl) _ _ (fun r k h=>by simp at h)⟩
  obtain ⟨h1,h2⟩:=hf x y hy hW0 (yN args hx (lP (G:=G) (G':=G.bare) (fun b h=>h) _ _ _ hnr (cH _ _ hn hv)))
  refine ⟨h1,h2.mono ?_⟩
  rintro e' w' ⟨v',G',μ1,rfl,e1,e2,e3⟩
  refine ⟨v',G'.with G,EE μ μ1 H.length,rfl,aJZ hW e1,aTN hW e1 e2 rfl (fun r k hr=>?_),?_⟩
  ·cases r with
   | zero =>
    simp only [List.getElem?_cons_zero,Option.some.injEq] at hr
    subst hr
    exact ⟨pE _ hpl _,fun t l h=>by simp only [Option.some.injEq,Tg.mk.injEq] at h; obtain ⟨rfl,_⟩:=h; cases hpl⟩
   | succ r=>simp at hr
  have:=aYM (H:=H) (μ:=μ) e3
  rw [VR] at this ⊢
  simpa using this
 ·cases h
end
end Go.PM
set_option linter.unusedSimpArgs false
set_option linter.unusedVariables false
namespace Go.PM
open Go
theorem bA (i : Int) (n : Nat) : aQ i n = decide (0 ≤ i∧i < n):=by
 cases i with
 | ofNat m =>
  show Nat.blt m n = _
  rw [cY]
  by_cases h : m < n
  ·rw [decide_eq_true h,decide_eq_true]; exact ⟨Int.natCast_nonneg m,Int.ofNat_lt.2 h⟩
  ·rw [decide_eq_false h,decide_eq_false]; rintro ⟨-,h2⟩; exact h (Int.ofNat_lt.1 h2)
 | negSucc m =>
  show false = _
  rw [decide_eq_false]; rintro ⟨h,-⟩; exact absurd h (by omega)
theorem fJ (m n : Nat) : Nat.ble m n = decide (m ≤ n):=by
 cases h : Nat.ble m n with
 | true=>exact (decide_eq_true (Nat.le_of_ble_eq_true h)).symm
 | false =>
  refine (decide_eq_false fun hl=>?_).symm
  rw [Nat.ble_eq_true_of_le hl] at h
  cases h
theorem wrap64 {x : Int} (h1 : -9223372036854775808 ≤ x) (h2 : x < 9223372036854775808) : aE .i64 x = x:=by
 cases x with
 | ofNat m =>
  have : m < 9223372036854775808:=by have : (m : Int) < 9223372036854775808:=h2; omega
  unfold aE
  simp only [cY,decide_eq_true this,cond_true]
 | negSucc m =>
  have : m < 9223372036854775808:=by omega
  unfold aE
  simp only [cY,decide_eq_true this,cond_true]
theorem c7 (i : Nat) (h : i < 9223372036854775807) : aE .i64 ((i : Int) + 1) = ((i + 1 : Nat) : Int):=by
 rw [wrap64 (by omega) (by omega)]; rfl
theorem a2N {x : Int} (h1 : -9223372036854775808 ≤ x) (h2 : x < 9223372036854775808) : IntKind.wrap .i64 x = x:=by
 rw [← aAM]; exact wrap64 h1 h2
theorem cD {α : Type} (p : Prop) [Decidable p] (a b : α) : (bif decide p then a else b) = if p then a else b:=by
 by_cases h : p <;> simp [h]
theorem aH {τ α : Type} (x : τ) (k : τ→Option α) : aB (some x) k = k x:=rfl
theorem pB (p : Prop) [Decidable p] : (!decide p) = decide (¬ p):=by by_cases h : p <;> simp [h]
theorem aF7 {β γ α : Type} (z : β) (f : β→Option α) (g : γ→Option α) : gY (.inl z) f g = f z:=rfl
theorem pZ {β γ α : Type} (z : γ) (f : β→Option α) (g : γ→Option α) : gY (.inr z) f g = g z:=rfl

section
variable {σ τ : Type} {step : σ→Option (σ ⊕ τ)}
theorem c8 (n : Nat) (x : σ) : bM step (n + 1) x = match step x with
  | some (.inl y)=>bM step n y
  | some (.inr z)=>some z
  | none=>none:=rfl
theorem WZ (F : Nat→σ) (k : Nat) : ∀ (m j : Nat),(∀ i,j ≤ i→i < j + m→step (F i) = some (.inl (F (i + 1))))→bM step (m + k) (F j) = bM step k (F (j + m))
 | 0,j,_=>by rw [Nat.zero_add,Nat.add_zero]
 | m + 1,j,h=>by
  rw [Nat.add_right_comm,c8,h j (Nat.le_refl _) (by omega)]
  show bM step (m + k) (F (j + 1)) = _
  rw [WZ F k m (j + 1) fun i h1 h2=>h i (by omega) (by omega)]
  congr 2; omega
theorem cZ {N : Nat} (F : Nat→σ) (m : Nat) (z : τ) (hN : m < N) (h : ∀ i,i < m→step (F i) = some (.inl (F (i + 1)))) (he : step (F m) = some (.inr z)) : bM step N (F 0) = some z:=by
 obtain ⟨k,rfl⟩ : ∃ k,N = m + (k + 1):=⟨N - m - 1,by omega⟩
 rw [WZ F (k + 1) m 0 (fun i _ h2=>h i (by omega)),Nat.zero_add,c8,he]
theorem KF (F : Nat→σ) (stop : Nat→Option τ) (z : τ) (k : Nat) : ∀ (m j : Nat),(∀ i,j ≤ i→i < j + m→step (F i) = some (match stop i with | some y=>.inr y | none=>.inl (F (i + 1))))→step (F (j + m)) = some (.inr z) →
   bM step (m + (k + 1)) (F j) = some (((List.range' j m).findSome? stop).getD z)
 | 0,j,_,he=>by
  rw [Nat.zero_add,c8,show F j = F (j + 0) from rfl,he]; rfl
 | m + 1,j,h,he=>by
  rw [Nat.add_right_comm,c8,h j (Nat.le_refl _) (by omega),List.range'_succ,List.findSome?_cons]
  cases hs : stop j with
  | some y=>rfl
  | none =>
   show bM step (m + (k + 1)) (F (j + 1)) = _
   exact KF F stop z k m (j + 1) (fun i h1 h2=>h i (by omega) (by omega)) (by rw [← he]; congr 2; omega)
theorem PS {N : Nat} (F : Nat→σ) (stop : Nat→Option τ) (m : Nat) (z : τ) (hN : m < N) (h : ∀ i,i < m→step (F i) = some (match stop i with | some y=>.inr y | none=>.inl (F (i + 1)))) (he : step (F m) = some (.inr z)) :
  bM step N (F 0) = some (((List.range m).findSome? stop).getD z):=by
 obtain ⟨k,rfl⟩ : ∃ k,N = m + (k + 1):=⟨N - m - 1,by omega⟩
 rw [List.range_eq_range']
 exact KF F stop z k m 0 (fun i _ h2=>h i (by omega)) (by rwa [Nat.zero_add])
end
end Go.PM
set_option linter.unusedSimpArgs false
set_option linter.unusedVariables false
namespace Go.PM
open Go Go.RowKit Go.Proofs
set_option maxRecDepth 100000
set_option maxHeartbeats 4000000
/-! slices.Clone[schisma/api.Row,int] -/
def f64 (x : aI [.list TyE]) : Option (aI [.list TyE]):=match x with
 | (v0,()) =>
  bif Nat.blt 0 v0.length then bif Nat.ble v0.length 1048576 then some (v0,()) else none else none
noncomputable def c64 : Code:=aT Tryz.f64
abbrev E64 : Env:=bE []
theorem a9E : aZ Tryz.prog E64:=aW trivial
def bDA (id : Nat) : Option aS:=none
theorem a3Z : aF c64 = []:=by kernel_rfl
theorem a56 : ∀ x,bI Tryz.prog E64 Tryz.f64 (aC Tryz.f64) bDA c64 [.list TyE] [.list TyE] x = f64 x:=by
 rintro ⟨v0,⟨⟩⟩
 kernel_rfl
theorem bFJ : bY Tryz.prog 64 [.list TyE] [.list TyE] f64:=by
 exact aY aK a9E Tryz.func64 (c:=c64) (by kernel_rfl) (aU:=aC Tryz.f64) (lt:=bDA) (aD a3Z trivial) a56
/-! slices.Clone of nothing -/
theorem aYK : ∃ i : TypeInfo,Tryz.prog.info? 3 = some i:=⟨(Tryz.prog.info? 3).get (by kernel_rfl),(Option.some_get _).symm⟩
theorem Tryz.aQ3 (w : World) (a : Option Addr) (n c n' c' : Nat) : (binOp .eql 23 (.slice a n c) (.slice none n' c')).run Tryz.prog w = .ok (.bool a.isNone) w:=Lib.run_eql_slice_nil w _ _ a n c n' c' Tryz.underlying23
theorem aUR (c : Nat) (w : World) : Calls Tryz.prog 64 #[.slice none 0 c] w fun e w'=>e = .returned (.slice none 0 0)∧w' = w:=by
 have qT:=Tryz.aQ3
 go_enter Tryz.func64,Tryz.ntmps64
 go_wp2
 go_ret
 exact ⟨rfl,rfl⟩
set_option maxHeartbeats 2000000 in
theorem aLZ (p : Addr) (c : Nat) (w : World) : Calls Tryz.prog 64 #[.slice (some p) 0 c] w fun e w'=>e = .returned (.slice (some ⟨w.heap.size,0,none⟩) 0 0)∧w' = w.alloc (.cells #[] 3):=by
 have qT:=Tryz.aQ3
 obtain ⟨i,hi⟩:=aYK
 have hrz : ∀ ty,(Builtin.append_ #[23,23] ty #[.slice (some ⟨w.heap.size,0,none⟩) 0 0,.slice (some p) 0 c]).run Tryz.prog (w.alloc (.cells #[] 3)) = .ok (.slice (some ⟨w.heap.size,0,none⟩) 0 0) (w.alloc (.cells #[] 3)):=fun ty =>
  run_append_nothing _ 23 23 ty 3 i Tryz.underlying23 hi _ 0 0 (Nat.le_refl _) _ (Src.ofSlice _ (e':=3) Tryz.underlying23 p 0 c [] (Nat.zero_mul _).symm (fun j u hu=>by simp at hu) (fun u hu=>by cases hu))
 go_enter Tryz.func64,Tryz.ntmps64
 go_wp2_with (at_builtin; refine Lib.wpList_append_run _ rfl _ _ _ _ rfl _ _ rfl rfl _ _ (hrz _) ?_)
 all_goals (go_ret; exact ⟨rfl,rfl⟩)
def aRA (x : aI [.list TyE]) : Option (aI [.list TyE]):=match x with
 | (l,())=>bif Nat.ble l.length 1048576 then some (l,()) else none
theorem bCQ : bY Tryz.prog 64 [.list TyE] [.list TyE] aRA:=by
 rintro ⟨l,⟨⟩⟩ y h
 unfold aRA at h
 obtain ⟨hl,h4⟩:=aM h
 clear h
 have h4:=Option.some.inj h4
 subst h4
 cases l with
 | cons a l =>
  refine bFJ (a :: l,()) _ ?_
  unfold f64
  dsimp only
  rw [hl,show Nat.blt 0 (a :: l).length = true from rfl]; rfl
 | nil =>
  intro w G vs hG hv
  have k1 : VRs w (Gd.of G) aL [qL TyE [] none] vs.toList:=hv
  rw [VRs] at k1
  obtain ⟨v,us,hvs,g1,g2⟩:=k1
  rw [VRs] at g2
  subst g2
  unfold qL at g1
  rw [VR] at g1
  obtain ⟨g1,-⟩:=g1
  rw [VR] at g1
  obtain ⟨ao,c,rfl,-,-,-⟩:=g1
  have hvs : vs = #[.slice ao 0 c]:=Array.ext' (by simpa using hvs)
  subst hvs
  refine ⟨enters Tryz.func64 (by kernel_rfl) (by kernel_rfl) _ _,?_⟩
  have hr : ∀ {w' : World} {G' : Nat→Prop} (ao' : Option Addr),VR w' (Gd.of G') aL (aG9 [.list TyE] ([],())) (.slice ao' 0 0):=by
   intro w' G' ao'
   show VR w' (Gd.of G') aL (qL TyE [] none) _
   unfold qL
   rw [VR]
   refine ⟨?_,rfl⟩
   rw [VR]
   exact ⟨ao',0,rfl,Nat.le_refl _,fun k hk=>(by cases hk),.inl rfl⟩
  cases ao with
  | none =>
   refine (aUR c w).mono ?_
   rintro e w' ⟨rfl,rfl⟩
   exact ⟨_,G,rfl,Ext.refl _ _ _ _,hG,hr _⟩
  | some p =>
   refine (aLZ p c w).mono ?_
   rintro e w' ⟨rfl,rfl⟩
   have he:=U4 hG (((Below.refl _ w).alloc (Nat.le_refl _) (.cells #[] 3)))
   exact ⟨_,G,rfl,he,fun b hb=>Nat.lt_of_lt_of_le (hG b hb) he.size,hr _⟩
abbrev bC4 : Ent:=⟨64,[.list TyE],[.list TyE],aRA⟩
theorem a0P : Ent.OK Tryz.prog bC4:=bCQ
end Go.PM
set_option linter.unusedSimpArgs false
set_option linter.unusedVariables false
namespace Go.PM
open Go Go.RowKit Go.Proofs
set_option maxRecDepth 100000
set_option maxHeartbeats 4000000
/-! cmp.isNaN[int] -/
def f98 (x : aI [.int .i64]) : Option (aI [.bool]):=match x with
 | (v0,()) =>
  some (!(eqI v0 v0),())
noncomputable def c98 : Code:=aT Tryz.f98
abbrev E98 : Env:=bE []
theorem a7V : aZ Tryz.prog E98:=aW trivial
def bD1 (id : Nat) : Option aS:=none
theorem a0W : aF c98 = []:=by kernel_rfl
theorem bA9 : ∀ x,bI Tryz.prog E98 Tryz.f98 (aC Tryz.f98) bD1 c98 [.int .i64] [.bool] x = f98 x:=by
 rintro ⟨v0,⟨⟩⟩
 kernel_rfl
theorem bFW : bY Tryz.prog 98 [.int .i64] [.bool] f98:=by
 exact aY aK a7V Tryz.func98 (c:=c98) (by kernel_rfl) (aU:=aC Tryz.f98) (lt:=bD1) (aD a0W trivial) bA9
abbrev e98 : Ent:=⟨98,[.int .i64],[.bool],f98⟩
theorem a9I : Ent.OK Tryz.prog e98:=bFW

/-! cmp.Compare[int] -/
def f74 (x : aI [.int .i64,.int .i64]) : Option (aI [.int .i64]):=match x with
 | (v0,v1,()) =>
  aB (f98 (v0,())) fun y1 =>
  aB (f98 (v1,())) fun y2 =>
  bif y1.1 then
   bif y2.1 then
    some (0,())
   else some ((-1),())
  else bif y2.1 then
   some (1,())
  else bif ltI v0 v1 then
   some ((-1),())
  else bif ltI v1 v0 then
   some (1,())
  else some (0,())
noncomputable def c74 : Code:=aT Tryz.f74
abbrev E74 : Env:=bE [e98]
theorem a84 : aZ Tryz.prog E74:=aW ⟨a9I,trivial⟩
def bDD (id : Nat) : Option aS:=none
theorem a3G : aF c74 = []:=by kernel_rfl
theorem a6D : ∀ x,bI Tryz.prog E74 Tryz.f74 (aC Tryz.f74) bDD c74 [.int .i64,.int .i64] [.int .i64] x = f74 x:=by
 rintro ⟨v0,v1,⟨⟩⟩
 kernel_rfl
theorem bE9 : bY Tryz.prog 74 [.int .i64,.int .i64] [.int .i64] f74:=by
 exact aY aK a84 Tryz.func74 (c:=c74) (by kernel_rfl) (aU:=aC Tryz.f74) (lt:=bDD) (aD a3G trivial) a6D
abbrev e74 : Ent:=⟨74,[.int .i64,.int .i64],[.int .i64],f74⟩
theorem bA7 : Ent.OK Tryz.prog e74:=bE9

/-! slices.Compare[schisma/api.Row,int] -/
abbrev U3 : List (Nat×Kd):=[(0,.list TyE),(1,.list TyE),(9,.list TyE),(10,.int .i64),(11,.int .i64)]
abbrev aCV : List (Ex×List (Nat×Kd)):=[(.ret,[(4,.int .i64)]),(.exit 0,[(0,.list TyE),(1,.list TyE)])]
def LF (x : Shape.den U3) : Option (Shape.den U3 ⊕ aR aCV):=match x with
 | (v0,v1,v9,v10,v11,()) =>
  bif ltI v11 v10 then
   bif aQ v11 v9.length then bif !(ltI v11 (v1.length : Int)) then
    some (.inr (.inl (1,())))
   else bif aQ v11 v1.length then aB (f74 ((v9.getD v11.toNat 0),(v1.getD v11.toNat 0),())) fun y2 =>
   bif !(eqI y2.1 0) then
    some (.inr (.inl (y2.1,())))
   else some (.inl (v0,v1,v9,v10,(aE .i64 (v11 + 1)),())) else none else none
  else some (.inr (.inr ((v0,v1,()))))
def SG (x : Shape.den U3) : Option (aR aCV):=bM LF (2 ^ 64) x
def f57 (x : aI [.list TyE,.list TyE]) : Option (aI [.int .i64]):=match x with
 | (v0,v1,()) =>
  aB (SG (v0,v1,v0,(v0.length : Int),0,())) fun z3 =>
  gY z3 (fun a4=>some (a4.1,())) fun b5 =>
  bif ltI (b5.1.length : Int) (b5.2.1.length : Int) then
   some ((-1),())
  else some (0,())
noncomputable def c57 : Code:=aT Tryz.f57
abbrev E57 : Env:=bE [e74]
theorem aX2 : aZ Tryz.prog E57:=aW ⟨bA7,trivial⟩
noncomputable def aJ9 : Code:=dT c57 0
def a81 (id : Nat) : Option aS:=bif Nat.beq id 2 then some ⟨U3,aCV,SG⟩ else none
theorem aUM : ∀ x,dJ Tryz.prog E57 36 (aC Tryz.f57) a81 aJ9 U3 aCV x = LF x:=by
 rintro ⟨v0,v1,v9,v10,v11,⟨⟩⟩
 kernel_rfl
theorem a8S : aF aJ9 = []:=by kernel_rfl
theorem aT2 : aG aJ9 = 2:=by kernel_rfl
theorem aVD : cE Tryz.prog 36 aJ9 ⟨U3,aCV,SG⟩:=by
 exact cF aX2.callee aK.mixed _ (aD a8S trivial) aUM
theorem a18 : aF c57 = [aJ9]:=by kernel_rfl
theorem a8R : ∀ x,bI Tryz.prog E57 Tryz.f57 (aC Tryz.f57) a81 c57 [.list TyE,.list TyE] [.int .i64] x = f57 x:=by
 rintro ⟨v0,v1,⟨⟩⟩
 kernel_rfl
theorem bEH : bY Tryz.prog 57 [.list TyE,.list TyE] [.int .i64] f57:=by
 exact aY aK aX2 Tryz.func57 (c:=c57) (by kernel_rfl) (aU:=aC Tryz.f57) (lt:=a81) (aD a18 ⟨cG aT2 rfl aVD,trivial⟩) a8R
abbrev e57 : Ent:=⟨57,[.list TyE,.list TyE],[.int .i64],f57⟩
theorem a6L : Ent.OK Tryz.prog e57:=bEH

/-! schisma/row.Compare -/
def f35 (x : aI [.list TyE,.list TyE]) : Option (aI [.int .i64]):=match x with
 | (v0,v1,()) =>
  aB (f57 (v0,v1,())) fun y1 =>
  some (y1.1,())
noncomputable def c35 : Code:=aT Tryz.f35
abbrev E35 : Env:=bE [e57]
theorem a5X : aZ Tryz.prog E35:=aW ⟨a6L,trivial⟩
def bDY (id : Nat) : Option aS:=none
theorem a1F : aF c35 = []:=by kernel_rfl
theorem bBY : ∀ x,bI Tryz.prog E35 Tryz.f35 (aC Tryz.f35) bDY c35 [.list TyE,.list TyE] [.int .i64] x = f35 x:=by
 rintro ⟨v0,v1,⟨⟩⟩
 kernel_rfl
theorem bES : bY Tryz.prog 35 [.list TyE,.list TyE] [.int .i64] f35:=by
 exact aY aK a5X Tryz.func35 (c:=c35) (by kernel_rfl) (aU:=aC Tryz.f35) (lt:=bDY) (aD a1F trivial) bBY
abbrev e35 : Ent:=⟨35,[.list TyE,.list TyE],[.int .i64],f35⟩
theorem aO6 : Ent.OK Tryz.prog e35:=bES

/-! schisma/row.fits -/
def f60 (x : aI [.int .i64]) : Option (aI [.bool]):=match x with
 | (v0,()) =>
  bif !(ltI v0 (-1000000000)) then
   some (!(ltI 1000000000 v0),())
  else some (false,())
noncomputable def c60 : Code:=aT Tryz.f60
abbrev E60 : Env:=bE []
theorem a99 : aZ Tryz.prog E60:=aW trivial
def bCJ (id : Nat) : Option aS:=none
theorem a3O : aF c60 = []:=by kernel_rfl
theorem a8W : ∀ x,bI Tryz.prog E60 Tryz.f60 (aC Tryz.f60) bCJ c60 [.int .i64] [.bool] x = f60 x:=by
 rintro ⟨v0,⟨⟩⟩
 kernel_rfl
theorem bEZ : bY Tryz.prog 60 [.int .i64] [.bool] f60:=by
 exact aY aK a99 Tryz.func60 (c:=c60) (by kernel_rfl) (aU:=aC Tryz.f60) (lt:=bCJ) (aD a3O trivial) a8W
abbrev e60 : Ent:=⟨60,[.int .i64],[.bool],f60⟩
theorem a9J : Ent.OK Tryz.prog e60:=bEZ

/-! schisma/row.Check$1 -/
def f59 (x : aI [.int .i64]) : Option (aI [.bool]):=match x with
 | (v0,()) =>
  aB (f60 (v0,())) fun y1 =>
  bif y1.1 then
   some (false,())
  else some (true,())
noncomputable def c59 : Code:=aT Tryz.f59
abbrev E59 : Env:=bE [e60]
theorem a7K : aZ Tryz.prog E59:=aW ⟨a9J,trivial⟩
def bC6 (id : Nat) : Option aS:=none
theorem a4M : aF c59 = []:=by kernel_rfl
theorem bAV : ∀ x,bI Tryz.prog E59 Tryz.f59 (aC Tryz.f59) bC6 c59 [.int .i64] [.bool] x = f59 x:=by
 rintro ⟨v0,⟨⟩⟩
 kernel_rfl
theorem bFO : bY Tryz.prog 59 [.int .i64] [.bool] f59:=by
 exact aY aK a7K Tryz.func59 (c:=c59) (by kernel_rfl) (aU:=aC Tryz.f59) (lt:=bC6) (aD a4M trivial) bAV
abbrev e59 : Ent:=⟨59,[.int .i64],[.bool],f59⟩
theorem a6B : Ent.OK Tryz.prog e59:=bFO

/-! slices.IndexFunc[schisma/api.Row,int] -/
abbrev tQ : List (Nat×Kd):=[(0,.list TyE),(1,.fn 59),(7,.int .i64),(8,.int .i64)]
abbrev yM : List (Ex×List (Nat×Kd)):=[(.ret,[(4,.int .i64)]),(.exit 0,[])]
def sP (x : Shape.den tQ) : Option (Shape.den tQ ⊕ aR yM):=match x with
 | (v0,v1,v7,v8,()) =>
  bif ltI v8 v7 then
   bif aQ v8 v0.length then aB (f59 ((v0.getD v8.toNat 0),())) fun y2 =>
   bif y2.1 then
    some (.inr (.inl (v8,())))
   else some (.inl (v0,(),v7,(aE .i64 (v8 + 1)),())) else none
  else some (.inr (.inr ((()))))
def wZ (x : Shape.den tQ) : Option (aR yM):=bM sP (2 ^ 64) x
def FW (x : aI [.list TyE,.fn 59]) : Option (aI [.int .i64]):=match x with
 | (v0,v1,()) =>
  aB (wZ (v0,(),(v0.length : Int),0,())) fun z3 =>
  gY z3 (fun a4=>some (a4.1,())) fun b5 =>
  some ((-1),())
noncomputable def RI : Code:=aT Tryz.f73
abbrev aBC : Env:=bE [e59]
theorem WO : aZ Tryz.prog aBC:=aW ⟨a6B,trivial⟩
noncomputable def BS : Code:=dT RI 0
def UX (id : Nat) : Option aS:=bif Nat.beq id 2 then some ⟨tQ,yM,wZ⟩ else none
theorem aCZ : ∀ x,dJ Tryz.prog aBC 19 (aC Tryz.f73) UX BS tQ yM x = sP x:=by
 rintro ⟨v0,v1,v7,v8,⟨⟩⟩
 kernel_rfl
theorem aKS : aF BS = []:=by kernel_rfl
theorem ZQ : aG BS = 2:=by kernel_rfl
theorem aD6 : cE Tryz.prog 19 BS ⟨tQ,yM,wZ⟩:=by
 exact cF WO.callee aK.mixed _ (aD aKS trivial) aCZ
theorem aHJ : aF RI = [BS]:=by kernel_rfl
theorem aM5 : ∀ x,bI Tryz.prog aBC Tryz.f73 (aC Tryz.f73) UX RI [.list TyE,.fn 59] [.int .i64] x = FW x:=by
 rintro ⟨v0,v1,⟨⟩⟩
 kernel_rfl
theorem aUT : bY Tryz.prog 73 [.list TyE,.fn 59] [.int .i64] FW:=by
 exact aY aK WO Tryz.func73 (c:=RI) (by kernel_rfl) (aU:=aC Tryz.f73) (lt:=UX) (aD aHJ ⟨cG ZQ rfl aD6,trivial⟩) aM5
abbrev aK2 : Ent:=⟨73,[.list TyE,.fn 59],[.int .i64],FW⟩
theorem aJ5 : Ent.OK Tryz.prog aK2:=aUT

/-! slices.ContainsFunc[schisma/api.Row,int] -/
def KN (x : aI [.list TyE,.fn 59]) : Option (aI [.bool]):=match x with
 | (v0,v1,()) =>
  aB (FW (v0,(),())) fun y1 =>
  some (!(ltI y1.1 0),())
noncomputable def ZH : Code:=aT Tryz.f55
abbrev aL7 : Env:=bE [aK2]
theorem aL9 : aZ Tryz.prog aL7:=aW ⟨aJ5,trivial⟩
def aFA (id : Nat) : Option aS:=none
theorem aH5 : aF ZH = []:=by kernel_rfl
theorem aJO : ∀ x,bI Tryz.prog aL7 Tryz.f55 (aC Tryz.f55) aFA ZH [.list TyE,.fn 59] [.bool] x = KN x:=by
 rintro ⟨v0,v1,⟨⟩⟩
 kernel_rfl
theorem aTL : bY Tryz.prog 55 [.list TyE,.fn 59] [.bool] KN:=by
 exact aY aK aL9 Tryz.func55 (c:=ZH) (by kernel_rfl) (aU:=aC Tryz.f55) (lt:=aFA) (aD aH5 trivial) aJO
abbrev aLP : Ent:=⟨55,[.list TyE,.fn 59],[.bool],KN⟩
theorem aJU : Ent.OK Tryz.prog aLP:=aTL

/-! schisma/row.Check -/
def f37 (x : aI [.list TyE]) : Option (aI [.int .i64]):=match x with
 | (v0,()) =>
  bif ltI 64 (v0.length : Int) then
   some (4,())
  else aB (KN (v0,(),())) fun y1 =>
  bif y1.1 then
   some (4,())
  else some (0,())
noncomputable def c37 : Code:=aT Tryz.f37
abbrev E37 : Env:=bE [aLP]
theorem a6F : aZ Tryz.prog E37:=aW ⟨aJU,trivial⟩
def bD8 (id : Nat) : Option aS:=none
theorem a1X : aF c37 = []:=by kernel_rfl
theorem a7W : ∀ x,bI Tryz.prog E37 Tryz.f37 (aC Tryz.f37) bD8 c37 [.list TyE] [.int .i64] x = f37 x:=by
 rintro ⟨v0,⟨⟩⟩
 kernel_rfl
theorem bEN : bY Tryz.prog 37 [.list TyE] [.int .i64] f37:=by
 exact aY aK a6F Tryz.func37 (c:=c37) (by kernel_rfl) (aU:=aC Tryz.f37) (lt:=bD8) (aD a1X trivial) a7W
abbrev e37 : Ent:=⟨37,[.list TyE],[.int .i64],f37⟩
theorem aN3 : Ent.OK Tryz.prog e37:=bEN

/-! slices.Equal[schisma/api.Row,int] -/
abbrev UD : List (Nat×Kd):=[(0,.list TyE),(1,.list TyE),(12,.int .i64),(13,.int .i64)]
abbrev aAR : List (Ex×List (Nat×Kd)):=[(.ret,[(4,.bool)]),(.exit 0,[])]
def LY (x : Shape.den UD) : Option (Shape.den UD ⊕ aR aAR):=match x with
 | (v0,v1,v12,v13,()) =>
  bif ltI v13 v12 then
   bif aQ v13 v0.length then bif aQ v13 v1.length then bif !(eqI (v0.getD v13.toNat 0) (v1.getD v13.toNat 0)) then
    some (.inr (.inl (false,())))
   else some (.inl (v0,v1,v12,(aE .i64 (v13 + 1)),())) else none else none
  else some (.inr (.inr ((()))))
def S8 (x : Shape.den UD) : Option (aR aAR):=bM LY (2 ^ 64) x
def f46 (x : aI [.list TyE,.list TyE]) : Option (aI [.bool]):=match x with
 | (v0,v1,()) =>
  bif !(eqI (v0.length : Int) (v1.length : Int)) then
   some (false,())
  else aB (S8 (v0,v1,(v0.length : Int),0,())) fun z1 =>
  gY z1 (fun a2=>some (a2.1,())) fun b3 =>
  some (true,())
noncomputable def c46 : Code:=aT Tryz.f46
abbrev E46 : Env:=bE []
theorem aXF : aZ Tryz.prog E46:=aW trivial
noncomputable def aLM : Code:=dT c46 0
def a8P (id : Nat) : Option aS:=bif Nat.beq id 4 then some ⟨UD,aAR,S8⟩ else none
theorem aSZ : ∀ x,dJ Tryz.prog E46 26 (aC Tryz.f46) a8P aLM UD aAR x = LY x:=by
 rintro ⟨v0,v1,v12,v13,⟨⟩⟩
 kernel_rfl
theorem a9Z : aF aLM = []:=by kernel_rfl
theorem aR4 : aG aLM = 4:=by kernel_rfl
theorem aWS : cE Tryz.prog 26 aLM ⟨UD,aAR,S8⟩:=by
 exact cF aXF.callee aK.mixed _ (aD a9Z trivial) aSZ
theorem aZ3 : aF c46 = [aLM]:=by kernel_rfl
theorem a9P : ∀ x,bI Tryz.prog E46 Tryz.f46 (aC Tryz.f46) a8P c46 [.list TyE,.list TyE] [.bool] x = f46 x:=by
 rintro ⟨v0,v1,⟨⟩⟩
 kernel_rfl
theorem bEI : bY Tryz.prog 46 [.list TyE,.list TyE] [.bool] f46:=by
 exact aY aK aXF Tryz.func46 (c:=c46) (by kernel_rfl) (aU:=aC Tryz.f46) (lt:=a8P) (aD aZ3 ⟨cG aR4 rfl aWS,trivial⟩) a9P
abbrev e46 : Ent:=⟨46,[.list TyE,.list TyE],[.bool],f46⟩
theorem aPT : Ent.OK Tryz.prog e46:=bEI

/-! schisma/row.Equal -/
def f43 (x : aI [.list TyE,.list TyE]) : Option (aI [.bool]):=match x with
 | (v0,v1,()) =>
  aB (f46 (v0,v1,())) fun y1 =>
  some (y1.1,())
noncomputable def c43 : Code:=aT Tryz.f43
abbrev E43 : Env:=bE [e46]
theorem bBR : aZ Tryz.prog E43:=aW ⟨aPT,trivial⟩
def bCU (id : Nat) : Option aS:=none
theorem a3S : aF c43 = []:=by kernel_rfl
theorem bAD : ∀ x,bI Tryz.prog E43 Tryz.f43 (aC Tryz.f43) bCU c43 [.list TyE,.list TyE] [.bool] x = f43 x:=by
 rintro ⟨v0,v1,⟨⟩⟩
 kernel_rfl
theorem bEL : bY Tryz.prog 43 [.list TyE,.list TyE] [.bool] f43:=by
 exact aY aK bBR Tryz.func43 (c:=c43) (by kernel_rfl) (aU:=aC Tryz.f43) (lt:=bCU) (aD a3S trivial) bAD
abbrev e43 : Ent:=⟨43,[.list TyE,.list TyE],[.bool],f43⟩
theorem bBQ : Ent.OK Tryz.prog e43:=bEL

/-! schisma/row.IsZero$1 -/
def f56 (x : aI [.int .i64]) : Option (aI [.bool]):=match x with
 | (v0,()) =>
  some (!(eqI v0 0),())
noncomputable def c56 : Code:=aT Tryz.f56
abbrev E56 : Env:=bE []
theorem a9R : aZ Tryz.prog E56:=aW trivial
def bCM (id : Nat) : Option aS:=none
theorem a3U : aF c56 = []:=by kernel_rfl
theorem a6R : ∀ x,bI Tryz.prog E56 Tryz.f56 (aC Tryz.f56) bCM c56 [.int .i64] [.bool] x = f56 x:=by
 rintro ⟨v0,⟨⟩⟩
 kernel_rfl
theorem bFD : bY Tryz.prog 56 [.int .i64] [.bool] f56:=by
 exact aY aK a9R Tryz.func56 (c:=c56) (by kernel_rfl) (aU:=aC Tryz.f56) (lt:=bCM) (aD a3U trivial) a6R
abbrev e56 : Ent:=⟨56,[.int .i64],[.bool],f56⟩
theorem a7H : Ent.OK Tryz.prog e56:=bFD

/-! slices.IndexFunc[schisma/api.Row,int] -/
abbrev uC : List (Nat×Kd):=[(0,.list TyE),(1,.fn 56),(7,.int .i64),(8,.int .i64)]
abbrev xO : List (Ex×List (Nat×Kd)):=[(.ret,[(4,.int .i64)]),(.exit 0,[])]
def OD (x : Shape.den uC) : Option (Shape.den uC ⊕ aR xO):=match x with
 | (v0,v1,v7,v8,()) =>
  bif ltI v8 v7 then
   bif aQ v8 v0.length then aB (f56 ((v0.getD v8.toNat 0),())) fun y2 =>
   bif y2.1 then
    some (.inr (.inl (v8,())))
   else some (.inl (v0,(),v7,(aE .i64 (v8 + 1)),())) else none
  else some (.inr (.inr ((()))))
def EK (x : Shape.den uC) : Option (aR xO):=bM OD (2 ^ 64) x
def RR (x : aI [.list TyE,.fn 56]) : Option (aI [.int .i64]):=match x with
 | (v0,v1,()) =>
  aB (EK (v0,(),(v0.length : Int),0,())) fun z3 =>
  gY z3 (fun a4=>some (a4.1,())) fun b5 =>
  some ((-1),())
noncomputable def SK : Code:=aT Tryz.f73
abbrev aAF : Env:=bE [e56]
theorem WH : aZ Tryz.prog aAF:=aW ⟨a7H,trivial⟩
noncomputable def C1 : Code:=dT SK 0
def VU (id : Nat) : Option aS:=bif Nat.beq id 2 then some ⟨uC,xO,EK⟩ else none
theorem aDI : ∀ x,dJ Tryz.prog aAF 19 (aC Tryz.f73) VU C1 uC xO x = OD x:=by
 rintro ⟨v0,v1,v7,v8,⟨⟩⟩
 kernel_rfl
theorem aM6 : aF C1 = []:=by kernel_rfl
theorem aAQ : aG C1 = 2:=by kernel_rfl
theorem aEL : cE Tryz.prog 19 C1 ⟨uC,xO,EK⟩:=by
 exact cF WH.callee aK.mixed _ (aD aM6 trivial) aDI
theorem aH7 : aF SK = [C1]:=by kernel_rfl
theorem aL5 : ∀ x,bI Tryz.prog aAF Tryz.f73 (aC Tryz.f73) VU SK [.list TyE,.fn 56] [.int .i64] x = RR x:=by
 rintro ⟨v0,v1,⟨⟩⟩
 kernel_rfl
theorem aSW : bY Tryz.prog 73 [.list TyE,.fn 56] [.int .i64] RR:=by
 exact aY aK WH Tryz.func73 (c:=SK) (by kernel_rfl) (aU:=aC Tryz.f73) (lt:=VU) (aD aH7 ⟨cG aAQ rfl aEL,trivial⟩) aL5
abbrev aLC : Ent:=⟨73,[.list TyE,.fn 56],[.int .i64],RR⟩
theorem aJY : Ent.OK Tryz.prog aLC:=aSW

/-! slices.ContainsFunc[schisma/api.Row,int] -/
def S6 (x : aI [.list TyE,.fn 56]) : Option (aI [.bool]):=match x with
 | (v0,v1,()) =>
  aB (RR (v0,(),())) fun y1 =>
  some (!(ltI y1.1 0),())
noncomputable def aBT : Code:=aT Tryz.f55
abbrev aK7 : Env:=bE [aLC]
theorem aK1 : aZ Tryz.prog aK7:=aW ⟨aJY,trivial⟩
def aFJ (id : Nat) : Option aS:=none
theorem aGZ : aF aBT = []:=by kernel_rfl
theorem aKR : ∀ x,bI Tryz.prog aK7 Tryz.f55 (aC Tryz.f55) aFJ aBT [.list TyE,.fn 56] [.bool] x = S6 x:=by
 rintro ⟨v0,v1,⟨⟩⟩
 kernel_rfl
theorem aT0 : bY Tryz.prog 55 [.list TyE,.fn 56] [.bool] S6:=by
 exact aY aK aK1 Tryz.func55 (c:=aBT) (by kernel_rfl) (aU:=aC Tryz.f55) (lt:=aFJ) (aD aGZ trivial) aKR
abbrev aLI : Ent:=⟨55,[.list TyE,.fn 56],[.bool],S6⟩
theorem aLE : Ent.OK Tryz.prog aLI:=aT0

/-! schisma/row.IsZero -/
def f34 (x : aI [.list TyE]) : Option (aI [.bool]):=match x with
 | (v0,()) =>
  aB (S6 (v0,(),())) fun y1 =>
  bif y1.1 then
   some (false,())
  else some (true,())
noncomputable def c34 : Code:=aT Tryz.f34
abbrev E34 : Env:=bE [aLI]
theorem bAO : aZ Tryz.prog E34:=aW ⟨aLE,trivial⟩
def bCR (id : Nat) : Option aS:=none
theorem a0A : aF c34 = []:=by kernel_rfl
theorem a97 : ∀ x,bI Tryz.prog E34 Tryz.f34 (aC Tryz.f34) bCR c34 [.list TyE] [.bool] x = f34 x:=by
 rintro ⟨v0,⟨⟩⟩
 kernel_rfl
theorem bFU : bY Tryz.prog 34 [.list TyE] [.bool] f34:=by
 exact aY aK bAO Tryz.func34 (c:=c34) (by kernel_rfl) (aU:=aC Tryz.f34) (lt:=bCR) (aD a0A trivial) a97
abbrev e34 : Ent:=⟨34,[.list TyE],[.bool],f34⟩
theorem a7R : Ent.OK Tryz.prog e34:=bFU

/-! slices.Index[[]schisma/api.Key,schisma/api.Key] -/
abbrev VI : List (Nat×Kd):=[(0,.list TyF),(3,.box 109 TyF),(7,.int .i64),(8,.int .i64)]
abbrev Y8 : List (Ex×List (Nat×Kd)):=[(.ret,[(4,.int .i64)]),(.exit 0,[])]
def aJM (x : Shape.den VI) : Option (Shape.den VI ⊕ aR Y8):=match x with
 | (v0,v3,v7,v8,()) =>
  bif ltI v8 v7 then
   bif aQ v8 v0.length then bif (eqI v3.1 ((v0.getD v8.toNat (0,0)).1) && (eqI v3.2 ((v0.getD v8.toNat (0,0)).2) && true)) then
    some (.inr (.inl (v8,())))
   else some (.inl (v0,(v3.1,v3.2),v7,(aE .i64 (v8 + 1)),())) else none
  else some (.inr (.inr ((()))))
def aCE (x : Shape.den VI) : Option (aR Y8):=bM aJM (2 ^ 64) x
def f75 (x : aI [.list TyF,.agg TyF]) : Option (aI [.int .i64]):=match x with
 | (v0,v1,()) =>
  aB (aCE (v0,(v1.1,v1.2),(v0.length : Int),0,())) fun z1 =>
  gY z1 (fun a2=>some (a2.1,())) fun b3 =>
  some ((-1),())
noncomputable def c75 : Code:=aT Tryz.f75
abbrev E75 : Env:=bE []
theorem aU7 : aZ Tryz.prog E75:=aW trivial
noncomputable def aKX : Code:=dT c75 0
def bA2 (id : Nat) : Option aS:=bif Nat.beq id 2 then some ⟨VI,Y8,aCE⟩ else none
theorem aUC : ∀ x,dJ Tryz.prog E75 19 (aC Tryz.f75) bA2 aKX VI Y8 x = aJM x:=by
 rintro ⟨v0,v3,v7,v8,⟨⟩⟩
 kernel_rfl
theorem bA5 : aF aKX = []:=by kernel_rfl
theorem aRR : aG aKX = 2:=by kernel_rfl
theorem aWK : cE Tryz.prog 19 aKX ⟨VI,Y8,aCE⟩:=by
 exact cF aU7.callee aK.mixed _ (aD bA5 trivial) aUC
theorem a0V : aF c75 = [aKX]:=by kernel_rfl
theorem a9U : ∀ x,bI Tryz.prog E75 Tryz.f75 (aC Tryz.f75) bA2 c75 [.list TyF,.agg TyF] [.int .i64] x = f75 x:=by
 rintro ⟨v0,v1,⟨⟩⟩
 kernel_rfl
theorem bFP : bY Tryz.prog 75 [.list TyF,.agg TyF] [.int .i64] f75:=by
 exact aY aK aU7 Tryz.func75 (c:=c75) (by kernel_rfl) (aU:=aC Tryz.f75) (lt:=bA2) (aD a0V ⟨cG aRR rfl aWK,trivial⟩) a9U
abbrev e75 : Ent:=⟨75,[.list TyF,.agg TyF],[.int .i64],f75⟩
theorem a8M : Ent.OK Tryz.prog e75:=bFP

/-! slices.Contains[[]schisma/api.Key,schisma/api.Key] -/
def f63 (x : aI [.list TyF,.agg TyF]) : Option (aI [.bool]):=match x with
 | (v0,v1,()) =>
  aB (f75 (v0,(v1.1,v1.2),())) fun y1 =>
  some (!(ltI y1.1 0),())
noncomputable def c63 : Code:=aT Tryz.f63
abbrev E63 : Env:=bE [e75]
theorem a7E : aZ Tryz.prog E63:=aW ⟨a8M,trivial⟩
def bDU (id : Nat) : Option aS:=none
theorem a0B : aF c63 = []:=by kernel_rfl
theorem a6N : ∀ x,bI Tryz.prog E63 Tryz.f63 (aC Tryz.f63) bDU c63 [.list TyF,.agg TyF] [.bool] x = f63 x:=by
 rintro ⟨v0,v1,⟨⟩⟩
 kernel_rfl
theorem bET : bY Tryz.prog 63 [.list TyF,.agg TyF] [.bool] f63:=by
 exact aY aK a7E Tryz.func63 (c:=c63) (by kernel_rfl) (aU:=aC Tryz.f63) (lt:=bDU) (aD a0B trivial) a6N
abbrev e63 : Ent:=⟨63,[.list TyF,.agg TyF],[.bool],f63⟩
theorem bBG : Ent.OK Tryz.prog e63:=bET

/-! schisma/isomorphy.neighbours -/
def f61 (x : aI [.int .i64]) : Option (aI [.list TyF]):=match x with
 | (v0,()) =>
  bif eqI v0 2 then
   bif Nat.ble [(1,(-1)),((-1),1)].length 1048576 then bif Nat.ble [(1,0),((-1),0),(0,1),(0,(-1))].length 1048576 then bif Nat.blt 4 ([(1,0),((-1),0),(0,1),(0,(-1))].length + [(1,(-1)),((-1),1)].length) then some (([(1,0),((-1),0),(0,1),(0,(-1))] ++ [(1,(-1)),((-1),1)]),()) else none else none else none
  else some ([(1,0),((-1),0),(0,1),(0,(-1))],())
noncomputable def c61 : Code:=aT Tryz.f61
abbrev E61 : Env:=bE []
theorem a7I : aZ Tryz.prog E61:=aW trivial
def bCT (id : Nat) : Option aS:=none
theorem a06 : aF c61 = []:=by kernel_rfl
theorem a6A : ∀ x,bI Tryz.prog E61 Tryz.f61 (aC Tryz.f61) bCT c61 [.int .i64] [.list TyF] x = f61 x:=by
 rintro ⟨v0,⟨⟩⟩
 kernel_rfl
theorem bEM : bY Tryz.prog 61 [.int .i64] [.list TyF] f61:=by
 exact aY aK a7I Tryz.func61 (c:=c61) (by kernel_rfl) (aU:=aC Tryz.f61) (lt:=bCT) (aD a06 trivial) a6A
abbrev e61 : Ent:=⟨61,[.int .i64],[.list TyF],f61⟩
theorem a86 : Ent.OK Tryz.prog e61:=bEM

/-! schisma/isomorphy.Check -/
abbrev U6 : List (Nat×Kd):=[(1,.box 25 TyA),(20,.agg (.prod TyD (.prod TyD TyD))),(21,.int .i64)]
abbrev aCO : List (Ex×List (Nat×Kd)):=[(.ret,[(2,.int .i64)]),(.exit 0,[])]
def u7 (x : Shape.den U6) : Option (Shape.den U6 ⊕ aR aCO):=match x with
 | (v1,v20,v21,()) =>
  bif ltI v21 3 then
   bif eqI v21 0 then
    aB (f37 (v20.1,())) fun y4 =>
    bif !(eqI y4.1 0) then
     some (.inr (.inl (y4.1,())))
    else bif !(eqI (v20.1.length : Int) (v1.2.1.length : Int)) then
     some (.inr (.inl (5,())))
    else some (.inl (v1,(v20.1,(v20.2.1,v20.2.2)),(aE .i64 (v21 + 1)),()))
   else bif eqI v21 1 then
    aB (f37 (v20.2.1,())) fun y5 =>
    bif !(eqI y5.1 0) then
     some (.inr (.inl (y5.1,())))
    else bif !(eqI (v20.2.1.length : Int) (v1.2.1.length : Int)) then
     some (.inr (.inl (5,())))
    else some (.inl (v1,(v20.1,(v20.2.1,v20.2.2)),(aE .i64 (v21 + 1)),()))
   else bif eqI v21 2 then aB (f37 (v20.2.2,())) fun y6 =>
   bif !(eqI y6.1 0) then
    some (.inr (.inl (y6.1,())))
   else bif !(eqI (v20.2.2.length : Int) (v1.2.1.length : Int)) then
    some (.inr (.inl (5,())))
   else some (.inl (v1,(v20.1,(v20.2.1,v20.2.2)),(aE .i64 (v21 + 1)),())) else none
  else some (.inr (.inr ((()))))
def E9 (x : Shape.den U6) : Option (aR aCO):=bM u7 (2 ^ 64) x
def f24 (x : aI [.agg TyA]) : Option (aI [.int .i64]):=match x with
 | (v0,()) =>
  bif !(eqI v0.1 1) then
   bif !(eqI v0.1 2) then
    some (12,())
   else aB (E9 (v0,(v0.2.1,(v0.2.2.1,v0.2.2.2)),0,())) fun z7 =>
   gY z7 (fun a8=>some (a8.1,())) fun b9 =>
   some (0,())
  else aB (E9 (v0,(v0.2.1,(v0.2.2.1,v0.2.2.2)),0,())) fun z10 =>
  gY z10 (fun a11=>some (a11.1,())) fun b12 =>
  some (0,())
noncomputable def c24 : Code:=aT Tryz.f24
abbrev E24 : Env:=bE [e37]
theorem aVW : aZ Tryz.prog E24:=aW ⟨aN3,trivial⟩
noncomputable def aJS : Code:=dT c24 0
def bBJ (id : Nat) : Option aS:=bif Nat.beq id 4 then some ⟨U6,aCO,E9⟩ else none
theorem aRV : ∀ x,dJ Tryz.prog E24 36 (aC Tryz.f24) bBJ aJS U6 aCO x = u7 x:=by
 rintro ⟨v1,v20,v21,⟨⟩⟩
 kernel_rfl
theorem bBF : aF aJS = []:=by kernel_rfl
theorem aSO : aG aJS = 4:=by kernel_rfl
theorem aYU : cE Tryz.prog 36 aJS ⟨U6,aCO,E9⟩:=by
 exact cF aVW.callee aK.mixed _ (aD bBF trivial) aRV
theorem a2X : aF c24 = [aJS]:=by kernel_rfl
theorem a90 : ∀ x,bI Tryz.prog E24 Tryz.f24 (aC Tryz.f24) bBJ c24 [.agg TyA] [.int .i64] x = f24 x:=by
 rintro ⟨v0,⟨⟩⟩
 kernel_rfl
theorem bE3 : bY Tryz.prog 24 [.agg TyA] [.int .i64] f24:=by
 exact aY aK aVW Tryz.func24 (c:=c24) (by kernel_rfl) (aU:=aC Tryz.f24) (lt:=bBJ) (aD a2X ⟨cG aSO rfl aYU,trivial⟩) a90
abbrev e24 : Ent:=⟨24,[.agg TyA],[.int .i64],f24⟩
theorem aNK : Ent.OK Tryz.prog e24:=bE3

/-! schisma/isomorphy.Equal -/
def f25 (x : aI [.agg TyA,.agg TyA]) : Option (aI [.bool]):=match x with
 | (v0,v1,()) =>
  bif eqI v0.1 v1.1 then
   aB (f46 (v0.2.1,v1.2.1,())) fun y1 =>
   bif y1.1 then
    aB (f46 (v0.2.2.1,v1.2.2.1,())) fun y2 =>
    bif y2.1 then
     aB (f46 (v0.2.2.2,v1.2.2.2,())) fun y3 =>
     some (y3.1,())
    else some (false,())
   else some (false,())
  else some (false,())
noncomputable def c25 : Code:=aT Tryz.f25
abbrev E25 : Env:=bE [e46]
theorem bBK : aZ Tryz.prog E25:=aW ⟨aPT,trivial⟩
def bCS (id : Nat) : Option aS:=none
theorem a02 : aF c25 = []:=by kernel_rfl
theorem bBP : ∀ x,bI Tryz.prog E25 Tryz.f25 (aC Tryz.f25) bCS c25 [.agg TyA,.agg TyA] [.bool] x = f25 x:=by
 rintro ⟨v0,v1,⟨⟩⟩
 kernel_rfl
theorem bFY : bY Tryz.prog 25 [.agg TyA,.agg TyA] [.bool] f25:=by
 exact aY aK bBK Tryz.func25 (c:=c25) (by kernel_rfl) (aU:=aC Tryz.f25) (lt:=bCS) (aD a02 trivial) bBP
abbrev e25 : Ent:=⟨25,[.agg TyA,.agg TyA],[.bool],f25⟩
theorem bAZ : Ent.OK Tryz.prog e25:=bFY

/-! schisma/isomorphy.combine -/
abbrev TS : List (Nat×Kd):=[(0,.list TyE),(1,.list TyE),(2,.int .i64),(3,.int .i64),(9,.own 3 TyE),(13,.int .i64),(14,.int .i64)]
abbrev Z3 : List (Ex×List (Nat×Kd)):=[(.exit 0,[(9,.own 3 TyE)])]
def KG (x : Shape.den TS) : Option (Shape.den TS ⊕ aR Z3):=match x with
 | (v0,v1,v2,v3,v9,v13,v14,()) =>
  bif ltI v14 v13 then
   bif aQ v14 v0.length then bif aQ v14 v1.length then bif Nat.ble [(aE .i64 ((aE .i64 (v2 * (v0.getD v14.toNat 0))) + (aE .i64 (v3 * (v1.getD v14.toNat 0)))))].length 1048576 then bif Nat.ble v9.length 1048576 then some (.inl (v0,v1,v2,v3,(v9 ++ [(aE .i64 ((aE .i64 (v2 * (v0.getD v14.toNat 0))) + (aE .i64 (v3 * (v1.getD v14.toNat 0)))))]),v13,(aE .i64 (v14 + 1)),())) else none else none else none else none
  else some (.inr ((v9,())))
def RO (x : Shape.den TS) : Option (aR Z3):=bM KG (2 ^ 64) x
def f65 (x : aI [.list TyE,.list TyE,.int .i64,.int .i64]) : Option (aI [.list TyE]):=match x with
 | (v0,v1,v2,v3,()) =>
  aB (RO (v0,v1,v2,v3,[],(v0.length : Int),0,())) fun z1 =>
  some (z1.1,())
noncomputable def c65 : Code:=aT Tryz.f65
abbrev E65 : Env:=bE []
theorem aVM : aZ Tryz.prog E65:=aW trivial
noncomputable def aMP : Code:=dT c65 0
def bB6 (id : Nat) : Option aS:=bif Nat.beq id 3 then some ⟨TS,Z3,RO⟩ else none
theorem aTI : ∀ x,dJ Tryz.prog E65 35 (aC Tryz.f65) bB6 aMP TS Z3 x = KG x:=by
 rintro ⟨v0,v1,v2,v3,v9,v13,v14,⟨⟩⟩
 kernel_rfl
theorem a6Y : aF aMP = []:=by kernel_rfl
theorem aUU : aG aMP = 3:=by kernel_rfl
theorem aYZ : cE Tryz.prog 35 aMP ⟨TS,Z3,RO⟩:=by
 exact cF aVM.callee aK.mixed _ (aD a6Y trivial) aTI
theorem a2M : aF c65 = [aMP]:=by kernel_rfl
theorem a8Y : ∀ x,bI Tryz.prog E65 Tryz.f65 (aC Tryz.f65) bB6 c65 [.list TyE,.list TyE,.int .i64,.int .i64] [.list TyE] x = f65 x:=by
 rintro ⟨v0,v1,v2,v3,⟨⟩⟩
 kernel_rfl
theorem bFC : bY Tryz.prog 65 [.list TyE,.list TyE,.int .i64,.int .i64] [.list TyE] f65:=by
 exact aY aK aVM Tryz.func65 (c:=c65) (by kernel_rfl) (aU:=aC Tryz.f65) (lt:=bB6) (aD a2M ⟨cG aUU rfl aYZ,trivial⟩) a8Y
abbrev e65 : Ent:=⟨65,[.list TyE,.list TyE,.int .i64,.int .i64],[.list TyE],f65⟩
theorem aY5 : Ent.OK Tryz.prog e65:=bFC

/-! schisma/isomorphy.QV -/
def f40 (x : aI [.agg TyA,.agg TyB]) : Option (aI [.agg TyA]):=match x with
 | (v0,v1,()) =>
  aB (aRA (v0.2.1,())) fun y1 =>
  aB (f65 (v0.2.2.1,v0.2.2.2,v1.1,v1.2.2.1,())) fun y2 =>
  aB (f65 (v0.2.2.1,v0.2.2.2,v1.2.1,v1.2.2.2,())) fun y3 =>
  some ((v0.1,(y1.1,(y2.1,y3.1))),())
noncomputable def c40 : Code:=aT Tryz.f40
abbrev E40 : Env:=bE [bC4,e65]
theorem a69 : aZ Tryz.prog E40:=aW ⟨a0P,aY5,trivial⟩
def bDN (id : Nat) : Option aS:=none
theorem a0C : aF c40 = []:=by kernel_rfl
theorem a8D : ∀ x,bI Tryz.prog E40 Tryz.f40 (aC Tryz.f40) bDN c40 [.agg TyA,.agg TyB] [.agg TyA] x = f40 x:=by
 rintro ⟨v0,v1,⟨⟩⟩
 kernel_rfl
theorem bFX : bY Tryz.prog 40 [.agg TyA,.agg TyB] [.agg TyA] f40:=by
 exact aY aK a69 Tryz.func40 (c:=c40) (by kernel_rfl) (aU:=aC Tryz.f40) (lt:=bDN) (aD a0C trivial) a8D
abbrev e40 : Ent:=⟨40,[.agg TyA,.agg TyB],[.agg TyA],f40⟩
theorem aG7 : Ent.OK Tryz.prog e40:=bFX

/-! schisma/isomorphy.bounded -/
abbrev TL : List (Nat×Kd):=[(1,.box 25 TyA),(2,.box 25 TyA),(12,.agg (.prod TyD (.prod TyD TyD))),(13,.int .i64)]
abbrev ZE : List (Ex×List (Nat×Kd)):=[(.ret,[(2,.box 25 TyA),(3,.int .i64)]),(.exit 0,[(1,.box 25 TyA),(2,.box 25 TyA)])]
def aLH (x : Shape.den TL) : Option (Shape.den TL ⊕ aR ZE):=match x with
 | (v1,v2,v12,v13,()) =>
  bif ltI v13 3 then
   bif eqI v13 0 then
    aB (f37 (v12.1,())) fun y4 =>
    bif !(eqI y4.1 0) then
     some (.inr (.inl ((0,([],([],[]))),4,())))
    else some (.inl (v1,v2,(v12.1,(v12.2.1,v12.2.2)),(aE .i64 (v13 + 1)),()))
   else bif eqI v13 1 then
    aB (f37 (v12.2.1,())) fun y5 =>
    bif !(eqI y5.1 0) then
     some (.inr (.inl ((0,([],([],[]))),4,())))
    else some (.inl (v1,v2,(v12.1,(v12.2.1,v12.2.2)),(aE .i64 (v13 + 1)),()))
   else bif eqI v13 2 then aB (f37 (v12.2.2,())) fun y6 =>
   bif !(eqI y6.1 0) then
    some (.inr (.inl ((0,([],([],[]))),4,())))
   else some (.inl (v1,v2,(v12.1,(v12.2.1,v12.2.2)),(aE .i64 (v13 + 1)),())) else none
  else some (.inr (.inr ((v1,v2,()))))
def aCP (x : Shape.den TL) : Option (aR ZE):=bM aLH (2 ^ 64) x
def f39 (x : aI [.agg TyA]) : Option (aI [.agg TyA,.int .i64]):=match x with
 | (v0,()) =>
  aB (aCP (v0,(0,([],([],[]))),(v0.2.1,(v0.2.2.1,v0.2.2.2)),0,())) fun z7 =>
  gY z7 (fun a8=>some (a8.1,a8.2.1,())) fun b9 =>
  some (b9.1,0,())
noncomputable def c39 : Code:=aT Tryz.f39
abbrev E39 : Env:=bE [e37]
theorem aW5 : aZ Tryz.prog E39:=aW ⟨aN3,trivial⟩
noncomputable def aL1 : Code:=dT c39 0
def a7X (id : Nat) : Option aS:=bif Nat.beq id 2 then some ⟨TL,ZE,aCP⟩ else none
theorem aTW : ∀ x,dJ Tryz.prog E39 22 (aC Tryz.f39) a7X aL1 TL ZE x = aLH x:=by
 rintro ⟨v1,v2,v12,v13,⟨⟩⟩
 kernel_rfl
theorem a9W : aF aL1 = []:=by kernel_rfl
theorem aRJ : aG aL1 = 2:=by kernel_rfl
theorem aY8 : cE Tryz.prog 22 aL1 ⟨TL,ZE,aCP⟩:=by
 exact cF aW5.callee aK.mixed _ (aD a9W trivial) aTW
theorem a2L : aF c39 = [aL1]:=by kernel_rfl
theorem a7F : ∀ x,bI Tryz.prog E39 Tryz.f39 (aC Tryz.f39) a7X c39 [.agg TyA] [.agg TyA,.int .i64] x = f39 x:=by
 rintro ⟨v0,⟨⟩⟩
 kernel_rfl
theorem bFE : bY Tryz.prog 39 [.agg TyA] [.agg TyA,.int .i64] f39:=by
 exact aY aK aW5 Tryz.func39 (c:=c39) (by kernel_rfl) (aU:=aC Tryz.f39) (lt:=a7X) (aD a2L ⟨cG aRJ rfl aY8,trivial⟩) a7F
abbrev e39 : Ent:=⟨39,[.agg TyA],[.agg TyA,.int .i64],f39⟩
theorem a6W : Ent.OK Tryz.prog e39:=bFE

/-! schisma/isomorphy.first -/
def f48 (x : aI [.agg TyA,.agg TyA]) : Option (aI [.int .i64]):=match x with
 | (v0,v1,()) =>
  aB (f35 (v0.2.2.1,v1.2.2.1,())) fun y1 =>
  bif !(eqI y1.1 0) then
   some (y1.1,())
  else aB (f35 (v0.2.2.2,v1.2.2.2,())) fun y2 =>
  some (y2.1,())
noncomputable def c48 : Code:=aT Tryz.f48
abbrev E48 : Env:=bE [e35]
theorem a6Z : aZ Tryz.prog E48:=aW ⟨aO6,trivial⟩
def bDT (id : Nat) : Option aS:=none
theorem a5C : aF c48 = []:=by kernel_rfl
theorem a9X : ∀ x,bI Tryz.prog E48 Tryz.f48 (aC Tryz.f48) bDT c48 [.agg TyA,.agg TyA] [.int .i64] x = f48 x:=by
 rintro ⟨v0,v1,⟨⟩⟩
 kernel_rfl
theorem bER : bY Tryz.prog 48 [.agg TyA,.agg TyA] [.int .i64] f48:=by
 exact aY aK a6Z Tryz.func48 (c:=c48) (by kernel_rfl) (aU:=aC Tryz.f48) (lt:=bDT) (aD a5C trivial) a9X
abbrev e48 : Ent:=⟨48,[.agg TyA,.agg TyA],[.int .i64],f48⟩
theorem aH3 : Ent.OK Tryz.prog e48:=bER

/-! schisma/schismalaw46.neighbours -/
def f41 (x : aI [.int .i64]) : Option (aI [.list TyF]):=match x with
 | (v0,()) =>
  bif eqI v0 2 then
   bif Nat.ble [(1,(-1)),((-1),1)].length 1048576 then bif Nat.ble [(1,0),((-1),0),(0,1),(0,(-1))].length 1048576 then bif Nat.blt 4 ([(1,0),((-1),0),(0,1),(0,(-1))].length + [(1,(-1)),((-1),1)].length) then some (([(1,0),((-1),0),(0,1),(0,(-1))] ++ [(1,(-1)),((-1),1)]),()) else none else none else none
  else some ([(1,0),((-1),0),(0,1),(0,(-1))],())
noncomputable def c41 : Code:=aT Tryz.f41
abbrev E41 : Env:=bE []
theorem a8U : aZ Tryz.prog E41:=aW trivial
def bDC (id : Nat) : Option aS:=none
theorem a3L : aF c41 = []:=by kernel_rfl
theorem a8A : ∀ x,bI Tryz.prog E41 Tryz.f41 (aC Tryz.f41) bDC c41 [.int .i64] [.list TyF] x = f41 x:=by
 rintro ⟨v0,⟨⟩⟩
 kernel_rfl
theorem bE0 : bY Tryz.prog 41 [.int .i64] [.list TyF] f41:=by
 exact aY aK a8U Tryz.func41 (c:=c41) (by kernel_rfl) (aU:=aC Tryz.f41) (lt:=bDC) (aD a3L trivial) a8A
abbrev e41 : Ent:=⟨41,[.int .i64],[.list TyF],f41⟩
theorem a8Z : Ent.OK Tryz.prog e41:=bE0

/-! schisma/schismalaw46.symmetries -/
abbrev VC : List (Nat×Kd):=[(3,.own 27 TyB),(4,.list TyF),(5,.int .i64),(6,.box 27 TyB),(7,.own 4 .bool),(8,.int .i64),(9,.int .i64),(10,.int .i64),(11,.int .i64)]
abbrev aDL : List (Ex×List (Nat×Kd)):=[(.exit 4,[(3,.own 27 TyB),(4,.list TyF),(5,.int .i64),(6,.box 27 TyB),(7,.own 4 .bool),(8,.int .i64)])]
def aK6 (x : Shape.den VC) : Option (Shape.den VC ⊕ aR aDL):=match x with
 | (v3,v4,v5,v6,v7,v8,v9,v10,v11,()) =>
  bif ltI v11 (v4.length : Int) then
   bif aQ v11 v4.length then bif (eqI ((v4.getD v11.toNat (0,0)).1) v9 && (eqI ((v4.getD v11.toNat (0,0)).2) v10 && true)) then
    bif aQ v11 v7.length then bif Nat.blt v11.toNat v7.length then some (.inl (v3,v4,v5,v6,(v7.set v11.toNat true),v8,v9,v10,(aE .i64 (v11 + 1)),())) else none else none
   else some (.inl (v3,v4,v5,v6,v7,v8,v9,v10,(aE .i64 (v11 + 1)),())) else none
  else some (.inr ((v3,v4,v5,v6,v7,v8,())))
def ZR (x : Shape.den VC) : Option (aR aDL):=bM aK6 (2 ^ 64) x
abbrev U1 : List (Nat×Kd):=[(3,.own 27 TyB),(4,.list TyF),(5,.int .i64),(6,.box 27 TyB),(7,.own 4 .bool),(8,.int .i64)]
abbrev aDP : List (Ex×List (Nat×Kd)):=[(.exit 2,[(3,.own 27 TyB),(4,.list TyF),(5,.int .i64),(6,.box 27 TyB),(7,.own 4 .bool)])]
def aJ2 (x : Shape.den U1) : Option (Shape.den U1 ⊕ aR aDP):=match x with
 | (v3,v4,v5,v6,v7,v8,()) =>
  bif ltI v8 (v4.length : Int) then
   bif aQ v8 v4.length then bif aQ v8 v4.length then bif aQ v8 v4.length then bif aQ v8 v4.length then aB (ZR (v3,v4,v5,v6,v7,v8,(aE .i64 ((aE .i64 (v6.1 * ((v4.getD v8.toNat (0,0)).1))) + (aE .i64 (v6.2.1 * ((v4.getD v8.toNat (0,0)).2))))),(aE .i64 ((aE .i64 (v6.2.2.1 * ((v4.getD v8.toNat (0,0)).1))) + (aE .i64 (v6.2.2.2 * ((v4.getD v8.toNat (0,0)).2))))),0,())) fun z3 =>
   some (.inl (z3.1,z3.2.1,z3.2.2.1,z3.2.2.2.1,z3.2.2.2.2.1,(aE .i64 (z3.2.2.2.2.2.1 + 1)),())) else none else none else none else none
  else some (.inr ((v3,v4,v5,v6,v7,())))
def aA3 (x : Shape.den U1) : Option (aR aDP):=bM aJ2 (2 ^ 64) x
abbrev T5 : List (Nat×Kd):=[(3,.own 27 TyB),(4,.list TyF),(5,.int .i64),(6,.box 27 TyB),(7,.own 4 .bool),(12,.bool),(13,.int .i64)]
abbrev aAT : List (Ex×List (Nat×Kd)):=[(.exit 6,[(3,.own 27 TyB),(4,.list TyF),(5,.int .i64),(6,.box 27 TyB),(12,.bool)])]
def aK8 (x : Shape.den T5) : Option (Shape.den T5 ⊕ aR aAT):=match x with
 | (v3,v4,v5,v6,v7,v12,v13,()) =>
  bif ltI v13 (v4.length : Int) then
   bif v12 then
    bif aQ v13 v7.length then bif Nat.blt v13.toNat v7.length then some (.inl (v3,v4,v5,v6,v7,(v7.getD v13.toNat false),(aE .i64 (v13 + 1)),())) else none else none
   else some (.inl (v3,v4,v5,v6,v7,false,(aE .i64 (v13 + 1)),()))
  else some (.inr ((v3,v4,v5,v6,v12,())))
def aBW (x : Shape.den T5) : Option (aR aAT):=bM aK8 (2 ^ 64) x
abbrev U7 : List (Nat×Kd):=[(3,.own 27 TyB),(4,.list TyF),(5,.int .i64)]
abbrev aAX : List (Ex×List (Nat×Kd)):=[(.exit 0,[(3,.own 27 TyB)])]
def aLU (x : Shape.den U7) : Option (Shape.den U7 ⊕ aR aAX):=match x with
 | (v3,v4,v5,()) =>
  bif ltI v5 81 then
   bif !(ltI (v4.length : Int) 0) then bif !(ltI (v4.length : Int) (v4.length : Int)) then bif !(ltI 1048576 (v4.length : Int)) then aB (aA3 (v3,v4,v5,((aE .i64 ((aE .i64 (v5.tdiv 27)) - 1)),((aE .i64 (((aE .i64 (v5.tdiv 9)).tmod 3) - 1)),((aE .i64 (((aE .i64 (v5.tdiv 3)).tmod 3) - 1)),(aE .i64 ((v5.tmod 3) - 1))))),(List.replicate ((v4.length : Int).toNat) false),0,())) fun z6 =>
   aB (aBW (z6.1,z6.2.1,z6.2.2.1,z6.2.2.2.1,z6.2.2.2.2.1,true,0,())) fun z7 =>
   bif z7.2.2.2.2.1 then
    bif Nat.ble [z7.2.2.2.1].length 1048576 then bif Nat.ble z7.1.length 1048576 then some (.inl ((z7.1 ++ [z7.2.2.2.1]),z7.2.1,(aE .i64 (z7.2.2.1 + 1)),())) else none else none
   else some (.inl (z7.1,z7.2.1,(aE .i64 (z7.2.2.1 + 1)),())) else none else none else none
  else some (.inr ((v3,())))
def aC8 (x : Shape.den U7) : Option (aR aAX):=bM aLU (2 ^ 64) x
def f16 (x : aI [.int .i64]) : Option (aI [.list TyB]):=match x with
 | (v0,()) =>
  aB (f41 (v0,())) fun y1 =>
  aB (aC8 ([],y1.1,0,())) fun z8 =>
  some (z8.1,())
noncomputable def c16 : Code:=aT Tryz.f16
abbrev E16 : Env:=bE [e41]
theorem ZV : aZ Tryz.prog E16:=aW ⟨a8Z,trivial⟩
noncomputable def aBQ : Code:=dT c16 0
noncomputable def aF4 : Code:=dT aBQ 0
noncomputable def aJL : Code:=dT aF4 0
noncomputable def aLS : Code:=dT aBQ 1
def aUI (id : Nat) : Option aS:=bif Nat.beq id 13 then some ⟨VC,aDL,ZR⟩ else bif Nat.beq id 9 then some ⟨U1,aDP,aA3⟩ else bif Nat.beq id 19 then some ⟨T5,aAT,aBW⟩ else bif Nat.beq id 4 then some ⟨U7,aAX,aC8⟩ else none
theorem aRH : ∀ x,dJ Tryz.prog E16 114 (aC Tryz.f16) aUI aJL VC aDL x = aK6 x:=by
 rintro ⟨v3,v4,v5,v6,v7,v8,v9,v10,v11,⟨⟩⟩
 kernel_rfl
theorem a8H : aF aJL = []:=by kernel_rfl
theorem aTO : aG aJL = 13:=by kernel_rfl
theorem aXP : cE Tryz.prog 114 aJL ⟨VC,aDL,ZR⟩:=by
 exact cF ZV.callee aK.mixed _ (aD a8H trivial) aRH
theorem aRY : ∀ x,dJ Tryz.prog E16 114 (aC Tryz.f16) aUI aF4 U1 aDP x = aJ2 x:=by
 rintro ⟨v3,v4,v5,v6,v7,v8,⟨⟩⟩
 kernel_rfl
theorem a5Z : aF aF4 = [aJL]:=by kernel_rfl
theorem aSK : aG aF4 = 9:=by kernel_rfl
theorem aWN : cE Tryz.prog 114 aF4 ⟨U1,aDP,aA3⟩:=by
 exact cF ZV.callee aK.mixed _ (aD a5Z ⟨cG aTO rfl aXP,trivial⟩) aRY
theorem aT1 : ∀ x,dJ Tryz.prog E16 114 (aC Tryz.f16) aUI aLS T5 aAT x = aK8 x:=by
 rintro ⟨v3,v4,v5,v6,v7,v12,v13,⟨⟩⟩
 kernel_rfl
theorem bAC : aF aLS = []:=by kernel_rfl
theorem aSA : aG aLS = 19:=by kernel_rfl
theorem aV9 : cE Tryz.prog 114 aLS ⟨T5,aAT,aBW⟩:=by
 exact cF ZV.callee aK.mixed _ (aD bAC trivial) aT1
theorem aS0 : ∀ x,dJ Tryz.prog E16 114 (aC Tryz.f16) aUI aBQ U7 aAX x = aLU x:=by
 rintro ⟨v3,v4,v5,⟨⟩⟩
 kernel_rfl
theorem a96 : aF aBQ = [aF4,aLS]:=by kernel_rfl
theorem aUQ : aG aBQ = 4:=by kernel_rfl
theorem aZJ : cE Tryz.prog 114 aBQ ⟨U7,aAX,aC8⟩:=by
 exact cF ZV.callee aK.mixed _ (aD a96 ⟨cG aSK rfl aWN,cG aSA rfl aV9,trivial⟩) aS0
theorem a4R : aF c16 = [aBQ]:=by kernel_rfl
theorem bA3 : ∀ x,bI Tryz.prog E16 Tryz.f16 (aC Tryz.f16) aUI c16 [.int .i64] [.list TyB] x = f16 x:=by
 rintro ⟨v0,⟨⟩⟩
 kernel_rfl
theorem bFK : bY Tryz.prog 16 [.int .i64] [.list TyB] f16:=by
 exact aY aK ZV Tryz.func16 (c:=c16) (by kernel_rfl) (aU:=aC Tryz.f16) (lt:=aUI) (aD a4R ⟨cG aUQ rfl aZJ,trivial⟩) bA3
abbrev e16 : Ent:=⟨16,[.int .i64],[.list TyB],f16⟩
theorem a5V : Ent.OK Tryz.prog e16:=bFK

/-! schisma/schismaref06.Fits -/
def f21 (x : aI [.int .i64]) : Option (aI [.bool]):=match x with
 | (v0,()) =>
  bif !(ltI 1000000000 v0) then
   some (!(ltI v0 (-1000000000)),())
  else some (false,())
noncomputable def c21 : Code:=aT Tryz.f21
abbrev E21 : Env:=bE []
theorem bBT : aZ Tryz.prog E21:=aW trivial
def bDZ (id : Nat) : Option aS:=none
theorem a0O : aF c21 = []:=by kernel_rfl
theorem bB3 : ∀ x,bI Tryz.prog E21 Tryz.f21 (aC Tryz.f21) bDZ c21 [.int .i64] [.bool] x = f21 x:=by
 rintro ⟨v0,⟨⟩⟩
 kernel_rfl
theorem bEY : bY Tryz.prog 21 [.int .i64] [.bool] f21:=by
 exact aY aK bBT Tryz.func21 (c:=c21) (by kernel_rfl) (aU:=aC Tryz.f21) (lt:=bDZ) (aD a0O trivial) bB3
abbrev e21 : Ent:=⟨21,[.int .i64],[.bool],f21⟩
theorem a6S : Ent.OK Tryz.prog e21:=bEY

/-! schisma/schismalaw46.mix -/
abbrev TM : List (Nat×Kd):=[(0,.int .i64),(1,.list TyE),(2,.int .i64),(3,.list TyE),(10,.own 3 TyE),(11,.bool),(12,.int .i64)]
abbrev Z7 : List (Ex×List (Nat×Kd)):=[(.exit 0,[(10,.own 3 TyE),(11,.bool)])]
def LA (x : Shape.den TM) : Option (Shape.den TM ⊕ aR Z7):=match x with
 | (v0,v1,v2,v3,v10,v11,v12,()) =>
  bif ltI v12 (v1.length : Int) then
   bif aQ v12 v1.length then bif aQ v12 v3.length then bif v11 then
    aB (f21 ((aE .i64 ((aE .i64 (v0 * (v1.getD v12.toNat 0))) + (aE .i64 (v2 * (v3.getD v12.toNat 0))))),())) fun y2 =>
    bif Nat.ble [(aE .i64 ((aE .i64 (v0 * (v1.getD v12.toNat 0))) + (aE .i64 (v2 * (v3.getD v12.toNat 0)))))].length 1048576 then bif Nat.ble v10.length 1048576 then some (.inl (v0,v1,v2,v3,(v10 ++ [(aE .i64 ((aE .i64 (v0 * (v1.getD v12.toNat 0))) + (aE .i64 (v2 * (v3.getD v12.toNat 0)))))]),y2.1,(aE .i64 (v12 + 1)),())) else none else none
   else bif Nat.ble [(aE .i64 ((aE .i64 (v0 * (v1.getD v12.toNat 0))) + (aE .i64 (v2 * (v3.getD v12.toNat 0)))))].length 1048576 then bif Nat.ble v10.length 1048576 then some (.inl (v0,v1,v2,v3,(v10 ++ [(aE .i64 ((aE .i64 (v0 * (v1.getD v12.toNat 0))) + (aE .i64 (v2 * (v3.getD v12.toNat 0)))))]),false,(aE .i64 (v12 + 1)),())) else none else none else none else none
  else some (.inr ((v10,v11,())))
def S3 (x : Shape.den TM) : Option (aR Z7):=bM LA (2 ^ 64) x
def f42 (x : aI [.int .i64,.list TyE,.int .i64,.list TyE]) : Option (aI [.list TyE,.bool]):=match x with
 | (v0,v1,v2,v3,()) =>
  aB (S3 (v0,v1,v2,v3,[],true,0,())) fun z3 =>
  some (z3.1,z3.2.1,())
noncomputable def c42 : Code:=aT Tryz.f42
abbrev E42 : Env:=bE [e21]
theorem aYT : aZ Tryz.prog E42:=aW ⟨a6S,trivial⟩
noncomputable def aKW : Code:=dT c42 0
def bBD (id : Nat) : Option aS:=bif Nat.beq id 4 then some ⟨TM,Z7,S3⟩ else none
theorem aUJ : ∀ x,dJ Tryz.prog E42 45 (aC Tryz.f42) bBD aKW TM Z7 x = LA x:=by
 rintro ⟨v0,v1,v2,v3,v10,v11,v12,⟨⟩⟩
 kernel_rfl
theorem a6Q : aF aKW = []:=by kernel_rfl
theorem aUE : aG aKW = 4:=by kernel_rfl
theorem aYI : cE Tryz.prog 45 aKW ⟨TM,Z7,S3⟩:=by
 exact cF aYT.callee aK.mixed _ (aD a6Q trivial) aUJ
theorem a5G : aF c42 = [aKW]:=by kernel_rfl
theorem a71 : ∀ x,bI Tryz.prog E42 Tryz.f42 (aC Tryz.f42) bBD c42 [.int .i64,.list TyE,.int .i64,.list TyE] [.list TyE,.bool] x = f42 x:=by
 rintro ⟨v0,v1,v2,v3,⟨⟩⟩
 kernel_rfl
theorem bFV : bY Tryz.prog 42 [.int .i64,.list TyE,.int .i64,.list TyE] [.list TyE,.bool] f42:=by
 exact aY aK aYT Tryz.func42 (c:=c42) (by kernel_rfl) (aU:=aC Tryz.f42) (lt:=bBD) (aD a5G ⟨cG aUE rfl aYI,trivial⟩) a71
abbrev e42 : Ent:=⟨42,[.int .i64,.list TyE,.int .i64,.list TyE],[.list TyE,.bool],f42⟩
theorem bAR : Ent.OK Tryz.prog e42:=bFV

/-! schisma/schismalaw46.QV -/
def f18 (x : aI [.agg TyA,.agg TyB]) : Option (aI [.agg TyA,.bool]):=match x with
 | (v0,v1,()) =>
  aB (f42 (v1.1,v0.2.2.1,v1.2.2.1,v0.2.2.2,())) fun y1 =>
  aB (f42 (v1.2.1,v0.2.2.1,v1.2.2.2,v0.2.2.2,())) fun y2 =>
  bif y1.2.1 then
   some ((v0.1,(v0.2.1,(y1.1,y2.1))),y2.2.1,())
  else some ((v0.1,(v0.2.1,(y1.1,y2.1))),false,())
noncomputable def c18 : Code:=aT Tryz.f18
abbrev E18 : Env:=bE [e42]
theorem bAI : aZ Tryz.prog E18:=aW ⟨bAR,trivial⟩
def bCI (id : Nat) : Option aS:=none
theorem a1E : aF c18 = []:=by kernel_rfl
theorem a6G : ∀ x,bI Tryz.prog E18 Tryz.f18 (aC Tryz.f18) bCI c18 [.agg TyA,.agg TyB] [.agg TyA,.bool] x = f18 x:=by
 rintro ⟨v0,v1,⟨⟩⟩
 kernel_rfl
theorem bE5 : bY Tryz.prog 18 [.agg TyA,.agg TyB] [.agg TyA,.bool] f18:=by
 exact aY aK bAI Tryz.func18 (c:=c18) (by kernel_rfl) (aU:=aC Tryz.f18) (lt:=bCI) (aD a1E trivial) a6G
abbrev e18 : Ent:=⟨18,[.agg TyA,.agg TyB],[.agg TyA,.bool],f18⟩
theorem a74 : Ent.OK Tryz.prog e18:=bE5

/-! schisma/schismalaw46.same -/
def f19 (x : aI [.agg TyA,.agg TyA]) : Option (aI [.bool]):=match x with
 | (v0,v1,()) =>
  bif eqI v0.1 v1.1 then
   aB (f43 (v0.2.1,v1.2.1,())) fun y1 =>
   bif y1.1 then
    aB (f43 (v0.2.2.1,v1.2.2.1,())) fun y2 =>
    bif y2.1 then
     aB (f43 (v0.2.2.2,v1.2.2.2,())) fun y3 =>
     some (y3.1,())
    else some (false,())
   else some (false,())
  else some (false,())
noncomputable def c19 : Code:=aT Tryz.f19
abbrev E19 : Env:=bE [e43]
theorem a9A : aZ Tryz.prog E19:=aW ⟨bBQ,trivial⟩
def bDB (id : Nat) : Option aS:=none
theorem a4Q : aF c19 = []:=by kernel_rfl
theorem bAJ : ∀ x,bI Tryz.prog E19 Tryz.f19 (aC Tryz.f19) bDB c19 [.agg TyA,.agg TyA] [.bool] x = f19 x:=by
 rintro ⟨v0,v1,⟨⟩⟩
 kernel_rfl
theorem bFN : bY Tryz.prog 19 [.agg TyA,.agg TyA] [.bool] f19:=by
 exact aY aK a9A Tryz.func19 (c:=c19) (by kernel_rfl) (aU:=aC Tryz.f19) (lt:=bDB) (aD a4Q trivial) bAJ
abbrev e19 : Ent:=⟨19,[.agg TyA,.agg TyA],[.bool],f19⟩
theorem aNW : Ent.OK Tryz.prog e19:=bFN

/-! schisma/schismalaw46.none -/
def f17 (x : aI [.agg TyA]) : Option (aI [.bool]):=match x with
 | (v0,()) =>
  aB (f19 (v0,(0,([],([],[]))),())) fun y1 =>
  some (y1.1,())
/-! schisma/schismalaw46.check -/
abbrev VY : List (Nat×Kd):=[(1,.box 25 TyA),(20,.list TyD),(21,.int .i64),(22,.int .i64)]
abbrev aC6 : List (Ex×List (Nat×Kd)):=[(.ret,[(2,.int .i64)]),(.exit 0,[])]
def uW (x : Shape.den VY) : Option (Shape.den VY ⊕ aR aC6):=match x with
 | (v1,v20,v21,v22,()) =>
  bif ltI v22 v21 then
   bif aQ v22 v20.length then aB (f37 ((v20.getD v22.toNat []),())) fun y2 =>
   bif !(eqI y2.1 0) then
    some (.inr (.inl (y2.1,())))
   else bif !(eqI ((v20.getD v22.toNat []).length : Int) (v1.2.1.length : Int)) then
    some (.inr (.inl (5,())))
   else some (.inl (v1,v20,v21,(aE .i64 (v22 + 1)),())) else none
  else some (.inr (.inr ((()))))
def CF (x : Shape.den VY) : Option (aR aC6):=bM uW (2 ^ 64) x
def f14 (x : aI [.agg TyA]) : Option (aI [.int .i64]):=match x with
 | (v0,()) =>
  bif !(eqI v0.1 1) then
   bif !(eqI v0.1 2) then
    some (12,())
   else aB (CF (v0,[v0.2.1,v0.2.2.1,v0.2.2.2],([v0.2.1,v0.2.2.1,v0.2.2.2].length : Int),0,())) fun z3 =>
   gY z3 (fun a4=>some (a4.1,())) fun b5 =>
   some (0,())
  else aB (CF (v0,[v0.2.1,v0.2.2.1,v0.2.2.2],([v0.2.1,v0.2.2.1,v0.2.2.2].length : Int),0,())) fun z6 =>
  gY z6 (fun a7=>some (a7.1,())) fun b8 =>
  some (0,())
noncomputable def c14 : Code:=aT Tryz.f14
abbrev E14 : Env:=bE [e37]
theorem aVG : aZ Tryz.prog E14:=aW ⟨aN3,trivial⟩
noncomputable def aLD : Code:=dT c14 0
def bBN (id : Nat) : Option aS:=bif Nat.beq id 4 then some ⟨VY,aC6,CF⟩ else none
theorem aUW : ∀ x,dJ Tryz.prog E14 38 (aC Tryz.f14) bBN aLD VY aC6 x = uW x:=by
 rintro ⟨v1,v20,v21,v22,⟨⟩⟩
 kernel_rfl
theorem bBA : aF aLD = []:=by kernel_rfl
theorem aT6 : aG aLD = 4:=by kernel_rfl
theorem aZC : cE Tryz.prog 38 aLD ⟨VY,aC6,CF⟩:=by
 exact cF aVG.callee aK.mixed _ (aD bBA trivial) aUW
theorem a0E : aF c14 = [aLD]:=by kernel_rfl
theorem bA1 : ∀ x,bI Tryz.prog E14 Tryz.f14 (aC Tryz.f14) bBN c14 [.agg TyA] [.int .i64] x = f14 x:=by
 rintro ⟨v0,⟨⟩⟩
 kernel_rfl
theorem bE1 : bY Tryz.prog 14 [.agg TyA] [.int .i64] f14:=by
 exact aY aK aVG Tryz.func14 (c:=c14) (by kernel_rfl) (aU:=aC Tryz.f14) (lt:=bBN) (aD a0E ⟨cG aT6 rfl aZC,trivial⟩) bA1
abbrev e14 : Ent:=⟨14,[.agg TyA],[.int .i64],f14⟩
theorem a7J : Ent.OK Tryz.prog e14:=bE1

/-! schisma/schismalaw46.few -/
abbrev aO7 : List (Nat×Kd):=[(11,.list TyD),(12,.int .i64),(13,.int .i64)]
abbrev aV0 : List (Ex×List (Nat×Kd)):=[(.ret,[(2,.bool)]),(.exit 0,[])]
def aYS (x : Shape.den aO7) : Option (Shape.den aO7 ⊕ aR aV0):=match x with
 | (v11,v12,v13,()) =>
  bif ltI v13 v12 then
   bif aQ v13 v11.length then bif ltI 5 ((v11.getD v13.toNat []).length : Int) then
    bif ltI ((v11.getD v13.toNat []).length : Int) 63 then
     some (.inr (.inl (false,())))
    else bif ltI 66 ((v11.getD v13.toNat []).length : Int) then
     some (.inr (.inl (false,())))
    else some (.inl (v11,v12,(aE .i64 (v13 + 1)),()))
   else some (.inl (v11,v12,(aE .i64 (v13 + 1)),())) else none
  else some (.inr (.inr ((()))))
def aWW (x : Shape.den aO7) : Option (aR aV0):=bM aYS (2 ^ 64) x
def f13 (x : aI [.agg TyA]) : Option (aI [.bool]):=match x with
 | (v0,()) =>
  aB (aWW ([v0.2.1,v0.2.2.1,v0.2.2.2],([v0.2.1,v0.2.2.1,v0.2.2.2].length : Int),0,())) fun z1 =>
  gY z1 (fun a2=>some (a2.1,())) fun b3 =>
  some (true,())
/-! schisma/schismalaw46.quick -/
abbrev T3 : List (Nat×Kd):=[(1,.box 25 TyA),(3,.int .i64)]
abbrev aBA : List (Ex×List (Nat×Kd)):=[(.ret,[(2,.bool)]),(.exit 0,[])]
def aM7 (x : Shape.den T3) : Option (Shape.den T3 ⊕ aR aBA):=match x with
 | (v1,v3,()) =>
  bif ltI v3 (v1.2.2.1.length : Int) then
   bif aQ v3 v1.2.2.1.length then bif !(eqI (v1.2.2.1.getD v3.toNat 0) 0) then
    bif aQ v3 v1.2.2.1.length then some (.inr (.inl (ltI 0 (v1.2.2.1.getD v3.toNat 0),()))) else none
   else some (.inl (v1,(aE .i64 (v3 + 1)),())) else none
  else some (.inr (.inr ((()))))
def aB0 (x : Shape.den T3) : Option (aR aBA):=bM aM7 (2 ^ 64) x
def f58 (x : aI [.agg TyA]) : Option (aI [.bool]):=match x with
 | (v0,()) =>
  aB (aB0 (v0,0,())) fun z1 =>
  gY z1 (fun a2=>some (a2.1,())) fun b3 =>
  some (false,())
noncomputable def c58 : Code:=aT Tryz.f58
abbrev E58 : Env:=bE []
theorem aU5 : aZ Tryz.prog E58:=aW trivial
noncomputable def aJV : Code:=dT c58 0
def a8J (id : Nat) : Option aS:=bif Nat.beq id 2 then some ⟨T3,aBA,aB0⟩ else none
theorem aTH : ∀ x,dJ Tryz.prog E58 23 (aC Tryz.f58) a8J aJV T3 aBA x = aM7 x:=by
 rintro ⟨v1,v3,⟨⟩⟩
 kernel_rfl
theorem bBC : aF aJV = []:=by kernel_rfl
theorem aRK : aG aJV = 2:=by kernel_rfl
theorem aVI : cE Tryz.prog 23 aJV ⟨T3,aBA,aB0⟩:=by
 exact cF aU5.callee aK.mixed _ (aD bBC trivial) aTH
theorem a0X : aF c58 = [aJV]:=by kernel_rfl
theorem bAP : ∀ x,bI Tryz.prog E58 Tryz.f58 (aC Tryz.f58) a8J c58 [.agg TyA] [.bool] x = f58 x:=by
 rintro ⟨v0,⟨⟩⟩
 kernel_rfl
theorem bEG : bY Tryz.prog 58 [.agg TyA] [.bool] f58:=by
 exact aY aK aU5 Tryz.func58 (c:=c58) (by kernel_rfl) (aU:=aC Tryz.f58) (lt:=a8J) (aD a0X ⟨cG aRK rfl aVI,trivial⟩) bAP
abbrev e58 : Ent:=⟨58,[.agg TyA],[.bool],f58⟩
theorem a5W : Ent.OK Tryz.prog e58:=bEG

end Go.PM
set_option linter.unusedSimpArgs false
set_option linter.unusedVariables false
namespace Go.PM
open Go Go.RowKit
def forced (ops : Array Oper) (s : Nat) : Bool:=(List.range ops.size).all fun j=>Nat.blt j s || Nat.beq (Nat.land ((iD ops).getD j 0) (2 ^ j - 1)) (2 ^ j - 1)
def aAJ (l : List Oper) : Bool:=(List.range l.length).all fun i=>match l[i]? with
 | some o=>match o.guard with
  | some (g,_)=>Nat.blt g i
  | none=>true
 | none=>true
def YY (ops : Array Oper) (s : Nat) : Bool:=EC (iD ops) 0 ops.toList && forced ops s && aAJ ops.toList && I4 ops && Nat.ble s ops.size

section
variable {P : Program} {ops : Array Oper} {s : Nat}
theorem aC0 (h : forced ops s = true) {j b : Nat} (hj : j < ops.size) (hs : s ≤ j) (hb : b < j) : ((iD ops).getD j 0).testBit b = true:=by
 have:=List.all_eq_true.1 h j (List.mem_range.2 hj)
 rw [Bool.or_eq_true] at this
 rcases this with h1 | h1
 ·have:=dP h1; omega
 ·have h2:=Nat.eq_of_beq_eq_true h1
  have h3 : (Nat.land ((iD ops).getD j 0) (2 ^ j - 1)).testBit b = (2 ^ j - 1).testBit b:=by rw [h2]
  have h4 : (2 ^ j - 1).testBit b = true:=by rw [Nat.testBit_two_pow_sub_one]; simpa using hb
  rw [h4] at h3
  have h5 : ((iD ops).getD j 0 &&& (2 ^ j - 1)).testBit b = true:=h3
  rw [Nat.testBit_and,Bool.and_eq_true] at h5
  exact h5.1
theorem MP (hm : EC (iD ops) 0 ops.toList = true) {i : Nat} {o : Oper} (ho : ops[i]? = some o) : (iD ops).getD i 0 = FY (iD ops) o.after.toList∧∀ e ∈ o.after,Region.binds .any e = true→e.on < i:=by
 have:=V0 hm (i:=i) (o:=o) (by simpa using ho)
 rwa [Nat.zero_add] at this
theorem W2 (hm : EC (iD ops) 0 ops.toList = true) {listed : Array Bool} (hc : MH (iD ops) (fun i=>listed.getD i false)) {i : Nat} (hi : i ∈ Region.ready .any ops listed) :
  i < ops.size∧listed.getD i true = false∧∀ b,((iD ops).getD i 0).testBit b = true→listed.getD b false = true:=by
 obtain ⟨h1,o,ho,h2⟩:=mem_ready.1 hi
 refine ⟨(Array.getElem?_eq_some_iff.1 ho).1,by simpa using h1,fun b hb=>?_⟩
 rw [(MP hm ho).1] at hb
 unfold FY at hb
 rcases AS _ _ hb with h3 | ⟨e,h3,h4,h5⟩
 ·simp at h3
 ·have h6:=h2 e (Array.mem_toList_iff.1 h3) h4
  rcases h5 with rfl | h5
  ·exact h6
  ·exact hc e.on h6 b h5
theorem a2E (hm : EC (iD ops) 0 ops.toList = true) : ∀ (i b : Nat),i < ops.size→((iD ops).getD i 0).testBit b = true→b < i:=by
 intro i
 induction i using Nat.strongRecOn with
 | _ i ih =>
  intro b hi hb
  obtain ⟨o,ho⟩ : ∃ o,ops[i]? = some o:=⟨ops[i],Array.getElem?_eq_getElem hi⟩
  have hma:=MP hm ho
  rw [hma.1] at hb
  unfold FY at hb
  rcases AS _ _ hb with h3 | ⟨e,h3,h4,h5⟩
  ·simp at h3
  ·have h6:=hma.2 e (Array.mem_toList_iff.1 h3) h4
   rcases h5 with rfl | h5
   ·exact h6
   ·have:=ih e.on h6 b (by omega) h5; omega

variable {ro : Option Nat} {n : Nat} {Q : Exit→Act→World→Prop}
theorem aL0 (hm : EC (iD ops) 0 ops.toList = true) (hf : forced ops s = true) : ∀ (k j : Nat) (L : Array Bool) (a : Act) (w : World),j + k = ops.size→s ≤ j→L.size = ops.size→(∀ i,i < ops.size→L.getD i false = decide (i < j)) →
  wpListIn (Fr ro) n P ops Q (ops.toList.drop j) a w→wpAnyIn (Fr ro) n P .any ops Q k L a w
 | 0,j,L,a,w,hk,hs,hsz,hL,h=>by
  have hd : ops.toList.drop j = []:=List.drop_of_length_le (by simp; omega)
  rw [hd] at h
  refine ⟨?_,h⟩
  by_cases hr : Region.ready .any ops L = []
  ·exact hr
  ·obtain ⟨i,hi⟩:=List.exists_mem_of_ne_nil _ hr
   obtain ⟨h1,o,ho,_⟩:=mem_ready.1 hi
   have hlt:=(Array.getElem?_eq_some_iff.1 ho).1
   have h2:=hL i hlt
   rw [decide_eq_true (by omega)] at h2
   have h1 : L.getD i true = false:=by simpa using h1
   simp only [Array.getD,hsz,hlt,dif_pos] at h1 h2
   rw [h1] at h2; cases h2
 | k + 1,j,L,a,w,hk,hs,hsz,hL,h=>by
  have hj : j < ops.size:=by omega
  have hcl : MH (iD ops) (fun i=>L.getD i false):=by
   intro i hi b hb
   replace hi : L.getD i false = true:=hi
   have hilt : i < ops.size:=by
    rcases Nat.lt_or_ge i ops.size with h | h
    ·exact h
    ·simp only [Array.getD,hsz,Nat.not_lt.2 h,dif_neg,not_false_iff] at hi; cases hi
   have h1:=hL i hilt
   rw [hi] at h1
   have h2:=of_decide_eq_true h1.symm
   have h3:=a2E hm i b hilt hb
   show L.getD b false = true
   rw [hL b (by omega)]
   exact decide_eq_true (by omega)
  have hready : ∀ i ∈ Region.ready .any ops L,i = j:=by
   intro i hi
   obtain ⟨h1,h2,h3⟩:=W2 hm hcl hi
   have h4 : ¬ i < j:=fun hij=>by
    have h5:=hL i h1
    rw [decide_eq_true hij] at h5
    simp only [Array.getD,hsz,h1,dif_pos] at h2 h5
    rw [h2] at h5; cases h5
   rcases Nat.lt_or_ge j i with hji | hji
   ·exfalso
    have h5:=h3 j (aC0 hf h1 (by omega) hji)
    rw [hL j hj] at h5
    have:=of_decide_eq_true h5
    omega
   ·omega
  obtain ⟨o,ho⟩ : ∃ o,ops[j]? = some o:=⟨ops[j],Array.getElem?_eq_getElem hj⟩
  have hd : ops.toList.drop j = o :: ops.toList.drop (j + 1):=by
   rw [List.drop_eq_getElem_cons (by simpa using hj)]
   congr 1
   have:=(Array.getElem?_eq_some_iff.1 ho).2
   simpa using this
  rw [hd] at h
  unfold wpListIn at h
  have ih : ∀ a w,wpListIn (Fr ro) n P ops Q (ops.toList.drop (j + 1)) a w→wpAnyIn (Fr ro) n P .any ops Q k (L.setIfInBounds j true) a w:=fun a w h=>by
   refine aL0 hm hf k (j + 1) _ a w (by omega) (by omega) (by simpa using hsz) (fun i hi=>?_) h
   by_cases hij : j = i
   ·subst hij
    rw [decide_eq_true (by omega)]
    have hlt : j < L.size:=by omega
    simp [Array.getD,hlt]
   ·rw [getD_set_ne false hij,hL i hi]
    by_cases h2 : i < j
    ·rw [decide_eq_true h2,decide_eq_true (by omega)]
    ·rw [decide_eq_false h2,decide_eq_false (by omega)]
  refine ⟨fun hr=>?_,fun i hi=>?_⟩
  ·exfalso
   have : j ∈ Region.ready .any ops L:=mem_ready.2 ⟨by
    have:=hL j hj
    rw [decide_eq_false (by omega)] at this
    have hlt : j < L.size:=by omega
    simpa [Array.getD,hlt] using this,o,ho,fun e he hb=>by
     have:=(MP hm ho).2 e he hb
     rw [hL e.on (by omega)]
     exact decide_eq_true this⟩
   rw [hr] at this
   cases this
  ·have:=hready i hi
   subst this
   unfold wpOpIn
   rw [ho]
   simp only
   by_cases hw : Region.wanted o (yielded ops a.tmps) = true
   ·rw [if_pos hw] at h ⊢
    exact Oper.wpIn_mono ih h
   ·rw [if_neg hw] at h ⊢
    exact ⟨h.1,ih _ _ h.2⟩

theorem aPW {o : Oper} {y y' : Nat→Option Bool} (h : ∀ g b,o.guard = some (g,b)→y g = y' g) : Region.wanted o y = Region.wanted o y':=by
 unfold Region.wanted
 cases hg : o.guard with
 | none=>rfl
 | some p =>
  obtain ⟨g,b⟩:=p
  simp only [h g b hg]
theorem aGY {l : List Oper} (h : aAJ l = true) {i : Nat} {o : Oper} (ho : l[i]? = some o) {g : Nat} {b : Bool} (hg : o.guard = some (g,b)) : g < i:=by
 have:=List.all_eq_true.1 h i (List.mem_range.2 (List.getElem?_eq_some_iff.1 ho).1)
 rw [ho] at this
 simp only [hg] at this
 exact dP this

theorem aWB {ds : List Deferred} {Q1 : Exit→Act→World→Prop} (hm : EC (iD ops) 0 ops.toList = true) (hf : forced ops s = true) (hg : aAJ ops.toList = true) (hnd : I4 ops = true) (hs : s ≤ ops.size)
  (hno : ∀ e a w,Q1 e a w→e = .normal) (hQ : ∀ a w,Q1 .normal a w→wpListIn (Fr ro) n P ops Q (ops.toList.drop s) (nM ds a) w) :
  ∀ (k : Nat) (L1 L : Array Bool) (a : Act) (w : World),L1.size = s→L.size = ops.size→(∀ i,i < s→L1.getD i false = L.getD i false)→(∀ i,s ≤ i→L.getD i false = false)→MH (iD ops) (fun i=>L.getD i false)→(List.range s).countP (fun i=>!L.getD i false) = k →
   wpAny P .any (ops.toList.take s).toArray Q1 k L1 a w→wpAnyIn (Fr ro) n P .any ops Q (k + (ops.size - s)) L (nM ds a) w
 | 0,L1,L,a,w,h1,h2,h3,h4,hc,hk,h=>by
  rw [Nat.zero_add]
  refine aL0 hm hf (ops.size - s) s L _ w (by omega) (Nat.le_refl _) h2 (fun i hi=>?_) (hQ a w h.2)
  by_cases his : i < s
  ·rw [decide_eq_true his]
   rw [List.countP_eq_zero] at hk
   have:=hk i (List.mem_range.2 his)
   simpa using this
  ·rw [decide_eq_false his,h4 i (by omega)]
 | k + 1,L1,L,a,w,h1,h2,h3,h4,hc,hk,h=>by
  have hun : ∃ i,i < s∧L.getD i false = false:=by
   have : 0 < (List.range s).countP (fun i=>!L.getD i false):=by omega
   obtain ⟨i,hi,hp⟩:=List.countP_pos_iff.1 this
   exact ⟨i,List.mem_range.1 hi,by simpa using hp⟩
  obtain ⟨i0,hi0,hu0⟩:=hun
  rw [show k + 1 + (ops.size - s) = (k + (ops.size - s)) + 1 by omega]
  refine ⟨fun hr=>?_,fun i hi=>?_⟩
  ·exfalso
   have all : ∀ i,i < ops.size→L.getD i false = true:=by
    intro i
    induction i using Nat.strongRecOn with
    | _ i ih =>
     intro hi
     cases hli : L.getD i false with
     | true=>rfl
     | false =>
      obtain ⟨o,ho⟩ : ∃ o,ops[i]? = some o:=⟨ops[i],Array.getElem?_eq_getElem hi⟩
      have : i ∈ Region.ready .any ops L:=mem_ready.2 ⟨by
       have hlt : i < L.size:=by omega
       simpa [Array.getD,hlt] using hli,o,ho,fun e he hb=>ih e.on ((MP hm ho).2 e he hb) (by have:=(MP hm ho).2 e he hb; omega)⟩
      rw [hr] at this
      cases this
   rw [all i0 (by omega)] at hu0
   cases hu0
  ·obtain ⟨hi1,hi2,hi3⟩:=W2 hm hc hi
   have his : i < s:=by
    rcases Nat.lt_or_ge i s with h | h
    ·exact h
    ·have:=hi3 i0 (aC0 hf hi1 h (by omega))
     rw [hu0] at this; cases this
   obtain ⟨_,o,ho,hdeps⟩:=mem_ready.1 hi
   have hLi : L.getD i false = false:=by
    have hlt : i < L.size:=by omega
    simp only [Array.getD,hlt,dif_pos] at hi2 ⊢
    exact hi2
   have hpre : ∀ j,j < s→(ops.toList.take s).toArray[j]? = ops[j]?:=by
    intro j hj
    simp only [List.getElem?_toArray,List.getElem?_take,hj,if_true,Array.getElem?_toList]
   have hready : i ∈ Region.ready .any (ops.toList.take s).toArray L1:=mem_ready.2 ⟨by
    have:=h3 i his
    rw [hLi] at this
    have hlt : i < L1.size:=by omega
    simpa [Array.getD,hlt] using this,o,by rw [hpre i his]; exact ho,fun e he hb=>by
     have h5:=(MP hm ho).2 e he hb
     rw [h3 e.on (by omega)]
     exact hdeps e he hb⟩
   have hop:=h.2 i hready
   have hw : Region.wanted o (yielded (ops.toList.take s).toArray a.tmps) = Region.wanted o (yielded ops (nM ds a).tmps):=aPW fun g b hgu=>by
    have hgi:=aGY hg (i:=i) (o:=o) (by simpa using ho) hgu
    unfold yielded
    rw [hpre g (by omega)]
    rfl
   have hset : ∀ a w,wpAny P .any (ops.toList.take s).toArray Q1 k (L1.setIfInBounds i true) a w→wpAnyIn (Fr ro) n P .any ops Q (k + (ops.size - s)) (L.setIfInBounds i true) (nM ds a) w:=by
    intro a w h
    have hLs : ∀ j,j ≠ i→(L.setIfInBounds i true).getD j false = L.getD j false:=fun j hj=>getD_set_ne false (fun e=>hj e.symm)
    have hL1s : ∀ j,j ≠ i→(L1.setIfInBounds i true).getD j false = L1.getD j false:=fun j hj=>getD_set_ne false (fun e=>hj e.symm)
    have hSi : (L.setIfInBounds i true).getD i false = true:=by
     have hlt : i < L.size:=by omega
     simp [Array.getD,hlt]
    have hS1i : (L1.setIfInBounds i true).getD i false = true:=by
     have hlt : i < L1.size:=by omega
     simp [Array.getD,hlt]
    refine aWB hm hf hg hnd hs hno hQ k _ _ a w (by simpa using h1) (by simpa using h2) ?_ ?_ ?_ ?_ h
    ·intro j hj
     by_cases hji : j = i
     ·subst hji; rw [hSi,hS1i]
     ·rw [hLs j hji,hL1s j hji,h3 j hj]
    ·intro j hj
     rw [hLs j (by omega)]; exact h4 j hj
    ·intro j hj b hb
     show (L.setIfInBounds i true).getD b false = true
     by_cases hbi : b = i
     ·subst hbi; exact hSi
     ·rw [hLs b hbi]
      by_cases hji : j = i
      ·subst hji; exact hi3 b hb
      ·have hj' : L.getD j false = true:=by rw [← hLs j hji]; exact hj
       exact hc j hj' b hb
    ·have:=TY (p:=fun i=>!L.getD i false) (p':=fun j=>!(L.setIfInBounds i true).getD j false) (i:=i) (by simp only [hLi,Bool.not_false]) (by simp only [hSi,Bool.not_true]) (fun j hj=>by simp only [hLs j hj]) s his
     omega
   unfold wpOp at hop
   rw [hpre i his,ho] at hop
   simp only at hop
   unfold wpOpIn
   rw [ho]
   simp only
   rw [hw] at hop
   by_cases hww : Region.wanted o (yielded ops (nM ds a).tmps) = true
   ·rw [if_pos hww] at hop ⊢
    rcases hop with hop | ⟨_,a0,w0,h0⟩
    ·exact aHR (DQ hnd (by rw [← Array.getElem?_toList] at ho; exact List.mem_of_getElem? ho)) hset (fun ch a w h=>by cases hno _ a w h) (fun a w h=>by cases hno _ a w h) hop
    ·cases hno _ a0 w0 h0
   ·rw [if_neg hww] at hop ⊢
    refine ⟨fun _ _=>trivial,?_⟩
    rw [CW]
    exact hset _ _ hop

theorem oW {F : Fence} {Q1 : Exit→Act→World→Prop} {l2 : List Oper} (hno : ∀ e a w,Q1 e a w→e = .normal) (hQ : ∀ a w,Q1 .normal a w→wpListIn F n P ops Q l2 a w) : ∀ {l1 : List Oper} {a w},wpListIn F n P ops Q1 l1 a w→wpListIn F n P ops Q (l1 ++ l2) a w
 | [],a,w,h=>hQ a w h
 | o :: l1,a,w,h=>by
  rw [List.cons_append]
  unfold wpListIn at h ⊢
  split at h
  ·rename_i hw
   rw [if_pos hw]
   refine ⟨h.1,?_⟩
   have h2:=h.2
   generalize (o.semAt F.round a.eval).run P w = r at h2 ⊢
   cases r with
   | ok x w' =>
    cases x with
    | value v=>exact oW hno hQ h2
    | skip=>exact oW hno hQ h2
    | defer d=>exact oW hno hQ h2
    | enter f args =>
     refine ⟨h2.1,CallsIn.mono h2.2 ?_⟩
     rintro e w'' he
     cases e with
     | returned v=>exact oW hno hQ he
     | panicked ch=>cases hno _ _ _ he
     | outgrown=>obtain ⟨a0,w0,h0⟩:=he; cases hno _ _ _ h0
    | row row args=>exact ⟨h2.1,RowsIn.mono h2.2 fun v w'' he=>oW hno hQ he⟩
    | round l f t as1 b =>
     refine ⟨h2.1,RoundIn.mono h2.2 ?_⟩
     rintro e w'' he
     cases e with
     | returned v=>exact oW hno hQ he
     | panicked ch=>cases hno _ _ _ he
     | outgrown=>obtain ⟨a0,w0,h0⟩:=he; cases hno _ _ _ h0
    | _=>exact h2.elim
   | halt x w' =>
    cases x <;> first | (cases hno _ _ _ h2; done) | exact h2.elim
  ·rename_i hw
   rw [if_neg hw]
   exact ⟨h.1,oW hno hQ h.2⟩
end
section
variable {P : Program} {E : Env} {nt : Nat} {F F' : Frm} {H H' : Heap} {ops : Array Oper} {s : Nat}
theorem aGT (hcl : cV P (dR P E)) (hP : P.follows .mixedOrders = true) {id : Nat} {draw : Bool} (hsp : YY ops s = true)
  (hrun : (bif draw then I0 P (dR P E) nt (ops.toList.take s).toArray F H else D9 P (dR P E) nt ops.toList (ops.toList.take s) F H) = some (F',H'))
  {ro : Option Nat} {n : Nat} {n0 : Nat→Prop} {wi : World} {Gi : Gd} {μi : Mp} {a : Act} {w : World} {ds : List Deferred} {Q : Exit→Act→World→Prop} (hI : I n0 wi Gi μi nt F H a w)
  (hQ : ∀ a' w',I n0 wi Gi μi nt F' H' a' w'→wpListIn (Fr ro) n P ops Q (ops.toList.drop s) (nM ds a') w') : (Code.region id ops draw).wpIn (Fr ro) n P Q (nM ds a) w:=by
 simp only [YY,Bool.and_eq_true] at hsp
 obtain ⟨⟨⟨⟨hm,hf⟩,hg⟩,hnd⟩,hs⟩:=hsp
 have hs:=Nat.le_of_ble_eq_true hs
 cases draw with
 | true =>
  simp only [cond_true] at hrun
  have h1:=KO (Q:=fun e a' w'=>e = .normal∧I n0 wi Gi μi nt F' H' a' w') hcl hrun hI (fun a' w' h=>⟨rfl,h⟩)
  refine wpIn_region_any hP ?_
  have hsz : (ops.toList.take s).toArray.size = s:=by simp [List.length_take]; omega
  rw [hsz] at h1
  have hfalse : ∀ m j,(Array.replicate m false).getD j false = false:=fun m j=>by
   simp only [Array.getD]
   split <;> simp
  have:=aWB (n:=n) (ro:=ro) (ds:=ds) (Q:=Q) hm hf hg hnd hs (fun e a w h=>h.1) (fun a w h=>hQ a w h.2) s (Array.replicate s false) (Array.replicate ops.size false) a _ (by simp) (by simp) (fun i _=>by rw [hfalse,hfalse]) (fun i _=>hfalse _ i) (fun j hj b hb=>by
   have : (Array.replicate ops.size false).getD j false = true:=hj
   rw [hfalse] at this; cases this) (by
   rw [List.countP_eq_length.2]
   ·simp
   ·intro i _
    rw [hfalse]; rfl) h1
  rwa [show s + (ops.size - s) = ops.size by omega] at this
 | false =>
  simp only [cond_false] at hrun
  refine wpIn_region_list ?_
  rw [← List.take_append_drop s ops.toList]
  have h1:=rR (Q:=fun e a' w'=>e = .normal∧I n0 wi Gi μi nt F' H' a' w') hcl (ops.toList.take s) F H a w hrun hI (fun a' w' h=>⟨rfl,h⟩)
  have h2:=R7 (ro:=ro) (n:=n) (ds:=ds) (Q':=fun e a' w'=>e = .normal∧wpListIn (Fr ro) n P ops Q (ops.toList.drop s) a' w') (fun a w h=>by cases h.1) (fun e a w h=>⟨h.1,hQ a w h.2⟩) (fun o ho=>DQ hnd (List.mem_of_mem_take ho)) h1
  exact oW (fun e a w h=>h.1) (fun a w h=>h.2) h2
end
end Go.PM
set_option linter.unusedSimpArgs false
set_option linter.unusedVariables false
namespace Go.PM
open Go Go.RowKit
def Sg (Φ : (Nat→Prop)→(Nat→Prop)→World→Prop) (G0 G : Gd) (μ : Mp) (H : Heap) (A : World) : Prop :=
 ∃ (T X : Nat→Prop) (B : World) (GB : Gd) (μB : Mp),Φ T X B∧(∀ b,X b→T b)∧(∀ b,T b→b < B.heap.size)∧(∀ b,GB b→G0 b ∨ T b)∧(∀ b,G0 b→GB b) ∧
  Ext (fun b=>X b ∨ B.heap.size ≤ b) B GB μB A G μ∧aV (fun b=>X b ∨ B.heap.size ≤ b) G μ H A
section
variable {P : Program} {Φ : (Nat→Prop)→(Nat→Prop)→World→Prop} {G0 G G' : Gd} {μ μ' : Mp} {H H' : Heap} {A A' W : World} {F F' : Frm} {nt n : Nat} {a : Act}
theorem Sg.start {J : (Nat→Prop)→(Nat→Prop)→World→Prop} {g0 : Nat→Prop} (hlt : Lt W g0) (h : J (fun _=>False) (fun _=>False) W) : Sg J (Gd.of g0) (Gd.of g0) aL [] W :=
 ⟨_,_,W,Gd.of g0,aL,h,fun b h=>h,fun b h=>h.elim,fun b h=>.inl h,fun b h=>h,Ext.refl _ _ _ _,fun r k b h=>by simp at h,fun r k g h=>by simp at h,fun r s k l b h=>by simp at h,hlt,fun _ _=>⟨rfl,rfl⟩,fun b hb=>.inr hb,lD.none _ _ (fun _=>rfl) _ _ (fun r k h=>by simp at h)⟩
theorem Sg.open_ (h : Sg Φ G0 G μ H A) : ∃ n0,aV n0 G μ H A∧(∀ b,G0 b→G b)∧∀ A' G' μ' H',Ext n0 A G μ A' G' μ'→aV n0 G' μ' H' A'→Sg Φ G0 G' μ' H' A':=by
 obtain ⟨T,X,B,GB,μB,h1,h2,h3,h4,h5,h6,h7⟩:=h
 exact ⟨_,h7,fun b hb=>(h6.cW b (h5 b hb)).1,fun A' G' μ' H' e w=>⟨T,X,B,GB,μB,h1,h2,h3,h4,h5,h6.trans e,w⟩⟩
theorem Sg.stp (h : Sg Φ G0 G μ H A) : ∃ T X B,Stp X B A∧Φ T X B:=by
 obtain ⟨T,X,B,GB,μB,h1,h2,h3,h4,h5,h6,h7⟩:=h
 exact ⟨T,X,B,⟨fun b hb hx=>h6.old b hb (by rintro (h | h); exact hx h; omega),h6.room,h6.os,h6.tape,h6.output,h6.size⟩,h1⟩

theorem Sg.yield {ks : List Kd} {l : Nat} {all : List (aI ks)} {J Jx : List (aI ks)→(Nat→Prop)→(Nat→Prop)→World→Prop}
  (hY : ∀ pre e post T X B T' X' A us Gx m',all = pre ++ e :: post→J pre T X B→Stp X B A→(∀ b,T' b→(T b ∨ B.heap.size ≤ b)∧b < A.heap.size)→(∀ b,X' b→T' b∧(X b ∨ B.heap.size ≤ b)) →
   (∀ b,Gx b→(G0 b ∨ T' b)∧¬ X' b)→VRs A (Gd.of Gx) aL (iP ks e) us →
   YieldAt Fence.wide m' P l us.toArray A fun en C =>
    ((∀ b,b < A.heap.size→G0 b ∨ T' b→C.heap[b]? = A.heap[b]?)∧(∀ b n,Room A b n→Room C b n)∧A.heap.size ≤ C.heap.size)∧((en = .returned (.bool true)∧J (pre ++ [e]) T' X' C) ∨ (en = .returned (.bool false)∧Jx (pre ++ [e]) T' X' C)))
  {pre post : List (aI ks)} {e : aI ks} (hall : all = pre ++ e :: post) {us : List Value} (h : Sg (J pre) G0 G μ H A) (hus : VRs A G aL (iP ks e) us) (hpl : dK.noRows (iP ks e) = true) (m' : Nat) :
  YieldAt Fence.wide m' P l us.toArray A fun en C=>Mono A G μ C G μ∧((en = .returned (.bool true)∧Sg (J (pre ++ [e])) G0 G μ H C) ∨ (en = .returned (.bool false)∧Sg (Jx (pre ++ [e])) G0 G μ H C)):=by
 obtain ⟨T,X,B,GB,μB,h1,h2,h3,h4,h5,h6,h7⟩:=h
 obtain ⟨T',hT'⟩ : ∃ T' : Nat→Prop,T' = fun b=>T b ∨ (B.heap.size ≤ b∧b < A.heap.size):=⟨_,rfl⟩
 obtain ⟨X',hX'⟩ : ∃ X' : Nat→Prop,X' = fun b=>(∃ r k,H[r]? = some (some k)∧k.frozen = false∧μ.loc r = some b) ∨ ∃ j,G.row j = some b:=⟨_,rfl⟩
 have hGT : ∀ b,G b→G0 b ∨ T' b:=by
  intro b hb
  have hlt:=h7.lt b hb
  rw [hT']
  rcases h6.new b hb with h | h | h
  ·exact (h4 b h).imp id .inl
  ·exact .inr (.inl (h2 b h))
  ·exact .inr (.inr ⟨h,hlt⟩)
 have hXT : ∀ b,X' b→T' b∧(X b ∨ B.heap.size ≤ b)∧¬ G b:=by
  intro b hb
  rw [hX'] at hb
  rcases hb with ⟨r,k,g1,g2,g3⟩ | ⟨j,hj⟩
  case inr =>
   obtain ⟨s1,s2,s3,_⟩:=h7.rows.sep j b hj
   rw [hT']
   rcases s2 with h | h
   ·exact ⟨.inl (h2 b h),.inl h,s3⟩
   ·exact ⟨.inr ⟨h,s1⟩,.inr h,s3⟩
  obtain ⟨c,q1,_,_,_,q5⟩:=h7.blk r k b g1 g3
  have hlt:=h7.iS g1 g3
  rw [hT']
  rcases (q5 g2).1 with h | h
  ·exact ⟨.inl (h2 b h),.inl h,(q5 g2).2⟩
  ·exact ⟨.inr ⟨h,hlt⟩,.inr h,(q5 g2).2⟩
 have hst : Stp X B A:=⟨fun b hb hx=>h6.old b hb (by rintro (h | h); exact hx h; omega),h6.room,h6.os,h6.tape,h6.output,h6.size⟩
 obtain ⟨fn,tmps,as1,body,y1,y2⟩:=hY pre e post T X B T' X' A us G.ok m' hall h1 hst (fun b hb=>by
  rw [hT'] at hb
  rcases hb with hb | hb
  ·exact ⟨.inl hb,Nat.lt_of_lt_of_le (h3 b hb) h6.size⟩
  ·exact ⟨.inr hb.1,hb.2⟩) (fun b hb=>⟨(hXT b hb).1,(hXT b hb).2.1⟩) (fun b hb=>⟨hGT b hb,fun hx=>(hXT b hx).2.2 hb⟩) (lP (G:=G) (G':=Gd.of G.ok) (fun b h=>h) _ _ _ hpl hus)
 refine ⟨fn,tmps,as1,body,y1,y2.mono ?_⟩
 rintro en C ⟨⟨k1,k2,k3⟩,hout⟩
 have hgood : ∀ b,G b→C.heap[b]? = A.heap[b]?:=fun b hb=>k1 b (h7.lt b hb) (hGT b hb)
 have hmono : Mono A G μ C G μ:=⟨fun b hb=>⟨hb,hgood b hb⟩,fun _ _ h=>h,fun _ _ h=>h,k2,fun _ _ h=>h⟩
 have hTs : ∀ b,T' b→b < C.heap.size:=by
  intro b hb
  rw [hT'] at hb
  rcases hb with hb | hb
  ·have:=h3 b hb; have:=h6.size; omega
  ·omega
 have hwinv : aV (fun b=>X' b ∨ C.heap.size ≤ b) G μ H C:=by
  refine ⟨?_,h7.tags,h7.inj,h7.lt.step (fun b hb=>⟨hb,hgood b hb⟩) fun b hb=>Nat.lt_of_lt_of_le (h7.lt b hb) k3,h7.top,fun b hb=>.inr hb,(h7.rows.QV (n1:=fun b=>X' b ∨ C.heap.size ≤ b) fun j b hj _=>.inl (by rw [hX']; exact .inr ⟨j,hj⟩)).step hmono.aL k3 (fun _=>rfl) (fun j b hj=>⟨?_,id,fun r k h1 h2 h3=>⟨r,k,h1,h2,h3⟩⟩) (fun r k _ _ h1 _ _=>⟨k,h1,rfl,rfl,rfl,rfl⟩)⟩
  case refine_2 =>
   exact k1 b (h7.rows.sep j b hj).1 (.inr (hXT b (by rw [hX']; exact .inr ⟨j,hj⟩)).1)
  intro r k b hr hb
  obtain ⟨c,q1,q2,q3,q4,q5⟩:=h7.blk r k b hr hb
  have hx : k.frozen = false→X' b:=fun hf=>by rw [hX']; exact .inl ⟨r,k,hr,hf,hb⟩
  have heq : C.heap[b]? = A.heap[b]?:=by
   cases hf : k.frozen with
   | true=>exact hgood b (q4 hf)
   | false=>exact k1 b (h7.iS hr hb) (.inr (hXT b (hx hf)).1)
  exact ⟨c,heq.trans q1,aP.mono hmono heq 0 _ q2,q3,q4,fun hf=>⟨.inl (hx hf),(q5 hf).2⟩⟩
 have key : ∀ {Ψ : (Nat→Prop)→(Nat→Prop)→World→Prop},Ψ T' X' C→Sg Ψ G0 G μ H C:=fun hψ =>
  ⟨T',X',C,G,μ,hψ,fun b hb=>(hXT b hb).1,hTs,hGT,fun b hb=>(h6.cW b (h5 b hb)).1,Ext.refl _ _ _ _,hwinv⟩
 refine ⟨hmono,?_⟩
 rcases hout with ⟨rfl,hj⟩ | ⟨rfl,hj⟩
 ·exact .inl ⟨rfl,key hj⟩
 ·exact .inr ⟨rfl,key hj⟩

variable {ops : Array Oper} {Q : Exit→Act→World→Prop}
theorem aWT {o : Oper} {c : Call} {f : Operand} {rest : List Oper} {l : Nat} {us : Array Value} {R : Ending→World→Prop} (ho : o.op = .call c) (hc : c.callee = .value f) (hw : Region.wanted o (yielded ops a.tmps) = true) (hf : a.eval f = .func (.yield l) #[] #[]) (hargs : c.args.map a.eval = us)
  (hy : ∀ m',YieldAt Fence.wide m' P l us A R) (hR : ∀ en C,R en C→∃ v,en = .returned v∧wpListIn Fence.wide n P ops Q rest (a.put o.dst v) C) : wpListIn Fence.wide n P ops Q (o :: rest) a A:=by
 obtain ⟨fn,tmps,as1,body,y1,y2⟩:=hy (n - 1)
 unfold wpListIn
 rw [if_pos hw]
 refine ⟨fun _ _=>trivial,?_⟩
 have hd : ∀ c',o.op ≠ .defer c':=fun c' h=>by rw [ho] at h; cases h
 have hs : (o.semAt none a.eval).run P A = .ok (.round l fn tmps as1 body) A:=by
  rw [Oper.semAt_none]
  simp [execOp,ho,resolve,hc,hf,hargs,Deferred.ofValue,Sem.run_bind,Sem.run_pure,Result.andThen_ok,invoke,y1]
 show Oper.uponIn Fence.wide n P o a _ Q ((o.semAt none a.eval).run P A)
 rw [hs]
 refine ⟨fun h=>(by cases h),y2.mono ?_⟩
 rintro e C he
 obtain ⟨v,rfl,h⟩:=hR e C he
 exact h
theorem a4W {o : Oper} {rest : List Oper} (hw : Region.wanted o (yielded ops a.tmps) = false) (h : wpListIn Fence.wide n P ops Q rest (a.put o.dst undef) A) : wpListIn Fence.wide n P ops Q (o :: rest) a A:=by
 unfold wpListIn
 rw [if_neg (by rw [hw]; decide)]
 exact ⟨fun _ _=>trivial,h⟩
end
end Go.PM
