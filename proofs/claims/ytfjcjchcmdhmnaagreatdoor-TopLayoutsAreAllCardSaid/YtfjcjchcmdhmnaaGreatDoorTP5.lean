/- Texts of one proof, joined (5). -/
import Derived.Test.YtfjcjchcmdhmnaaGreatDoorRows
import Derived.ProofKit
import Derived.LaidMore
import Derived.OpenShut
import Derived.Lib.LaidU8
import Derived.MakeChecks
import Derived.Test.YtfjcjchcmdhmnaaGreatDoorProg
import Derived.KernelRfl
import Derived.OrdersIn
import Derived.TacticsIn
import Derived.RangeFuncRecord
import Derived.Sort.LoopGhostIn
import Derived.RangeFuncSeq
import Derived.Lib.AppendIntMem
import Derived.WalkKit
import Derived.BigCall
import Derived.BigGuard
import Derived.Lib.SmallJoins
import Derived.Lib.Walk
import Derived.Lib.SliceRun
import Derived.Lib.AppendZerosOnto
import Derived.Deep.Upon
import Derived.Test.YtfjcjchcmdhmnaaGreatDoorTP4
set_option linter.unusedSimpArgs false
set_option linter.unusedVariables false
set_option maxRecDepth 100000
noncomputable section
namespace Go.Proofs.YtfjcjchcmdhmnaaGreatDoor
open Go Go.ChangeShapes Go.WideShapes Go.ChangeAt Go.RowKit Go.Joins Go.PM
abbrev aEK:List (String×DataW Unit):=[("math/bits.deBruijn32tab",Rows.laid_math_bits_deBruijn32tab),("math/bits.deBruijn64tab",Rows.laid_math_bits_deBruijn64tab),("internal/strconv.uint64pow10",Rows.laid_internal_strconv_uint64pow10),("strconv.ErrRange",Rows.laid_strconv_ErrRange),("strconv.ErrSyntax",Rows.laid_strconv_ErrSyntax)]
theorem aO5(os:Os)(args:Array Value):laidMetH Tryz.prog aEK ((World.doorLaid Tryz.prog 4000 os).forCall (λ_ _=>0) ⟨#[],args,[]⟩).memory :=
 laidMetH_of_parts3 (fuel:=8) (laidMet_of_run' 8 (by kernel_rfl) (by kernel_rfl)) (by kernel_rfl) (by kernel_rfl)
theorem aDU {H:Type} {enc:TypeId×Value->H} {P:Program} {w:World} {base:Nat} {sp:Nat->Bool} {fuel:Nat} {t:TypeId} {ms} {cs:List Value} {n:String} {d:DataW H} {p:List MemPlace}
  (ht:P.underlying t=some (.interface ms)) (h:DataW.trod enc P w base sp false fuel t cs=some (.iface n d,p)):∃ u v,cs=[.iface u v]:=by
 cases fuel with
 | zero=>simp[DataW.trod]at h
 | succ fuel =>
  simp only[DataW.trod,ht]at h;split at h <;> first
   | exact⟨_,_,rfl⟩
   | (exfalso; simp_all; done)
theorem aCX {P}{w:World}{n g cs}(hg:P.globalNamed n=some g)(h:w.var? P n=some cs):∃ t fr,w.heap[g]?=some (.cells cs t fr):=by
 unfold World.var? at h;grind
theorem VM {w:World} {n:String} {g:Nat} {t:TypeId} {ms} {m:String} {d:DataW Unit} (hg:Tryz.prog.globalNamed n=some g) (hty:(Tryz.prog.globals[g]?).map (·.type)=some t) (ht:Tryz.prog.underlying t=some (.interface ms))
  (h:Lib.VarReads Tryz.prog w n (.iface m d)):R7 w.heap[g]?:=by
 obtain⟨g',t',cs,fuel,p,hg',ht',hvar,hd⟩:=h;obtain rfl:=oB (hg.symm.trans hg');obtain rfl:=oB (hty.symm.trans ht');obtain⟨u,v,e⟩:=aDU ht hd;obtain⟨t2,fr,e2⟩:=aCX hg hvar;refine⟨u,v,t2,fr,?_⟩;rw[e2]
 congr 2
 exact Array.toList_inj.1 e
theorem aQC {w:World} (h:laidMetH Tryz.prog aEK w):Lt w λb=>b<w.heap.size:=by
 rw[MakeChecks.laidMetH_plain _ _ _ (by kernel_rfl)]at h;have lt:∀ {g:Nat} {q:Option Obj->Prop},q w.heap[g]?->¬ q none->g<w.heap.size:=λ{g q} h1 h2=>by
  rcases oG g w.heap.size with h|h
  ·exact h
  ·rw[Array.getElem?_eq_none h]at h1;exact absurd h1 h2
 have nIf:¬ R7 none:=λ⟨_,_,_,_,e⟩=>by cases e
 refine⟨λ_ h=>h,λp hp=>?_⟩;have main:p.2 w.heap[p.1]?/\¬ p.2 none:=by
  rcases List.mem_cons.1 hp with rfl|hp
  ·refine⟨?_,λ⟨_,_,e⟩=>by cases e⟩;obtain⟨g',t',cs,fuel,q,hg',ht',hvar,hd⟩:=Lib.laidMet.reads h (n:= "internal/strconv.uint64pow10") (d:=Rows.laid_internal_strconv_uint64pow10) (.tail _ (.tail _ (.head _)));obtain rfl:=oB ((show Tryz.prog.globalNamed "internal/strconv.uint64pow10"=some 0 by kernel_rfl).symm.trans hg');have hd:DataW.trod (λ_=>()) Tryz.prog w 0 (λ_=>true) false fuel t' cs.toList=some (Lib.tabData .u64 [1,10,100,1000,10000,100000,1000000,10000000,100000000,1000000000,10000000000,100000000000,1000000000000,10000000000000,100000000000000,1000000000000000,10000000000000000,100000000000000000,1000000000000000000,10000000000000000000],q):=hd
   obtain⟨t,hty⟩:∃ t,(Tryz.prog.globals[0]?).map (·.type)=some t:=⟨_,ht'⟩;obtain rfl:=oB (hty.symm.trans ht');have hcs:=Lib.cells_of_tab (P:=Tryz.prog) (t:=236) (e:=117) (n:=20) Tryz.underlying236 Tryz.underlying117 (by kernel_rfl) (by kernel_rfl) (show DataW.trod (λ_=>()) Tryz.prog w 0 (λ_=>true) false fuel 236 cs.toList=_ by
    rw[<- oB ((show (Tryz.prog.globals[0]?).map (·.type)=some 236 by kernel_rfl).symm.trans hty)]at hd;exact hd)
   obtain⟨t2,fr,e2⟩:=aCX (by kernel_rfl) hvar;refine⟨t2,fr,?_⟩;rw[e2]
   congr 2
   exact Array.toList_inj.1 hcs
  ·rcases List.mem_cons.1 hp with rfl|hp
   ·exact⟨VM (n:= "strconv.ErrSyntax") (t:=145) (by kernel_rfl) (by kernel_rfl) Tryz.underlying145 (Lib.laidMet.reads h (.tail _ (.tail _ (.tail _ (.tail _ (.head _)))))),nIf⟩
   ·rcases List.mem_cons.1 hp with rfl|hp
    ·exact⟨VM (n:= "strconv.ErrRange") (t:=145) (by kernel_rfl) (by kernel_rfl) Tryz.underlying145 (Lib.laidMet.reads h (.tail _ (.tail _ (.tail _ (.head _))))),nIf⟩
    ·cases hp
 exact⟨lt main.1 main.2,main.1⟩
end Go.Proofs.YtfjcjchcmdhmnaaGreatDoor
namespace Go.PM
open Go Go.RowKit
structure Ent where
 g:FuncId
 args:List Kd
 rets:List Kd
 f:aL args->Option (aL rets)
def Ent.OK (P:Program)(e:Ent):Prop:=wO P e.g e.args e.rets e.f
def W0:List Ent->FuncId->List PV->Option Res
 | [],_,_=>none
 | e::r,g,qs=>bif Nat.beq e.g g then (match aH8 e.args e.rets e.f qs with
   | some s=>some s
   | none=>W0 r g qs)
  else W0 r g qs
def qK(l:List Ent):Env:=⟨W0 l,λ_ _ _=>none,λ_=>false⟩
theorem N6 {P}:∀ {l},(∀ e∈l,e.OK P)->∀ g qs r,W0 l g qs=some r->∀ y,r.val=some y->wS P g qs (r.out y)
 | [],_,g,qs,r,h=>by cases h
 | e::l,hl,g,qs,r,h=>by
  simp only[W0]at h;cases hb:Nat.beq e.g g with
  | true =>
   rw[hb]at h;have:=oE hb;subst this;cases hs:aH8 e.args e.rets e.f qs with
   | some s =>
    rw[hs]at h;have h:=oB h;subst h;exact aMB (hl e List.mem_cons_self) hs
   | none =>
    rw[hs]at h;exact N6 (λe he=>hl e (List.mem_cons_of_mem _ he)) _ qs r h
  | false =>
   rw[hb]at h;exact N6 (λe he=>hl e (List.mem_cons_of_mem _ he)) g qs r h
theorem aL8 {P l}(hl:∀ e∈l,e.OK P):fC P (qK l) where
 pure:=N6 hl
 shr:=λ_ _ _ _ h=>by cases h
def KG(P:Program):List Ent->Prop
 | []=>True
 | e::r=>e.OK P/\KG P r
theorem K4 {P}:∀ {l},KG P l->∀ e∈l,e.OK P
 | [],_,e,he=>by grind
 | a::r,h,e,he=>by
  rcases List.mem_cons.1 he with rfl|he
  ·exact h.1
  ·exact K4 h.2 e he
theorem aQ {P l}(h:KG P l):fC P (qK l):=aL8 (K4 h)
def aBN(P:Program)(nt:Nat)(lt:Nat->Option bT):List Code->Prop
 | []=>True
 | a::r=>(∀ s,lt (aO a)=some s->fJ P nt a s)/\aBN P nt lt r
theorem QW {P nt lt}:∀ {l},aBN P nt lt l->∀ a∈l,∀ s,lt (aO a)=some s->fJ P nt a s
 | [],_,a,ha=>by grind
 | b::r,h,a,ha=>by
  rcases List.mem_cons.1 ha with rfl|ha
  ·exact h.1
  ·exact QW h.2 a ha
theorem bQ {P nt lt c l}(hc:bI c=l)(h:aBN P nt lt l):∀ a∈bI c,∀ s,lt (aO a)=some s->fJ P nt a s:=by rw[hc]; exact QW h
theorem j5 {P nt}{lt:Nat->Option bT}{a i s0}(hf:aO a=i)(hlt:lt i=some s0)(h:fJ P nt a s0):∀ s,lt (aO a)=some s->fJ P nt a s:=by grind
def cM(fn:Func):Code:=match fn.body with
 | some c=>c
 | none=>.skip
def kW(c:Code)(i:Nat):Code:=(bI c).getD i .skip
def aRR(l:List Func):Bool:=l.all λf=>!(f.name== "runtime.NumGoroutine")
theorem aIT {P}(h1:P.follows .mixedOrders=true)(h2:aRR P.funcs.toList=true):tW P where
 mixed:=h1
 names g fn hg:=by
  have hm:fn∈P.funcs.toList:=by grind
  have:=List.all_eq_true.1 h2 fn hm;grind
theorem IZ {α:Type 1}{b x}{y:α}(h:(bif b then x else none)=some y):b=true/\x=some y:=by grind
abbrev Shr:=FuncId×(List PV->Heap->Option RK)
def vB(P:Program)(s:Shr):Prop:=SortOKs P s.1 s.2
where SortOKs P g f :=∀ args H r,f args H=some r->∀ y,r.val=some y->∀ {n0 G μ w vs},aM n0 G μ H w->VRs w G μ args vs->lN P n0 w G μ g vs.toArray (r.out y).1 (r.out y).2
def aM5(p:PV) (H:Heap):Option (PV×Heap):=match p with
 | .own s _=>match dY H s with
  | some k=>match k.tag with
   | some g=>some (kD g.t g.l none,vL H s)
   | none=>none
  | none=>none
 | _=>none
def vZ:List PV->Heap->List PV×Heap
 | [],H=>([],H)
 | p::r,H=>match aM5 p H with
  | some (q,H0)=>(q::(vZ r H0).1,(vZ r H0).2)
  | none=>(p::(vZ r H).1,(vZ r H).2)
def aB8(skip:Nat)(f:List PV->Heap->Option RK)(qs:List PV)(H:Heap):Option RK:=match vZ (qs.drop skip) H with
 | (ps,H1)=>f (qs.take skip++ps) H1
theorem aJP {n0 G μ H w}(hW:aM n0 G μ H w){s sz k g v}(hv:VR w G μ (.own s sz) v)(hk:dY H s=some k)(hg:k.tag=some g) :
  ∃ G',Ext n0 w G μ w G' μ/\aM n0 G' μ (vL H s) w/\VR w G' μ (kD g.t g.l none) v:=by
 have hfo:vL H s=(bif k.frozen then H else H.set s (some { k with frozen:=true })):=by unfold vL; grind
 rw[hfo];cases hfz:k.frozen with
 | true =>
  refine⟨G,Ext.refl _ _ _ _,hW,(rG hW hv hk hg (λb h=>h) (λb hb=>?_)).aP⟩;obtain⟨_,_,_,_,h5,_⟩:=hW.blk s k b (aE hk) hb;grind
 | false =>
  obtain⟨e1,w1⟩:=qW hW (aE hk) hfz;exact⟨_,e1,w1,(rG (G':=G.or λx=>μ.loc s=some x) hW hv hk hg (λb h=>.inl h) (λb hb=>.inr hb)).aP⟩
theorem CI {n0 μ w}:∀ qs {H G vs},aM n0 G μ H w->VRs w G μ qs vs->∃ G',Ext n0 w G μ w G' μ/\aM n0 G' μ (vZ qs H).2 w/\VRs w G' μ (vZ qs H).1 vs
 | [],H,G,vs,hW,hv=>⟨G,Ext.refl _ _ _ _,hW,hv⟩
 | p::r,H,G,vs,hW,hv=>by
  obtain⟨u,us,rfl,q1,q2⟩:=hv;have plain:∃ G',Ext n0 w G μ w G' μ/\aM n0 G' μ (vZ r H).2 w/\VRs w G' μ (p::(vZ r H).1) (u::us):=by
   obtain⟨G',e,h1,h2⟩:=CI r hW q2;exact⟨G',e,h1,by exact⟨u,us,rfl,VR.mono e.toMono _ _ q1,h2⟩⟩
  rw[vZ];cases hz:aM5 p H with
  | none=>exact plain
  | some x =>
   obtain⟨q,H0⟩:=x;obtain⟨G1,e1,w1,v1⟩:∃ G',Ext n0 w G μ w G' μ/\aM n0 G' μ H0 w/\VR w G' μ q u:=by
    unfold aM5 at hz;split at hz
    ·split at hz
     ·rename_i k hk;split at hz
      ·rename_i g hg;cases hz;exact aJP hW q1 hk hg
      ·cases hz
     ·cases hz
    ·cases hz
   obtain⟨G2,e2,w2,v2⟩:=CI r w1 (VRs.mono e1.toMono _ _ q2);exact⟨G2,e1.trans e2,w2,by exact⟨u,us,rfl,VR.mono e2.toMono _ _ v1,v2⟩⟩
theorem X0 {w G μ}:∀ ps {qs vs},VRs w G μ (ps++qs) vs->∃ v1 v2,vs=v1++v2/\VRs w G μ ps v1/\VRs w G μ qs v2
 | [],qs,vs,h=>⟨[],vs,rfl,by rfl,h⟩
 | p::ps,qs,vs,h=>by
  obtain⟨u,us,rfl,h1,h2⟩:=h;obtain⟨v1,v2,rfl,h3,h4⟩:=X0 ps h2;exact⟨u::v1,v2,rfl,by rw[VRs]; grind,h4⟩
theorem EV {P g skip f}(hf:vB P (g,f)):vB P (g,aB8 skip f):=by
 intro qs H rh h y hy n0 G μ w vs hW hv;have hv:VRs w G μ (qs.take skip++qs.drop skip) vs:=by simp_all
 obtain⟨v1,v2,rfl,hv1,hv2⟩:=X0 _ hv;obtain⟨G',e,h1,h2⟩:=CI _ hW hv2;obtain⟨c1,c2⟩:=hf _ _ rh h y hy h1 ((VRs.mono e.toMono _ _ hv1).append h2);refine⟨c1,c2.mono ?_⟩;rintro e' w' ⟨v',G1,μ1,rfl,ee,hW',hvv⟩;exact⟨v',G1,μ1,rfl,e.trans ee,hW',hvv⟩
def aP4:List Shr->FuncId->List PV->Heap->Option RK
 | [],_,_,_=>none
 | s::r,g,args,H=>bif Nat.beq g s.1 then s.2 args H else aP4 r g args H
def shE:List Shr->FuncId->Bool
 | [],_=>false
 | s::r,g=>bif Nat.beq g s.1 then true else shE r g
def aFG(P:Program):List Shr->Prop
 | []=>True
 | s::r=>vB P s/\aFG P r
theorem aIA {P}:∀ {l},aFG P l->∀ g args H r,aP4 l g args H=some r->∀ y,r.val=some y->∀ {n0 G μ w vs},aM n0 G μ H w->VRs w G μ args vs->lN P n0 w G μ g vs.toArray (r.out y).1 (r.out y).2
 | [],_,g,args,H,r,h=>by cases h
 | s::l,hl,g,args,H,r,h=>by
  simp only[aP4]at h;cases hb:Nat.beq g s.1 with
  | true =>
   rw[hb]at h;have:=oE hb;subst this;exact hl.1 args H r h
  | false =>
   rw[hb]at h;exact aIA hl.2 g args H r h
def WH(l:List Ent) (s:List Shr):Env:=⟨W0 l,aP4 s,shE s⟩
theorem yX {P l s}(h:KG P l)(hs:aFG P s):fC P (WH l s) where
 pure:=N6 (K4 h)
 shr:=aIA hs
open Go Go.RowKit Go.Proofs
abbrev tP:Program:=Tryz.prog
theorem aV:tW Tryz.prog:=aIT (by kernel_rfl) (by kernel_rfl)
abbrev oK(k:List Kd):Type:=Option (aL k)
abbrev oX(k:List (Ex×List (Nat×Kd))):Type:=Option (eB k)
abbrev oS(s:List (Nat×Kd)) (k:List (Ex×List (Nat×Kd))):Type:=Option (Shape.den s⊕eB k)
def oY(fn:Func) (n:Nat):Bool:=fn.body.isSome&&Nat.beq (bI (cM fn)).length n
theorem oYb {fn:Func} {n:Nat} (h:oY fn n=true):fn.body=some (cM fn)/\(bI (cM fn)).length=n:=by
 rw[oY,oA]at h;refine⟨?_,oE h.2⟩;have h1:=h.1;unfold cM;cases hb:fn.body with
 | some c=>rfl
 | none=>rw[hb]at h1; cases h1
theorem oW:KG Tryz.prog []:=trivial
theorem oV {e:Ent} {l:List Ent} (h:Ent.OK Tryz.prog e) (t:KG Tryz.prog l):KG Tryz.prog (e::l):=⟨h,t⟩
theorem oI {E:Env} (hE:fC Tryz.prog E) {g:Nat} {fn:Func} (hg:Tryz.prog.funcs[g]?=some fn) (hc:oY fn 0=true) {args rets:List Kd} {f:aL args->Option (aL rets)} (hb:∀ x,aL9 Tryz.prog E fn (bO fn) (λ_=>none) (cM fn) args rets x=f x):wO Tryz.prog g args rets f:=HO aV hE hg (oYb hc).1 (aU:=bO fn) (lt:=λ_=>none) (by rw[List.eq_nil_of_length_eq_zero (oYb hc).2]; intro a h; cases h) hb
theorem oU {E:Env} (hE:fC Tryz.prog E) {g:Nat} {fn:Func} (hg:Tryz.prog.funcs[g]?=some fn) (i:Nat) {sh:List (Nat×Kd)} {exits:List (Ex×List (Nat×Kd))} {step:Shape.den sh->Option (Shape.den sh⊕eB exits)} {lp:Shape.den sh->Option (eB exits)} (hlp:lp=bF step (2^64)) (hc:(oY fn 1&&(Nat.beq (bI (kW (cM fn) 0)).length 0&&Nat.beq (aO (kW (cM fn) 0)) i))=true) (hr:∀ x,nP Tryz.prog E fn.ntmps (bO fn) (λid=>bif Nat.beq id i then some ⟨sh,exits,lp⟩ else none) (kW (cM fn) 0) sh exits x=step x) {args rets:List Kd} {f:aL args->Option (aL rets)} (hb:∀ x,aL9 Tryz.prog E fn (bO fn) (λid=>bif Nat.beq id i then some ⟨sh,exits,lp⟩ else none) (cM fn) args rets x=f x):wO Tryz.prog g args rets f:=by
 subst hlp;rw[oA,oA]at hc;have hl:bI (cM fn)=[kW (cM fn) 0]:=by
  have h:=(oYb hc.1).2;unfold kW;cases hl:bI (cM fn)with
  | nil=>rw[hl]at h; cases h
  | cons a r =>
   rw[hl]at h;cases r with
   | nil=>rfl
   | cons b r=>simp at h
 exact HO aV hE hg (oYb hc.1).1 (aU:=bO fn) (lt:=λid=>bif Nat.beq id i then some ⟨sh,exits,bF step (2^64)⟩ else none) (bQ (lt:=λid=>bif Nat.beq id i then some ⟨sh,exits,bF step (2^64)⟩ else none) hl ⟨j5 (lt:=λid=>bif Nat.beq id i then some ⟨sh,exits,bF step (2^64)⟩ else none) (oE hc.2.2) (by rw[Nat.beq_refl]; rfl) (kT hE.callee aV.mixed _ (bQ (List.eq_nil_of_length_eq_zero (oE hc.2.1)) trivial) hr),trivial⟩) hb
end Go.PM
namespace Go.PM
open Go Go.RowKit
def posOf:List Nat->Nat->Option Nat
 | [],_=>none
 | x::l,r=>bif Nat.beq x r then some 0 else match posOf l r with
  | some i=>some (i+1)
  | none=>none
def UL:List Nat->Bool
 | []=>true
 | x::l=>(match posOf l x with|none=>true|some _=>false)&&UL l
def tS(pm:List Nat):PV->Option PV
 | .lit v=>some (.lit v)
 | .vals cs n cap=>some (.vals cs n cap)
 | .iptr cs=>some (.iptr cs)
 | .tl t l cap e=>some (.tl t l cap e)
 | .tp t l i off e=>some (.tp t l i off e)
 | .row j lo n sz=>some (.row j lo n sz)
 | .rp j off=>some (.rp j off)
 | .mp j=>some (.mp j)
 | .tm l=>some (.tm l)
 | .junk=>some .junk
 | .hptr r off=>match posOf pm r with|some i=>some (.hptr i off)|none=>none
 | .hs r off len cap sz=>match posOf pm r with|some i=>some (.hs i off len cap sz)|none=>none
 | .own r sz=>match posOf pm r with|some i=>some (.own i sz)|none=>none
 | .qs r sz=>match posOf pm r with|some i=>some (.qs i sz)|none=>none
 | .op r j off sz=>match posOf pm r with|some i=>some (.op i j off sz)|none=>none
 | .win r lo n sz=>match posOf pm r with|some i=>some (.win i lo n sz)|none=>none
 | .agg cs=>match renPs pm cs with|some qs=>some (.agg qs)|none=>none
 | .tuple cs=>match renPs pm cs with|some qs=>some (.tuple qs)|none=>none
 | .clo fn f c=>match renPs pm f,renPs pm c with|some f',some c'=>some (.clo fn f' c')|_,_=>none
where renPs pm:List PV->Option (List PV)
 | []=>some []
 | p::ps=>match tS pm p,renPs pm ps with|some q,some qs=>some (q::qs)|_,_=>none
def XO(pm:List Nat)(H:Heap):List Nat->Option Heap
 | []=>some []
 | r::l=>match dY H r with
  | some k=>match (bif k.tag.isSome then some k else match tS.renPs pm k.cells with|some cs=>some { k with cells:=cs }|none=>none),XO pm H l with
   | some k',some H'=>some (some k'::H')
   | _,_=>none
  | none=>none
def aNL(pm:List Nat)(F:Frm):List Nat->Option Frm
 | []=>some []
 | t::l=>match tS pm (bB F t),aNL pm F l with
  | some p,some F'=>some ((t,p)::F')
  | _,_=>none
def aUC(T pm:List Nat):Bool:=T.all λr=>match pm[r]? with
 | some s=>Nat.beq s r
 | none=>false
def aHT(T pm wP:List Nat)(F:Frm)(H:Heap):Option (Frm×Heap) :=
 bif UL pm&&aUC T pm then match XO pm H pm,aNL pm F wP with
  | some H',some F'=>some (F',H')
  | _,_=>none
 else none
def MB(s i:Nat) (et:TypeId) (ty:Ty) (H:Heap):Heap:=match dY H s with
 | some k=>match k.cells.drop i with
  | .tl _ [] (some 0) _::rest=>bif !k.tag.isSome then ((H++[some ⟨aD ty [],et,true,false,some ⟨ty,[]⟩⟩]:Heap).set s (some { k with cells:=k.cells.take i++.own H.length ty.size::rest })) else H
  | .lit (.slice none m c)::rest=>bif Nat.beq m 0&&Nat.beq c 0&&!k.tag.isSome then ((H++[some ⟨aD ty [],et,true,false,some ⟨ty,[]⟩⟩]:Heap).set s (some { k with cells:=k.cells.take i++.own H.length ty.size::rest })) else H
  | _=>H
 | none=>H
def dZ:List (Nat×Kd)->Frm->Heap->Frm×Heap
 | [],F,H=>(F,H)
 | (t,.own e ty)::r,F,H=>match bB F t with
  | .lit (.slice none m c)=>bif Nat.beq m 0&&Nat.beq c 0 then dZ r ((t,.own H.length ty.size)::F) (H++[some ⟨aD ty [],e,true,false,some ⟨ty,[]⟩⟩]) else dZ r F H
  | .tl _ [] (some 0) _=>dZ r ((t,.own H.length ty.size)::F) (H++[some ⟨aD ty [],e,true,false,some ⟨ty,[]⟩⟩])
  | _=>dZ r F H
 | (t,.bown e et ty)::r,F,H=>match bB F t with
  | .hptr s _=>match dY H s with
   | some k=>match k.cells with
    | [.lit (.slice none m c)]=>bif Nat.beq m 0&&Nat.beq c 0&&!k.tag.isSome then dZ r F ((H++[some ⟨aD ty [],et,true,false,some ⟨ty,[]⟩⟩]:Heap).set s (some { k with cells:=[.own H.length ty.size] })) else dZ r F H
    | _=>dZ r F H
   | none=>dZ r F H
  | _=>dZ r F H
 | (t,.bag _ t1 et ty _)::r,F,H=>match bB F t with
  | .hptr s _=>match dY H s with
   | some k=>match k.cells.drop t1.size with
    | .tl _ [] (some 0) _::rest=>bif !k.tag.isSome then dZ r F ((H++[some ⟨aD ty [],et,true,false,some ⟨ty,[]⟩⟩]:Heap).set s (some { k with cells:=k.cells.take t1.size++.own H.length ty.size::rest })) else dZ r F H
    | .lit (.slice none m c)::rest=>bif Nat.beq m 0&&Nat.beq c 0&&!k.tag.isSome then dZ r F ((H++[some ⟨aD ty [],et,true,false,some ⟨ty,[]⟩⟩]:Heap).set s (some { k with cells:=k.cells.take t1.size++.own H.length ty.size::rest })) else dZ r F H
    | _=>dZ r F H
   | none=>dZ r F H
  | _=>dZ r F H
 | (t,.bag2 _ t1 et ty eu u)::r,F,H=>match bB F t with
  | .hptr s _=>dZ r F (MB s (t1.1.size+1) eu u (MB s t1.1.size et ty H))
  | _=>dZ r F H
 | _::r,F,H=>dZ r F H
def qC:List (Nat×Kd)->Frm->Heap->Frm×Heap
 | [],F,H=>(F,H)
 | (t,.box _ (.list _))::r,F,H=>match bB F t with
  | .hptr s _=>match dY H s with
   | some k=>match k.cells with
    | [.own u sz]=>match dY H u with
     | some ku=>match ku.tag with
      | some g=>bif !k.tag.isSome&&!Nat.beq u s then qC r F (((H.set u (some { ku with frozen:=true }))).set s (some { k with cells:=[kD g.t g.l none] })) else qC r F H
      | none=>qC r F H
     | none=>qC r F H
    | _=>qC r F H
   | none=>qC r F H
  | _=>qC r F H
 | _::r,F,H=>qC r F H
def ER:List (Nat×Kd)->Frm->Heap->Option (List Nat)
 | [],_,_=>some []
 | (t,.own _ _)::r,F,H=>match bB F t,ER r F H with
  | .own s _,some l=>some (s::l)
  | _,_=>none
 | (t,.box _ _)::r,F,H=>match bB F t,ER r F H with
  | .hptr s _,some l=>some (s::l)
  | _,_=>none
 | (t,.bown _ _ _)::r,F,H=>match bB F t,ER r F H with
  | .hptr s _,some l=>match dY H s with
   | some k=>match k.cells with
    | [.own u _]=>some (s::u::l)
    | _=>none
   | none=>none
  | _,_=>none
 | (t,.bque _ _ _)::r,F,H=>match bB F t,ER r F H with
  | .hptr s _,some l=>match dY H s with
   | some k=>match k.cells with
    | [.own u _]=>some (s::u::l)
    | [.qs u _]=>some (s::u::l)
    | _=>none
   | none=>none
  | _,_=>none
 | (t,.bag _ t1 _ _ _)::r,F,H=>match bB F t,ER r F H with
  | .hptr s _,some l=>match dY H s with
   | some k=>match k.cells.drop t1.size with
    | .own u _::_=>some (s::u::l)
    | _=>none
   | none=>none
  | _,_=>none
 | (t,.bag2 _ t1 _ _ _ _)::r,F,H=>match bB F t,ER r F H with
  | .hptr s _,some l=>match dY H s with
   | some k=>match k.cells.drop t1.1.size with
    | .own u _::.own v _::_=>some (s::u::v::l)
    | _=>none
   | none=>none
  | _,_=>none
 | (_,.ar _ _)::r,F,H=>match JJ 0 H,ER r F H with
  | some (ra,_),some l=>some (ra::l)
  | _,_=>none
 | _::r,F,H=>ER r F H
def pH(T:List Nat) (sh:List (Nat×Kd)) (F:Frm) (H:Heap):Option (Shape.den sh) :=
 match pD sh F H with
 | (F0,H0)=>match qC sh F0 H0 with
  | (F1,H1)=>match dZ sh F1 H1 with
   | (F2,H2)=>match ER sh F2 H2 with
    | some pm=>match aHT T pm (slotsOf sh) F2 H2 with
     | some (F',H')=>bif Nat.beq H'.length (WL sh) then aMQ sh F' H' 0 else none
     | none=>none
    | none=>none
section
variable {P:Program} {n0:Nat->Prop} {w wi:World} {G Gi:Gd} {μ μi μ':Mp} {H:Heap} {F:Frm} {a:Act} {nt:Nat}
theorem sV:∀ {l r i},posOf l r=some i->l[i]?=some r
 | [],r,i,h=>by cases h
 | x::l,r,i,h=>by
  simp only[posOf]at h;cases hb:Nat.beq x r with
  | true =>
   rw[hb]at h;simp only[oC,oJ]at h;subst h
   simp_all
  | false =>
   rw[hb]at h;simp only[oD]at h;split at h
   ·rename_i j hj;simp only[oJ]at h;subst h;simpa using sV hj
   grind
theorem KJ:∀ {l} {r i:Nat},posOf l r=none->l[i]?=some r->False
 | [],r,i,_,h=>by grind
 | x::l,r,i,hn,h=>by
  simp only[posOf]at hn;cases hb:Nat.beq x r with
  | true=>grind
  | false =>
   rw[hb]at hn;split at hn
   ·grind
   ·rename_i hp;cases i with
    | zero =>
     simp_all
    | succ i=>exact KJ hp (by simpa using h)
theorem KE:∀ {l} {i j r:Nat},UL l=true->l[i]?=some r->l[j]?=some r->i=j
 | [],i,j,r,_,h,_=>by grind
 | x::l,i,j,r,hn,h1,h2=>by
  simp only[UL,oA]at hn;obtain⟨hp,hn⟩:=hn;have hx:posOf l x=none:=by grind
  cases i with
  | zero =>
   simp only[List.getElem?_cons_zero,oJ]at h1;subst h1;cases j with
   | zero=>rfl
   | succ j=>exact(KJ hx (by simpa using h2)).elim
  | succ i =>
   cases j with
   | zero =>
    simp only[List.getElem?_cons_zero,oJ]at h2;subst h2;exact(KJ hx (by simpa using h1)).elim
   | succ j=>exact oZ (·+1) (KE hn (by simpa using h1) (by grind))
def EP(μ:Mp) (pm:List Nat):Mp:=⟨λi=>match pm[i]? with|some r=>μ.loc r|none=>none,λi=>match pm[i]? with|some r=>μ.len r|none=>none,λi=>match pm[i]? with|some r=>μ.sh r|none=>0⟩
theorem iU {pm i r}(h:pm[i]?=some r):(EP μ pm).loc i=μ.loc r/\(EP μ pm).len i=μ.len r/\(EP μ pm).sh i=μ.sh r:=by simp[EP,h]
mutual
theorem aHN {pm:List Nat}:∀ (p q:PV) (v:Value),tS pm p=some q->VR w G μ p v->VR w G (EP μ pm) q v
 | .lit u,q,v,h,hv=>by simp only[tS,oJ]at h; subst h; rw[VR]at hv ⊢; exact hv
 | .vals ..,q,v,h,hv=>by simp only[tS,oJ]at h; subst h; rw[VR]at hv ⊢; exact hv
 | .iptr _,q,v,h,hv=>by simp only[tS,oJ]at h; subst h; rw[VR]at hv ⊢; exact hv
 | .tl ..,q,v,h,hv=>by simp only[tS,oJ]at h; subst h; rw[VR]at hv ⊢; exact hv
 | .tp ..,q,v,h,hv=>by simp only[tS,oJ]at h; subst h; rw[VR]at hv ⊢; exact hv
 | .row ..,q,v,h,hv=>by simp only[tS,oJ]at h; subst h; rw[VR]at hv ⊢; exact hv
 | .rp ..,q,v,h,hv=>by simp only[tS,oJ]at h; subst h; rw[VR]at hv ⊢; exact hv
 | .mp _,q,v,h,hv=>by simp only[tS,oJ]at h; subst h; rw[VR]at hv ⊢; exact hv
 | .tm _,q,v,h,hv=>by simp only[tS,oJ]at h; subst h; rw[VR]at hv ⊢; exact hv
 | .junk,q,v,h,hv=>by simp only[tS,oJ]at h; subst h; rw[VR]; trivial
 | .hptr r off,q,v,h,hv=>by
  simp only[tS]at h;split at h
  ·rename_i i hi;simp only[oJ]at h;subst h;have:=iU (μ:=μ) (sV hi);rw[VR]at hv ⊢; rw[this.1,this.2.2]; exact hv
  ·cases h
 | .hs r off l c s,q,v,h,hv=>by
  simp only[tS]at h;split at h
  ·rename_i i hi;simp only[oJ]at h;subst h;have:=iU (μ:=μ) (sV hi);rw[VR]at hv ⊢; rw[this.1,this.2.2]; exact hv
  ·cases h
 | .own r s,q,v,h,hv=>by
  simp only[tS]at h;split at h
  ·rename_i i hi;simp only[oJ]at h;subst h;have:=iU (μ:=μ) (sV hi);rw[VR]at hv ⊢; rw[this.1,this.2.1,this.2.2]; exact hv
  ·cases h
 | .qs r s,q,v,h,hv=>by
  simp only[tS]at h;split at h
  ·rename_i i hi;simp only[oJ]at h;subst h;have:=iU (μ:=μ) (sV hi);rw[VR]at hv ⊢; rw[this.1,this.2.1,this.2.2]; exact hv
  ·cases h
 | .op r j off s,q,v,h,hv=>by
  simp only[tS]at h;split at h
  ·rename_i i hi;simp only[oJ]at h;subst h;have:=iU (μ:=μ) (sV hi);rw[VR]at hv ⊢; rw[this.1,this.2.2]; exact hv
  ·cases h
 | .win r lo n s,q,v,h,hv=>by
  simp only[tS]at h;split at h
  ·rename_i i hi;simp only[oJ]at h;subst h;have:=iU (μ:=μ) (sV hi);rw[VR]at hv ⊢; rw[this.1,this.2.1,this.2.2]; exact hv
  ·cases h
 | .agg cs,q,v,h,hv=>by
  simp only[tS]at h;split at h
  ·rename_i qs hq;simp only[oJ]at h;subst h;rw[VR]at hv ⊢;obtain⟨vs,h1,h2⟩:=hv;exact⟨vs,h1,zN cs qs _ hq h2⟩
  ·cases h
 | .tuple cs,q,v,h,hv=>by
  simp only[tS]at h;split at h
  ·rename_i qs hq;simp only[oJ]at h;subst h;rw[VR]at hv ⊢;obtain⟨vs,h1,h2⟩:=hv;exact⟨vs,h1,zN cs qs _ hq h2⟩
  ·cases h
 | .clo fn f c,q,v,h,hv=>by
  simp only[tS]at h;split at h
  ·rename_i f' c' hf hc;simp only[oJ]at h;subst h;rw[VR]at hv ⊢;obtain⟨fs,cs,h1,h2,h3⟩:=hv;exact⟨fs,cs,h1,zN f f' _ hf h2,zN c c' _ hc h3⟩
  ·cases h
theorem zN {pm:List Nat}:∀ (ps qs:List PV) (vs:List Value),tS.renPs pm ps=some qs->VRs w G μ ps vs->VRs w G (EP μ pm) qs vs
 | [],qs,vs,h,hv=>by
  simp only[tS.renPs,oJ]at h;subst h;rw[VRs]at hv ⊢; exact hv
 | p::ps,qs,vs,h,hv=>by
  simp only[tS.renPs]at h;split at h
  ·rename_i q qs' hq hqs;simp only[oJ]at h;subst h;rw[VRs]at hv ⊢;obtain⟨x,xs,h1,h2,h3⟩:=hv;exact⟨x,xs,h1,aHN p q x hq h2,zN ps qs' xs hqs h3⟩
  ·cases h
end
theorem YI {pm}:∀ {l H'},XO pm H l=some H'->H'.length=l.length/\∀ (i:Nat) k',H'[i]?=some (some k')->∃ s k,l[i]?=some s/\H[s]?=some (some k)/\((k.tag.isSome=true/\k'=k)\/(k.tag=none/\∃ cs,tS.renPs pm k.cells=some cs/\k'={ k with cells:=cs }))
 | [],H',h=>by
  simp only[XO,oJ]at h;grind
 | r::l,H',h=>by
  simp only[XO]at h;split at h
  ·rename_i k hk;split at h
   ·rename_i k1 H1 h1 h2;simp only[oJ]at h;subst h;obtain⟨e1,e2⟩:=YI h2;refine⟨by simp[e1],λi k' hi=>?_⟩;cases i with
    | zero =>
     simp only[List.getElem?_cons_zero,oJ]at hi;subst hi;refine⟨r,k,rfl,aE hk,?_⟩;cases ht:k.tag with
     | some g =>
      grind
     | none =>
      grind
    | succ i =>
     grind
   ·cases h
  ·cases h
theorem aJL(hW:aM n0 G μ H w){pm}(hn:UL pm=true){H'}(h:XO pm H pm=some H'):aM n0 G (EP μ pm) H' w:=by
 obtain⟨hlen,dY⟩:=YI h;refine⟨?_,?_,?_,hW.lt,?_,hW.base,hW.rows.rel (λr s=>pm[r]?=some s) (λr r' s h1 h2=>KE hn h1 h2) (λr k' hr=>?_)⟩
 case refine_5 =>
  obtain⟨s,k,a1,a2,a3⟩:=dY r k' hr;refine⟨s,k,a1,a2,?_⟩;rcases a3 with ⟨_,rfl⟩|⟨_,cs,_,rfl⟩
  ·exact⟨rfl,rfl,rfl,rfl,(iU a1).1⟩
  ·exact⟨rfl,rfl,rfl,rfl,(iU a1).1⟩
 ·intro r k' b hr hb;obtain⟨s,k,a1,a2,a3⟩:=dY r k' hr;rw[(iU a1).1]at hb;obtain⟨c,c1,c2,c3,c4⟩:=hW.blk s k b a2 hb;rw[(iU a1).2.2];rcases a3 with ⟨ht,rfl⟩|⟨ht,cs,hcs,rfl⟩
  ·refine⟨c,c1,?_,c3,c4⟩;obtain⟨g,hg⟩:=Option.isSome_iff_exists.1 ht;have:=(hW.tags s k' g a2 hg).1;rw[this]at c2 ⊢;exact iQ (eA _ _) c2
  ·obtain⟨vs,d1,d2⟩:=c2.values;have d3:=zN _ _ _ hcs d1;exact⟨c,c1,aK.gD d3 d2,λhg=>by rw[c3 hg]; show k.cells.length=cs.length; rw[d1.length,d3.length],c4⟩
 ·intro r k' g hr hg;obtain⟨s,k,a1,a2,a3⟩:=dY r k' hr;rw[(iU a1).2.1];rcases a3 with ⟨ht,rfl⟩|⟨ht,cs,hcs,rfl⟩
  ·exact hW.tags s k' g a2 hg
  ·grind
 ·intro r1 r2 k1 k2 b e1 e2 f1 f2 m1 m2;obtain⟨s1,l1,a1,a2,a3⟩:=dY r1 k1 e1;obtain⟨s2,l2,b1,b2,b3⟩:=dY r2 k2 e2;rw[(iU a1).1]at m1;rw[(iU b1).1]at m2;have fz:∀ {k k':Blk},k'.frozen=false->((k.tag.isSome=true/\k'=k)\/(k.tag=none/\∃ cs,tS.renPs pm k.cells=some cs/\k'={ k with cells:=cs }))->k.frozen=false:=by grind
  have:=hW.inj s1 s2 l1 l2 b a2 b2 (fz f1 a3) (fz f2 b3) m1 m2;subst this;exact KE hn a1 b1
 ·intro r hr;have:pm[r]?=none:=List.getElem?_eq_none (by omega);simp[EP,this]
theorem aCO {pm}:∀ {l F'},aNL pm F l=some F'->∀ t,bB F' t=.junk\/tS pm (bB F t)=some (bB F' t)
 | [],F',h,t=>by
  simp only[aNL,oJ]at h;subst h;exact .inl rfl
 | s::l,F',h,t=>by
  simp only[aNL]at h;split at h
  ·rename_i p F1 hp hl;simp only[oJ]at h;subst h;rw[cS]
   by_cases hs:t=s
   ·grind
   ·rw[if_neg hs]; exact aCO hl t
  grind
theorem V1 {T pm wP F' H'}(h:aHT T pm wP F H=some (F',H'))(hfl:∀ r,¬ r∈T->μi.loc r=none/\μi.len r=none)(hI:I n0 wi Gi μi nt F H a w):I n0 wi Gi μi nt F' H' a w:=by
 obtain⟨hn,h⟩:=aG h;simp only[oA]at hn;obtain⟨hn,hst⟩:=hn;have stay:∀ r,r∈T->pm[r]?=some r:=by
  intro r hr;have:=List.all_eq_true.1 hst r hr;split at this
  ·simp_all
  ·grind
 split at h
 ·rename_i H1 F1 h1 h2;obtain⟨rfl,rfl⟩:=h;obtain⟨G,μ,e,hW,hF⟩:=hI;refine⟨G,EP μ pm,?_,aJL hW hn h1,hF.size,λt=>?_,hF.defers⟩
  ·exact {
    bS:=e.bS
    map:=λr b hr=>by
     by_cases hT:r∈T
     ·rw[(iU (stay r hT)).1]; exact e.map r b hr
     ·grind
    len:=λr b hr=>by
     by_cases hT:r∈T
     ·rw[(iU (stay r hT)).2.1]; exact e.len r b hr
     ·grind
    sh:=λr b hr=>by
     by_cases hT:r∈T
     ·rw[(iU (stay r hT)).2.2]; exact e.sh r b hr
     ·grind
    room:=e.room
    row:=e.row
    os:=e.os
    tape:=e.tape
    output:=e.output
    size:=e.size
    old:=e.old
    new:=e.new }
  ·rcases aCO h2 t with h3|h3
   ·rw[h3,VR]; trivial
   ·exact aHN _ _ _ h3 (hF.slot t)
 ·cases h
theorem rI(hW:aM n0 G μ H w) {s:Nat} {k:Blk} {cs:List PV} (hs:H[s]?=some (some k)) (ht:k.tag=none) (hc:∀ b o,aK w G μ b o k.cells->aK w G μ b o cs/\cs.length=k.cells.length) :
  aM n0 G μ (H.set s (some { k with cells:=cs })) w:=by
 have hsl:s<H.length:=(oO.1 hs).1;have key:∀ (r:Nat) (k':Blk),(H.set s (some { k with cells:=cs }))[r]?=some (some k')->(r=s/\k'={ k with cells:=cs })\/(r≠s/\H[r]?=some (some k')):=by grind
 refine⟨?_,?_,?_,hW.lt,λr hr=>hW.top r (by simpa using hr),hW.base,hW.rows.rel (λr s=>r=s) (λr r' s h1 h2=>h1.trans h2.symm) (λr k' hr=>?_)⟩
 case refine_4 =>
  grind
 ·intro r k' b hr hb;rcases key r k' hr with ⟨rfl,rfl⟩|⟨_,hr⟩
  ·obtain⟨c,c1,c2,c3,c4⟩:=hW.blk r k b hs hb;grind
  ·exact hW.blk r k' b hr hb
 ·intro r k' g hr hg;rcases key r k' hr with ⟨rfl,rfl⟩|⟨_,hr⟩
  ·grind
  ·exact hW.tags r k' g hr hg
 ·intro r1 r2 k1 k2 b e1 e2 f1 f2 m1 m2;have old:∀ (r:Nat) (k':Blk),(H.set s (some { k with cells:=cs }))[r]?=some (some k')->k'.frozen=false->∃ k0,H[r]?=some (some k0)/\k0.frozen=false:=by grind
  obtain⟨l1,a1,a2⟩:=old r1 k1 e1 f1;obtain⟨l2,b1,b2⟩:=old r2 k2 e2 f2;exact hW.inj r1 r2 l1 l2 b a1 b1 a2 b2 m1 m2
theorem II {s i et ty}(hI:I n0 wi Gi μi nt F H a w):I n0 wi Gi μi nt F (MB s i et ty H) a w:=by
 unfold MB;split
 ·rename_i k hk;split
  ·rename_i t' e' rest hcs;cases hb:(!k.tag.isSome)with
   | false=>exact hI
   | true =>
    have htag:k.tag=none:=by simp_all
    obtain⟨G,μ,e0,hW,hF⟩:=hI;obtain⟨e1,w1⟩:=iX hW ⟨aD ty [],et,true,false,some ⟨ty,[]⟩⟩ (on:=some 0) (λg hg=>by cases hg; exact⟨rfl,rfl⟩);have hk':=aE hk;have hsl:s<H.length:=(oO.1 hk').1;have hk2:(H++[some ⟨aD ty [],et,true,false,some ⟨ty,[]⟩⟩])[s]?=some (some k):=by rw[List.getElem?_append_left hsl]; exact hk'
    refine⟨G,_,e0.trans e1,rI w1 hk2 htag ?_,hF.mono e1.toMono⟩;intro b o hc;obtain⟨vs,d1,d2⟩:=hc.values;have d3:=d1.take i;have d4:=d1.drop i;rw[hcs,VRs]at d4;obtain⟨v,vc,e3,d5,d6⟩:=d4;obtain⟨ao,d7⟩:=EB d5;have d8:VRs w G (upd μ H.length none (some 0)) (k.cells.take i++.own H.length ty.size::rest) (vs.take i++v::vc):=VRs.append d3 (by
     refine⟨v,vc,rfl,?_,d6⟩;exact⟨0,gC ..,.inl ⟨rfl,ao,d7⟩⟩)
    rw[<- e3,List.take_append_drop]at d8;exact⟨aK.gD d8 d2,by rw[d8.length,d1.length]⟩
  ·rename_i m' c' rest hcs;cases hb:(Nat.beq m' 0&&Nat.beq c' 0&&!k.tag.isSome)with
   | false=>exact hI
   | true =>
    simp only[oA]at hb;obtain⟨⟨hm,hc⟩,hb⟩:=hb;have hm:=oE hm;have hc:=oE hc;subst hm; subst hc;have htag:k.tag=none:=by simp_all
    obtain⟨G,μ,e0,hW,hF⟩:=hI;obtain⟨e1,w1⟩:=iX hW ⟨aD ty [],et,true,false,some ⟨ty,[]⟩⟩ (on:=some 0) (λg hg=>by cases hg; exact⟨rfl,rfl⟩);have hk':=aE hk;have hsl:s<H.length:=(oO.1 hk').1;have hk2:(H++[some ⟨aD ty [],et,true,false,some ⟨ty,[]⟩⟩])[s]?=some (some k):=by rw[List.getElem?_append_left hsl]; exact hk'
    refine⟨G,_,e0.trans e1,rI w1 hk2 htag ?_,hF.mono e1.toMono⟩;intro b o hc;obtain⟨vs,d1,d2⟩:=hc.values;have d3:=d1.take i;have d4:=d1.drop i;rw[hcs,VRs]at d4;obtain⟨v,vc,e3,d5,d6⟩:=d4;have d8:VRs w G (upd μ H.length none (some 0)) (k.cells.take i++.own H.length ty.size::rest) (vs.take i++v::vc):=VRs.append d3 (by
     refine⟨v,vc,rfl,?_,d6⟩;exact⟨0,gC ..,.inl ⟨rfl,none,d5⟩⟩)
    rw[<- e3,List.take_append_drop]at d8;exact⟨aK.gD d8 d2,by rw[d8.length,d1.length]⟩
  ·exact hI
 ·exact hI
theorem aW:∀ sh F H,I n0 wi Gi μi nt F H a w->I n0 wi Gi μi nt (dZ sh F H).1 (dZ sh F H).2 a w
 | [],F,H,hI=>hI
 | (t,.own e ty)::r,F,H,hI=>by
  have skip:I n0 wi Gi μi nt (dZ r F H).1 (dZ r F H).2 a w:=aW r F H hI;unfold dZ;split
  ·rename_i m c ht;cases hb:(Nat.beq m 0&&Nat.beq c 0)with
   | false=>exact skip
   | true =>
    simp only[oA]at hb;have h1:=oE hb.1;have h2:=oE hb.2;subst h1; subst h2;obtain⟨G,μ,e0,hW,hF⟩:=hI;have hs:=hF.slot t;rw[ht,VR]at hs;obtain⟨e1,w1⟩:=iX hW ⟨aD ty [],e,true,false,some ⟨ty,[]⟩⟩ (on:=some 0) (λg hg=>by cases hg; exact⟨rfl,rfl⟩);refine aW r _ _ ⟨G,_,e0.trans e1,w1,cY.named (hF.mono e1.toMono) ?_⟩;exact⟨0,gC ..,.inl ⟨rfl,none,hs⟩⟩
  ·rename_i t' e' ht;obtain⟨G,μ,e0,hW,hF⟩:=hI;have hs:=hF.slot t;rw[ht]at hs;obtain⟨ao,hs⟩:=EB hs;obtain⟨e1,w1⟩:=iX hW ⟨aD ty [],e,true,false,some ⟨ty,[]⟩⟩ (on:=some 0) (λg hg=>by cases hg; exact⟨rfl,rfl⟩);refine aW r _ _ ⟨G,_,e0.trans e1,w1,cY.named (hF.mono e1.toMono) ?_⟩;exact⟨0,gC ..,.inl ⟨rfl,ao,hs⟩⟩
  ·grind
 | (t,.bown e et ty)::r,F,H,hI=>by
  have skip:I n0 wi Gi μi nt (dZ r F H).1 (dZ r F H).2 a w:=aW r F H hI;unfold dZ;split
  ·rename_i s off ht;split
   ·rename_i k hk;split
    ·rename_i m c hcs;cases hb:(Nat.beq m 0&&Nat.beq c 0&&!k.tag.isSome)with
     | false=>exact skip
     | true =>
      simp only[oC];simp only[oA,Bool.not_eq_true']at hb;have h1:=oE hb.1.1;have h2:=oE hb.1.2;subst h1; subst h2;have htag:k.tag=none:=by
       cases hq:k.tag with
       | none=>rfl
       | some g=>rw[hq]at hb; simp at hb
      obtain⟨G,μ,e0,hW,hF⟩:=hI;obtain⟨e1,w1⟩:=iX hW ⟨aD ty [],et,true,false,some ⟨ty,[]⟩⟩ (on:=some 0) (λg hg=>by cases hg; exact⟨rfl,rfl⟩);have hk':=aE hk;have hsl:s<H.length:=(oO.1 hk').1;have hk2:(H++[some ⟨aD ty [],et,true,false,some ⟨ty,[]⟩⟩])[s]?=some (some k):=by rw[List.getElem?_append_left hsl]; exact hk'
      refine aW r _ _ ⟨G,_,e0.trans e1,rI w1 hk2 htag ?_,hF.mono e1.toMono⟩;intro b o hc;rw[hcs]at hc ⊢;refine⟨?_,rfl⟩;rw[aK]at hc ⊢;obtain⟨⟨v,v1,v2⟩,v3⟩:=hc;refine⟨⟨v,v1,?_⟩,by rw[aK]; trivial⟩;have v4:v=.slice none 0 0:=by simpa only[VR]using v2
      simp only[VR];exact⟨0,gC ..,.inl ⟨rfl,none,v4⟩⟩
    ·exact skip
   ·exact skip
  ·exact skip
 | (_,.int _)::r,F,H,hI=>aW r F H hI
 | (_,.bool)::r,F,H,hI=>aW r F H hI
 | (_,.str)::r,F,H,hI=>aW r F H hI
 | (_,.list _)::r,F,H,hI=>aW r F H hI
 | (_,.agg _)::r,F,H,hI=>aW r F H hI
 | (_,.box _ _)::r,F,H,hI=>aW r F H hI
 | (_,.ptr _)::r,F,H,hI=>aW r F H hI
 | (_,.bque _ _ _)::r,F,H,hI=>aW r F H hI
 | (_,.fn _)::r,F,H,hI=>aW r F H hI
 | (_,.nil0)::r,F,H,hI=>aW r F H hI
 | (_,.val)::r,F,H,hI=>aW r F H hI
 | (_,.nilI)::r,F,H,hI=>aW r F H hI
 | (_,.clo _ _)::r,F,H,hI=>aW r F H hI
 | (_,.win _ _)::r,F,H,hI=>aW r F H hI
 | (_,.hnd _)::r,F,H,hI=>aW r F H hI
 | (_,.mpk _)::r,F,H,hI=>aW r F H hI
 | (_,.ar _ _)::r,F,H,hI=>aW r F H hI
 | (t,.bag2 e t1 et ty eu u)::r,F,H,hI=>by
  unfold dZ;split
  ·exact aW r _ _ (II (II hI))
  ·exact aW r F H hI
 | (t,.bag e t1 et ty t2)::r,F,H,hI=>by
  have skip:I n0 wi Gi μi nt (dZ r F H).1 (dZ r F H).2 a w:=aW r F H hI;unfold dZ;split
  ·rename_i s off ht;split
   ·rename_i k hk;split
    ·rename_i t' e' rest hcs;cases hb:(!k.tag.isSome)with
     | false=>exact skip
     | true =>
      simp only[oC];have htag:k.tag=none:=by
       cases hq:k.tag with
       | none=>rfl
       | some g=>rw[hq]at hb; simp at hb
      obtain⟨G,μ,e0,hW,hF⟩:=hI;obtain⟨e1,w1⟩:=iX hW ⟨aD ty [],et,true,false,some ⟨ty,[]⟩⟩ (on:=some 0) (λg hg=>by cases hg; exact⟨rfl,rfl⟩);have hk':=aE hk;have hsl:s<H.length:=(oO.1 hk').1;have hk2:(H++[some ⟨aD ty [],et,true,false,some ⟨ty,[]⟩⟩])[s]?=some (some k):=by rw[List.getElem?_append_left hsl]; exact hk'
      refine aW r _ _ ⟨G,_,e0.trans e1,rI w1 hk2 htag ?_,hF.mono e1.toMono⟩;intro b o hc;obtain⟨vs,d1,d2⟩:=hc.values;have d3:=d1.take t1.size;have d4:=d1.drop t1.size;rw[hcs,VRs]at d4;obtain⟨v,vc,e3,d5,d6⟩:=d4;obtain⟨ao,d7⟩:=EB d5;have d8:VRs w G (upd μ H.length none (some 0)) (k.cells.take t1.size++.own H.length ty.size::rest) (vs.take t1.size++v::vc):=VRs.append d3 (by
       rw[VRs];refine⟨v,vc,rfl,?_,d6⟩;rw[VR];exact⟨0,gC ..,.inl ⟨rfl,ao,d7⟩⟩)
      rw[<- e3,List.take_append_drop]at d8;exact⟨aK.gD d8 d2,by rw[d8.length,d1.length]⟩
    ·rename_i m' c' rest hcs;cases hb:(Nat.beq m' 0&&Nat.beq c' 0&&!k.tag.isSome)with
     | false=>exact skip
     | true =>
      simp only[oC];simp only[oA]at hb;obtain⟨⟨hm,hc⟩,hb⟩:=hb;have hm:=oE hm;have hc:=oE hc;subst hm; subst hc;have htag:k.tag=none:=by
       cases hq:k.tag with
       | none=>rfl
       | some g=>rw[hq]at hb; simp at hb
      obtain⟨G,μ,e0,hW,hF⟩:=hI;obtain⟨e1,w1⟩:=iX hW ⟨aD ty [],et,true,false,some ⟨ty,[]⟩⟩ (on:=some 0) (λg hg=>by cases hg; exact⟨rfl,rfl⟩);have hk':=aE hk;have hsl:s<H.length:=(oO.1 hk').1;have hk2:(H++[some ⟨aD ty [],et,true,false,some ⟨ty,[]⟩⟩])[s]?=some (some k):=by rw[List.getElem?_append_left hsl]; exact hk'
      refine aW r _ _ ⟨G,_,e0.trans e1,rI w1 hk2 htag ?_,hF.mono e1.toMono⟩;intro b o hc;obtain⟨vs,d1,d2⟩:=hc.values;have d3:=d1.take t1.size;have d4:=d1.drop t1.size;rw[hcs,VRs]at d4;obtain⟨v,vc,e3,d5,d6⟩:=d4;rw[VR]at d5;have d8:VRs w G (upd μ H.length none (some 0)) (k.cells.take t1.size++.own H.length ty.size::rest) (vs.take t1.size++v::vc):=VRs.append d3 (by
       rw[VRs];refine⟨v,vc,rfl,?_,d6⟩;rw[VR];exact⟨0,gC ..,.inl ⟨rfl,none,d5⟩⟩)
      rw[<- e3,List.take_append_drop]at d8;exact⟨aK.gD d8 d2,by rw[d8.length,d1.length]⟩
    ·exact skip
   ·exact skip
  ·exact skip
theorem aR:∀ sh F H,I n0 wi Gi μi nt F H a w->I n0 wi Gi μi nt (qC sh F H).1 (qC sh F H).2 a w
 | [],F,H,hI=>hI
 | (t,.box e (.list ty))::r,F,H,hI=>by
  have skip:I n0 wi Gi μi nt (qC r F H).1 (qC r F H).2 a w:=aR r F H hI;unfold qC;split
  ·rename_i s off ht;split
   ·rename_i k hk;split
    ·rename_i u sz hcs;split
     ·rename_i ku hku;split
      ·rename_i g hg;cases hb:(!k.tag.isSome&&!Nat.beq u s)with
       | false=>exact skip
       | true =>
        have htag:k.tag=none:=by simp_all
        have hne:u≠s:=λe=>by rw[e]at hb; simp at hb
        obtain⟨G,μ,e0,hW,hF⟩:=hI;have hul:u<H.length:=(oO.1 (aE hku)).1;have hk2:(H.set u (some { ku with frozen:=true }))[s]?=some (some k):=by rw[List.getElem?_set_ne hne]; exact aE hk
        have hku2:dY (H.set u (some { ku with frozen:=true })) u=some { ku with frozen:=true }:=by simp only[dY,List.getElem?_set_self hul]
        have fin:∀ {G1:Gd} {w1:World} {μ1:Mp},(∀ b,μ1.loc u=some b->G1 b)->aM n0 G1 μ1 (H.set u (some { ku with frozen:=true })) w1->aM n0 G1 μ1 ((H.set u (some { ku with frozen:=true })).set s (some { k with cells:=[kD g.t g.l none] })) w1:=by
         intro G1 w1 μ1 hGu hW1;refine rI hW1 hk2 htag λb o hc=>?_
         rw[hcs]at hc ⊢;refine⟨?_,rfl⟩;obtain⟨⟨v,v1,v2⟩,v3⟩:=hc;exact⟨⟨v,v1,(rG hW1 v2 hku2 hg (λb h=>h) hGu).aP⟩,by rw[aK]; trivial⟩
        cases hfz:ku.frozen with
        | true =>
         have hsame:H.set u (some { ku with frozen:=true })=H:=by
          apply List.ext_getElem?;intro i
          by_cases hi:u=i
          ·subst hi;rw[List.getElem?_set_self hul,aE hku];obtain⟨k1,k2,k3,k4,k5⟩:=ku;grind
          ·grind
         refine aR r _ _ ⟨G,μ,e0,fin (λb hb=>?_) (by rw[hsame]; exact hW),hF⟩;obtain⟨_,_,_,_,h5,_⟩:=hW.blk u ku b (aE hku) hb;grind
        | false =>
         obtain⟨e1,w1⟩:=qW hW (aE hku) hfz;exact aR r _ _ ⟨_,μ,e0.trans e1,fin (λb hb=>.inr hb) w1,hF.mono e1.toMono⟩
      ·grind
     ·grind
    ·grind
   ·grind
  ·grind
 | (_,.int _)::r,F,H,hI=>aR r F H hI
 | (_,.bool)::r,F,H,hI=>aR r F H hI
 | (_,.str)::r,F,H,hI=>aR r F H hI
 | (_,.list _)::r,F,H,hI=>aR r F H hI
 | (_,.agg _)::r,F,H,hI=>aR r F H hI
 | (_,.box _ (.int _))::r,F,H,hI=>aR r F H hI
 | (_,.box _ .bool)::r,F,H,hI=>aR r F H hI
 | (_,.box _ .str)::r,F,H,hI=>aR r F H hI
 | (_,.box _ (.hnd _))::r,F,H,hI=>aR r F H hI
 | (_,.box _ (.rows _))::r,F,H,hI=>aR r F H hI
 | (_,.box _ .smap)::r,F,H,hI=>aR r F H hI
 | (_,.box _ (.prod _ _))::r,F,H,hI=>aR r F H hI
 | (_,.ptr _)::r,F,H,hI=>aR r F H hI
 | (_,.bque _ _ _)::r,F,H,hI=>aR r F H hI
 | (_,.fn _)::r,F,H,hI=>aR r F H hI
 | (_,.nil0)::r,F,H,hI=>aR r F H hI
 | (_,.val)::r,F,H,hI=>aR r F H hI
 | (_,.nilI)::r,F,H,hI=>aR r F H hI
 | (_,.clo _ _)::r,F,H,hI=>aR r F H hI
 | (_,.win _ _)::r,F,H,hI=>aR r F H hI
 | (_,.hnd _)::r,F,H,hI=>aR r F H hI
 | (_,.mpk _)::r,F,H,hI=>aR r F H hI
 | (_,.ar _ _)::r,F,H,hI=>aR r F H hI
 | (_,.own _ _)::r,F,H,hI=>aR r F H hI
 | (_,.bown _ _ _)::r,F,H,hI=>aR r F H hI
 | (_,.bag _ _ _ _ _)::r,F,H,hI=>aR r F H hI
 | (_,.bag2 _ _ _ _ _ _)::r,F,H,hI=>aR r F H hI
theorem uS {T sh x}(h:pH T sh F H=some x)(hfl:∀ r,¬ r∈T->μi.loc r=none/\μi.len r=none)(hI:I n0 wi Gi μi nt F H a w):I n0 wi Gi μi nt (nZ sh x 0) (vD sh x) a w:=by
 unfold pH at h;replace hI:=pB sh F H hI;split at h;rename_i F0 H0 hd0;rw[hd0]at hI;replace hI:=aR sh F0 H0 hI;split at h;rename_i F1 H1 hd1;rw[hd1]at hI;replace hI:=aW sh F1 H1 hI;split at h;rename_i F2 H2 hd2;rw[hd2]at hI;split at h
 ·split at h
  ·rename_i F' H' ht;obtain⟨hb,h⟩:=aG h;obtain⟨G,μ,e,hW,hF⟩:=V1 ht hfl hI;obtain⟨h1,h2⟩:=LD hW hF.slot sh h;have hH:∀ i:Nat,aAH H'[i]? (vD sh x)[i]?:=by
    intro i;rcases oG i (WL sh)with hl|hl
    ·have:=h2 i hl;rwa[Nat.zero_add]at this
    ·have e1:=oE hb;exact .inl (by rw[List.getElem?_eq_none (by omega),List.getElem?_eq_none (by rw[Q3]; omega)])
   exact⟨G,μ,e,hW.aH9 hH,hF.size,h1,hF.defers⟩
  grind
 grind
end
@[reducible] def Fr(ro:Option Nat):Fence:={ Fence.wide with round:=ro }
def nC(ds:List Deferred) (a:Act):Act:={ a with defers:=a.defers++ds }
theorem aKO ds a:(nC ds a).eval=a.eval:=by rfl
theorem AH ds a d v:(nC ds a).put d v=nC ds (a.put d v):=by cases d <;> rfl
theorem aGL {ro n P f args w R}(h:Calls P f args w R):CallsIn (Fr ro) n P f args w R :=
 (callsIn_wide).2 h
theorem aKX {ro n P row args w R}(h:Rows P row args w R):RowsIn (Fr ro) n P row args w R :=
 λc cs _=>let ⟨v,w',r,s⟩:=h c cs; ⟨v,w',r,stepsIn_wide.2 s⟩
section
variable {P:Program} {ro:Option Nat} {n:Nat} {ds:List Deferred} {Q Q':Exit->Act->World->Prop}
def aAC:Op->Bool
 | .defer _=>true
 | _=>false
def FP(ops:Array Oper):Bool:=ops.toList.all λo=>!aAC o.op
theorem BZ {ops}(h:FP ops=true){o}(ho:o∈ops.toList):∀ c,o.op≠.defer c:=by
 intro c hc;have:=List.all_eq_true.1 h o ho;rw[hc]at this;cases this
theorem aLI {o}(h:∀ c,o.op≠.defer c) ρ:o.semAt ro ρ=execOp ρ o:=by
 cases ro with
 | none=>rfl
 | some l=>exact Oper.semAt_some l ρ o h
theorem Y5 {o:Oper}{a w K K'}(hd:∀ c,o.op≠.defer c)(hK:∀ a w,K a w->K' (nC ds a) w)(hQ:∀ ch a w,Q (.panic ch) a w->Q' (.panic ch) (nC ds a) w)(hno:∀ a w,¬ Q .outgrown a w)(h:o.wp P a w K Q) :
  o.wpIn (Fr ro) n P (nC ds a) w K' Q':=by
 refine⟨λ_ _=>trivial,?_⟩;unfold Oper.wp at h;rw[aKO,aLI hd];generalize (execOp a.eval o).run P w=r at h ⊢;cases r with
 | ok x w' =>
  cases x with
  | value v=>show K' ((nC ds a).put o.dst v) w'; rw[AH]; exact hK _ _ h
  | skip=>show K' ((nC ds a).put o.dst undef) w'; rw[AH]; exact hK _ _ h
  | defer d =>
   have:=hK _ _ h;show K' (({ nC ds a with defers:=d::(nC ds a).defers }:Act).put o.dst undef) w';have e:(({ nC ds a with defers:=d::(nC ds a).defers }:Act).put o.dst undef)=nC ds (({ a with defers:=d::a.defers }:Act).put o.dst undef):=by cases o.dst <;> rfl
   grind
  | enter f args =>
   refine⟨λh=>(by cases h),aGL (Calls.mono h ?_)⟩;rintro e w'' he;cases e with
   | returned v=>show K' ((nC ds a).put o.dst v) w''; rw[AH]; exact hK _ _ he
   | panicked ch=>grind
   | outgrown =>
    obtain⟨a0,w0,h0⟩:=he;grind
  | row row args=>exact⟨λh=>(by cases h),aKX (Rows.mono h λv w'' he=>by rw[AH]; grind)⟩
  | _=>exact h.elim
 | halt x w' =>
  cases x <;> first|exact hQ _ _ _ h|exact h.elim
theorem MD {ops}(hno:∀ a w,¬ Q .outgrown a w)(hQ:∀ e a w,Q e a w->Q' e (nC ds a) w):∀ {l},(∀ o∈l,∀ c,o.op≠.defer c)->∀ {a w},wpList P ops Q l a w->wpListIn (Fr ro) n P ops Q' l (nC ds a) w
 | [],_,a,w,h=>hQ _ _ _ h
 | o::l,hd,a,w,h=>by
  simp only[wpList]at h;unfold wpListIn;split at h
  ·rename_i hw;have hw':Region.wanted o (yielded ops (nC ds a).tmps)=true:=hw;rw[if_pos hw'];rcases h with h|⟨_,a0,w0,h0⟩
   ·exact Y5 (hd o List.mem_cons_self) (λa w hk=>MD hno hQ (λo ho=>hd o (List.mem_cons_of_mem _ ho)) hk) (λ_ _ _ h=>hQ _ _ _ h) hno h
   grind
  ·rename_i hw;have hw':¬ Region.wanted o (yielded ops (nC ds a).tmps)=true:=hw;rw[if_neg hw'];refine⟨λ_ _=>trivial,?_⟩;rw[AH];exact MD hno hQ (λo ho=>hd o (List.mem_cons_of_mem _ ho)) h
theorem YX {ops md}(hno:∀ a w,¬ Q .outgrown a w)(hQ:∀ e a w,Q e a w->Q' e (nC ds a) w)(hd:∀ o∈ops.toList,∀ c,o.op≠.defer c):∀ {fuel listed a w},wpAny P md ops Q fuel listed a w->wpAnyIn (Fr ro) n P md ops Q' fuel listed (nC ds a) w
 | 0,listed,a,w,h=>⟨h.1,hQ _ _ _ h.2⟩
 | fuel+1,listed,a,w,h=>by
  refine⟨λhr=>hQ _ _ _ (h.1 hr),λi hi=>?_⟩;have h2:=h.2 i hi;unfold wpOp at h2;unfold wpOpIn;split
  ·rename_i hn;rw[hn]at h2;exact YX hno hQ hd h2
  ·rename_i o ho;rw[ho]at h2;simp only at h2;have hm:o∈ops.toList:=by grind
   split at h2
   ·rename_i hw;have hw':Region.wanted o (yielded ops (nC ds a).tmps)=true:=hw;rw[if_pos hw'];rcases h2 with h2|⟨_,a0,w0,h0⟩
    ·exact Y5 (hd o hm) (λa w hk=>YX hno hQ hd hk) (λ_ _ _ h=>hQ _ _ _ h) hno h2
    ·grind
   ·rename_i hw;have hw':¬ Region.wanted o (yielded ops (nC ds a).tmps)=true:=hw;rw[if_neg hw'];refine⟨λ_ _=>trivial,?_⟩;rw[AH];exact YX hno hQ hd h2
end
def Marks(wi w:World) (G:Gd):List Deferred->Prop
 | []=>True
 | d::ds=>(∃ b,d={ target:=.collected b,args:=#[] }/\w.heap[b]?=some (.deferred (some []))/\wi.heap.size<=b/\¬ G b/\∀ d'∈ds,d'≠d)/\Marks wi w G ds
theorem Marks.mem {wi w G}:∀ {ds},Marks wi w G ds->∀ d∈ds,∃ b,d={ target:=.collected b,args:=#[] }/\w.heap[b]?=some (.deferred (some []))/\wi.heap.size<=b/\¬ G b
 | [],_,d,hd=>by grind
 | x::ds,h,d,hd=>by
  rcases List.mem_cons.1 hd with rfl|hd
  ·obtain⟨b,h1,h2,h3,h4,_⟩:=h.1;grind
  ·exact Marks.mem h.2 d hd
theorem Marks.to {wi w w' G G'}:∀ {ds},Marks wi w G ds->(∀ b,({ target:=.collected b,args:=#[] })∈ds->w.heap[b]?=some (.deferred (some []))->¬ G b->w'.heap[b]?=some (.deferred (some []))/\¬ G' b)->Marks wi w' G' ds
 | [],_,_=>trivial
 | x::ds,h,hs=>by
  obtain⟨⟨b,rfl,h2,h3,h4,h5⟩,h6⟩:=h;obtain⟨k1,k2⟩:=hs b List.mem_cons_self h2 h4;exact⟨⟨b,rfl,k1,h3,k2,h5⟩,Marks.to h6 λb hb=>hs b (List.mem_cons_of_mem _ hb)⟩
def IM(n0:Nat->Prop) (wi:World) (Gi:Gd) (μi:Mp) (nt:Nat) (F:Frm) (H:Heap) (a:Act) (w:World):Prop :=
 ∃ G μ,Ext n0 wi Gi μi w G μ/\aM n0 G μ H w/\cY w G μ nt F { a with defers:=[] }/\Marks wi w G a.defers
section
variable {P:Program} {E:Env} {n0 n1:Nat->Prop} {w w' wi:World} {G G' Gi:Gd} {μ μ' μi:Mp} {H:Heap} {F:Frm} {a:Act} {nt:Nat}
theorem Ext.wider (h:Ext n1 w G μ w' G' μ')(hn:∀ b,n1 b->n0 b):Ext n0 w G μ w' G' μ' :=
 ⟨h.toMono,h.os,h.tape,h.output,h.size,λb hb hnb=>h.old b hb λh1=>hnb (hn b h1),λb hb=>(h.new b hb).imp id (hn b)⟩
theorem aM.wider (h:aM n1 G μ H w)(hn:∀ b,n1 b->n0 b):aM n0 G μ H w :=
 ⟨λr k b hr hb=>by
  obtain⟨c,h1,h2,h3,h4,h5⟩:=h.blk r k b hr hb;grind,h.tags,h.inj,h.lt,h.top,λb hb=>hn b (h.base b hb),h.rows.OG λ_ b _=>hn b⟩
theorem aM.less (h:aM n0 G μ H w) {S:Nat->Prop} (hS:∀ b,S b->b<w.heap.size/\(∀ c t fr,w.heap[b]?≠some (.cells c t fr))/\∀ es clk,w.heap[b]?≠some (.map es clk)):aM (λb=>n0 b/\¬ S b) G μ H w :=
 ⟨λr k b hr hb=>by
  obtain⟨c,h1,h2,h3,h4,h5⟩:=h.blk r k b hr hb;exact⟨c,h1,h2,h3,h4,λhf=>⟨⟨(h5 hf).1,λhs=>(hS b hs).2.1 _ _ _ h1⟩,(h5 hf).2⟩⟩,h.tags,h.inj,h.lt,h.top,λb hb=>⟨h.base b hb,λhs=>Nat.lt_irrefl _ (Nat.lt_of_lt_of_le (hS b hs).1 hb)⟩,h.rows.OG λj b hj hn=>⟨hn,λhs=>by
   rcases h.rows.cel j b hj with ⟨c,t,fr,hc⟩|⟨es,clk,hc⟩
   ·grind
   ·exact(hS b hs).2.2 es clk hc⟩⟩
theorem cY.same (h:cY w G μ nt F a):cY w G μ nt F { a with defers:=[] }:=⟨h.size,h.slot,rfl⟩
theorem I.aUK (h:I n0 wi Gi μi nt F H a w):IM n0 wi Gi μi nt F H a w:=by
 obtain⟨G,μ,e,hW,hF⟩:=h;refine⟨G,μ,e,hW,hF.same,?_⟩;rw[hF.defers]; trivial
theorem SP {nt:Nat} {id:Nat} {ops:Array Oper} {draw:Bool} {F:Frm} {H:Heap} {α:Type} {z:α} {k:Frm->Heap->Option α} (hcl:bN P (cJ P E)) (hP:P.follows .mixedOrders=true) (hd:FP ops=true) (h:uB P E nt ops draw F H k=some z) :
  ∃ F' H',k F' H'=some z/\∀ {ro:Option Nat} {n:Nat} {n0 wi Gi μi} {a w} {Q:Exit->Act->World->Prop},IM n0 wi Gi μi nt F H a w->(∀ a' w',a'.defers=a.defers->IM n0 wi Gi μi nt F' H' a' w'->Q .normal a' w')->(Code.region id ops draw).wpIn (Fr ro) n P Q a w:=by
 have core:∃ F' H',k F' H'=some z/\∀ {ro:Option Nat} {n:Nat} {n0 wi Gi μi} {a w} {ds:List Deferred} {Q:Exit->Act->World->Prop},I n0 wi Gi μi nt F H a w->(∀ a' w',I n0 wi Gi μi nt F' H' a' w'->Q .normal (nC ds a') w')->(Code.region id ops draw).wpIn (Fr ro) n P Q (nC ds a) w:=by
  cases draw with
  | true =>
   obtain⟨F',H',h2,h3⟩:=EL h;refine⟨F',H',h3,?_⟩;intro ro n n0 wi Gi μi a w ds Q hI hQ;refine wpIn_region_any hP (YX (Q:=λe a' w'=>e=.normal/\I n0 wi Gi μi nt F' H' a' w') (λa w h=>by cases h.1) (λe a' w' h=>by obtain⟨rfl,h⟩:=h; exact hQ a' w' h) (λo ho=>BZ hd ho) ?_);exact HH hcl h2 hI (λa' w' h=>⟨rfl,h⟩)
  | false =>
   unfold uB at h;obtain⟨F',H',h2,h3⟩:=mE h;refine⟨F',H',h3,?_⟩;intro ro n n0 wi Gi μi a w ds Q hI hQ;refine wpIn_region_list (MD (Q:=λe a' w'=>e=.normal/\I n0 wi Gi μi nt F' H' a' w') (λa w h=>by cases h.1) (λe a' w' h=>by obtain⟨rfl,h⟩:=h; exact hQ a' w' h) (λo ho=>BZ hd ho) ?_);exact rU hcl ops.toList F H _ _ h2 hI (λa' w' h=>⟨rfl,h⟩)
 obtain⟨F',H',h1,h2⟩:=core;refine⟨F',H',h1,?_⟩;intro ro n n0 wi Gi μi a w Q hI hQ;obtain⟨G,μ,e,hW,hF,hm⟩:=hI;have hS:∀ b,({ target:=.collected b,args:=#[] }:Deferred)∈a.defers->b<w.heap.size/\(∀ c t fr,w.heap[b]?≠some (.cells c t fr))/\∀ es clk,w.heap[b]?≠some (.map es clk):=by
  intro b hb;obtain⟨b',e1,e2,_⟩:=hm.mem _ hb;grind
 have e0:a=nC a.defers { a with defers:=[] }:=rfl;refine h2 (n0:=λb=>n0 b/\¬ ({ target:=.collected b,args:=#[] }:Deferred)∈a.defers) (wi:=w) (Gi:=G) (μi:=μ) ⟨G,μ,Ext.refl _ _ _ _,hW.less hS,hF⟩ ?_;rintro a' w' ⟨G',μ',e',hW',hF'⟩;have hW2:aM n0 G' μ' H' w':=hW'.wider λb hb=>hb.1
 have hdef:(nC a.defers a').defers=a.defers:=by
  show a'.defers++a.defers=a.defers;rw[hF'.defers]; rfl
 refine hQ _ _ hdef ⟨G',μ',e.trans (e'.wider λb hb=>hb.1),hW2,hF'.same,?_⟩;rw[hdef];refine hm.to λb hb h1 h2=>⟨?_,λhg=>?_⟩
 ·rw[e'.old b (hS b hb).1 (λh=>h.2 hb)]; exact h1
 ·rcases e'.new b hg with h|h
  ·grind
  ·grind
end
def EG(T:List Nat):(l:List (Ex×List (Nat×Kd)))->Ex->Frm->Heap->Option (eB l)
 | [],_,_,_=>none
 | [(e,s)],ex,F,H=>bif aEH e ex then pH T s F H else none
 | (e,s)::b::r,ex,F,H=>bif aEH e ex then (match pH T s F H with|some x=>some (.inl x)|none=>none) else (match EG T (b::r) ex F H with|some y=>some (.inr y)|none=>none)
section
variable {α:Type} (P:Program) (E:Env) (nt aU:Nat) (lt rt:Nat->Option bT) (rd:Bool) (T:List Nat)
def sC:Code->Frm->Heap->(Ex->Frm->Heap->Option α)->Option α
 | .skip,F,H,k=>k .normal F H
 | .label _,F,H,k=>k .normal F H
 | .region _ ops draw,F,H,k=>bif FP ops then uB P E nt ops draw F H λF H=>GG aU F λF=>k .normal F H else none
 | .seq a b,F,H,k=>sC a F H λex F H=>match ex with
  | .normal=>sC b F H k
  | .exit i=>k (.exit i) F H
  | .ret=>k .ret F H
 | .cond c a b,F,H,k=>match ev F c with
  | .lit (.bool t)=>aC3 F c t λF t=>bif t then sC a F H k else sC b F H k
  | _=>none
 | .block id a,F,H,k=>sC a F H λex F H=>match ex with
  | .exit i=>bif Nat.beq i id then k .normal F H else k (.exit i) F H
  | .normal=>k .normal F H
  | .ret=>k .ret F H
 | .loop a,F,H,k=>match lt (aO a)with
  | some s=>match pH T s.sh F H with
   | some x=>aB (s.run x) λz=>aGH s.exits z k
   | none=>none
  | none=>none
 | .rangeFunc _ _ _ a,F,H,k=>bif rd then none else match rt (aO a)with
  | some s=>match pH T s.sh F H with
   | some x=>aB (s.run x) λz=>aGH s.exits z k
   | none=>none
  | none=>none
 | .exit id,F,H,k=>k (.exit id) F H
 | .ret,F,H,k=>k .ret F H
 | _,_,_,_=>none
def Q0(T:List Nat) sh exits (ex:Ex)(F:Frm)(H:Heap):Option (Shape.den sh⊕eB exits):=match ex with
 | .normal=>match pH T sh F H with
  | some y=>some (.inl y)
  | none=>none
 | .exit i=>match EG T exits (.exit i) F H with
  | some z=>some (.inr z)
  | none=>none
 | .ret=>match EG T exits .ret F H with
  | some z=>some (.inr z)
  | none=>none
def E8(a:Code) (sh:List (Nat×Kd)) (exits:List (Ex×List (Nat×Kd))) (x:Shape.den sh):Option (Shape.den sh⊕eB exits) :=
 sC P E nt aU lt rt rd T a (nZ sh x 0) (vD sh x) (Q0 T sh exits)
end
def bP:Code->List Code
 | .seq a b=>bP a++bP b
 | .cond _ a b=>bP a++bP b
 | .block _ a=>bP a
 | .loop a=>[.loop a]
 | .rangeFunc g ps as1 a=>[.rangeFunc g ps as1 a]
 | _=>[]
section
variable {α:Type} {P:Program} {E:Env} {nt aU:Nat} {lt rt:Nat->Option bT} {rd:Bool} {T:List Nat}
def aC9(P:Program) (nt:Nat) (rd:Bool) (T:List Nat) (c:Code) (F:Frm) (H:Heap) (r:Ex×Frm×Heap):Prop :=
 ∀ (ro:Option Nat) (n:Nat) (n0:Nat->Prop) (wi:World) (Gi:Gd) (μi:Mp) (a:Act) (w:World),(rd=false->ro=none)->(∀ r,¬ r∈T->μi.loc r=none/\μi.len r=none)->IM n0 wi Gi μi nt F H a w ->
  c.wpIn (Fr ro) n P (λe a' w'=>e=r.1.to/\IM n0 wi Gi μi nt r.2.1 r.2.2 a' w'/\(rd=true->a'.defers=a.defers)) a w
def qL(P:Program)(nt:Nat)(rd:Bool)(T:List Nat)(c:Code)(s:bT):Prop :=
 ∀ x z,s.run x=some z->aC9 P nt rd T c (nZ s.sh x 0) (vD s.sh x) (rP s.exits z)
def CB(P:Program)(nt:Nat)(lt rt:Nat->Option bT)(rd:Bool)(T:List Nat):Code->Prop
 | .loop a=>∀ s,lt (aO a)=some s->qL P nt rd T (.loop a) s
 | .rangeFunc g ps as1 a=>rd=false->∀ s,rt (aO a)=some s->qL P nt rd T (.rangeFunc g ps as1 a) s
 | _=>True
theorem IM.WG {n0 wi Gi μi F F' H a w}(h:IM n0 wi Gi μi nt F H a w)(hF:∀ t,bB F' t=bB F t\/bB F' t=.junk):IM n0 wi Gi μi nt F' H a w:=by
 obtain⟨G,μ,e,hW,hI,hm⟩:=h;refine⟨G,μ,e,hW,⟨hI.size,λt=>?_,rfl⟩,hm⟩;rcases hF t with h1|h1
 ·rw[h1]; exact hI.slot t
 ·rw[h1,VR]; simp
theorem IM.same {n0:Nat->Prop} {wi:World} {Gi:Gd} {μi:Mp} {F F':Frm} {H H':Heap} {a:Act} {w:World} (hfl:∀ r,¬ r∈T->μi.loc r=none/\μi.len r=none)
  (hs:∀ {n0:Nat->Prop} {wi:World} {Gi:Gd} {μi:Mp} {a:Act},(∀ r,¬ r∈T->μi.loc r=none/\μi.len r=none)->I n0 wi Gi μi nt F H a w->I n0 wi Gi μi nt F' H' a w) (h:IM n0 wi Gi μi nt F H a w):IM n0 wi Gi μi nt F' H' a w:=by
 obtain⟨G,μ,e,hW,hF,hm⟩:=h;have hS:∀ b,({ target:=.collected b,args:=#[] }:Deferred)∈a.defers->b<w.heap.size/\(∀ c t fr,w.heap[b]?≠some (.cells c t fr))/\∀ es clk,w.heap[b]?≠some (.map es clk):=by
  intro b hb;obtain⟨b',e1,e2,_⟩:=hm.mem _ hb;grind
 have e0:Ext (λb=>n0 b/\¬ ({ target:=.collected b,args:=#[] }:Deferred)∈a.defers) w G μi w G μ:=⟨⟨λ_ h=>⟨h,rfl⟩,e.map,e.len,λ_ _ h=>h,λ_ _ h=>h,e.sh⟩,rfl,rfl,rfl,oM _,λ_ _ _=>rfl,λ_ h=>.inl h⟩;obtain⟨G',μ',e',hW',hF'⟩:=hs (n0:=λb=>n0 b/\¬ ({ target:=.collected b,args:=#[] }:Deferred)∈a.defers) (wi:=w) (Gi:=G) (μi:=μi) (a:={ a with defers:=[] }) hfl ⟨G,μ,e0,hW.less hS,hF⟩;refine⟨G',μ',?_,hW'.wider λb hb=>hb.1,hF',hm.to λb hb h1 h2=>⟨h1,λhg=>?_⟩⟩
 ·exact {
   bS:=λb hb=>⟨(e'.bS b (e.bS b hb).1).1,(e.bS b hb).2⟩
   map:=e'.map
   len:=e'.len
   sh:=e'.sh
   room:=e.room
   row:=λj b hj=>e'.row j b (e.row j b hj)
   os:=e.os
   tape:=e.tape
   output:=e.output
   size:=e.size
   old:=e.old
   new:=λb hb=>by
    rcases e'.new b hb with h|h
    ·exact e.new b h
    ·exact .inr h.1 }
 ·rcases e'.new b hg with h|h
  ·grind
  ·grind
theorem IM.dec {n0 wi Gi μi F H a w}(hfl:∀ r,¬ r∈T->μi.loc r=none/\μi.len r=none){sh x}(h:pH T sh F H=some x)(hI:IM n0 wi Gi μi nt F H a w):IM n0 wi Gi μi nt (nZ sh x 0) (vD sh x) a w :=
 hI.same hfl λhfl hI=>uS h hfl hI
theorem yR {ex F H}:∀ {l z},EG T l ex F H=some z ->
  (rP l z).1=ex/\∃ sh,∃ x ,pH T sh F H=some x/\(rP l z).2.1=nZ sh x 0/\(rP l z).2.2=vD sh x
 | [],z,_=>Empty.elim z
 | [(e,s)],z,h=>by
  obtain⟨hb,h⟩:=aG h;exact⟨SH hb,s,z,h,rfl,rfl⟩
 | (e,s)::b::r,z,h=>by
  simp only[EG]at h;cases hb:aEH e ex with
  | true =>
   rw[hb]at h;simp only[oC]at h;split at h
   ·rename_i x hx;simp only[oJ]at h;subst h;exact⟨SH hb,s,x,hx,rfl,rfl⟩
   grind
  | false =>
   rw[hb]at h;simp only[oD]at h;split at h
   ·rename_i x hx;simp only[oJ]at h;subst h;exact yR (z:=x) hx
   ·cases h
theorem IM.LS {n0 wi Gi μi F H a w ex}(hfl:∀ r,¬ r∈T->μi.loc r=none/\μi.len r=none){l z}(h:EG T l ex F H=some z)(hI:IM n0 wi Gi μi nt F H a w) :
  (rP l z).1=ex/\IM n0 wi Gi μi nt (rP l z).2.1 (rP l z).2.2 a w:=by
 obtain⟨h1,sh,x,h2,h3,h4⟩:=yR h;exact⟨h1,by rw[h3,h4]; exact hI.dec hfl h2⟩
theorem gR(hcl:bN P (cJ P E))(hP:P.follows .mixedOrders=true):∀ c F H k (z:α),(∀ a∈bP c,CB P nt lt rt rd T a) ->
  sC P E nt aU lt rt rd T c F H k=some z->∃ r ,k r.1 r.2.1 r.2.2=some z/\aC9 P nt rd T c F H r
 | .skip,F,H,k,z,hl,h=>⟨(.normal,F,H),h,λ_ _ _ _ _ _ _ _ _ _ hI=>wpIn_skip ⟨rfl,hI,λ_=>rfl⟩⟩
 | .label l,F,H,k,z,hl,h=>⟨(.normal,F,H),h,λ_ _ _ _ _ _ _ _ _ _ hI=>wpIn_label ⟨rfl,hI,λ_=>rfl⟩⟩
 | .region id ops draw,F,H,k,z,hl,h=>by
  obtain⟨hd,h⟩:=aG h;obtain⟨F1,H1,h1,h2⟩:=SP (id:=id) hcl hP hd h;obtain⟨F2,h3,h4⟩:=vO aU F1 λF=>k .normal F H1
  rw[h3]at h1;exact⟨(.normal,F2,H1),h1,λ_ _ _ _ _ _ _ _ _ _ hI=>h2 hI λa' w' hd' hI'=>⟨rfl,hI'.WG h4,λ_=>hd'⟩⟩
 | .seq x y,F,H,k,z,hl,h=>by
  obtain⟨⟨ex,F1,H1⟩,h1,h2⟩:=gR hcl hP x F H _ z (λa ha=>hl a (by simp[bP,ha])) h;cases ex with
  | normal =>
   obtain⟨r,h3,h4⟩:=gR hcl hP y F1 H1 k z (λa ha=>hl a (by simp[bP,ha])) h1;refine⟨r,h3,λro n n0 wi Gi μi a w hro hfl hI=>wpIn_seq (wpIn_mono (h2 ro n n0 wi Gi μi a w hro hfl hI) ?_)⟩;rintro e a' w' ⟨rfl,hI',hd'⟩;refine wpIn_mono (h4 ro n n0 wi Gi μi a' w' hro hfl hI') ?_;grind
  | exit i =>
   refine⟨(.exit i,F1,H1),h1,λro n n0 wi Gi μi a w hro hfl hI=>wpIn_seq (wpIn_mono (h2 ro n n0 wi Gi μi a w hro hfl hI) ?_)⟩;rintro e a' w' ⟨rfl,hI'⟩;exact⟨rfl,hI'⟩
  | ret =>
   refine⟨(.ret,F1,H1),h1,λro n n0 wi Gi μi a w hro hfl hI=>wpIn_seq (wpIn_mono (h2 ro n n0 wi Gi μi a w hro hfl hI) ?_)⟩;rintro e a' w' ⟨rfl,hI'⟩;exact⟨rfl,hI'⟩
 | .cond c x y,F,H,k,z,hl,h=>by
  simp only[sC]at h;split at h
  ·rename_i t ht;replace h:=zI h ht;have hc:∀ {n0 wi Gi μi a w},IM n0 wi Gi μi nt F H a w->a.eval c=.bool t:=λ{n0 wi Gi μi a w} hI=>by
    obtain⟨G,μ,e,hW,hF,_⟩:=hI;have hc:=aZ hF c;rw[ht,VR]at hc;rw[<- hc];cases c <;> rfl
   cases t with
   | true =>
    obtain⟨r,h3,h4⟩:=gR hcl hP x F H k z (λa ha=>hl a (by simp[bP,ha])) h;exact⟨r,h3,λro n n0 wi Gi μi a w hro hfl hI=>wpIn_cond (hc hI) (h4 ro n n0 wi Gi μi a w hro hfl hI)⟩
   | false =>
    obtain⟨r,h3,h4⟩:=gR hcl hP y F H k z (λa ha=>hl a (by simp[bP,ha])) h;exact⟨r,h3,λro n n0 wi Gi μi a w hro hfl hI=>wpIn_cond (hc hI) (h4 ro n n0 wi Gi μi a w hro hfl hI)⟩
  ·cases h
 | .block id x,F,H,k,z,hl,h=>by
  simp only[sC]at h;obtain⟨⟨ex,F1,H1⟩,h1,h2⟩:=gR hcl hP x F H _ z (λa ha=>hl a (by simp[bP,ha])) h;cases ex with
  | normal =>
   refine⟨(.normal,F1,H1),h1,λro n n0 wi Gi μi a w hro hfl hI=>wpIn_block (wpIn_mono (h2 ro n n0 wi Gi μi a w hro hfl hI) ?_)⟩;rintro e a' w' ⟨rfl,hI'⟩;exact⟨rfl,hI'⟩
  | ret =>
   refine⟨(.ret,F1,H1),h1,λro n n0 wi Gi μi a w hro hfl hI=>wpIn_block (wpIn_mono (h2 ro n n0 wi Gi μi a w hro hfl hI) ?_)⟩;rintro e a' w' ⟨rfl,hI'⟩;exact⟨rfl,hI'⟩
  | exit i =>
   simp only at h1;cases hi:Nat.beq i id with
   | true =>
    rw[hi]at h1;have:=oE hi;subst this;refine⟨(.normal,F1,H1),h1,λro n n0 wi Gi μi a w hro hfl hI=>wpIn_block (wpIn_mono (h2 ro n n0 wi Gi μi a w hro hfl hI) ?_)⟩;rintro e a' w' ⟨rfl,hI'⟩;simp only[Ex.to,Exit.inBlock,if_true];exact⟨trivial,hI'⟩
   | false =>
    rw[hi]at h1;have hne:¬ i=id:=λe=>by rw[e]at hi; simp at hi
    refine⟨(.exit i,F1,H1),h1,λro n n0 wi Gi μi a w hro hfl hI=>wpIn_block (wpIn_mono (h2 ro n n0 wi Gi μi a w hro hfl hI) ?_)⟩;rintro e a' w' ⟨rfl,hI'⟩;simp only[Ex.to,Exit.inBlock,hne,if_false];exact⟨trivial,hI'⟩
 | .loop x,F,H,k,z,hl,h=>by
  simp only[sC]at h;split at h
  ·rename_i s hs;split at h
   ·rename_i x0 hx;obtain⟨y,h1,h2⟩:=kZ h;exact⟨rP s.exits y,zH h2,λro n n0 wi Gi μi a w hro hfl hI=>hl (.loop x) (by simp[bP]) s hs x0 y h1 ro n n0 wi Gi μi a w hro hfl (hI.dec hfl hx)⟩
   ·cases h
  ·cases h
 | .rangeFunc g ps as1 x,F,H,k,z,hl,h=>by
  simp only[sC]at h;cases hrd:rd with
  | true=>rw[hrd]at h; cases h
  | false =>
   rw[hrd]at h;simp only[oD]at h;split at h
   ·rename_i s hs;split at h
    ·rename_i x0 hx;obtain⟨y,h1,h2⟩:=kZ h;refine⟨rP s.exits y,zH h2,λro n n0 wi Gi μi a w hro hfl hI=>?_⟩;have:=hl (.rangeFunc g ps as1 x) (by simp[bP]) hrd s hs x0 y h1 ro n n0 wi Gi μi a w (by rw[hrd]; exact hro) hfl (hI.dec hfl hx);rw[hrd]at this;exact this
    ·cases h
   ·cases h
 | .exit id,F,H,k,z,hl,h=>⟨(.exit id,F,H),h,λ_ _ _ _ _ _ _ _ _ _ hI=>wpIn_exit ⟨rfl,hI,λ_=>rfl⟩⟩
 | .scope x,F,H,k,z,hl,h=>by simp only[sC]at h; cases h
 | .ret,F,H,k,z,hl,h=>⟨(.ret,F,H),h,λ_ _ _ _ _ _ _ _ _ _ hI=>wpIn_ret ⟨rfl,hI,λ_=>rfl⟩⟩
 | .goto l,F,H,k,z,hl,h=>by simp only[sC]at h; cases h
 | .refuse s,F,H,k,z,hl,h=>by simp only[sC]at h; cases h
theorem DO {sh exits ex F H y}(h:Q0 T sh exits ex F H=some y) :
  (∃ x,y=.inl x/\ex=.normal/\pH T sh F H=some x)\/(∃ z,y=.inr z/\ex≠.normal/\EG T exits ex F H=some z):=by
 cases ex with
 | normal =>
  simp only[Q0]at h;grind
 | exit i =>
  simp only[Q0]at h;grind
 | ret =>
  simp only[Q0]at h;grind
theorem xB(hcl:bN P (cJ P E)) (hP:P.follows .mixedOrders=true) {a:Code} {sh:List (Nat×Kd)} {exits:List (Ex×List (Nat×Kd))} {step:Shape.den sh->Option (Shape.den sh⊕eB exits)} (L:Nat)
  (hl:∀ b∈bP a,CB P nt lt rt rd T b) (hr:∀ x,E8 P E nt aU lt rt rd T a sh exits x=step x):qL P nt rd T (.loop a) ⟨sh,exits,bF step L⟩:=by
 intro x z hz ro n n0 wi Gi μi act w hro hfl hI;refine wpIn_loop_ghost (λk a w=>(∃ x,bF step k x=some z/\IM n0 wi Gi μi nt (nZ sh x 0) (vD sh x) a w)/\(rd=true->a.defers=act.defers)) L ⟨⟨x,hz,hI⟩,λ_=>rfl⟩ ?_;rintro k act1 w ⟨⟨x,hz,hI⟩,hdef⟩;cases k with
 | zero=>cases hz
 | succ k =>
  simp only[bF]at hz;split at hz
  ·rename_i y hs;rw[<- hr]at hs;obtain⟨⟨ex,F',H'⟩,h1,h2⟩:=gR hcl hP a _ _ _ _ hl hs;refine wpIn_mono (h2 ro n n0 wi Gi μi act1 w hro hfl hI) ?_;rintro e a' w' ⟨rfl,hI',hd'⟩;rcases DO h1 with ⟨y',e1,e2,e3⟩|⟨z',e1,_,_⟩
   ·cases e1;subst e2;exact⟨k,by omega,⟨y,hz,hI'.dec hfl e3⟩,λhr=>(hd' hr).trans (hdef hr)⟩
   ·cases e1
  ·rename_i y hs;simp only[oJ]at hz;subst hz;rw[<- hr]at hs;obtain⟨⟨ex,F',H'⟩,h1,h2⟩:=gR hcl hP a _ _ _ _ hl hs;refine wpIn_mono (h2 ro n n0 wi Gi μi act1 w hro hfl hI) ?_;rintro e a' w' ⟨rfl,hI',hd'⟩;rcases DO h1 with ⟨y',e1,e2,e3⟩|⟨z',e1,e2,e3⟩
   ·cases e1
   ·cases e1;obtain⟨h3,h5⟩:=hI'.LS hfl e3;have h6:(rd=true->a'.defers=act.defers):=λhr=>(hd' hr).trans (hdef hr)
    cases ex with
    | normal=>exact absurd rfl e2
    | exit i=>exact⟨by rw[h3],h5,h6⟩
    | ret=>exact⟨by rw[h3],h5,h6⟩
  ·cases hz
end
def FM:Kd->Nat->List Nat
 | .own _ _,n|.box _ _,n|.bown _ _ _,n|.bque _ _ _,n|.bag _ _ _ _ _,n|.bag2 _ _ _ _ _ _,n=>[n]
 | .win j _,_=>[j]
 | _,_=>[]
def r8:List (Nat×Kd)->Nat->List Nat
 | [],_=>[]
 | (_,k)::r,n=>FM k n++r8 r (n+k.pos)
structure Stp (S:Nat->Prop) (B A:World):Prop where
 aU:∀ b,b<B.heap.size->¬ S b->A.heap[b]?=B.heap[b]?
 room:∀ b n,Room B b n->Room A b n
 os:A.os=B.os
 tape:A.tape=B.tape
 output:A.output=B.output
 size:B.heap.size<=A.heap.size
theorem Stp.trans {S A B C}(h:Stp S A B)(k:Stp S B C):Stp S A C :=
 ⟨λb hb hs=>(k.aU b (Nat.lt_of_lt_of_le hb h.size) hs).trans (h.aU b hb hs),λb n hr=>k.room b n (h.room b n hr),k.os.trans h.os,k.tape.trans h.tape,k.output.trans h.output,oR h.size k.size⟩
def KY(P:Program) (gf:FuncId) (ts:List Ty) (ks:List Kd) (f:AS ts->Option (List (aL ks))):Prop :=
 ∀ x all,f x=some all->∀ (m l:Nat) (W:World) (G:Nat->Prop) (vs:List Value),Lt W G->VRs W (Gd.of G) aF (GQ ts x) vs ->
  ∀ (J Jx:List (aL ks)->(Nat->Prop)->(Nat->Prop)->World->Prop),
  (∀ pre e post T X B T' X' A us Gx m',all=pre++e::post->J pre T X B->Stp X B A->(∀ b,T' b->(T b\/B.heap.size<=b)/\b<A.heap.size)->(∀ b,X' b->T' b/\(X b\/B.heap.size<=b)) ->
   (∀ b,Gx b->(G b\/T' b)/\¬ X' b)->VRs A (Gd.of Gx) aF (eX ks e) us ->
   YieldAt Fence.wide m' P l us.toArray A λen C =>
    ((∀ b,b<A.heap.size->G b\/T' b->C.heap[b]?=A.heap[b]?)/\(∀ b n,Room A b n->Room C b n)/\A.heap.size<=C.heap.size)/\((en=.returned (.bool true)/\J (pre++[e]) T' X' C)\/(en=.returned (.bool false)/\Jx (pre++[e]) T' X' C))) ->
  J [] (λ_=>False) (λ_=>False) W ->
  CallsIn Fence.wide m P gf ((#[.func (.yield l) #[] #[]]:Array Value)++vs.toArray) W λen C=>(∃ v,en=.returned v)/\∃ T X B,Stp X B C/\(J all T X B\/∃ pre,Jx pre T X B)
def sM {σ τ ε:Type} (step:σ->ε->Option (σ⊕τ)) (fin:σ->Option τ):List ε->σ->Option τ
 | [],y=>fin y
 | e::es,y=>match step y e with
  | some (.inl y')=>sM step fin es y'
  | some (.inr z)=>some z
  | none=>none
def aCU:List Nat->List PV->Frm->Frm
 | t::ts,p::ps,F=>aCU ts ps ((t,p)::F)
 | _,_,F=>F
def aSR(sh:List (Nat×Kd)) (exits:List (Ex×List (Nat×Kd))) (F0:Frm) (ex:Ex) (_:Frm) (H:Heap):Option (Shape.den sh⊕eB exits):=Q0 [] sh exits ex F0 H
def IC(P:Program)(E:Env)(nt aU:Nat)(lt rt:Nat->Option bT)(ps:List Nat)(assign body:Code) ks sh exits (y:Shape.den sh)(e:aL ks):Option (Shape.den sh⊕eB exits) :=
 bif Nat.beq ps.length ks.length&&ps.all (λt=>Nat.blt t nt) then
  sC P E nt aU lt rt true (r8 sh 0) assign (aCU ps (eX ks e) (nZ sh y 0)) (vD sh y) λex F H=>match ex with
   | .normal=>sC P E nt aU lt rt true (r8 sh 0) body F H (aSR sh exits (nZ sh y 0))
   | _=>none
 else none
def aGR sh exits (y:Shape.den sh):Option (eB exits):=EG [] exits .normal (nZ sh y 0) (vD sh y)
def RU(sh:List (Nat×Kd)) (exits:List (Ex×List (Nat×Kd))) {ε:Type} (all:Shape.den sh->Option (List ε)) (step:Shape.den sh->ε->Option (Shape.den sh⊕eB exits)) (x:Shape.den sh):Option (eB exits) :=
 match all x with
 | some l=>sM step (aGR sh exits) l x
 | none=>none
def TR(gf:FuncId) (ts:List Ty) (sh:List (Nat×Kd)) (g:Operand) (x:Shape.den sh):Option (AS ts):=bif ts.all Ty.plain then Y2 gf ts (ev (nZ sh x 0) g) else none
section
variable {P:Program} {n0:Nat->Prop} {w wi:World} {G Gi:Gd} {μ μi:Mp} {H:Heap} {F:Frm} {a:Act} {nt:Nat}
theorem tF {l:Nat} {o o':Obj} (hl:w.heap[l]?=some o) (ho:(∀ c t fr,o≠.cells c t fr)/\∀ es clk,o≠.map es clk) (hG:¬ G l):Mono w G μ (w.putObj l o') G μ :=
 ⟨λb hb=>⟨hb,World.putObj_heap_other (by rintro rfl; exact hG hb)⟩,λ_ _ h=>h,λ_ _ h=>h,λb n ⟨cs,t,fr,h1,h2⟩=>⟨cs,t,fr,by
  rw[World.putObj_heap_other]
  ·exact h1
  ·rintro rfl;rw[hl]at h1;exact ho.1 cs t fr (oB h1),h2⟩,λ_ _ h=>h,λ_ _ _=>rfl⟩
theorem B0(hW:aM n0 G μ H w){l o o'}(hl:w.heap[l]?=some o)(ho:(∀ c t fr,o≠.cells c t fr)/\∀ es clk,o≠.map es clk)(hG:¬ G l):aM n0 G μ H (w.putObj l o'):=by
 have m:=tF (μ:=μ) (o':=o') hl ho hG;refine⟨?_,hW.tags,hW.inj,hW.lt.step m.bS λb hb=>by rw[World.putObj_size]; exact hW.lt b hb,hW.top,λb hb=>hW.base b (by simp_all),hW.rows.step m.aF (by simp) (λ_=>rfl) (λj b hj=>⟨?_,id,λr k h1 h2 h3=>⟨r,k,h1,h2,h3⟩⟩) (λr k _ _ h1 _ _=>⟨k,h1,rfl,rfl,rfl,rfl⟩)⟩
 case refine_2 =>
  rw[World.putObj_heap_other];rcases hW.rows.cel j _ hj with ⟨c,t,fr,hc⟩|⟨es,clk,hc⟩
  ·grind
  grind
 intro r k b hr hb;obtain⟨c,h1,h2,h3,h4⟩:=hW.blk r k b hr hb;have e:(w.putObj l o').heap[b]?=w.heap[b]?:=by
  rw[World.putObj_heap_other];grind
 exact⟨c,e.trans h1,aK.mono m e _ _ h2,h3,h4⟩
theorem E3 {l o o'}(hl:w.heap[l]?=some o)(ho:(∀ c t fr,o≠.cells c t fr)/\∀ es clk,o≠.map es clk)(hG:¬ G l)(hn:n0 l):Ext n0 w G μ (w.putObj l o') G μ :=
 {toMono:=tF hl ho hG
  os:=rfl
  tape:=rfl
  output:=rfl
  size:=by simp
  old:=λb hb hnb=>World.putObj_heap_other (by grind)
  new:=λb hb=>.inl hb }
theorem aHY {T X T' Gx G1:Nat->Prop} {A B:World} (hW:aM (λb=>n0 b/\¬ T b) G μ H B) (hn:∀ b,T b->n0 b) (hTX:∀ b,X b->T b) (hGX:∀ b,G b->¬ X b) (hG1:∀ b,G1 b->G b) (st:Stp X B A) (hT:∀ b,T' b->(T b\/B.heap.size<=b)/\b<A.heap.size) (hx:∀ b,Gx b->G1 b\/T' b) :
  Ext n0 B G μ A (G.or Gx) μ:={
 bS:=λb hb=>⟨.inl hb,st.aU b (hW.lt b hb) (hGX b hb)⟩
 map:=λ_ _ h=>h
 len:=λ_ _ h=>h
 room:=st.room
 row:=λ_ _ h=>h
 os:=st.os
 tape:=st.tape
 output:=st.output
 size:=st.size
 old:=λb hb hnb=>st.aU b hb λhs=>hnb (hn b (hTX b hs))
 new:=λb hb=>by
  rcases hb with hb|hb
  ·grind
  ·rcases hx b hb with h|h
   ·grind
   ·rcases(hT b h).1 with h|h
    ·grind
    ·exact .inr (hW.base b h).1 }
theorem aDM {T X T' Gx G1:Nat->Prop}{A B}(hW:aM (λb=>n0 b/\¬ T b) G μ H B)(hTX:∀ b,X b->T b)(hGX:∀ b,G b->¬ X b)(hG1:∀ b,G1 b->G b)(st:Stp X B A)(hT:∀ b,T' b->(T b\/B.heap.size<=b)/\b<A.heap.size)(hx:∀ b,Gx b->G1 b\/T' b) :
  aM (λb=>n0 b/\¬ T' b) (G.or Gx) μ H A:=by
 have m:Mono B G μ A (G.or Gx) μ:=⟨λb hb=>⟨.inl hb,st.aU b (hW.lt b hb) (hGX b hb)⟩,λ_ _ h=>h,λ_ _ h=>h,st.room,λ_ _ h=>h,λ_ _ _=>rfl⟩;refine⟨?_,hW.tags,hW.inj,?_,hW.top,λb hb=>⟨(hW.base b (oR st.size hb)).1,λhs=>Nat.lt_irrefl _ (Nat.lt_of_lt_of_le (hT b hs).2 hb)⟩,?_⟩
 case refine_3 =>
  have nT:∀ j b,G.row j=some b->¬ T' b:=λj b hj hs=>by
   obtain⟨a1,a2,_⟩:=hW.rows.sep j b hj;grind
  refine(hW.rows.OG (n1:=λb=>n0 b/\¬ T' b) λj b hj hn=>⟨hn.1,nT j b hj⟩).step m.aF st.size (λ_=>rfl) (λj b hj=>⟨?_,?_,λr k h1 h2 h3=>⟨r,k,h1,h2,h3⟩⟩) (λr k _ _ h1 _ _=>⟨k,h1,rfl,rfl,rfl,rfl⟩)
  ·obtain⟨a1,a2,_⟩:=hW.rows.sep j b hj;exact st.aU b a1 λhx=>a2.2 (hTX b hx)
  ·rintro(h|h)
   ·exact h
   ·grind
 ·intro r k b hr hb;obtain⟨c,h1,h2,h3,h4,h5⟩:=hW.blk r k b hr hb;have hlt:=hW.hZ hr hb;have hns:¬ X b:=by grind
  have e:=st.aU b hlt hns;have nT:k.frozen=false->¬ T' b:=λhf hs=>by grind
  refine⟨c,e.trans h1,aK.mono m e _ _ h2,h3,λhf=>.inl (h4 hf),λhf=>⟨⟨(h5 hf).1.1,nT hf⟩,?_⟩⟩;rintro(h|h)
  ·grind
  ·grind
 ·refine hW.lt.step m.bS ?_;rintro b (hb|hb)
  ·exact Nat.lt_of_lt_of_le (hW.lt b hb) st.size
  ·rcases hx b hb with h|h
   ·exact Nat.lt_of_lt_of_le (hW.lt b (hG1 b h)) st.size
   ·grind
theorem X4:∀ {ps qs us F tmps},ps.length=qs.length->(∀ t∈ps,t<nt)->VRs w G μ qs us->cY w G μ nt F { tmps:=tmps,defers:=[] } ->
  cY w G μ nt (aCU ps qs F) { tmps:=(ps.zip us).foldl (λt (p,v)=>t.setIfInBounds p v) tmps,defers:=[] }
 | [],[],us,F,tmps,_,_,hv,hF=>by exact hF
 | t::ts,q::qs,us,F,tmps,hl,hb,hv,hF=>by
  obtain⟨v,vs,rfl,h1,h2⟩:=hv;simp only[aCU];exact X4 (by grind) (λs hs=>hb s (List.mem_cons_of_mem _ hs)) h2 (hF.cons (hb t List.mem_cons_self) h1)
 | [],_::_,us,F,tmps,hl,_,_,_=>by grind
 | _::_,[],us,F,tmps,hl,_,_,_=>by grind
end
def r7(μ:Mp) (T:List Nat):Mp:=⟨λr=>if r∈T then μ.loc r else none,λr=>if r∈T then μ.len r else none,μ.sh⟩
section
variable {P:Program} {n0:Nat->Prop} {w w' wi:World} {G G' Gi:Gd} {μ μ' μi:Mp} {H:Heap} {F:Frm} {a:Act} {nt:Nat}
theorem rT {T r}(h:r∈T):(r7 μ T).loc r=μ.loc r/\(r7 μ T).len r=μ.len r/\(r7 μ T).sh r=μ.sh r:=by simp[r7,h]
theorem FA {T}:∀ r,¬ r∈T->(r7 μ T).loc r=none/\(r7 μ T).len r=none:=λr h=>by simp[r7,h]
theorem LG T:Ext n0 w G (r7 μ T) w G μ:={
 bS:=λ_ h=>⟨h,rfl⟩
 map:=λr b hr=>by
  by_cases h:r∈T
  ·rw[(rT h).1]at hr; grind
  ·rw[(FA r h).1]at hr; grind
 len:=λr b hr=>by
  by_cases h:r∈T
  ·rw[(rT h).2.1]at hr; omega
  ·rw[(FA r h).2]at hr; grind
 room:=λ_ _ h=>h
 row:=λ_ _ h=>h
 os:=rfl
 tape:=rfl
 output:=rfl
 size:=oM _
 old:=λ_ _ _=>rfl
 new:=λ_ h=>.inl h }
theorem MH:∀ ts x,bU.noRefs (GQ ts x)=true
 | [],_=>rfl
 | t::r,(x,xs)=>by simp only[GQ,bU.noRefs,bU,MH r xs,Bool.and_self]
theorem aJT {T}:∀ k x n {v},(∀ r,r∈FM k n->r∈T)->VR w G μ (qB k x n) v->VR w G (r7 μ T) (qB k x n) v
 | .int _,x,n,v,_,h=>by simp only[qB]at h ⊢; rw[VR]at h ⊢; exact h
 | .bool,x,n,v,_,h=>by simp only[qB]at h ⊢; rw[VR]at h ⊢; exact h
 | .str,x,n,v,_,h=>by simp only[qB]at h ⊢; rw[VR]at h ⊢; exact h
 | .list t,x,n,v,_,h=>(nN (qB (.list t) x n) v rfl h).aP
 | .agg t,x,n,v,_,h=>(nN (qB (.agg t) x n) v (by simp only[qB,bU]; exact vH t x) h).aP
 | .own e t,x,n,v,hT,h=>by
  have:=rT (μ:=μ) (hT n (by simp[FM]));simp only[qB]at h ⊢;rw[VR]at h ⊢; rw[this.1,this.2.1,this.2.2]; exact h
 | .box e t,x,n,v,hT,h=>by
  have:=rT (μ:=μ) (hT n (by simp[FM]));simp only[qB]at h ⊢;rw[VR]at h ⊢; rw[this.1,this.2.2]; exact h
 | .bown e et t,x,n,v,hT,h=>by
  have:=rT (μ:=μ) (hT n (by simp[FM]));simp only[qB]at h ⊢;rw[VR]at h ⊢; rw[this.1,this.2.2]; exact h
 | .bque e et t,x,n,v,hT,h=>by
  have:=rT (μ:=μ) (hT n (by simp[FM]));simp only[qB]at h ⊢;rw[VR]at h ⊢; rw[this.1,this.2.2]; exact h
 | .bag e t1 et t t2,x,n,v,hT,h=>by
  have:=rT (μ:=μ) (hT n (by simp[FM]));simp only[qB]at h ⊢;rw[VR]at h ⊢; rw[this.1,this.2.2]; exact h
 | .bag2 e t1 et t eu u,x,n,v,hT,h=>by
  have:=rT (μ:=μ) (hT n (by simp[FM]));simp only[qB]at h ⊢;rw[VR]at h ⊢; rw[this.1,this.2.2]; exact h
 | .ptr t,x,n,v,_,h=>(nN (qB (.ptr t) x n) v rfl h).aP
 | .fn g,x,n,v,_,h=>by simp only[qB]at h ⊢; rw[VR]at h ⊢; exact h
 | .nil0,x,n,v,_,h=>by simp only[qB]at h ⊢; rw[VR]at h ⊢; exact h
 | .val,x,n,v,_,h=>by simp only[qB]at h ⊢; rw[VR]at h ⊢; exact h
 | .hnd sz,x,n,v,_,h=>(nN (qB (.hnd sz) x n) v rfl h).aP
 | .mpk j,x,n,v,_,h=>(nN (qB (.mpk j) x n) v rfl h).aP
 | .ar e t,x,n,v,_,h=>by simp only[qB]; rw[VR]; trivial
 | .nilI,x,n,v,_,h=>by simp only[qB]at h ⊢; rw[VR]at h ⊢; exact h
 | .clo g ts,x,n,v,_,h=>(nN (qB (.clo g ts) x n) v (by simp only[qB,bU,bU.noRefs,MH ts x,Bool.and_self]) h).aP
 | .win j sz,x,n,v,hT,h=>by
  have:=rT (μ:=μ) (hT j (by simp[FM]));simp only[qB]at h ⊢;rw[VR]at h ⊢; rw[this.1,this.2.1,this.2.2]; exact h
theorem XR {T}:∀ sh x n {t v},(∀ r,r∈r8 sh n->r∈T)->VR w G μ (bB (nZ sh x n) t) v->VR w G (r7 μ T) (bB (nZ sh x n) t) v
 | [],_,_,t,v,_,h=>by simp only[nZ,bB]; rw[VR]; trivial
 | (s,k)::r,(x,xs),n,t,v,hT,h=>by
  simp only[nZ]at h ⊢;rw[cS]at h ⊢
  by_cases hs:t=s
  ·rw[if_pos hs]at h ⊢;exact aJT k x n (λr hr=>hT r (by simp only[r8]; grind)) h
  ·rw[if_neg hs]at h ⊢;exact XR r xs (n+k.pos) (λr hr=>hT r (by simp only[r8]; grind)) h
theorem QU(hW:aM n0 G μ H w) (o:Obj):Ext n0 w G μ (w.alloc o) G μ/\aM n0 G μ H (w.alloc o):=by
 have e:Ext n0 w G μ (w.alloc o) G μ:={
  bS:=λb hb=>⟨hb,Below.heap_alloc _ _ _ (hW.lt b hb)⟩
  map:=λ_ _ h=>h
  len:=λ_ _ h=>h
  room:=λb n hc=>by
   obtain⟨cs,t,fr,h1,h2⟩:=hc;exact⟨cs,t,fr,by rw[Below.heap_alloc _ _ _ (eI h1)]; exact h1,h2⟩
  row:=λ_ _ h=>h
  os:=rfl
  tape:=rfl
  output:=rfl
  size:=by simp
  old:=λb hb _=>Below.heap_alloc _ _ _ hb
  new:=λb hb=>.inl hb }
 exact⟨e,hW.aU e ⟨λ_=>rfl,λj b hj=>⟨Below.heap_alloc _ _ _ (hW.rows.sep j b hj).1,id⟩⟩ (λr k b hr hb=>⟨Below.heap_alloc _ _ _ (hW.hZ hr hb),id⟩) λb hb=>Nat.lt_of_lt_of_le (hW.lt b hb) e.size⟩
theorem Ext.plain (h:Ext n0 w G μ w' G' μ'):Ext n0 w G aF w' G' aF :=
 {bS:=h.bS,map:=λ_ _ h=>(by cases h),len:=λ_ _ h=>(by cases h),room:=h.room,row:=h.row,os:=h.os,tape:=h.tape,output:=h.output,size:=h.size,old:=h.old,new:=h.new }
theorem Ext.back (hfl:∀ r,μi.loc r=none/\μi.len r=none)(h:Ext n0 w G aF w' G' aF):Ext n0 w G μi w' G' μ' :=
 {bS:=h.bS,map:=λr b hr=>(by grind),len:=λr b hr=>(by grind),sh:=λr b hr=>(by grind),room:=h.room,row:=h.row,os:=h.os,tape:=h.tape,output:=h.output,size:=h.size,old:=h.old,new:=h.new }
def Ex.code:Ex->Code
 | .normal=>.skip
 | .ret=>.ret
 | .exit i=>.exit i
structure Btw (n0:Nat->Prop) (wi:World) (Gi:Gd) (μi:Mp) (nt:Nat) (a:Act) (G0:Gd) (N L D:Nat) (F:Frm) (H:Heap) (T X:Nat->Prop) (B:World) (rec:Obj) (G:Gd) (μ:Mp):Prop where
 ext:Ext n0 wi Gi μi B G μ
 winv:aM (λb=>n0 b/\¬ T b) G μ H B
 finv:cY B G μ nt F { a with defers:=[] }
 base:∀ b,G0 b->G b
 bS:∀ b,G b->¬ X b
 sub:∀ b,X b->T b
 seq:∀ b,T b->n0 b/\N<=b
 size:N<=B.heap.size
 notL:¬ G L
 notD:¬ G D
 atL:B.heap[L]?=some rec
 atD:B.heap[D]?=some (.deferred (some []))
 marks:Marks wi B G a.defers
theorem aK3 {gf ts c v}(h:VR w G aF (.clo (.func gf) [] (GQ ts c)) v):∃ cs ,v=.func (.func gf) #[] cs/\VRs w G aF (GQ ts c) cs.toList:=by
 obtain⟨fs,cs,h1,h2,h3⟩:=h;rw[VRs]at h2
 simp_all
theorem HS:∀ l x,(eX l x).length=l.length
 | [],_=>rfl
 | k::r,(x,xs)=>by simp only[eX,List.length_cons,HS r xs]
set_option maxHeartbeats 2000000 in
theorem aOF {E:Env} {aU:Nat} {lt rt:Nat->Option bT} (hcl:bN P (cJ P E)) (hP:P.follows .mixedOrders=true) {g:Operand} {ps:Array Tmp} {as1 body:Code} {gf:FuncId} {ts:List Ty} {ks:List Kd} {f:AS ts->Option (List (aL ks))}
  (hit:KY P gf ts ks f) (hgf:∀ args w,(callFunc gf args).run P w=.ok (.enter gf args) w)
  {sh:List (Nat×Kd)} {exits:List (Ex×List (Nat×Kd))} {step:Shape.den sh->aL ks->Option (Shape.den sh⊕eB exits)} {all:Shape.den sh->Option (List (aL ks))}
  (has:∀ b∈bP as1,CB P nt lt rt true (r8 sh 0) b) (hbd:∀ b∈bP body,CB P nt lt rt true (r8 sh 0) b)
  (hsq:∀ x l,all x=some l->∃ c,TR gf ts sh g x=some c/\f c=some l)
  (hr:∀ y e,IC P E nt aU lt rt ps.toList as1 body ks sh exits y e=step y e) :
  qL P nt false [] (.rangeFunc g ps as1 body) ⟨sh,exits,RU sh exits all step⟩:=by
 intro x z hz ro n n0 wi Gi μi a w hro hfl0 hI;have hfl:∀ r,μi.loc r=none/\μi.len r=none:=λr=>hfl0 r (by simp)
 have hro:=hro rfl;subst hro;show (Code.rangeFunc g ps as1 body).wpIn Fence.wide n P _ a w;dsimp only at hz hI ⊢;unfold RU at hz;obtain⟨lst,hall⟩:∃ lst,all x=some lst:=by
  cases h:all x with
  | none=>rw[h]at hz; cases hz
  | some l=>exact⟨l,rfl⟩
 rw[hall]at hz;dsimp only at hz;obtain⟨c,hc1,hc2⟩:=hsq x lst hall;obtain⟨G,μ,e,hW,hF,hm⟩:=hI;have hgv:VR w G μ (ev (nZ sh x 0) g) (a.eval g):=by
  have:=aZ hF g;have e1:({ a with defers:=[] }:Act).eval g=a.eval g:=by cases g <;> rfl
  rwa[e1]at this
 obtain⟨hpl0,hc1⟩:=aG hc1;obtain⟨lb,hg,hvs⟩:=aK3 (EN hc1 hgv);refine wpIn_rangeFunc ?_;intro fn _;obtain⟨rec,hrec⟩:∃ rec:LoopState->Option Code->Loop,rec=λst pe=>{ state:=st,pending:=pe,fn,tmps:=a.tmps,params:=ps,assign:=as1,body,defers:=w.heap.size }:=⟨_,rfl⟩
 obtain⟨W1,hW1⟩:∃ W1,(w.alloc (.deferred (some []))).alloc (.loop (rec .ready none))=W1:=⟨_,rfl⟩;obtain⟨L,hLe⟩:∃ L,w.heap.size+1=L:=⟨_,rfl⟩;obtain⟨D,hDe⟩:∃ D,w.heap.size=D:=⟨_,rfl⟩;have hs1:W1.heap.size=w.heap.size+2:=by rw[<- hW1]; simp
 have hL1:W1.heap[L]?=some (.loop (rec .ready none)):=by rw[<- hW1,<- hLe]; have:=World.alloc_heap_new (w.alloc (.deferred (some []))) (.loop (rec .ready none)); rwa[World.size_alloc]at this
 have hD1:W1.heap[D]?=some (.deferred (some [])):=by rw[<- hW1,<- hDe]; exact(Below.heap_alloc _ _ _ (by simp)).trans (World.alloc_heap_new w _)
 obtain⟨a1,a2⟩:=QU (n0:=n0) hW (.deferred (some []));obtain⟨b1,b2⟩:=QU (n0:=n0) a2 (.loop (rec .ready none));rw[hW1]at b1 b2;have eW1:Ext n0 wi Gi μi W1 G μ:=(e.trans a1).trans b1;have hvs1:VRs W1 G aF (GQ ts c) lb.toList:=VRs.mono (a1.toMono.trans b1.toMono).aF _ _ hvs;have hGL:¬ G L:=λh=>by have:=hW.lt L h; omega
 have hGD:¬ G D:=λh=>by have:=hW.lt D h; omega
 have hn0L:n0 L:=hW.base L (by omega);have hn0D:n0 D:=hW.base D (by omega);have marks1:Marks wi W1 G a.defers:=hm.to λb hb h1 h2=>⟨by rw[<- hW1,Below.heap_alloc _ _ _ (by have:=eI h1; simp; omega),Below.heap_alloc _ _ _ (eI h1)]; exact h1,h2⟩
 have markN:∀ b,({ target:=.collected b,args:=#[] }:Deferred)∈a.defers->b<w.heap.size:=by
  intro b hb;obtain⟨b',e1,e2,_⟩:=hm.mem _ hb;have:b=b':=by injection e1 with e1 _; injection e1
  subst this;exact eI e2
 -- the states between the rounds
 let J:List (aL ks)->(Nat->Prop)->(Nat->Prop)->World->Prop:=λpre T X B=>∃ y,sM step (aGR sh exits) (lst.drop pre.length) y=some z/\∃ G' μ',Btw n0 wi Gi μi nt a G W1.heap.size L D (nZ sh y 0) (vD sh y) T X B (.loop (rec .ready none)) G' μ'
 let Jx:List (aL ks)->(Nat->Prop)->(Nat->Prop)->World->Prop:=λpre T X B=>(rP exits z).1≠.normal/\∃ G' μ',Btw n0 wi Gi μi nt a G W1.heap.size L D (rP exits z).2.1 (rP exits z).2.2 T X B (.loop (rec .done (some (rP exits z).1.code))) G' μ'
 refine⟨L,[{ target:=.collected D,args:=#[] }],W1,{ target:=.fn (.func gf) lb,args:=#[.func (.yield L) #[] #[]] },W1,gf,#[.func (.yield L) #[] #[]]++lb,W1,?_,?_,λ_ _=>trivial,?_,λh=>(by cases h),?_⟩
 ·rw[<- hW1,hrec,<- hLe,<- hDe]; exact run_enterLoop_outer _ _ _ _ _
 ·simp only[resolve,hg];simp[go_sem]
 ·simp[invoke,go_sem,hgf]
 ·have hcall:=hit c lst hc2 (n-1) L W1 G.ok lb.toList b2.lt (j9 (G:=G) (G':=Gd.of G.ok) (λb h=>h) _ _ _ (K3 ts c hpl0) hvs1) J Jx ?round ?start
  ·rw[Array.toArray_toList]at hcall;refine hcall.mono ?_;rintro en C ⟨⟨v,rfl⟩,T,X,B,st,hJ⟩;have hstep:∀ {F':Frm} {H':Heap} {st':LoopState} {pe:Option Code} {G':Gd} {μ':Mp},Btw n0 wi Gi μi nt a G W1.heap.size L D F' H' T X B (.loop (rec st' pe)) G' μ' ->
     C.heap[L]?=some (.loop (rec st' pe))/\∀ o,IM n0 wi Gi μi nt F' H' { a with defers:={ target:=.collected D,args:=#[] }::a.defers } (C.putObj L o):=by
    intro F' H' st' pe G' μ' bt;have nS:∀ b,b<W1.heap.size->¬ X b:=λb hb hs=>Nat.lt_irrefl _ (Nat.lt_of_lt_of_le hb (bt.seq b (bt.sub b hs)).2)
    have hLC:C.heap[L]?=some (.loop (rec st' pe)):=(st.aU L (eI bt.atL) (nS L (by omega))).trans bt.atL;have hDC:C.heap[D]?=some (.deferred (some [])):=(st.aU D (eI bt.atD) (nS D (by omega))).trans bt.atD;refine⟨hLC,λo=>?_⟩;have x1:=aHY (T':=λ_=>False) (Gx:=λ_=>False) bt.winv (λb hb=>(bt.seq b hb).1) bt.sub bt.bS bt.base st (λb hb=>hb.elim) (λb hb=>hb.elim);have x2:=(aDM (T':=λ_=>False) (Gx:=λ_=>False) bt.winv bt.sub bt.bS bt.base st (λb hb=>hb.elim) (λb hb=>hb.elim)).wider (n0:=n0) λb hb=>hb.1
    have nL:¬ (G' L\/False):=λh=>h.elim bt.notL id
    have nD:¬ (G' D\/False):=λh=>h.elim bt.notD id
    have x3:=B0 (o':=o) x2 hLC ⟨λ_ _ _ h=>(by cases h),λ_ _ h=>(by cases h)⟩ nL;have x4:=E3 (G:=G'.or λ_=>False) (n0:=n0) (μ:=μ') (o':=o) hLC ⟨λ_ _ _ h=>(by cases h),λ_ _ h=>(by cases h)⟩ nL hn0L;refine⟨G'.or λ_=>False,μ',(bt.ext.trans x1).trans x4,x3,bt.finv.mono (x1.toMono.trans x4.toMono),⟨D,rfl,?_,?_,nD,?_⟩,?_⟩
    ·rw[World.putObj_heap_other (by omega)]; exact hDC
    ·have:=e.size; omega
    ·intro d' hd' he;subst he;have:=markN _ hd';omega
    ·refine bt.marks.to λb hb h1 h2=>⟨?_,λh=>h.elim h2 id⟩
     have hbw:=markN b hb;rw[World.putObj_heap_other (by omega),st.aU b (eI h1) (nS b (by omega))];exact h1
   rcases hJ with ⟨y,hy,G',μ',bt⟩|⟨pre,hne,G',μ',bt⟩
   ·obtain⟨h1,h2⟩:=hstep bt;rw[List.drop_length]at hy;simp only[sM]at hy;have hel:=run_endLoop (P:=P) h1 (by rw[hrec]; simp);have k:=λo=>(h2 o).LS hfl0 hy
    have hpn:(rec .ready none).pending=none:=by rw[hrec]
    rw[hpn]at hel;exact⟨none,_,hel,by rw[(k (.deferred none)).1]; rfl,(k _).2,λh=>by cases h⟩
   ·obtain⟨h1,h2⟩:=hstep bt;have hel:=run_endLoop (P:=P) h1 (by rw[hrec]; simp);have hpn:(rec .done (some (rP exits z).1.code)).pending=some (rP exits z).1.code:=by rw[hrec]
    rw[hpn]at hel;refine⟨some (rP exits z).1.code,_,hel,?_⟩;dsimp only;clear hel hpn h1 bt;generalize rP exits z=zz at hne h2 ⊢;obtain⟨ex,F',H'⟩:=zz;cases ex with
    | normal=>exact absurd rfl hne
    | ret=>exact wpIn_ret ⟨rfl,h2 _,λh=>by cases h⟩
    | exit i=>exact wpIn_exit ⟨rfl,h2 _,λh=>by cases h⟩
  case start =>
   refine⟨x,by simpa using hz,G,μ,eW1,b2.wider λb hb=>⟨hb,id⟩,hF.mono (a1.toMono.trans b1.toMono),λb h=>h,λb _ h=>h,λb h=>h.elim,λb h=>h.elim,oM _,hGL,hGD,hL1,hD1,marks1⟩
  case round =>
   rintro pre el post T X B T' X' A us Gx m' hlst ⟨y,hy,G',μ',bt⟩ st hT' hX' hGx hus;have hdrop:lst.drop pre.length=el::post:=by rw[hlst]; simp
   have hdrop2:lst.drop (pre++[el]).length=post:=by rw[hlst]; simp
   rw[hdrop]at hy;simp only[sM]at hy;obtain⟨v,hv⟩:∃ v,step y el=some v:=by
    cases h:step y el with
    | none=>rw[h]at hy; cases hy
    | some v=>exact⟨v,rfl⟩
   have hrg:=hr y el;rw[hv]at hrg;unfold IC at hrg;obtain⟨hck,hrg⟩:=aG hrg;simp only[oA,List.all_eq_true]at hck;have hpl:=oE hck.1;have hpt:∀ t∈ps.toList,t<nt:=λt ht=>cF (hck.2 t ht)
   -- the world in which the element comes
   have nT:∀ b,b<W1.heap.size->¬ T b:=λb hb hs=>Nat.lt_irrefl _ (Nat.lt_of_lt_of_le hb (bt.seq b hs).2)
   have nS:∀ b,b<W1.heap.size->¬ X b:=λb hb hs=>nT b hb (bt.sub b hs)
   have hLB:=eI bt.atL;have hDB:=eI bt.atD;have hLA:A.heap[L]?=some (.loop (rec .ready none)):=(st.aU L hLB (nS L (by omega))).trans bt.atL;have hDA:A.heap[D]?=some (.deferred (some [])):=(st.aU D hDB (nS D (by omega))).trans bt.atD;have x1:=aHY bt.winv (λb hb=>(bt.seq b hb).1) bt.sub bt.bS bt.base st hT' (λb hb=>(hGx b hb).1);have x2:=aDM bt.winv bt.sub bt.bS bt.base st hT' (λb hb=>(hGx b hb).1);have nS':∀ b,b<B.heap.size->¬ T b->¬ T' b:=by
    intro b hb hs h;rcases(hT' b h).1 with h'|h'
    ·exact hs h'
    ·omega
   have nG2:∀ b,b<B.heap.size->¬ T b->¬ G' b->¬ (G' b\/Gx b):=by
    rintro b hb ht hg (h|h)
    ·exact hg h
    ·rcases(hGx b h).1 with h'|h'
     ·exact hg (bt.base b h')
     ·exact nS' b hb ht h'
   have nL2:=nG2 L hLB (nT L (by omega)) bt.notL;have nD2:=nG2 D hDB (nT D (by omega)) bt.notD;have marksA:Marks wi A (G'.or Gx) a.defers:=bt.marks.to λb hb h1 h2=>⟨by rw[st.aU b (eI h1) (nS b (by have:=markN b hb; omega))]; exact h1,nG2 b (eI h1) (nT b (by have:=markN b hb; omega)) h2⟩
   obtain⟨G2,hG2⟩:∃ G2,G2=G'.or Gx:=⟨_,rfl⟩;rw[<- hG2]at x1 x2 marksA;have nL2:¬ G2 L:=by rw[hG2]; exact nL2
   have nD2:¬ G2 D:=by rw[hG2]; exact nD2
   have hxS:∀ b,(b=L\/b=D\/({ target:=.collected b,args:=#[] }:Deferred)∈a.defers)->b<A.heap.size/\(∀ c t fr,A.heap[b]?≠some (.cells c t fr))/\∀ es clk,A.heap[b]?≠some (.map es clk):=by
    rintro b (rfl|rfl|hb)
    ·exact⟨eI hLA,λc t fr h=>(by rw[hLA]at h; cases h),λ_ _ h=>(by rw[hLA]at h; cases h)⟩
    ·exact⟨eI hDA,λc t fr h=>(by rw[hDA]at h; cases h),λ_ _ h=>(by rw[hDA]at h; cases h)⟩
    ·obtain⟨b',e1,e2,_⟩:=marksA.mem _ hb;have:b=b':=by injection e1 with e1 _; injection e1
     subst this;exact⟨eI e2,λc t fr h=>(by rw[e2]at h; cases h),λ_ _ h=>(by rw[e2]at h; cases h)⟩
   have x3:=x2.less hxS;obtain⟨n1,hn1⟩:∃ n1:Nat->Prop,n1=λb=>(n0 b/\¬ T' b)/\¬ (b=L\/b=D\/({ target:=.collected b,args:=#[] }:Deferred)∈a.defers):=⟨_,rfl⟩
   rw[<- hn1]at x3;have n1n0:∀ b,n1 b->n0 b:=λb h=>by rw[hn1]at h; exact h.1.1
   have n1S:∀ b,n1 b->¬ T' b:=λb h=>by rw[hn1]at h; exact h.1.2
   have n1L:¬ n1 L:=λh=>by rw[hn1]at h; exact h.2 (.inl rfl)
   have n1D:¬ n1 D:=λh=>by rw[hn1]at h; exact h.2 (.inr (.inl rfl))
   have n1M:∀ b,({ target:=.collected b,args:=#[] }:Deferred)∈a.defers->¬ n1 b:=λb hb h=>by rw[hn1]at h; exact h.2 (.inr (.inr hb))
   have hFA:cY A G2 μ' nt (nZ sh y 0) { a with defers:=[] }:=bt.finv.mono x1.toMono;have husA:VRs A G2 μ' (eX ks el) us:=VRs.mono (⟨λb hb=>⟨by rw[hG2]; exact .inr hb,rfl⟩,λ_ _ h=>(by cases h),λ_ _ h=>(by cases h),λ_ _ h=>h,λ_ _ h=>(by cases h),λ_ _ h=>(by cases h)⟩:Mono A (Gd.of Gx) aF A G2 μ') _ _ hus;have hlen:us.length=ps.size:=by rw[<- husA.length,HS,<- hpl,Array.length_toList]
   have hyield:=run_yield (P:=P) (args:=us.toArray) hLA (by rw[hrec]; simpa using hlen);have hfold:(ps.zip us.toArray).foldl (λtmps (t,a)=>tmps.setIfInBounds t a) a.tmps=(ps.toList.zip us).foldl (λt (p,v)=>t.setIfInBounds p v) a.tmps:=by rw[<- Array.foldl_toList,Array.toList_zip]
   rw[hrec]at hyield;dsimp only at hyield;rw[hfold]at hyield;refine⟨fn,_,as1,body,hyield,roundIn_of_wpIn trivial ?_⟩
   -- the assignment
   have hI0:IM n1 A G2 (r7 μ' (r8 sh 0)) nt (aCU ps.toList (eX ks el) (nZ sh y 0)) (vD sh y) { tmps:=(ps.toList.zip us).foldl (λt (p,v)=>t.setIfInBounds p v) a.tmps,defers:=[] } A :=
    ⟨G2,μ',LG _,x3,X4 (by rw[HS]; exact hpl) hpt husA hFA,trivial⟩
   obtain⟨⟨ex1,F1,H1⟩,hk1,hrun1⟩:=gR hcl hP as1 _ _ _ _ has hrg;dsimp only at hk1;cases ex1 with
   | ret=>cases hk1
   | exit i=>cases hk1
   | normal =>
   dsimp only at hk1;obtain⟨⟨ex2,F2,H2⟩,hk2,hrun2⟩:=gR hcl hP body _ _ _ _ hbd hk1;show as1.wpIn (Fr (some L)) m' P _ _ A;refine wpIn_mono (hrun1 (some L) m' n1 A G2 _ _ A (λh=>by cases h) (λr h=>FA r h) hI0) ?_;rintro e1 act1 A1 ⟨rfl,⟨G3,μ3,y1,y2,y3,y4⟩,hd1⟩;have hd1:act1.defers=[]:=hd1 rfl;have nL3:¬ G3 L:=λh=>(y1.new L h).elim nL2 n1L
   have hL1':A1.heap[L]?=some (.loop (rec .ready none)):=(y1.old L (eI hLA) n1L).trans hLA;refine⟨_,run_beginRound hL1' (by rw[hrec]),?_⟩;obtain⟨A2,hA2⟩:∃ A2,A1.putObj L (.loop { rec .ready none with state:=.busy })=A2:=⟨_,rfl⟩;rw[hA2];have p1:Mono A1 G3 μ3 A2 G3 μ3:=by rw[<- hA2]; exact tF hL1' ⟨λ_ _ _ h=>(by cases h),λ_ _ h=>(by cases h)⟩ nL3
   have p2:aM n1 G3 μ3 H1 A2:=by rw[<- hA2]; exact B0 y2 hL1' ⟨λ_ _ _ h=>(by cases h),λ_ _ h=>(by cases h)⟩ nL3
   have hL2':A2.heap[L]?=some (.loop { rec .ready none with state:=.busy }):=by rw[<- hA2]; exact World.putObj_heap_same (eI hL1')
   have e12:Ext n0 A1 G3 μ3 A2 G3 μ3:=by rw[<- hA2]; exact E3 hL1' ⟨λ_ _ _ h=>(by cases h),λ_ _ h=>(by cases h)⟩ nL3 hn0L
   have hI2:IM n1 A2 G3 (r7 μ' (r8 sh 0)) nt F1 H1 act1 A2 :=
    ⟨G3,μ3,{ LG (n0:=n1) (w:=A2) (G:=G3) (μ:=μ') []with
     map:=y1.map
     len:=y1.len
     sh:=y1.sh
     bS:=λb hb=>⟨hb,rfl⟩
     room:=λ_ _ h=>h
     new:=λb hb=>.inl hb },p2,y3.mono p1,by rw[hd1]; trivial⟩
   show body.wpIn (Fr (some L)) m' P _ act1 A2;refine wpIn_mono (hrun2 (some L) m' n1 A2 G3 _ act1 A2 (λh=>by cases h) (λr h=>FA r h) hI2) ?_;rintro e2 act2 A3 ⟨rfl,⟨G4,μ4,z1,z2,z3,z4⟩,hd2⟩;have nL4:¬ G4 L:=λh=>(z1.new L h).elim nL3 n1L
   have hL3':A3.heap[L]?=some (.loop { rec .ready none with state:=.busy }):=(z1.old L (eI hL2') n1L).trans hL2';have hdn:act2.defers=[]:=(hd2 rfl).trans hd1
   -- back with the caller
   have hFend:cY A3 G4 μ4 nt (nZ sh y 0) { a with defers:=[] }:=by
    refine⟨hFA.size,λt=>?_,rfl⟩;have v0:=XR (T:=r8 sh 0) sh y 0 (λr h=>h) (hFA.slot t);have v1:=VR.mono (⟨y1.bS,λ_ _ h=>h,λ_ _ h=>h,y1.room,y1.row,λ_ _ _=>rfl⟩:Mono A G2 (r7 μ' (r8 sh 0)) A1 G3 (r7 μ' (r8 sh 0))) _ _ v0;have v2:=VR.mono (⟨p1.bS,λ_ _ h=>h,λ_ _ h=>h,p1.room,p1.row,λ_ _ _=>rfl⟩:Mono A1 G3 (r7 μ' (r8 sh 0)) A2 G3 (r7 μ' (r8 sh 0))) _ _ v1;exact VR.mono z1.toMono _ _ v2
   have back:∀ (o:Obj) (F5:Frm) (H5:Heap),(∀ {n0:Nat->Prop} {wi:World} {Gi:Gd} {μi:Mp} {a:Act} {w:World},(∀ r,¬ r∈([]:List Nat)->μi.loc r=none/\μi.len r=none)->IM n0 wi Gi μi nt (nZ sh y 0) H2 a w->IM n0 wi Gi μi nt F5 H5 a w) ->
     ∃ G5 μ5,Btw n0 wi Gi μi nt a G W1.heap.size L D F5 H5 T' X' (A3.putObj L o) o G5 μ5:=by
    intro o F5 H5 hdec;have q1:=B0 (o':=o) z2 hL3' ⟨λ_ _ _ h=>(by cases h),λ_ _ h=>(by cases h)⟩ nL4;have q2:=tF (μ:=μ4) (o':=o) hL3' ⟨λ_ _ _ h=>(by cases h),λ_ _ h=>(by cases h)⟩ nL4;have q3:=E3 (n0:=n0) (μ:=μ4) (o':=o) hL3' ⟨λ_ _ _ h=>(by cases h),λ_ _ h=>(by cases h)⟩ nL4 hn0L;have hIe:IM n1 (A3.putObj L o) G4 aF nt (nZ sh y 0) H2 { a with defers:=[] } (A3.putObj L o) :=
     ⟨G4,μ4,{ LG (n0:=n1) (w:=A3.putObj L o) (G:=G4) (μ:=μ4) []with
      map:=λ_ _ h=>by cases h
      len:=λ_ _ h=>by cases h
      sh:=λ_ _ h=>by cases h
      bS:=λb hb=>⟨hb,rfl⟩
      room:=λ_ _ h=>h
      new:=λb hb=>.inl hb },q1,hFend.mono q2,trivial⟩
    obtain⟨G5,μ5,r1,r2,r3,_⟩:=hdec (λ_ _=>⟨rfl,rfl⟩) hIe;have g45:∀ b,G5 b->G2 b\/n1 b:=λb h=>by
     rcases r1.new b h with h|h
     ·rcases z1.new b h with h|h
      ·exact y1.new b h
      ·exact .inr h
     ·exact .inr h
    have mk:∀ b,({ target:=.collected b,args:=#[] }:Deferred)∈a.defers->A.heap[b]?=some (.deferred (some []))->(A3.putObj L o).heap[b]?=some (.deferred (some [])):=by
     intro b hb h1;have hbw:=markN b hb;have k1:=(y1.old b (eI h1) (n1M b hb)).trans h1;have k2:A2.heap[b]?=some (.deferred (some [])):=by rw[<- hA2,World.putObj_heap_other (by omega)]; exact k1
     have k3:=(z1.old b (eI k2) (n1M b hb)).trans k2;rw[World.putObj_heap_other (by omega)]; exact k3
    refine⟨G5,μ5,?_,r2.wider λb hb=>⟨n1n0 b hb,n1S b hb⟩,r3,?_,?_,?_,?_,?_,?_,?_,?_,?_,?_⟩
    ·have t1:=((bt.ext.plain.trans x1.plain).trans (y1.wider n1n0).plain).trans e12.plain;exact Ext.back hfl (((t1.trans (z1.wider n1n0).plain).trans q3.plain).trans (r1.wider n1n0).plain)
    ·intro b hb;have h2:G2 b:=by rw[hG2]; exact .inl (bt.base b hb)
     exact(r1.bS b (z1.bS b (y1.bS b h2).1).1).1
    ·intro b hb hs;rcases g45 b hb with h|h
     ·rw[hG2]at h;rcases h with h|h
      ·rcases(hX' b hs).2 with h'|h'
       ·exact bt.bS b h h'
       ·exact Nat.lt_irrefl _ (Nat.lt_of_lt_of_le (bt.winv.lt b h) h')
      ·exact(hGx b h).2 hs
     ·exact n1S b h (hX' b hs).1
    ·exact λb hs=>(hX' b hs).1
    ·intro b hs;rcases(hT' b hs).1 with h|h
     ·exact bt.seq b h
     ·exact⟨(bt.winv.base b h).1,oR bt.size h⟩
    ·have s1:=bt.size;have s2:=st.size;have s3:=y1.size;have s4:=e12.size;have s5:=z1.size;rw[World.putObj_size];omega
    ·exact λh=>(g45 L h).elim nL2 n1L
    ·exact λh=>(g45 D h).elim nD2 n1D
    ·exact World.putObj_heap_same (eI hL3')
    ·have k1:=(y1.old D (eI hDA) n1D).trans hDA;have k2:A2.heap[D]?=some (.deferred (some [])):=by rw[<- hA2,World.putObj_heap_other (by omega)]; exact k1
     have k3:=(z1.old D (eI k2) n1D).trans k2;rw[World.putObj_heap_other (by omega)]; exact k3
    ·refine marksA.to λb hb h1 h2=>⟨mk b hb h1,λhg=>?_⟩
     exact(g45 b hg).elim h2 (n1M b hb)
   have frame:∀ (o:Obj) (b:Nat),b<A.heap.size->G b\/T' b->(A3.putObj L o).heap[b]?=A.heap[b]?:=by
    intro o b hb h;have hbL:b≠L:=by
     rintro rfl;rcases h with h|h
     ·exact hGL h
     ·exact nS' b hLB (nT b (by omega)) h
    have k1:A1.heap[b]?=A.heap[b]?/\(G3 b\/T' b):=by
     rcases h with h|h
     ·have:=y1.bS b (by rw[hG2]; exact .inl (bt.base b h));exact⟨this.2,.inl this.1⟩
     ·exact⟨y1.old b hb λhn=>n1S b hn h,.inr h⟩
    have k2:A2.heap[b]?=A.heap[b]?:=by rw[<- hA2,World.putObj_heap_other hbL]; exact k1.1
    have k3:A3.heap[b]?=A2.heap[b]?:=by
     rcases k1.2 with h|h
     ·exact(z1.bS b h).2
     ·refine z1.old b ?_ λhn=>n1S b hn h
      have s3:=y1.size;have s4:=e12.size;omega
    rw[World.putObj_heap_other hbL,k3,k2]
   have hroom:∀ (o:Obj) (b n:Nat),Room A b n->Room (A3.putObj L o) b n:=λo b n h =>
    (tF (μ:=μ4) (o':=o) hL3' ⟨λ_ _ _ h=>(by cases h),λ_ _ h=>(by cases h)⟩ nL4).room b n (z1.room b n (p1.room b n (y1.room b n h)))
   have hsz:∀ o,A.heap.size<=(A3.putObj L o).heap.size:=by
    intro o;have s3:=y1.size;have s4:=e12.size;have s5:=z1.size;rw[World.putObj_size]; omega
   rw[hv]at hy;unfold aSR at hk2;dsimp only at hk2;rcases DO hk2 with ⟨x',rfl,e2,e3⟩|⟨z',rfl,e2,e3⟩
   ·subst e2;dsimp only at hy;refine⟨_,_,run_endRound none hL3',⟨frame _,hroom _,hsz _⟩,.inl ⟨rfl,⟨x',by rw[hdrop2]; exact hy,?_⟩⟩⟩;have:=back (.loop (rec .ready none)) (nZ sh x' 0) (vD sh x') (λh hI=>hI.dec h e3);rw[hrec]at this ⊢;exact this
   ·dsimp only at hy;have hzz:z'=z:=oB hy;subst hzz;obtain⟨o1,_⟩:=yR e3;have hb:=back (.loop (rec .done (some ex2.code))) (rP exits z').2.1 (rP exits z').2.2 (λh hI=>(hI.LS h e3).2);rw[hrec]at hb;cases ex2 with
    | normal=>exact absurd rfl e2
    | ret =>
     refine⟨_,_,run_endRound (some .ret) hL3',⟨frame _,hroom _,hsz _⟩,.inr ⟨rfl,by rw[o1]; exact e2,?_⟩⟩;rw[o1,hrec];exact hb
    | exit i =>
     refine⟨_,_,run_endRound (some (.exit i)) hL3',⟨frame _,hroom _,hsz _⟩,.inr ⟨rfl,by rw[o1]; exact e2,?_⟩⟩;rw[o1,hrec];exact hb
end
section
variable {P:Program} {n0:Nat->Prop} {w w' wi:World} {G G' Gi:Gd} {μ μ' μi:Mp} {H:Heap} {F:Frm} {nt n:Nat}
theorem o5 {fn tmps R}(hb:∀ b,wi.heap.size<=b->n0 b)(hend:∀ w',IM n0 wi Gi μi nt F H { tmps:=tmps,defers:=[] } w'->LeavesIn Fence.wide n P fn tmps R [] .returning w') :
  ∀ ds w,IM n0 wi Gi μi nt F H { tmps:=tmps,defers:=ds } w->LeavesInM Fence.wide n P fn tmps R ds .returning w
 | [],w,h=>hend w h
 | d::ds,w,h=>by
  obtain⟨G,μ,e,hW,hF,⟨b,rfl,h1,h2,h3,h4⟩,hm⟩:=h;refine⟨by simp,.inl ⟨b,_,rfl,run_takeDeferred h1,o5 hb hend ds _ ⟨G,μ,e.trans (E3 h1 ⟨λ_ _ _ h=>(by cases h),λ_ _ h=>(by grind)⟩ h3 (hb b h2)),B0 hW h1 ⟨λ_ _ _ h=>(by grind),λ_ _ h=>(by grind)⟩ h3,hF.mono (tF h1 ⟨λ_ _ _ h=>(by cases h),λ_ _ h=>(by cases h)⟩ h3),?_⟩⟩⟩;refine hm.to λb' hb' k1 k2=>⟨?_,k2⟩
  rw[World.putObj_heap_other]
  ·omega
  grind
def KB(P:Program)(E:Env)(fn:Func)(aU:Nat)(lt rt:Nat->Option bT)(c:Code) args rets (x:aL args):Option (aL rets) :=
 bif Nat.ble (eX args x).length fn.ntmps then sC P E fn.ntmps aU lt rt false [] c (start aU 0 (eX args x)) [] (NV P fn.results.toList rets) else none
theorem yL {E} (hP:tW P) (hE:fC P E) {g:Nat} {fn} (hg:P.funcs[g]?=some fn) {c} (hc:fn.body=some c) {aU lt rt args rets f}
  (hl:∀ a∈bP c,CB P fn.ntmps lt rt false [] a) (hb:∀ x,KB P E fn aU lt rt c args rets x=f x):wO P g args rets f:=by
 intro x y hy;rw[<- hb]at hy;obtain⟨hlen,hy⟩:=aG hy;obtain⟨⟨ex,F',H'⟩,h1,h2⟩:=gR hE.callee hP.mixed c _ _ _ _ hl hy;obtain⟨vs,q,hex,hvs,hq,hd⟩:∃ vs q,(ex=.normal\/ex=.ret)/\jF P F' H' fn.results.toList=some vs/\ZJ H' (cG vs)=some q/\V5 rets q=some y:=by
  unfold NV at h1;split at h1
  ·cases h1
  ·rename_i hne;split at h1
   ·rename_i vs hvs;split at h1
    ·rename_i q hq;refine⟨vs,q,?_,hvs,hq,h1⟩;cases ex with
     | normal=>exact .inl rfl
     | ret=>exact .inr rfl
     | exit i=>exact absurd rfl (hne i)
    ·cases h1
   ·cases h1
 have hcall:∀ {n0 G μ w us},aM n0 G μ [] w->VRs w G μ (eX args x) us->lN P n0 w G μ g us.toArray (cG vs) H':=by
  intro n0 G μ w us hW hv;refine⟨enters hg (hP.names g fn hg) (by rw[hc]; rfl) _ _,(callsIn_wide (n:=0)).1 (callsIn_of_wp_marks hg hc trivial ?_)⟩;have hI:I n0 w G μ fn.ntmps (start aU 0 (eX args x)) [] ⟨us.toArray++Array.replicate (fn.ntmps-us.toArray.size) undef,[]⟩ w:=⟨G,μ,Ext.refl _ _ _ _,hW,lB (by simpa using hv) (oL hlen)⟩;refine wpIn_mono (h2 none 0 n0 w G μ _ w (λ_=>rfl) (λr _=>hW.top r (Nat.zero_le _)) hI.aUK) ?_
  rintro e ⟨tm,ds⟩ w' ⟨rfl,hI',_⟩;have hend:∀ w',IM n0 w G μ fn.ntmps F' H' { tmps:=tm,defers:=[] } w'->LeavesIn Fence.wide 0 P fn tm (λe w'=>∃ v' G'' μ'',e=.returned v'/\Ext n0 w G μ w' G'' μ''/\aM n0 G'' μ'' H' w'/\VR w' G'' μ'' (cG vs) v') [] .returning w':=by
   rintro w' ⟨G',μ',e',hW',hF',_⟩;obtain⟨ws,h3,h4⟩:=gH (P:=P) hW' hF' hvs;have hres:(results fn tm).run P w'=.ok (if hh:ws.toArray.size=1 then ws.toArray[0] else .tuple ws.toArray) w':=by
    rw[mR,Array.mapM_eq_mapM_toList]
    simp_all
   exact⟨_,hres,_,G',μ',rfl,e',hW',iH h4⟩
  rcases hex with rfl|rfl
  ·exact o5 (λb hb=>hW.base b hb) hend ds w' hI'
  ·exact o5 (λb hb=>hW.base b hb) hend ds w' hI'
 have hp:=uI hcall (pP hq).1 (pP hq).2;intro w G us hlt hv;obtain⟨h3,h4⟩:=hp w G us hlt hv;refine⟨h3,h4.mono ?_⟩;rintro e w' ⟨v',G',rfl,e1,e2,e3⟩;exact⟨v',G',rfl,e1,e2,BW hd e3⟩
def aFT(P:Program) (nt:Nat) (lt rt:Nat->Option bT) (rd:Bool) (T:List Nat):List Code->Prop
 | []=>True
 | a::r=>CB P nt lt rt rd T a/\aFT P nt lt rt rd T r
theorem UX {lt rt rd T}:∀ {l},aFT P nt lt rt rd T l->∀ a∈l,CB P nt lt rt rd T a
 | [],_,a,ha=>by grind
 | b::r,h,a,ha=>by
  rcases List.mem_cons.1 ha with rfl|ha
  ·exact h.1
  ·exact UX h.2 a ha
theorem gY {lt rt rd T c l}(hc:bP c=l)(h:aFT P nt lt rt rd T l):∀ a∈bP c,CB P nt lt rt rd T a:=by rw[hc]; exact UX h
theorem AR {lt rt rd T a i s0}(hf:aO a=i)(hlt:lt i=some s0)(h:qL P nt rd T (.loop a) s0):CB P nt lt rt rd T (.loop a):=by
 intro s hs;grind
theorem aJB {lt rt g ps as1 a i s0}(hf:aO a=i)(hrt:rt i=some s0)(h:qL P nt false [] (.rangeFunc g ps as1 a) s0):CB P nt lt rt false [] (.rangeFunc g ps as1 a):=by
 intro _ s hs;grind
def zT(c:Code) (i:Nat):Code:=(bP c).getD i .skip
def inLoop:Code->Code
 | .loop a=>a
 | .rangeFunc _ _ _ a=>a
 | _=>.skip
def l8:Code->Code
 | .rangeFunc _ _ as1 _=>as1
 | _=>.skip
def D9:Code->Operand
 | .rangeFunc g _ _ _=>g
 | _=>.const undef
def PB:Code->Array Tmp
 | .rangeFunc _ ps _ _=>ps
 | _=>#[]
theorem zO {lt rt r i s0}(hr:r=.rangeFunc (D9 r) (PB r) (l8 r) (inLoop r))(hf:aO (inLoop r)=i)(hrt:rt i=some s0)(h:qL P nt false [] r s0):CB P nt lt rt false [] r:=by
 rw[hr]at h ⊢;exact aJB hf hrt h
theorem EC {E aU lt rt} (hE:fC P E) (hP:tW P) {r} (hrc:r=.rangeFunc (D9 r) (PB r) (l8 r) (inLoop r)) {gf:Nat} {fn c ts ks f}
  (hg:P.funcs[gf]?=some fn) (hc:fn.body=some c) (hit:KY P gf ts ks f)
  {sh exits step} {cap:Shape.den sh->AS ts}
  (has:bP (l8 r)=[]) (hbd:∀ b∈bP (inLoop r),CB P nt lt rt true (r8 sh 0) b)
  (hsq:∀ x,TR gf ts sh (D9 r) x=some (cap x))
  (hr:∀ y e,IC P E nt aU lt rt (PB r).toList (l8 r) (inLoop r) ks sh exits y e=step y e) :
  qL P nt false [] r ⟨sh,exits,RU sh exits (λx=>f (cap x)) step⟩:=by
 have:=aOF hE.callee hP.mixed hit (λargs w=>enters hg (hP.names gf fn hg) (by grind) args w) (by grind) hbd (λx l hl=>⟨cap x,hsq x,hl⟩) hr;grind
end
def mJ:Code->Nat
 | .region _ ops _=>HN ops.toList ops.toList 0 0
 | .seq a b=>mJ a ||| mJ b
 | .cond c a b=>aOR c ||| mJ a ||| mJ b
 | .block _ a=>mJ a
 | .loop a=>mJ a
 | .scope a=>mJ a
 | .rangeFunc g _ as1 a=>aOR g ||| mJ as1 ||| mJ a
 | _=>0
def j7(fn:Func):Nat:=match fn.body with
 | some c=>B6 fn.results.toList (mJ c)
 | none=>0
end Go.PM
namespace Go.Proofs
open Go Go.RowKit Go.Sort Go.Lib
set_option maxHeartbeats 6400000
theorem Tryz.JQ (u:Nat)(hu64:u<18446744073709551616)(w:World)(htab:Lib.TabIs Tryz.prog w "internal/strconv.uint64pow10" .u64 Lib.pow10Tab) :
  Calls Tryz.prog 181 #[.int .u64 u,.int .i64 10] w λe w'=>e=.returned (.string ⟨(Lib.decDigits u).toArray⟩)/\∃ k os,w'=grow (w.drewN k) os:=by
 by_cases hs:u<100
 ·go_enter Tryz.func181,Tryz.ntmps181
  have hwr:IntKind.i64.wrap (u:Int)=(u:Int):=by rw[IntKind.wrap_i64]; omega
  go_wp2_with (go_at_call 128; refine(Tryz.internal_strconv_small u hs _).mono ?_; rintro e w' ⟨rfl,rfl⟩)
  go_ret
  exact⟨rfl,0,#[],by simp[World.drewN_zero]⟩
 ·have hu1:1<=u:=by omega
  have hnd20:Lib.nDigits u<=20:=by have:=Lib.numDigits_eq u hu1 hu64; split at this <;> omega
  have hal:Tryz.prog.arrayLen 201=24:=by simp[Program.arrayLen,Tryz.underlying201]
  have hsl:∀ W,(Instr.sliceAt 201 (.pointer (some ⟨w.heap.size,0,none⟩)) none (some (.int .i64 (Lib.nDigits u:Int))) none).run Tryz.prog W=.ok (.slice (some ⟨w.heap.size,0,none⟩) (Lib.nDigits u) 24) W:=λW=>by
   rw[run_sliceAt_array_h W 201 ⟨w.heap.size,0,none⟩ (by simp[Program.arrayLen,Program.elem,Tryz.underlying201]) .i64 (Lib.nDigits u:Int) (by omega) (by rw[hal]; omega)]
   go_simp
  have hH0:=Lib.holds_zero0 w 201 (Lib.nDigits u) (by omega);have hfmt:=Tryz.internal_strconv_formatBase10 w.heap.size 0 24 u (Array.replicate (Lib.nDigits u) 0) (w.alloc (.cells Lib.zeros24 201)) hH0 (by rw[Array.size_replicate]; exact Lib.lt_pow_nDigits u) hu64 (by rw[Array.size_replicate]; omega);rw[Array.size_replicate]at hfmt;have HH0:=Lib.hid hH0;clear hH0 hal
  go_enter Tryz.func181,Tryz.ntmps181
  go_wp2_with (first
   | (go_at_call 129; refine(Tryz.internal_strconv_numDigits u hu1 hu64 _ (Lib.tabIs_alloc htab _)).mono ?_; rintro e w' ⟨rfl,rfl⟩))
  go_at_call 130
  refine hfmt.mono ?_;rintro e w' ⟨rfl,k,v',dk,rfl,hF⟩;have hcv:(convert 140 9 (.slice (some ⟨w.heap.size,0,none⟩) (Lib.nDigits u) 24)).run Tryz.prog ((putRow (λ(b:UInt8)=>Value.int .u8 (b.toNat:Int)) (w.alloc (.cells Lib.zeros24 201)) w.heap.size 0 dk).drewN k)=.ok (.string ⟨(Lib.decDigits u).toArray⟩) ((putRow (λ(b:UInt8)=>Value.int .u8 (b.toNat:Int)) (w.alloc (.cells Lib.zeros24 201)) w.heap.size 0 dk).drewN k):=by
   have h:=run_convert_bytes_back (P:=Tryz.prog) ((putRow (λ(b:UInt8)=>Value.int .u8 (b.toNat:Int)) (w.alloc (.cells Lib.zeros24 201)) w.heap.size 0 dk).drewN k) 140 9 5 ⟨w.heap.size,0,none⟩ 24 (Lib.decDigits u) Tryz.underlying140 Tryz.underlying5 Tryz.underlying9 (λj hj=>by
    rw[Lib.row_is_numeral hF j hj,Lib.add_plain,World.cell?_drewN];exact cell?_putRow (λ(b:UInt8)=>Value.int .u8 (b.toNat:Int)) _ w.heap.size 0 _ dk HH0.out (by rw[hF.size,Array.size_replicate]) j (by rw[hF.size]; rw[Lib.decDigits_length]at hj; exact hj))
   rw[Lib.decDigits_length]at h;exact h
  go_wp2
  go_ret
  obtain⟨os,eo⟩:=Lib.fin_at w (.cells Lib.zeros24 201) dk k 0;exact⟨rfl,k,os,eo⟩
theorem Tryz.GM (u:Nat)(hu64:u<18446744073709551616)(w:World)(htab:Lib.TabIs Tryz.prog w "internal/strconv.uint64pow10" .u64 Lib.pow10Tab) :
  Calls Tryz.prog 164 #[.int .u64 u,.int .i64 10] w λe w'=>e=.returned (.string ⟨(Lib.decDigits u).toArray⟩)/\∃ k os,w'=grow (w.drewN k) os:=by
 go_enter Tryz.func164,Tryz.ntmps164
 go_wp2_with (go_at_call 181; refine(Tryz.JQ u hu64 _ htab).mono ?_; rintro e w' ⟨rfl,k,os,rfl⟩)
 go_ret
 exact⟨rfl,k,os,rfl⟩
end Go.Proofs
namespace Go.PM
open Go Go.RowKit Go.Proofs Tryz
theorem aIC {w:World}{G:Nat->Prop}(h:Lt w G):Lib.TabIs Tryz.prog w "internal/strconv.uint64pow10" .u64 Lib.pow10Tab:=by
 have hm:(0,aH1 .u64 [1,10,100,1000,10000,100000,1000000,10000000,100000000,1000000000,10000000000,100000000000,1000000000000,10000000000000,100000000000000,1000000000000000,10000000000000000,100000000000000000,1000000000000000000,10000000000000000000])∈aSU:=by simp[aSU]
 obtain⟨-,t,fr,ht⟩:=h.tab _ hm;have hg:Tryz.prog.globalNamed "internal/strconv.uint64pow10"=some 0:=by kernel_rfl
 unfold Lib.TabIs World.var?;rw[hg];simp only[Option.bind_some];rw[ht];rfl
theorem aD9 {w G}(hG:∀ b,G b->b<w.heap.size) k os:Ext (nO w) w (Gd.of G) aF (Sort.grow (w.drewN k) os) (Gd.of G) aF :=
 have hb :=λb hb=>Lib.heap_grow_old w k os b hb
 {bS:=λb h=>⟨h,hb b (hG b h)⟩
  row:=λ_ _ h=>h
  map:=λ_ _ h=>(by omega)
  len:=λ_ _ h=>(by grind)
  room:=λb n ⟨c,t,fr,h1,h2⟩=>⟨c,t,fr,by grind,h2⟩
  os:=rfl
  tape:=rfl
  output:=rfl
  size:=by simp
  old:=λb h _=>hb b h
  new:=λb h=>.inl h }
theorem OT {w w' G}(hG:∀ b,G b->b<w.heap.size)(h:Below w.heap.size w w'):Ext (nO w) w (Gd.of G) aF w' (Gd.of G) aF :=
 {bS:=λb hb=>⟨hb,h.block b (hG b hb)⟩
  row:=λ_ _ h=>h
  map:=λ_ _ h=>(by grind)
  len:=λ_ _ h=>(by grind)
  room:=λb n ⟨c,t,fr,h1,h2⟩=>⟨c,t,fr,by rw[h.block b (eI h1)]; omega,h2⟩
  os:=h.os
  tape:=h.tape
  output:=h.output
  size:=h.size
  old:=λb hb _=>h.block b hb
  new:=λb hb=>.inl hb }
theorem P7 {w G}(hG:∀ b,G b->b<w.heap.size) e t:Ext (nO w) w (Gd.of G) aF (Lib.bytesWorld w e t) (Gd.of G) aF :=
 OT hG (Joins.below_bytesWorld _ w e t (oM _))
def DY:Nat->Nat->List UInt8->List UInt8
 | 0,_,acc=>acc
 | f+1,u,acc=>bif Nat.blt u 10 then UInt8.ofNat (48+u)::acc else DY f (u/10) (UInt8.ofNat (48+u%10)::acc)
theorem UY:∀ f u acc,u<10^(f+1)->DY (f+1) u acc=Lib.decDigits u++acc
 | f,u,acc,h=>by
  rw[Lib.decDigits]
  by_cases h1:u<10
  ·rw[dif_pos h1,DY];have:Nat.blt u 10=true:=by simp_all
   grind
  ·rw[dif_neg h1,DY];have:Nat.blt u 10=false:=by rw[cE]; simpa using h1
   rw[this,oD];cases f with
   | zero=>omega
   | succ f =>
    rw[UY f (u/10) _ (by grind)];simp
def rV:Int->ByteArray
 | .ofNat u=>⟨(DY 20 u []).toArray⟩
 | .negSucc u=>⟨(45::DY 20 (u+1) []).toArray⟩
theorem S8 {n}(h:n.natAbs<10^20):rV n=⟨(Lib.itoa n).toArray⟩:=by
 cases n with
 | ofNat u =>
  have h1:¬ (Int.ofNat u<0):=by simp
  unfold Lib.itoa;show (⟨(DY (19+1) u []).toArray⟩:ByteArray)=⟨(Lib.decDigits u).toArray⟩;rw[UY 19 u [] h,List.append_nil]
 | negSucc u =>
  have h1 :=Int.negSucc_lt_zero u;unfold Lib.itoa;rw[if_pos h1];show (⟨(45::DY (19+1) (u+1) []).toArray⟩:ByteArray)=⟨(45::Lib.decDigits (u+1)).toArray⟩;rw[UY 19 (u+1) [] h,List.append_nil]
def kY(x:aL [.int .i64]):oK [.str]:=match x with
 | (n,())=>bif !(ltI n (-9223372036854775808))&&!(ltI 9223372036854775807 n) then some (rV n,()) else none
def sJ(x:aL [.str]):oK [.int .i64,.nilI]:=match x with
 | (s,())=>bif Nat.ble s.size 18 then (match Lib.atoi s.data.toList with
  | some n=>some (n,(),())
  | none=>none) else none
def l7(x:aL [.str,.int .i64,.int .i64]):oK [.int .i64,.nilI]:=match x with
 | (s,b,c,())=>bif Nat.ble s.size 1000000000&&(eqI b 10&&eqI c 64) then (match Lib.parseIntB 64 s.data.toList with
  | .ok n=>some (n,(),())
  | _=>none) else none
def lC(x:aL [.str,.int .i64,.int .i64]):oK [.int .u64,.nilI]:=match x with
 | (s,b,c,())=>bif Nat.ble s.size 1000000000&&(eqI b 10&&eqI c 64) then (match Lib.parseUintB 64 s.data.toList with
  | .ok n=>some ((n:Int),(),())
  | _=>none) else none
def kJ(x:aL [.int .u64,.int .i64]):oK [.str]:=match x with
 | (n,b,())=>bif !(ltI n 0)&&(ltI n 18446744073709551616&&eqI b 10) then some (rV n,()) else none
theorem aVF {w G u vs}(h:VRs w G aF [.lit u] vs.toList):vs=#[u]:=by
 obtain⟨v,us,hvs,h1,h2⟩:=h;rw[VRs]at h2;rw[VR]at h1;grind
theorem aW3 {w G u1 u2 vs}(h:VRs w G aF [.lit u1,.lit u2] vs.toList):vs=#[u1,u2]:=by
 obtain⟨v,us,hvs,h1,h2⟩:=h;obtain⟨v2,us2,hvs2,h3,h4⟩:=h2;rw[VRs]at h4;rw[VR]at h1 h3;grind
theorem aVD {w G u1 u2 u3 vs}(h:VRs w G aF [.lit u1,.lit u2,.lit u3] vs.toList):vs=#[u1,u2,u3]:=by
 obtain⟨v,us,hvs,h1,h2⟩:=h;obtain⟨v2,us2,hvs2,h3,h4⟩:=h2;obtain⟨v3,us3,hvs3,h5,h6⟩:=h4;rw[VRs]at h6;rw[VR]at h1 h3 h5;grind
theorem G8 {w G} k n:VR w G aF (.tuple [.lit (.int k n),.lit .nilIface]) (.tuple #[.int k n,.nilIface]):=by
 refine⟨_,rfl,?_⟩;refine⟨_,_,rfl,by rfl,?_⟩;exact⟨_,_,rfl,by rfl,by rfl⟩
theorem aA4 {w G} s:VR w G aF (.lit (.string s)) (.string s):=by rfl
theorem VJ:wO Tryz.prog 49 _ _ kY:=by
 rintro⟨n,⟨⟩⟩ y h w G vs hG hv;unfold kY at h;obtain⟨hb,h⟩:=aG h;simp only[oA,Bool.not_eq_true',aI,decide_eq_false_iff_not]at hb;obtain rfl:=oB h;obtain rfl:=aVF hv;refine⟨enters func49 (by kernel_rfl) (by kernel_rfl) _ _,(Tryz.strconv_Itoa n (by omega) (by omega) w (aIC hG)).mono ?_⟩;rintro e w' ⟨rfl,k,os,rfl⟩;rw[<- S8 (by omega)];have he:=aD9 hG.lt k os;exact⟨_,G,rfl,he,λb hb=>Nat.lt_of_lt_of_le (hG b hb) he.size,aA4 _⟩
theorem SS:wO Tryz.prog 134 _ _ sJ:=by
 rintro⟨s,⟨⟩⟩ y h w G vs hG hv;unfold sJ at h;obtain⟨hb,h4⟩:=aG h;clear h;have hl:=oL hb;split at h4
 ·rename_i n hn;obtain rfl:=oB h4;obtain rfl:=aVF hv;refine⟨enters func134 (by kernel_rfl) (by kernel_rfl) _ _,(Tryz.strconv_Atoi s n hl hn w).mono ?_⟩;rintro e w' ⟨rfl,t,rfl⟩;have he:=P7 hG.lt 5 t;exact⟨_,G,rfl,he,λb hb=>Nat.lt_of_lt_of_le (hG b hb) he.size,G8 _ n⟩
 ·cases h4
theorem KS:wO Tryz.prog 121 _ _ l7:=by
 rintro⟨s,b,c,⟨⟩⟩ y h w G vs hG hv;unfold l7 at h;obtain⟨hb,h4⟩:=aG h;clear h;simp only[oA,dE,decide_eq_true_eq]at hb;obtain⟨hb1,rfl,rfl⟩:=hb;have hl:=oL hb1;split at h4
 ·rename_i n hn;obtain rfl:=oB h4;obtain rfl:=aVD hv;refine⟨enters func121 (by kernel_rfl) (by kernel_rfl) _ _,(Tryz.strconv_ParseInt_10_at64_ok s (by omega) n hn w).mono ?_⟩;rintro e w' ⟨rfl,hw⟩;rcases hw with rfl|⟨t,rfl⟩
  ·exact⟨_,G,rfl,Ext.refl _ _ _ _,hG.lt,G8 _ n⟩
  ·have he:=P7 hG.lt 5 t;exact⟨_,G,rfl,he,λb hb=>Nat.lt_of_lt_of_le (hG b hb) he.size,G8 _ n⟩
 ·cases h4
theorem JN:wO Tryz.prog 180 _ _ lC:=by
 rintro⟨s,b,c,⟨⟩⟩ y h w G vs hG hv;unfold lC at h;obtain⟨hb,h4⟩:=aG h;clear h;simp only[oA,dE,decide_eq_true_eq]at hb;obtain⟨hb1,rfl,rfl⟩:=hb;have hl:=oL hb1;split at h4
 ·rename_i n hn;obtain rfl:=oB h4;obtain rfl:=aVD hv;refine⟨enters func180 (by kernel_rfl) (by kernel_rfl) _ _,(Tryz.strconv_ParseUint_10_at64_ok s (by omega) n hn w).mono ?_⟩;rintro e w' ⟨rfl,hw⟩;rcases hw with rfl|rfl
  ·exact⟨_,G,rfl,Ext.refl _ _ _ _,hG.lt,G8 _ n⟩
  ·have he:=P7 hG.lt 5 s;exact⟨_,G,rfl,he,λb hb=>Nat.lt_of_lt_of_le (hG b hb) he.size,G8 _ n⟩
 ·cases h4
theorem IH:wO Tryz.prog 164 _ _ kJ:=by
 rintro⟨n,b,⟨⟩⟩ y h w G vs hG hv;unfold kJ at h;obtain⟨hb,h4⟩:=aG h;clear h;simp only[oA,Bool.not_eq_true',aI,dE,decide_eq_true_eq,decide_eq_false_iff_not]at hb;obtain⟨hb1,hb2,rfl⟩:=hb;obtain rfl:=oB h4;obtain rfl:=aW3 hv;obtain⟨u,hu⟩:∃ u:Nat,(n:Int)=(u:Int):=⟨Int.toNat n,(Int.toNat_of_nonneg (Int.not_lt.1 hb1)).symm⟩;subst hu;refine⟨enters func164 (by kernel_rfl) (by kernel_rfl) _ _,(Tryz.GM u (Int.ofNat_lt.1 hb2) w (aIC hG)).mono ?_⟩
 rintro e w' ⟨rfl,k,os,rfl⟩;have hi:(⟨(Lib.decDigits u).toArray⟩:ByteArray)=rV (u:Int):=by
  have h1:u<10^20:=Nat.lt_trans (Int.ofNat_lt.1 hb2) (by decide);rw[S8 (by simpa using h1),Lib.itoa_nonneg]
 rw[hi];have he:=aD9 hG.lt k os;exact⟨_,G,rfl,he,λb hb=>Nat.lt_of_lt_of_le (hG b hb) he.size,aA4 _⟩
abbrev V9:Ent:=⟨49,_,_,kY⟩
theorem D3:Ent.OK Tryz.prog V9:=VJ
abbrev VT:Ent:=⟨134,_,_,sJ⟩
theorem PN:Ent.OK Tryz.prog VT:=SS
abbrev L2:Ent:=⟨121,_,_,l7⟩
theorem HT:Ent.OK Tryz.prog L2:=KS
abbrev KR:Ent:=⟨180,_,_,lC⟩
theorem GK:Ent.OK Tryz.prog KR:=JN
abbrev JT:Ent:=⟨164,_,_,kJ⟩
theorem FC:Ent.OK Tryz.prog JT:=IH
def tT:List ByteArray->List UInt8->List UInt8
 | [],_=>[]
 | [x],_=>x.data.toList
 | x::y::r,sep=>x.data.toList++(sep++tT (y::r) sep)
theorem T7:∀ l sep,tT l sep=Lib.join (l.map (·.data.toList)) sep
 | [],sep=>by rfl
 | [x],sep=>by simp[tT,Lib.join]
 | x::y::r,sep=>by
  rw[tT,T7 (y::r) sep];rfl
def mI(x:aL [.list .str,.str]):oK [.str]:=match x with
 | (l,sep,())=>bif Nat.ble l.length 1048576&&Nat.ble (tT l sep.data.toList).length 1048576 then some (⟨(tT l sep.data.toList).toArray⟩,()) else none
theorem aF3(l:List ByteArray)(j:Nat) x (h:l[j]?=some x):(aD .str l)[j]?=some (.lit (.string x)):=by
 induction l generalizing j with
 | nil=>grind
 | cons a l ih =>
  have e:aD .str (a::l)=.lit (.string a)::aD .str l:=rfl;grind
theorem SV:wO Tryz.prog 50 [.list .str,.str] [.str] mI:=by
 rintro⟨l,sep,⟨⟩⟩ y h;unfold mI at h;dsimp only at h;cases hc:(Nat.ble l.length 1048576&&Nat.ble (tT l sep.data.toList).length 1048576)with
 | false=>rw[hc]at h; cases h
 | true =>
 rw[hc]at h;cases oB h;rw[oA]at hc;have hl:=oL hc.1;have hj:=oL hc.2;intro w G vs hG hv;refine⟨enters func50 (by kernel_rfl) (by kernel_rfl) _ _,?_⟩;have k1:VRs w (Gd.of G) aF [kD .str l none,.lit (.string sep)] vs.toList:=hv;rw[VRs]at k1;obtain⟨v,us,hvs,g1,g2⟩:=k1;rw[VRs]at g2;obtain⟨v2,us2,rfl,g2,g3⟩:=g2;rw[VRs]at g3;subst g3;rw[VR]at g2;subst g2;unfold kD at g1;rw[VR]at g1;obtain⟨g1,-⟩:=g1
 rw[VR]at g1;obtain⟨ao,c,rfl,hc1,-,hc2⟩:=g1;have hvs:vs=#[.slice ao l.length c,.string sep]:=Array.ext' (by simpa using hvs);subst hvs;cases l with
 | nil =>
  refine(Tryz.strings_Join_none ao c sep w).mono ?_;rintro e w' ⟨rfl,rfl⟩;exact⟨_,G,rfl,Ext.refl _ _ _ _,hG,aA4 _⟩
 | cons a l =>
  rcases hc2 with h0|⟨b,off,rfl,hb,hcs⟩
  ·cases h0
  ·refine(Tryz.strings_Join b off c (a::l) sep w ?_ (hG.lt b hb) (by simp at hl ⊢; omega) hc1 (by rw[<- T7]; omega)).mono ?_
   ·intro j x hx;obtain⟨v,h1,h2⟩:=hcs.get (aF3 _ _ _ hx);rw[VR]at h2;subst h2;exact h1
   ·rintro e w' ⟨rfl,hbl⟩;have he:=OT (G:=G) hG.lt hbl;exact⟨_,G,rfl,he,λb hb=>Nat.lt_of_lt_of_le (hG.lt b hb) he.size,by rw[<- T7]; exact aA4 _⟩
abbrev VV:Ent:=⟨50,[.list .str,.str],[.str],mI⟩
theorem PZ:Ent.OK Tryz.prog VV:=SV
end Go.PM
namespace Go.PM
open Go Go.RowKit
section
variable {P:Program} {n0:Nat->Prop} {w w':World} {G G':Gd} {μ μ1:Mp} {H H1:Heap}
def vE(μ μ1:Mp)(h:Nat):Mp:=⟨λr=>if r<h then μ.loc r else μ1.loc (r-h),λr=>if r<h then μ.len r else μ1.len (r-h),λr=>if r<h then μ.sh r else μ1.sh (r-h)⟩
theorem lV {h r}(hr:r<h):(vE μ μ1 h).loc r=μ.loc r/\(vE μ μ1 h).len r=μ.len r/\(vE μ μ1 h).sh r=μ.sh r:=by simp[vE,hr]
theorem nB {h r}(hr:h<=r):(vE μ μ1 h).loc r=μ1.loc (r-h)/\(vE μ μ1 h).len r=μ1.len (r-h)/\(vE μ μ1 h).sh r=μ1.sh (r-h):=by
 have:¬ r<h:=by omega
 simp[vE,this]
theorem UB(hW:aM n0 G μ H w)(e:Ext (nO w) w G.bare aF w' G' μ1):Ext n0 w G μ w' (G'.with G) (vE μ μ1 H.length):={
 bS:=e.bS
 map:=λr b hr=>by
  rcases oG r H.length with hl|hl
  ·rw[(lV hl).1]; omega
  ·rw[(hW.top r hl).1]at hr; grind
 len:=λr b hr=>by
  rcases oG r H.length with hl|hl
  ·rw[(lV hl).2.1]; omega
  ·rw[(hW.top r hl).2]at hr; grind
 sh:=λr b hr=>by
  rcases oG r H.length with hl|hl
  ·exact(lV hl).2.2
  ·rw[(hW.top r hl).1]at hr; cases hr
 room:=e.room
 row:=λ_ _ h=>h
 os:=e.os
 tape:=e.tape
 output:=e.output
 size:=e.size
 old:=λb hb _=>e.old b hb (Nat.not_le.2 hb)
 new:=λb hb=>by
  rcases e.new b hb with h|h
  ·exact .inl h
  ·exact .inr (hW.base b h) }
theorem X6(hW:aM n0 G μ H w)(e:Ext (nO w) w G.bare aF w' G' μ1)(h1:aM (nO w) G' μ1 H1 w')(ht:EJ H1=true)(hp:∀ (r:Nat) k,H1[r]?=some (some k)->cR.noRows k.cells=true/\∀ t l,k.tag≠some ⟨.rows t,l⟩):aM n0 (G'.with G) (vE μ μ1 H.length) (H++H1) w':=by
 have e':=UB hW e;have key:∀ (r:Nat) (k:Blk),(H++H1)[r]?=some (some k)->(r<H.length/\H[r]?=some (some k))\/(H.length<=r/\H1[r-H.length]?=some (some k)):=by
  intro r k hr;rcases oG r H.length with hl|hl
  ·rw[List.getElem?_append_left hl]at hr; exact .inl ⟨hl,hr⟩
  ·rw[List.getElem?_append_right hl]at hr; exact .inr ⟨hl,hr⟩
 refine⟨?_,?_,?_,h1.lt,?_,λb hb=>hW.base b (oR e.size hb),hW.rows.step e'.toMono.aF e.size (λ_=>rfl) (λj b hj=>?_) (λr k t l hr hg htg=>?_)⟩
 case refine_5 =>
  have hlt:=(hW.rows.sep j b hj).1;refine⟨e.old b hlt (Nat.not_le.2 hlt),λhg=>?_,λr k hr hf hl=>?_⟩
  ·rcases e.new b hg with h|h
   ·exact h
   ·exact absurd hlt (Nat.not_lt.2 h)
  ·rcases key r k hr with ⟨hl2,hr⟩|⟨hl2,hr⟩
   ·rw[(lV hl2).1]at hl; exact⟨r,k,hr,hf,hl⟩
   ·rw[(nB hl2).1]at hl;obtain⟨_,_,_,_,_,a5⟩:=h1.blk _ k b hr hl;exact absurd hlt (Nat.not_lt.2 (a5 hf).1)
 case refine_6 =>
  rcases key r k hr with ⟨hl2,hr⟩|⟨hl2,hr⟩
  ·exact⟨k,hr,rfl,rfl,rfl,(lV hl2).1⟩
  ·exact absurd htg ((hp _ k hr).2 t l)
 ·intro r k b hr hb;rcases key r k hr with ⟨hl,hr⟩|⟨hl,hr⟩
  ·rw[(lV hl).1]at hb;obtain⟨c,a1,a2,a3,a4,a5⟩:=hW.blk r k b hr hb;have hlt:=hW.hZ hr hb;have ho:=e.old b hlt (Nat.not_le.2 hlt);rw[(lV hl).2.2];refine⟨c,ho.trans a1,aK.mono e'.toMono ho _ _ a2,a3,λhf=>(e.bS b (a4 hf)).1,λhf=>⟨(a5 hf).1,λhg=>?_⟩⟩;rcases e.new b hg with h|h
   ·exact(a5 hf).2 h
   ·omega
  ·rw[(nB hl).1]at hb;obtain⟨c,a1,a2,a3,a4,a5⟩:=h1.blk _ k b hr hb;rw[(nB hl).2.2];refine⟨c,a1,?_,a3,a4,λhf=>⟨hW.base b (a5 hf).1,(a5 hf).2⟩⟩;refine lX (G:=G') (G':=G'.with G) (λb h=>h) _ _ _ _ (hp _ k hr).1 ?_;rcases E9 ht hr with hg|hg
   ·obtain⟨g,hg⟩:=Option.isSome_iff_exists.1 hg;have:=(h1.tags _ k g hr hg).1;rw[this]at a2 ⊢;exact iQ (eA _ _) a2
   ·exact iQ hg a2
 ·intro r k g hr hg;rcases key r k hr with ⟨hl,hr⟩|⟨hl,hr⟩
  ·rw[(lV hl).2.1]; exact hW.tags r k g hr hg
  ·rw[(nB hl).2.1]; exact h1.tags _ k g hr hg
 ·intro r s k l b hr hs fk fl m1 m2;rcases key r k hr with ⟨hl,hr⟩|⟨hl,hr⟩ <;> rcases key s l hs with ⟨hl2,hs⟩|⟨hl2,hs⟩
  ·rw[(lV hl).1]at m1;rw[(lV hl2).1]at m2;exact hW.inj r s k l b hr hs fk fl m1 m2
  ·rw[(lV hl).1]at m1;rw[(nB hl2).1]at m2;obtain⟨_,_,_,_,_,a5⟩:=h1.blk _ l b hs m2;have:=hW.hZ hr m1;have:=(a5 fl).1;omega
  ·rw[(nB hl).1]at m1;rw[(lV hl2).1]at m2;obtain⟨_,_,_,_,_,a5⟩:=h1.blk _ k b hr m1;have:=hW.hZ hs m2;have:=(a5 fk).1;omega
  ·rw[(nB hl).1]at m1;rw[(nB hl2).1]at m2;have:=h1.inj _ _ k l b hr hs fk fl m1 m2;omega
 ·intro r hr;simp only[oH]at hr;have hl:H.length<=r:=by omega
  rw[(nB hl).1,(nB hl).2.1];exact h1.top _ (by omega)
theorem LX {r sz v}(h:VR w' G' μ1 (.own r sz) v):VR w' G' (vE μ μ1 H.length) (.own (H.length+r) sz) v:=by
 have e:=nB (μ:=μ) (μ1:=μ1) (h:=H.length) (r:=H.length+r) (by simp);rw[VR]at h ⊢;grind
def aHP(P:Program) (g:FuncId) (args:List Kd) (e:TypeId) (ty:Ty) (f:aL args->Option (List ty.den)):Prop :=
 ∀ x l,f x=some l->∀ {n0 G μ w us},aM n0 G μ [] w->VRs w G μ (eX args x) us->lN P n0 w G μ g us.toArray (.own 0 ty.size) [some ⟨aD ty l,e,true,false,some ⟨ty,l⟩⟩]
def aV9(t:Nat)(e:TypeId)(ty:Ty)(ex:Ex)(F:Frm)(H:Heap):Option (List ty.den):=match ex with
 | .exit _=>none
 | _=>match B2 [(t,.own e ty)] F H with
  | some x=>some x.1
  | none=>none
def aOT(P:Program)(E:Env)(fn:Func)(aU:Nat)(lt:Nat->Option bT)(c:Code) args (t:Nat)(e:TypeId)(ty:Ty)(x:aL args):Option (List ty.den) :=
 bif Nat.ble (eX args x).length fn.ntmps then jO P E fn.ntmps aU lt c (start aU 0 (eX args x)) [] (aV9 t e ty) else none
theorem aR2 {E} (hP:tW P) (hE:fC P E) {g:Nat} {fn} (hg:P.funcs[g]?=some fn) {c} (hc:fn.body=some c) {aU lt args} {t:Nat} (hr:fn.results.toList=[.tmp t]) {e ty f}
  (hl:∀ a∈bI c,∀ s,lt (aO a)=some s->fJ P fn.ntmps a s) (hb:∀ x,aOT P E fn aU lt c args t e ty x=f x):aHP P g args e ty f:=by
 intro x l hy n0 G μ w us hW hv;rw[<- hb]at hy;unfold aOT at hy;obtain⟨hlen,hy⟩:=aG hy;obtain⟨⟨ex,F',H'⟩,h1,h2⟩:=fL hE.callee hP.mixed c _ _ _ _ hl hy;obtain⟨y,hex,hd,hyl⟩:∃ y,(ex=.normal\/ex=.ret)/\B2 [(t,.own e ty)] F' H'=some y/\y.1=l:=by
  unfold aV9 at h1;split at h1
  ·cases h1
  ·rename_i hne;split at h1
   ·rename_i y hy;simp only[oJ]at h1;refine⟨y,?_,hy,h1⟩;cases ex with
    | normal=>exact .inl rfl
    | ret=>exact .inr rfl
    | exit i=>exact absurd rfl (hne i)
   ·cases h1
 obtain⟨yl,⟨⟩⟩:=y;dsimp only at hyl;subst hyl;refine⟨enters hg (hP.names g fn hg) (by rw[hc]; rfl) _ _,calls_of_wp hg hc ?_⟩;have hI:I n0 w G μ fn.ntmps (start aU 0 (eX args x)) [] ⟨us.toArray++Array.replicate (fn.ntmps-us.toArray.size) undef,[]⟩ w:=⟨G,μ,Ext.refl _ _ _ _,hW,lB (by simpa using hv) (oL hlen)⟩;refine wp_mono (h2 n0 w G μ _ w (λr=>hW.top r (Nat.zero_le _)) hI) ?_;rintro e0 a' w' ⟨rfl,hI'⟩
 obtain⟨G',μ',e',hW',hF'⟩:=sE hd (λr=>hW.top r (Nat.zero_le _)) hI';have hvs:jF P (nZ [(t,.own e ty)] (yl,()) 0) (vD [(t,.own e ty)] (yl,())) fn.results.toList=some [.own 0 ty.size]:=by
  rw[hr];simp[jF,SF,nZ,qB,bB]
 obtain⟨ws,h3,h4⟩:=gH (P:=P) hW' hF' hvs;have hres:(results fn a'.tmps).run P w'=.ok (if hh:ws.toArray.size=1 then ws.toArray[0] else .tuple ws.toArray) w':=by
  rw[mR,Array.mapM_eq_mapM_toList];simp only[Sem.run_bind,Sem.run_map,h3,Result.andThen_ok,Sem.run_pure]
 have hpost:a'.defers=[]/\∃ v,(results fn a'.tmps).run P w'=.ok v w'/\(∃ v' G'' μ'',Ending.returned v=.returned v'/\Ext n0 w G μ w' G'' μ''/\aM n0 G'' μ'' (vD [(t,.own e ty)] (yl,())) w'/\VR w' G'' μ'' (.own 0 ty.size) v') :=
  ⟨hF'.defers,_,hres,_,G',μ',rfl,e',hW',iH h4⟩
 rcases hex with rfl|rfl
 ·exact hpost
 ·exact hpost
def aOW(args:List Kd) (e:TypeId) (ty:Ty) (f:aL args->Option (List ty.den)) (qs:List PV) (H:Heap):Option RK :=
 bif bU.noRefs qs&&(cR.noRows qs&&ty.plain) then match TX args qs with
  | some x=>some ⟨List ty.den,f x,λl=>(.own H.length ty.size,H++[some ⟨aD ty l,e,true,false,some ⟨ty,l⟩⟩])⟩
  | none=>none
 else none
def aTT(args:List Kd) (e:TypeId) (ty:Ty) (f:aL args->Option (List ty.den)) (qs:List PV) (H:Heap):Option RK :=
 match aDD (o7 H (aA0 qs)) qs with
 | some ps=>aOW args e ty f ps (o7 H (aA0 qs))
 | none=>none
theorem aO3 {g args e ty f}(hf:aHP P g args e ty f):vB P (g,aOW args e ty f):=by
 intro qs H r h y hy n0 G μ w vs hW hv;dsimp only at h;unfold aOW at h;obtain⟨hn,h⟩:=IZ h;split at h
 ·rename_i x hx;have h:=oB h;subst h;simp only[oA]at hn;obtain⟨hn,hnr,hpl⟩:=hn;have hW0:aM (nO w) G.bare aF [] w:=⟨λr k b h=>by simp at h,λr k g h=>by simp at h,λr s k l b h=>by simp at h,hW.lt,λ_ _=>⟨rfl,rfl⟩,λ_ h=>h,kH.none _ _ (λ_=>rfl) _ _ (λr k h=>by simp at h)⟩;obtain⟨h1,h2⟩:=hf x y hy hW0 (uK args hx (j9 (G:=G) (G':=G.bare) (λb h=>h) _ _ _ hnr (bG _ _ hn hv)));refine⟨h1,h2.mono ?_⟩;rintro e' w' ⟨v',G',μ1,rfl,e1,e2,e3⟩
  refine⟨v',G'.with G,vE μ μ1 H.length,rfl,UB hW e1,X6 hW e1 e2 rfl (λr k hr=>?_),?_⟩
  ·cases r with
   | zero =>
    simp only[List.getElem?_cons_zero,oJ]at hr;subst hr;exact⟨mF _ hpl _,λt l h=>by obtain⟨rfl,_⟩:=h; cases hpl⟩
   | succ r=>simp at hr
  have:=LX (H:=H) (μ:=μ) e3;rw[VR]at this ⊢;simpa using this
 ·cases h
theorem aQ4 {g args e ty f}(hf:aHP P g args e ty f):vB P (g,aTT args e ty f):=by
 intro qs H r h y hy n0 G μ w vs hW hv;dsimp only at h;unfold aTT at h;split at h
 ·rename_i ps hps;obtain⟨G1,e1,hW1⟩:=pJ (aA0 qs) H G hW;obtain⟨h1,h2⟩:=aO3 hf ps _ r h y hy hW1 (Z5 hW1 hps (VRs.mono e1.toMono _ _ hv)).aP;refine⟨h1,h2.mono ?_⟩;rintro e' w' ⟨v',G',μ1,rfl,q1,q2,q3⟩;exact⟨v',G',μ1,rfl,e1.trans q1,q2,q3⟩
 grind
end
end Go.PM
namespace Go.PM
open Go
theorem aX i n:aN i n=decide (0<=i/\i<n):=by
 cases i with
 | ofNat m =>
  show Nat.blt m n=_;rw[cE];simp
 | negSucc m =>
  rfl
theorem gP(m n:Nat):Nat.ble m n=decide (m<=n):=by
 cases h:Nat.ble m n with
 | true=>simp_all
 | false =>
  refine(oF λhl=>?_).symm;rw[Nat.ble_eq_true_of_le hl]at h;grind
theorem wrap64 {x}(h1 : -9223372036854775808<=x)(h2:x<9223372036854775808):aH .i64 x=x:=by
 cases x with
 | ofNat m =>
  have:m<9223372036854775808:=by grind
  unfold aH;simp only[cE,oT this,oC]
 | negSucc m =>
  have:m<9223372036854775808:=by omega
  unfold aH;simp only[cE,oT this,oC]
theorem c8(i:Nat)(h:i<9223372036854775807):aH .i64 (i+1)=((i+1:Nat)):=by rw[wrap64 (by omega) (by omega)]; rfl
theorem aQB {x}(h1 : -9223372036854775808<=x)(h2:x<9223372036854775808):IntKind.wrap .i64 x=x:=by rw[<- UM]; exact wrap64 h1 h2
theorem bR {α:Type} p [Decidable p](a b:α):(bif decide p then a else b)=if p then a else b:=by simp
theorem aC {τ α} x (k:τ->Option α):aB (some x) k=k x:=rfl
theorem qD p [Decidable p]:(!decide p)=decide (¬ p):=by simp
theorem zJ {β γ α}(z:β) f (g:γ->Option α):j8 (.inl z) f g=f z:=rfl
theorem iT {β γ α}(z:γ)(f:β->Option α) g:j8 (.inr z) f g=g z:=rfl
section
variable {σ τ:Type} {step:σ->Option (σ⊕τ)}
theorem bD n x:bF step (n+1) x=match step x with
  | some (.inl y)=>bF step n y
  | some (.inr z)=>some z
  | none=>none:=rfl
theorem QN(F:Nat->σ) k:∀ m j,(∀ i,j<=i->i<j+m->step (F i)=some (.inl (F (i+1))))->bF step (m+k) (F j)=bF step k (F (j+m))
 | 0,j,_=>by simp
 | m+1,j,h=>by
  rw[Nat.add_right_comm,bD,h j (oM _) (by simp)];show bF step (m+k) (F (j+1))=_;rw[QN F k m (j+1) λi h1 h2=>h i (by omega) (by omega)];grind
theorem c7 {N:Nat} (F:Nat->σ) (m:Nat) (z:τ) (hN:m<N) (h:∀ i,i<m->step (F i)=some (.inl (F (i+1)))) (he:step (F m)=some (.inr z)):bF step N (F 0)=some z:=by
 obtain⟨k,rfl⟩:∃ k,N=m+(k+1):=⟨N-m-1,by omega⟩;rw[QN F (k+1) m 0 (λi _ h2=>h i (by omega)),Nat.zero_add,bD,he]
theorem IJ(F:Nat->σ) (stop:Nat->Option τ) (z:τ) (k:Nat):∀ (m j:Nat),(∀ i,j<=i->i<j+m->step (F i)=some (match stop i with|some y=>.inr y|none=>.inl (F (i+1))))->step (F (j+m))=some (.inr z) ->
   bF step (m+(k+1)) (F j)=some (((List.range' j m).findSome? stop).getD z)
 | 0,j,_,he=>by rw[Nat.zero_add,bD,show F j=F (j+0) from rfl,he]; rfl
 | m+1,j,h,he=>by
  rw[Nat.add_right_comm,bD,h j (oM _) (by omega),List.range'_succ,List.findSome?_cons];cases hs:stop j with
  | some y=>rfl
  | none =>
   show bF step (m+(k+1)) (F (j+1))=_;exact IJ F stop z k m (j+1) (λi h1 h2=>h i (by omega) (by omega)) (by rw[<- he]; congr 2; omega)
theorem LM {N}(F:Nat->σ) stop m z (hN:m<N)(h:∀ i,i<m->step (F i)=some (match stop i with|some y=>.inr y|none=>.inl (F (i+1))))(he:step (F m)=some (.inr z)) :
  bF step N (F 0)=some (((List.range m).findSome? stop).getD z):=by
 obtain⟨k,rfl⟩:∃ k,N=m+(k+1):=⟨N-m-1,by omega⟩;rw[List.range_eq_range'];exact IJ F stop z k m 0 (λi _ h2=>h i (by omega)) (by grind)
end
open Go Go.RowKit Go.Proofs Tryz
set_option maxHeartbeats 4000000
def f64(x:aL [.list TyE]):oK [.list TyE]:=match x with
 | (v0,()) =>
  bif Nat.blt 0 v0.length then bif Nat.ble v0.length 1048576 then some (v0,()) else none else none
theorem aXA:wO Tryz.prog 33 _ _ f64:=oI (aQ oW) func33 (by kernel_rfl) (by rintro⟨v0,⟨⟩⟩; kernel_rfl)
theorem aPK:∃ i:TypeInfo,Tryz.prog.info? 3=some i:=⟨(Tryz.prog.info? 3).get (by kernel_rfl),(Option.some_get _).symm⟩
theorem Tryz.aIJ (w:World)(a:Option Addr)(n c n' c':Nat):(binOp .eql 29 (.slice a n c) (.slice none n' c')).run Tryz.prog w=.ok (.bool a.isNone) w:=Lib.run_eql_slice_nil w _ _ a n c n' c' underlying29
theorem aI5(c:Nat)(w:World):Calls Tryz.prog 33 #[.slice none 0 c] w λe w'=>e=.returned (.slice none 0 0)/\w'=w:=by
 have qT:=Tryz.aIJ
 go_enter func33,ntmps33
 go_wp2
 go_ret
 exact⟨rfl,rfl⟩
set_option maxHeartbeats 2000000 in
theorem aD5(p:Addr) (c:Nat) (w:World):Calls Tryz.prog 33 #[.slice (some p) 0 c] w λe w'=>e=.returned (.slice (some ⟨w.heap.size,0,none⟩) 0 0)/\w'=w.alloc (.cells #[] 3):=by
 have qT:=Tryz.aIJ;obtain⟨i,hi⟩:=aPK;have hrz:∀ ty,(Builtin.append_ #[29,29] ty #[.slice (some ⟨w.heap.size,0,none⟩) 0 0,.slice (some p) 0 c]).run Tryz.prog (w.alloc (.cells #[] 3))=.ok (.slice (some ⟨w.heap.size,0,none⟩) 0 0) (w.alloc (.cells #[] 3)):=λty =>
  run_append_nothing _ 29 29 ty 3 i underlying29 hi _ 0 0 (oM _) _ (Src.ofSlice _ (e':=3) underlying29 p 0 c [] (Nat.zero_mul _).symm (λj u hu=>by simp at hu) (λu hu=>by cases hu))
 go_enter func33,ntmps33
 go_wp2_with (at_builtin; refine Lib.wpList_append_run _ rfl _ _ _ _ rfl _ _ rfl rfl _ _ (hrz _) ?_)
 all_goals (go_ret; exact⟨rfl,rfl⟩)
def aKS(x:aL [.list TyE]):oK [.list TyE]:=match x with
 | (l,())=>bif Nat.ble l.length 1048576 then some (l,()) else none
theorem aVZ:wO Tryz.prog 33 _ _ aKS:=by
 rintro⟨l,⟨⟩⟩ y h;unfold aKS at h;obtain⟨hl,h4⟩:=aG h;clear h;have h4:=oB h4;subst h4;cases l with
 | cons a l =>
  refine aXA (a::l,()) _ ?_;unfold f64;dsimp only;rw[hl,show Nat.blt 0 (a::l).length=true from rfl]; rfl
 | nil =>
  intro w G vs hG hv;have k1:VRs w (Gd.of G) aF [kD TyE [] none] vs.toList:=hv;rw[VRs]at k1;obtain⟨v,us,hvs,g1,g2⟩:=k1;rw[VRs]at g2;subst g2;unfold kD at g1;rw[VR]at g1;obtain⟨g1,-⟩:=g1;rw[VR]at g1;obtain⟨ao,c,rfl,-,-,-⟩:=g1;have hvs:vs=#[.slice ao 0 c]:=Array.ext' (by simpa using hvs);subst hvs;refine⟨enters func33 (by kernel_rfl) (by kernel_rfl) _ _,?_⟩;have hr:∀ {w':World} {G':Nat->Prop} (ao':Option Addr),VR w' (Gd.of G') aF (VA [.list TyE] ([],())) (.slice ao' 0 0):=by
   intro w' G' ao';show VR w' (Gd.of G') aF (kD TyE [] none) _;unfold kD;rw[VR];refine⟨?_,rfl⟩;rw[VR];exact⟨ao',0,rfl,oM _,λk hk=>(by cases hk),.inl rfl⟩
  cases ao with
  | none =>
   refine(aI5 c w).mono ?_;rintro e w' ⟨rfl,rfl⟩;exact⟨_,G,rfl,Ext.refl _ _ _ _,hG,hr _⟩
  | some p =>
   refine(aD5 p c w).mono ?_;rintro e w' ⟨rfl,rfl⟩;have he:=OT hG (((Below.refl _ w).alloc (oM _) (.cells #[] 3)));exact⟨_,G,rfl,he,λb hb=>Nat.lt_of_lt_of_le (hG b hb) he.size,hr _⟩
abbrev aW1:Ent:=⟨33,_,_,aKS⟩
theorem aP7:Ent.OK Tryz.prog aW1:=aVZ
end Go.PM
namespace Go.PM
open Go Go.RowKit Go.Proofs Tryz
set_option maxHeartbeats 4000000
def f98(x:aL [.int .i64]):oK [.bool]:=match x with
 | (v0,()) =>
  some (!(eqI v0 v0),())
abbrev e98:Ent:=⟨103,_,_,f98⟩
theorem aUB:Ent.OK Tryz.prog e98:=oI (aQ oW) func103 (by kernel_rfl) (by rintro⟨v0,⟨⟩⟩; kernel_rfl)
def f74(x:aL [.int .i64,.int .i64]):oK [.int .i64]:=match x with
 | (v0,v1,()) =>
  aB (f98 (v0,())) λy1 =>
  aB (f98 (v1,())) λy2 =>
  bif y1.1 then
   bif y2.1 then
    some (0,())
   else some ((-1),())
  else bif y2.1 then
   some (1,())
  else bif ltI v0 v1 then
   some ((-1),())
  else bif ltI v1 v0 then
   some (1,())
  else some (0,())
abbrev e74:Ent:=⟨72,_,_,f74⟩
theorem aT5:Ent.OK Tryz.prog e74:=oI (aQ (oV aUB oW)) func72 (by kernel_rfl) (by rintro⟨v0,v1,⟨⟩⟩; kernel_rfl)
abbrev aFA:List (Nat×Kd):=[(0,.list TyE),(1,.list TyE),(9,.list TyE),(10,.int .i64),(11,.int .i64)]
abbrev aMW:List (Ex×List (Nat×Kd)):=[(.ret,[(4,.int .i64)]),(.exit 0,[(0,.list TyE),(1,.list TyE)])]
def LZ(x:Shape.den aFA):oS aFA aMW:=match x with
 | (v0,v1,v9,v10,v11,()) =>
  bif ltI v11 v10 then
   bif aN v11 v9.length then bif !(ltI v11 (v1.length:Int)) then
    some (.inr (.inl (1,())))
   else bif aN v11 v1.length then aB (f74 ((v9.getD v11.toNat 0),(v1.getD v11.toNat 0),())) λy2 =>
   bif !(eqI y2.1 0) then
    some (.inr (.inl (y2.1,())))
   else some (.inl (v0,v1,v9,v10,(aH .i64 (v11+1)),())) else none else none
  else some (.inr (.inr ((v0,v1,()))))
def U1(x:Shape.den aFA):oX aMW:=bF LZ (2^64) x
def f57(x:aL [.list TyE,.list TyE]):oK [.int .i64]:=match x with
 | (v0,v1,()) =>
  aB (U1 (v0,v1,v0,(v0.length:Int),0,())) λz3 =>
  j8 z3 (λa4=>some (a4.1,())) λb5 =>
  bif ltI (b5.1.length:Int) (b5.2.1.length:Int) then
   some ((-1),())
  else some (0,())
abbrev e57:Ent:=⟨48,_,_,f57⟩
theorem aUO:Ent.OK Tryz.prog e57:=oU (aQ (oV aT5 oW)) func48 2 (lp:=U1) rfl (by kernel_rfl) (by rintro⟨v0,v1,v9,v10,v11,⟨⟩⟩; kernel_rfl) (by rintro⟨v0,v1,⟨⟩⟩; kernel_rfl)
def f35(x:aL [.list TyE,.list TyE]):oK [.int .i64]:=match x with
 | (v0,v1,()) =>
  aB (f57 (v0,v1,())) λy1 =>
  some (y1.1,())
abbrev e35:Ent:=⟨35,_,_,f35⟩
theorem aSY:Ent.OK Tryz.prog e35:=oI (aQ (oV aUO oW)) func35 (by kernel_rfl) (by rintro⟨v0,v1,⟨⟩⟩; kernel_rfl)
def f60(x:aL [.int .i64]):oK [.bool]:=match x with
 | (v0,()) =>
  bif !(ltI v0 (-1000000000)) then
   some (!(ltI 1000000000 v0),())
  else some (false,())
abbrev e60:Ent:=⟨46,_,_,f60⟩
theorem aTG:Ent.OK Tryz.prog e60:=oI (aQ oW) func46 (by kernel_rfl) (by rintro⟨v0,⟨⟩⟩; kernel_rfl)
def f59(x:aL [.int .i64]):oK [.bool]:=match x with
 | (v0,()) =>
  aB (f60 (v0,())) λy1 =>
  bif y1.1 then
   some (false,())
  else some (true,())
abbrev e59:Ent:=⟨45,_,_,f59⟩
theorem aU1:Ent.OK Tryz.prog e59:=oI (aQ (oV aTG oW)) func45 (by kernel_rfl) (by rintro⟨v0,⟨⟩⟩; kernel_rfl)
abbrev HG:List (Nat×Kd):=[(0,.list TyE),(1,.fn 45),(7,.int .i64),(8,.int .i64)]
abbrev QP:List (Ex×List (Nat×Kd)):=[(.ret,[(4,.int .i64)]),(.exit 0,[])]
def wB(x:Shape.den HG):oS HG QP:=match x with
 | (v0,v1,v7,v8,()) =>
  bif ltI v8 v7 then
   bif aN v8 v0.length then aB (f59 ((v0.getD v8.toNat 0),())) λy2 =>
   bif y2.1 then
    some (.inr (.inl (v8,())))
   else some (.inl (v0,(),v7,(aH .i64 (v8+1)),())) else none
  else some (.inr (.inr ((()))))
def CJ(x:Shape.den HG):oX QP:=bF wB (2^64) x
def L4(x:aL [.list TyE,.fn 45]):oK [.int .i64]:=match x with
 | (v0,v1,()) =>
  aB (CJ (v0,(),(v0.length:Int),0,())) λz3 =>
  j8 z3 (λa4=>some (a4.1,())) λb5 =>
  some ((-1),())
abbrev aMF:Ent:=⟨71,_,_,L4⟩
theorem aD8:Ent.OK Tryz.prog aMF:=oU (aQ (oV aU1 oW)) func71 2 (lp:=CJ) rfl (by kernel_rfl) (by rintro⟨v0,v1,v7,v8,⟨⟩⟩; kernel_rfl) (by rintro⟨v0,v1,⟨⟩⟩; kernel_rfl)
def TI(x:aL [.list TyE,.fn 45]):oK [.bool]:=match x with
 | (v0,v1,()) =>
  aB (L4 (v0,(),())) λy1 =>
  some (!(ltI y1.1 0),())
abbrev aDA:Ent:=⟨44,_,_,TI⟩
theorem aCL:Ent.OK Tryz.prog aDA:=oI (aQ (oV aD8 oW)) func44 (by kernel_rfl) (by rintro⟨v0,v1,⟨⟩⟩; kernel_rfl)
def f37(x:aL [.list TyE]):oK [.int .i64]:=match x with
 | (v0,()) =>
  bif ltI 64 (v0.length:Int) then
   some (4,())
  else aB (TI (v0,(),())) λy1 =>
  bif y1.1 then
   some (4,())
  else some (0,())
def c37:Code:=cM Tryz.f25
abbrev E37:Env:=qK [aDA]
theorem aTE:fC Tryz.prog E37:=aQ ⟨aCL,trivial⟩
def aXH(id:Nat):Option bT:=none
abbrev e37:Ent:=⟨25,_,_,f37⟩
theorem ZV:Ent.OK Tryz.prog e37:=HO aV aTE func25 (c:=c37) (by kernel_rfl) (aU:=bO Tryz.f25) (lt:=aXH) (bQ (l:=[]) (by kernel_rfl) trivial) (by rintro⟨v0,⟨⟩⟩; kernel_rfl)
abbrev P4:List (Nat×Kd):=[(0,.list TyE),(1,.list TyE),(12,.int .i64),(13,.int .i64)]
abbrev U3:List (Ex×List (Nat×Kd)):=[(.ret,[(4,.bool)]),(.exit 0,[])]
def IE(x:Shape.den P4):oS P4 U3:=match x with
 | (v0,v1,v12,v13,()) =>
  bif ltI v13 v12 then
   bif aN v13 v0.length then bif aN v13 v1.length then bif !(eqI (v0.getD v13.toNat 0) (v1.getD v13.toNat 0)) then
    some (.inr (.inl (false,())))
   else some (.inl (v0,v1,v12,(aH .i64 (v13+1)),())) else none else none
  else some (.inr (.inr ((()))))
def L6(x:Shape.den P4):oX U3:=bF IE (2^64) x
def f46(x:aL [.list TyE,.list TyE]):oK [.bool]:=match x with
 | (v0,v1,()) =>
  bif !(eqI (v0.length:Int) (v1.length:Int)) then
   some (false,())
  else aB (L6 (v0,v1,(v0.length:Int),0,())) λz1 =>
  j8 z1 (λa2=>some (a2.1,())) λb3 =>
  some (true,())
def c46:Code:=cM Tryz.f26
abbrev E46:Env:=qK []
theorem aLC:fC Tryz.prog E46:=aQ trivial
def aLH:Code:=kW c46 0
def aVL(id:Nat):Option bT:=bif Nat.beq id 4 then some ⟨P4,U3,L6⟩ else none
theorem aKP:∀ x,nP Tryz.prog E46 26 (bO Tryz.f26) aVL aLH P4 U3 x=IE x:=by
 rintro⟨v0,v1,v12,v13,⟨⟩⟩
 kernel_rfl
theorem aOC:fJ Tryz.prog 26 aLH ⟨P4,U3,L6⟩:=kT aLC.callee aV.mixed _ (bQ (l:=[]) (by kernel_rfl) trivial) aKP
abbrev e46:Ent:=⟨26,_,_,f46⟩
theorem aEZ:Ent.OK Tryz.prog e46:=HO aV aLC func26 (c:=c46) (by kernel_rfl) (aU:=bO Tryz.f26) (lt:=aVL) (bQ (l:=[aLH]) (by kernel_rfl) ⟨j5 (i:=4) (by kernel_rfl) rfl aOC,trivial⟩) (by rintro⟨v0,v1,⟨⟩⟩; kernel_rfl)
def f43(x:aL [.list TyE,.list TyE]):oK [.bool]:=match x with
 | (v0,v1,()) =>
  aB (f46 (v0,v1,())) λy1 =>
  some (y1.1,())
abbrev e43:Ent:=⟨9,_,_,f43⟩
theorem aHC:Ent.OK Tryz.prog e43:=oI (aQ (oV aEZ oW)) func9 (by kernel_rfl) (by rintro⟨v0,v1,⟨⟩⟩; kernel_rfl)
abbrev PC:List (Nat×Kd):=[(0,.list TyO),(3,.box 46 TyO),(7,.int .i64),(8,.int .i64)]
abbrev S7:List (Ex×List (Nat×Kd)):=[(.ret,[(4,.int .i64)]),(.exit 0,[])]
def aCF(x:Shape.den PC):oS PC S7:=match x with
 | (v0,v3,v7,v8,()) =>
  bif ltI v8 v7 then
   bif aN v8 v0.length then bif (eqI v3.1 ((v0.getD v8.toNat (0,0)).1)&&(eqI v3.2 ((v0.getD v8.toNat (0,0)).2)&&true)) then
    some (.inr (.inl (v8,())))
   else some (.inl (v0,v3,v7,(aH .i64 (v8+1)),())) else none
  else some (.inr (.inr ((()))))
def S6(x:Shape.den PC):oX S7:=bF aCF (2^64) x
def f75(x:aL [.list TyO,.agg TyO]):oK [.int .i64]:=match x with
 | (v0,v1,()) =>
  aB (S6 (v0,v1,(v0.length:Int),0,())) λz1 =>
  j8 z1 (λa2=>some (a2.1,())) λb3 =>
  some ((-1),())
def c75:Code:=cM Tryz.f47
abbrev E75:Env:=qK []
theorem aL3:fC Tryz.prog E75:=aQ trivial
def aOX:Code:=kW c75 0
def aVX(id:Nat):Option bT:=bif Nat.beq id 2 then some ⟨PC,S7,S6⟩ else none
theorem aKG:∀ x,nP Tryz.prog E75 19 (bO Tryz.f47) aVX aOX PC S7 x=aCF x:=by
 rintro⟨v0,v3,v7,v8,⟨⟩⟩
 kernel_rfl
theorem aM0:fJ Tryz.prog 19 aOX ⟨PC,S7,S6⟩:=kT aL3.callee aV.mixed _ (bQ (l:=[]) (by kernel_rfl) trivial) aKG
abbrev e75:Ent:=⟨47,_,_,f75⟩
theorem aT2:Ent.OK Tryz.prog e75:=HO aV aL3 func47 (c:=c75) (by kernel_rfl) (aU:=bO Tryz.f47) (lt:=aVX) (bQ (l:=[aOX]) (by kernel_rfl) ⟨j5 (i:=2) (by kernel_rfl) rfl aM0,trivial⟩) (by rintro⟨v0,v1,⟨⟩⟩; kernel_rfl)
def f63(x:aL [.list TyO,.agg TyO]):oK [.bool]:=match x with
 | (v0,v1,()) =>
  aB (f75 (v0,v1,())) λy1 =>
  some (!(ltI y1.1 0),())
abbrev e63:Ent:=⟨32,_,_,f63⟩
theorem aU6:Ent.OK Tryz.prog e63:=oI (aQ (oV aT2 oW)) func32 (by kernel_rfl) (by rintro⟨v0,v1,⟨⟩⟩; kernel_rfl)
def f61(x:aL [.int .i64]):oK [.list TyO]:=match x with
 | (v0,()) =>
  bif eqI v0 2 then
   bif Nat.ble [(1,(-1)),((-1),1)].length 1048576 then bif Nat.ble [(1,0),((-1),0),(0,1),(0,(-1))].length 1048576 then bif Nat.blt 4 ([(1,0),((-1),0),(0,1),(0,(-1))].length+[(1,(-1)),((-1),1)].length) then some (([(1,0),((-1),0),(0,1),(0,(-1))]++[(1,(-1)),((-1),1)]),()) else none else none else none
  else some ([(1,0),((-1),0),(0,1),(0,(-1))],())
abbrev e61:Ent:=⟨30,_,_,f61⟩
theorem aTI:Ent.OK Tryz.prog e61:=oI (aQ oW) func30 (by kernel_rfl) (by rintro⟨v0,⟨⟩⟩; kernel_rfl)
abbrev aGA:List (Nat×Kd):=[(1,.box 31 TyA),(20,.agg (.prod TyD (.prod TyD TyD))),(21,.int .i64)]
abbrev aLA:List (Ex×List (Nat×Kd)):=[(.ret,[(2,.int .i64)]),(.exit 0,[])]
def xF(x:Shape.den aGA):oS aGA aLA:=match x with
 | (v1,v20,v21,()) =>
  bif ltI v21 3 then
   bif eqI v21 0 then
    aB (f37 (v20.1,())) λy4 =>
    bif !(eqI y4.1 0) then
     some (.inr (.inl (y4.1,())))
    else bif !(eqI (v20.1.length:Int) (v1.2.1.length:Int)) then
     some (.inr (.inl (5,())))
    else some (.inl (v1,v20,(aH .i64 (v21+1)),()))
   else bif eqI v21 1 then
    aB (f37 (v20.2.1,())) λy5 =>
    bif !(eqI y5.1 0) then
     some (.inr (.inl (y5.1,())))
    else bif !(eqI (v20.2.1.length:Int) (v1.2.1.length:Int)) then
     some (.inr (.inl (5,())))
    else some (.inl (v1,v20,(aH .i64 (v21+1)),()))
   else bif eqI v21 2 then aB (f37 (v20.2.2,())) λy6 =>
   bif !(eqI y6.1 0) then
    some (.inr (.inl (y6.1,())))
   else bif !(eqI (v20.2.2.length:Int) (v1.2.1.length:Int)) then
    some (.inr (.inl (5,())))
   else some (.inl (v1,v20,(aH .i64 (v21+1)),())) else none
  else some (.inr (.inr ((()))))
def G6(x:Shape.den aGA):oX aLA:=bF xF (2^64) x
def f24(x:aL [.agg TyA]):oK [.int .i64]:=match x with
 | (v0,()) =>
  bif !(eqI v0.1 1) then
   bif !(eqI v0.1 2) then
    some (12,())
   else aB (G6 (v0,v0.2,0,())) λz7 =>
   j8 z7 (λa8=>some (a8.1,())) λb9 =>
   some (0,())
  else aB (G6 (v0,v0.2,0,())) λz10 =>
  j8 z10 (λa11=>some (a11.1,())) λb12 =>
  some (0,())
abbrev e24:Ent:=⟨18,_,_,f24⟩
theorem aE6:Ent.OK Tryz.prog e24:=oU (aQ (oV ZV oW)) func18 4 (lp:=G6) rfl (by kernel_rfl) (by rintro⟨v1,v20,v21,⟨⟩⟩; kernel_rfl) (by rintro⟨v0,⟨⟩⟩; kernel_rfl)
def f25(x:aL [.agg TyA,.agg TyA]):oK [.bool]:=match x with
 | (v0,v1,()) =>
  bif eqI v0.1 v1.1 then
   aB (f46 (v0.2.1,v1.2.1,())) λy1 =>
   bif y1.1 then
    aB (f46 (v0.2.2.1,v1.2.2.1,())) λy2 =>
    bif y2.1 then
     aB (f46 (v0.2.2.2,v1.2.2.2,())) λy3 =>
     some (y3.1,())
    else some (false,())
   else some (false,())
  else some (false,())
abbrev e25:Ent:=⟨20,_,_,f25⟩
theorem aTK:Ent.OK Tryz.prog e25:=oI (aQ (oV aEZ oW)) func20 (by kernel_rfl) (by rintro⟨v0,v1,⟨⟩⟩; kernel_rfl)
abbrev aG2:List (Nat×Kd):=[(0,.list TyE),(1,.list TyE),(2,.int .i64),(3,.int .i64),(9,.own 3 TyE),(13,.int .i64),(14,.int .i64)]
abbrev aOB:List (Ex×List (Nat×Kd)):=[(.exit 0,[(9,.own 3 TyE)])]
def N0(x:Shape.den aG2):oS aG2 aOB:=match x with
 | (v0,v1,v2,v3,v9,v13,v14,()) =>
  bif ltI v14 v13 then
   bif aN v14 v0.length then bif aN v14 v1.length then bif Nat.ble [(aH .i64 ((aH .i64 (v2*(v0.getD v14.toNat 0)))+(aH .i64 (v3*(v1.getD v14.toNat 0)))))].length 1048576 then bif Nat.ble v9.length 1048576 then some (.inl (v0,v1,v2,v3,(v9++[(aH .i64 ((aH .i64 (v2*(v0.getD v14.toNat 0)))+(aH .i64 (v3*(v1.getD v14.toNat 0)))))]),v13,(aH .i64 (v14+1)),())) else none else none else none else none
  else some (.inr ((v9,())))
def UH(x:Shape.den aG2):oX aOB:=bF N0 (2^64) x
def f65(x:aL [.list TyE,.list TyE,.int .i64,.int .i64]):oK [.list TyE]:=match x with
 | (v0,v1,v2,v3,()) =>
  aB (UH (v0,v1,v2,v3,[],(v0.length:Int),0,())) λz1 =>
  some (z1.1,())
abbrev e65:Ent:=⟨34,_,_,f65⟩
theorem aNH:Ent.OK Tryz.prog e65:=oU (aQ oW) func34 3 (lp:=UH) rfl (by kernel_rfl) (by rintro⟨v0,v1,v2,v3,v9,v13,v14,⟨⟩⟩; kernel_rfl) (by rintro⟨v0,v1,v2,v3,⟨⟩⟩; kernel_rfl)
def f40(x:aL [.agg TyA,.agg (.prod TyE (.prod TyE TyO))]):oK [.agg TyA]:=match x with
 | (v0,v1,()) =>
  aB (aKS (v0.2.1,())) λy1 =>
  aB (f65 (v0.2.2.1,v0.2.2.2,v1.1,v1.2.2.1,())) λy2 =>
  aB (f65 (v0.2.2.1,v0.2.2.2,v1.2.1,v1.2.2.2,())) λy3 =>
  some ((v0.1,(y1.1,(y2.1,y3.1))),())
abbrev e40:Ent:=⟨14,_,_,f40⟩
theorem aBH:Ent.OK Tryz.prog e40:=oI (aQ (oV aP7 (oV aNH oW))) func14 (by kernel_rfl) (by rintro⟨v0,v1,⟨⟩⟩; kernel_rfl)
abbrev aFO:List (Nat×Kd):=[(1,.box 31 TyA),(2,.box 31 TyA),(12,.agg (.prod TyD (.prod TyD TyD))),(13,.int .i64)]
abbrev aMA:List (Ex×List (Nat×Kd)):=[(.ret,[(2,.box 31 TyA),(3,.int .i64)]),(.exit 0,[(1,.box 31 TyA),(2,.box 31 TyA)])]
def wG(x:Shape.den aFO):oS aFO aMA:=match x with
 | (v1,v2,v12,v13,()) =>
  bif ltI v13 3 then
   bif eqI v13 0 then
    aB (f37 (v12.1,())) λy4 =>
    bif !(eqI y4.1 0) then
     some (.inr (.inl ((0,([],([],[]))),4,())))
    else some (.inl (v1,v2,v12,(aH .i64 (v13+1)),()))
   else bif eqI v13 1 then
    aB (f37 (v12.2.1,())) λy5 =>
    bif !(eqI y5.1 0) then
     some (.inr (.inl ((0,([],([],[]))),4,())))
    else some (.inl (v1,v2,v12,(aH .i64 (v13+1)),()))
   else bif eqI v13 2 then aB (f37 (v12.2.2,())) λy6 =>
   bif !(eqI y6.1 0) then
    some (.inr (.inl ((0,([],([],[]))),4,())))
   else some (.inl (v1,v2,v12,(aH .i64 (v13+1)),())) else none
  else some (.inr (.inr ((v1,v2,()))))
def H9(x:Shape.den aFO):oX aMA:=bF wG (2^64) x
def f39(x:aL [.agg TyA]):oK [.agg TyA,.int .i64]:=match x with
 | (v0,()) =>
  aB (H9 (v0,(0,([],([],[]))),v0.2,0,())) λz7 =>
  j8 z7 (λa8=>some (a8.1,a8.2.1,())) λb9 =>
  some (b9.1,0,())
abbrev e39:Ent:=⟨39,_,_,f39⟩
theorem aTL:Ent.OK Tryz.prog e39:=oU (aQ (oV ZV oW)) func39 2 (lp:=H9) rfl (by kernel_rfl) (by rintro⟨v1,v2,v12,v13,⟨⟩⟩; kernel_rfl) (by rintro⟨v0,⟨⟩⟩; kernel_rfl)
def f48(x:aL [.agg TyA,.agg TyA]):oK [.int .i64]:=match x with
 | (v0,v1,()) =>
  aB (f35 (v0.2.2.1,v1.2.2.1,())) λy1 =>
  bif !(eqI y1.1 0) then
   some (y1.1,())
  else aB (f35 (v0.2.2.2,v1.2.2.2,())) λy2 =>
  some (y2.1,())
abbrev e48:Ent:=⟨15,_,_,f48⟩
theorem YY:Ent.OK Tryz.prog e48:=oI (aQ (oV aSY oW)) func15 (by kernel_rfl) (by rintro⟨v0,v1,⟨⟩⟩; kernel_rfl)
def f19(x:aL [.agg TyA,.agg TyA]):oK [.bool]:=match x with
 | (v0,v1,()) =>
  bif eqI v0.1 v1.1 then
   aB (f43 (v0.2.1,v1.2.1,())) λy1 =>
   bif y1.1 then
    aB (f43 (v0.2.2.1,v1.2.2.1,())) λy2 =>
    bif y2.1 then
     aB (f43 (v0.2.2.2,v1.2.2.2,())) λy3 =>
     some (y3.1,())
    else some (false,())
   else some (false,())
  else some (false,())
abbrev e19:Ent:=⟨29,_,_,f19⟩
theorem aUN:Ent.OK Tryz.prog e19:=oI (aQ (oV aHC oW)) func29 (by kernel_rfl) (by rintro⟨v0,v1,⟨⟩⟩; kernel_rfl)
end Go.PM
namespace Go.PM
open Go Go.RowKit
def forced(ops:Array Oper) (s:Nat):Bool:=(List.range ops.size).all λj=>Nat.blt j s||Nat.beq (Nat.land ((fP ops).getD j 0) (2^j-1)) (2^j-1)
def T4(l:List Oper):Bool:=(List.range l.length).all λi=>match l[i]? with
 | some o=>match o.guard with
  | some (g,_)=>Nat.blt g i
  | none=>true
 | none=>true
def SA(ops:Array Oper)(s:Nat):Bool:=AG (fP ops) 0 ops.toList&&forced ops s&&T4 ops.toList&&FP ops&&Nat.ble s ops.size
section
variable {P:Program} {ops:Array Oper} {s:Nat}
theorem S5(h:forced ops s=true){j b}(hj:j<ops.size)(hs:s<=j)(hb:b<j):((fP ops).getD j 0).testBit b=true:=by
 have:=List.all_eq_true.1 h j (List.mem_range.2 hj);rw[Bool.or_eq_true]at this;rcases this with h1|h1
 ·have:=cF h1; omega
 ·have h2:=oE h1;have h3:(Nat.land ((fP ops).getD j 0) (2^j-1)).testBit b=(2^j-1).testBit b:=by grind
  have h4:(2^j-1).testBit b=true:=by grind
  rw[h4]at h3;have h5:((fP ops).getD j 0 &&& (2^j-1)).testBit b=true:=h3;grind
theorem IW(hm:AG (fP ops) 0 ops.toList=true){i o}(ho:ops[i]?=some o):(fP ops).getD i 0=MP (fP ops) o.after.toList/\∀ e∈o.after,Region.binds .any e=true->e.on<i:=by
 have:=PH hm (by simpa using ho);grind
theorem RB(hm:AG (fP ops) 0 ops.toList=true) {listed:Array Bool} (hc:C3 (fP ops) (λi=>listed.getD i false)) {i:Nat} (hi:i∈Region.ready .any ops listed) :
  i<ops.size/\listed.getD i true=false/\∀ b,((fP ops).getD i 0).testBit b=true->listed.getD b false=true:=by
 obtain⟨h1,o,ho,h2⟩:=mem_ready.1 hi;refine⟨(Array.getElem?_eq_some_iff.1 ho).1,by simpa using h1,λb hb=>?_⟩;rw[(IW hm ho).1]at hb;rcases yY _ _ hb with h3|⟨e,h3,h4,h5⟩
 ·grind
 ·have h6:=h2 e (Array.mem_toList_iff.1 h3) h4;rcases h5 with rfl|h5
  ·exact h6
  ·exact hc e.on h6 b h5
theorem aQ8(hm:AG (fP ops) 0 ops.toList=true):∀ i b,i<ops.size->((fP ops).getD i 0).testBit b=true->b<i:=by
 intro i
 induction i using Nat.strongRecOn with
 | _ i ih =>
  intro b hi hb;obtain⟨o,ho⟩:∃ o,ops[i]?=some o:=⟨ops[i],Array.getElem?_eq_getElem hi⟩;have hma:=IW hm ho;rw[hma.1]at hb;rcases yY _ _ hb with h3|⟨e,h3,h4,h5⟩
  ·grind
  grind
variable {ro:Option Nat} {n:Nat} {Q:Exit->Act->World->Prop}
theorem aCH(hm:AG (fP ops) 0 ops.toList=true) (hf:forced ops s=true):∀ (k j:Nat) (L:Array Bool) (a:Act) (w:World),j+k=ops.size->s<=j->L.size=ops.size->(∀ i,i<ops.size->L.getD i false=decide (i<j)) ->
  wpListIn (Fr ro) n P ops Q (ops.toList.drop j) a w->wpAnyIn (Fr ro) n P .any ops Q k L a w
 | 0,j,L,a,w,hk,hs,hsz,hL,h=>by
  have hd:ops.toList.drop j=[]:=List.drop_of_length_le (by simp; omega);rw[hd]at h;refine⟨?_,h⟩
  by_cases hr:Region.ready .any ops L=[]
  ·exact hr
  ·obtain⟨i,hi⟩:=List.exists_mem_of_ne_nil _ hr;obtain⟨h1,o,ho,_⟩:=mem_ready.1 hi;grind
 | k+1,j,L,a,w,hk,hs,hsz,hL,h=>by
  have hj:j<ops.size:=by omega
  have hcl:C3 (fP ops) (λi=>L.getD i false):=by
   intro i hi b hb;replace hi:L.getD i false=true:=hi;have hilt:i<ops.size:=by grind
   have h1:=hL i hilt;rw[hi]at h1;have h2:=of_decide_eq_true h1.symm;have h3:=aQ8 hm i b hilt hb;grind
  have hready:∀ i∈Region.ready .any ops L,i=j:=by
   intro i hi;obtain⟨h1,h2,h3⟩:=RB hm hcl hi;have h4:¬ i<j:=λhij=>by grind
   rcases oG j i with hji|hji
   ·exfalso;have h5:=h3 j (S5 hf h1 (by omega) hji);grind
   ·omega
  obtain⟨o,ho⟩:∃ o,ops[j]?=some o:=⟨ops[j],Array.getElem?_eq_getElem hj⟩;have hd:ops.toList.drop j=o::ops.toList.drop (j+1):=by
   rw[List.drop_eq_getElem_cons (by simpa using hj)];grind
  rw[hd]at h;unfold wpListIn at h;have ih:∀ a w,wpListIn (Fr ro) n P ops Q (ops.toList.drop (j+1)) a w->wpAnyIn (Fr ro) n P .any ops Q k (L.setIfInBounds j true) a w:=λa w h=>by
   refine aCH hm hf k (j+1) _ a w (by omega) (by omega) (by simpa using hsz) (λi hi=>?_) h
   by_cases hij:j=i
   ·simp_all
   ·rw[getD_set_ne false hij,hL i hi]
    by_cases h2:i<j
    ·rw[oT h2,oT (by omega)]
    ·rw[oF h2,oF (by omega)]
  refine⟨λhr=>?_,λi hi=>?_⟩
  ·exfalso;have:j∈Region.ready .any ops L:=mem_ready.2 ⟨by
    have:=hL j hj;rw[oF (by omega)]at this;have hlt:j<L.size:=by omega
    simpa[Array.getD,hlt]using this,o,ho,λe he hb=>by
     have:=(IW hm ho).2 e he hb;rw[hL e.on (by omega)];exact oT this⟩
   rw[hr]at this;cases this
  ·have:=hready i hi;subst this;unfold wpOpIn;rw[ho];simp only
   by_cases hw:Region.wanted o (yielded ops a.tmps)=true
   ·rw[if_pos hw]at h ⊢;exact Oper.wpIn_mono ih h
   ·rw[if_neg hw]at h ⊢;exact⟨h.1,ih _ _ h.2⟩
theorem aEY {o y y'}(h:∀ g b,o.guard=some (g,b)->y g=y' g):Region.wanted o y=Region.wanted o y':=by
 unfold Region.wanted;grind
theorem ZB {l}(h:T4 l=true){i:Nat}{o}(ho:l[i]?=some o){g b}(hg:o.guard=some (g,b)):g<i:=by
 have:=List.all_eq_true.1 h i (List.mem_range.2 (oO.1 ho).1)
 simp_all
theorem aOH {ds:List Deferred} {Q1:Exit->Act->World->Prop} (hm:AG (fP ops) 0 ops.toList=true) (hf:forced ops s=true) (hg:T4 ops.toList=true) (hnd:FP ops=true) (hs:s<=ops.size)
  (hno:∀ e a w,Q1 e a w->e=.normal) (hQ:∀ a w,Q1 .normal a w->wpListIn (Fr ro) n P ops Q (ops.toList.drop s) (nC ds a) w) :
  ∀ (k:Nat) (L1 L:Array Bool) (a:Act) (w:World),L1.size=s->L.size=ops.size->(∀ i,i<s->L1.getD i false=L.getD i false)->(∀ i,s<=i->L.getD i false=false)->C3 (fP ops) (λi=>L.getD i false)->(List.range s).countP (λi=>!L.getD i false)=k ->
   wpAny P .any (ops.toList.take s).toArray Q1 k L1 a w->wpAnyIn (Fr ro) n P .any ops Q (k+(ops.size-s)) L (nC ds a) w
 | 0,L1,L,a,w,h1,h2,h3,h4,hc,hk,h=>by
  rw[Nat.zero_add];refine aCH hm hf (ops.size-s) s L _ w (by omega) (oM _) h2 (λi hi=>?_) (hQ a w h.2)
  by_cases his:i<s
  ·rw[oT his];rw[List.countP_eq_zero]at hk;grind
  ·grind
 | k+1,L1,L,a,w,h1,h2,h3,h4,hc,hk,h=>by
  have hun:∃ i,i<s/\L.getD i false=false:=by
   have:0<(List.range s).countP (λi=>!L.getD i false):=by omega
   obtain⟨i,hi,hp⟩:=List.countP_pos_iff.1 this;grind
  obtain⟨i0,hi0,hu0⟩:=hun;rw[show k+1+(ops.size-s)=(k+(ops.size-s))+1 by omega];refine⟨λhr=>?_,λi hi=>?_⟩
  ·exfalso;have all:∀ i,i<ops.size->L.getD i false=true:=by
    intro i
    induction i using Nat.strongRecOn with
    | _ i ih =>
     intro hi;cases hli:L.getD i false with
     | true=>rfl
     | false =>
      obtain⟨o,ho⟩:∃ o,ops[i]?=some o:=⟨ops[i],Array.getElem?_eq_getElem hi⟩;have:i∈Region.ready .any ops L:=mem_ready.2 ⟨by
       have hlt:i<L.size:=by omega
       simpa[Array.getD,hlt]using hli,o,ho,λe he hb=>ih e.on ((IW hm ho).2 e he hb) (by have:=(IW hm ho).2 e he hb; omega)⟩
      grind
   grind
  ·obtain⟨hi1,hi2,hi3⟩:=RB hm hc hi;have his:i<s:=by
    rcases oG i s with h|h
    ·exact h
    ·have:=hi3 i0 (S5 hf hi1 h (by omega));rw[hu0]at this; cases this
   obtain⟨_,o,ho,hdeps⟩:=mem_ready.1 hi;have hLi:L.getD i false=false:=by
    have hlt:i<L.size:=by omega
    simp only[Array.getD,hlt,dif_pos]at hi2 ⊢;exact hi2
   have hpre:∀ j,j<s->(ops.toList.take s).toArray[j]?=ops[j]?:=by
    intro j hj;simp only[List.getElem?_toArray,List.getElem?_take,hj,if_true,Array.getElem?_toList]
   have hready:i∈Region.ready .any (ops.toList.take s).toArray L1:=mem_ready.2 ⟨by
    have:=h3 i his;rw[hLi]at this;have hlt:i<L1.size:=by omega
    simpa[Array.getD,hlt]using this,o,by rw[hpre i his]; exact ho,λe he hb=>by
     have h5:=(IW hm ho).2 e he hb;rw[h3 e.on (by omega)];exact hdeps e he hb⟩
   have hop:=h.2 i hready;have hw:Region.wanted o (yielded (ops.toList.take s).toArray a.tmps)=Region.wanted o (yielded ops (nC ds a).tmps):=aEY λg b hgu=>by
    have hgi:=ZB hg (i:=i) (o:=o) (by simpa using ho) hgu;unfold yielded;rw[hpre g (by omega)];rfl
   have hset:∀ a w,wpAny P .any (ops.toList.take s).toArray Q1 k (L1.setIfInBounds i true) a w->wpAnyIn (Fr ro) n P .any ops Q (k+(ops.size-s)) (L.setIfInBounds i true) (nC ds a) w:=by
    intro a w h;have hLs:∀ j,j≠i->(L.setIfInBounds i true).getD j false=L.getD j false:=λj hj=>getD_set_ne false (λe=>hj e.symm)
    have hL1s:∀ j,j≠i->(L1.setIfInBounds i true).getD j false=L1.getD j false:=λj hj=>getD_set_ne false (λe=>hj e.symm)
    have hSi:(L.setIfInBounds i true).getD i false=true:=by
     have hlt:i<L.size:=by omega
     simp[Array.getD,hlt]
    have hS1i:(L1.setIfInBounds i true).getD i false=true:=by
     have hlt:i<L1.size:=by omega
     simp[Array.getD,hlt]
    refine aOH hm hf hg hnd hs hno hQ k _ _ a w (by simpa using h1) (by simpa using h2) ?_ ?_ ?_ ?_ h
    ·intro j hj
     by_cases hji:j=i
     ·subst hji; rw[hSi,hS1i]
     ·rw[hLs j hji,hL1s j hji,h3 j hj]
    ·intro j hj;rw[hLs j (by omega)]; exact h4 j hj
    ·intro j hj b hb;show (L.setIfInBounds i true).getD b false=true
     by_cases hbi:b=i
     ·subst hbi; exact hSi
     ·rw[hLs b hbi]
      by_cases hji:j=i
      ·subst hji; exact hi3 b hb
      ·have hj':L.getD j false=true:=by rw[<- hLs j hji]; exact hj
       exact hc j hj' b hb
    ·have:=PS (p:=λi=>!L.getD i false) (p':=λj=>!(L.setIfInBounds i true).getD j false) (i:=i) (by simp only[hLi,Bool.not_false]) (by simp only[hSi,Bool.not_true]) (λj hj=>by simp only[hLs j hj]) s his;omega
   unfold wpOp at hop;rw[hpre i his,ho]at hop;simp only at hop;unfold wpOpIn;rw[ho];simp only;rw[hw]at hop
   by_cases hww:Region.wanted o (yielded ops (nC ds a).tmps)=true
   ·rw[if_pos hww]at hop ⊢;rcases hop with hop|⟨_,a0,w0,h0⟩
    ·exact Y5 (BZ hnd (by rw[<- Array.getElem?_toList]at ho; exact List.mem_of_getElem? ho)) hset (λch a w h=>by cases hno _ a w h) (λa w h=>by cases hno _ a w h) hop
    ·cases hno _ a0 w0 h0
   ·rw[if_neg hww]at hop ⊢;refine⟨λ_ _=>trivial,?_⟩;rw[AH];exact hset _ _ hop
theorem nR {F Q1 l2}(hno:∀ e a w,Q1 e a w->e=.normal)(hQ:∀ a w,Q1 .normal a w->wpListIn F n P ops Q l2 a w):∀ {l1 a w},wpListIn F n P ops Q1 l1 a w->wpListIn F n P ops Q (l1++l2) a w
 | [],a,w,h=>hQ a w h
 | o::l1,a,w,h=>by
  rw[List.cons_append];unfold wpListIn at h ⊢;split at h
  ·rename_i hw;rw[if_pos hw];refine⟨h.1,?_⟩;have h2:=h.2;generalize (o.semAt F.round a.eval).run P w=r at h2 ⊢;cases r with
   | ok x w' =>
    cases x with
    | value v=>exact nR hno hQ h2
    | skip=>exact nR hno hQ h2
    | defer d=>exact nR hno hQ h2
    | enter f args =>
     refine⟨h2.1,CallsIn.mono h2.2 ?_⟩;rintro e w'' he;cases e with
     | returned v=>exact nR hno hQ he
     | panicked ch=>cases hno _ _ _ he
     | outgrown=>obtain⟨a0,w0,h0⟩:=he; cases hno _ _ _ h0
    | row row args=>exact⟨h2.1,RowsIn.mono h2.2 λv w'' he=>nR hno hQ he⟩
    | round l f t as1 b =>
     refine⟨h2.1,RoundIn.mono h2.2 ?_⟩;rintro e w'' he;cases e with
     | returned v=>exact nR hno hQ he
     | panicked ch=>cases hno _ _ _ he
     | outgrown=>obtain⟨a0,w0,h0⟩:=he; cases hno _ _ _ h0
    | _=>exact h2.elim
   | halt x w' =>
    cases x <;> first|(cases hno _ _ _ h2; done)|exact h2.elim
  ·rename_i hw;rw[if_neg hw];exact⟨h.1,nR hno hQ h.2⟩
end
section
variable {P:Program} {E:Env} {nt:Nat} {F F':Frm} {H H':Heap} {ops:Array Oper} {s:Nat}
theorem Y3(hcl:bN P (cJ P E)) (hP:P.follows .mixedOrders=true) {id:Nat} {draw:Bool} (hsp:SA ops s=true)
  (hrun:(bif draw then I9 P (cJ P E) nt (ops.toList.take s).toArray F H else yB P (cJ P E) nt ops.toList (ops.toList.take s) F H)=some (F',H'))
  {ro:Option Nat} {n:Nat} {n0:Nat->Prop} {wi:World} {Gi:Gd} {μi:Mp} {a:Act} {w:World} {ds:List Deferred} {Q:Exit->Act->World->Prop} (hI:I n0 wi Gi μi nt F H a w)
  (hQ:∀ a' w',I n0 wi Gi μi nt F' H' a' w'->wpListIn (Fr ro) n P ops Q (ops.toList.drop s) (nC ds a') w'):(Code.region id ops draw).wpIn (Fr ro) n P Q (nC ds a) w:=by
 simp only[SA,oA]at hsp;obtain⟨⟨⟨⟨hm,hf⟩,hg⟩,hnd⟩,hs⟩:=hsp;have hs:=oL hs;cases draw with
 | true =>
  have h1:=HH (Q:=λe a' w'=>e=.normal/\I n0 wi Gi μi nt F' H' a' w') hcl hrun hI (λa' w' h=>⟨rfl,h⟩);refine wpIn_region_any hP ?_;have hsz:(ops.toList.take s).toArray.size=s:=by simp[List.length_take]; omega
  rw[hsz]at h1;have hfalse:∀ m j,(Array.replicate m false).getD j false=false:=λm j=>by
   simp only[Array.getD]
   simp_all
  have:=aOH (n:=n) (ro:=ro) (ds:=ds) (Q:=Q) hm hf hg hnd hs (λe a w h=>h.1) (λa w h=>hQ a w h.2) s (Array.replicate s false) (Array.replicate ops.size false) a _ (by simp) (by simp) (λi _=>by rw[hfalse,hfalse]) (λi _=>hfalse _ i) (λj hj b hb=>by
   have:(Array.replicate ops.size false).getD j false=true:=hj;rw[hfalse]at this; cases this) (by
   rw[List.countP_eq_length.2]
   ·simp
   ·intro i _;rw[hfalse]; rfl) h1
  grind
 | false =>
  refine wpIn_region_list ?_;rw[<- List.take_append_drop s ops.toList];have h1:=rU (Q:=λe a' w'=>e=.normal/\I n0 wi Gi μi nt F' H' a' w') hcl (ops.toList.take s) F H a w hrun hI (λa' w' h=>⟨rfl,h⟩);have h2:=MD (ro:=ro) (n:=n) (ds:=ds) (Q':=λe a' w'=>e=.normal/\wpListIn (Fr ro) n P ops Q (ops.toList.drop s) a' w') (λa w h=>by cases h.1) (λe a w h=>⟨h.1,hQ a w h.2⟩) (λo ho=>BZ hnd (List.mem_of_mem_take ho)) h1
  exact nR (λe a w h=>h.1) (λa w h=>h.2) h2
end
def Sg(Φ:(Nat->Prop)->(Nat->Prop)->World->Prop) (G0 G:Gd) (μ:Mp) (H:Heap) (A:World):Prop :=
 ∃ (T X:Nat->Prop) (B:World) (GB:Gd) (μB:Mp),Φ T X B/\(∀ b,X b->T b)/\(∀ b,T b->b<B.heap.size)/\(∀ b,GB b->G0 b\/T b)/\(∀ b,G0 b->GB b) /\
  Ext (λb=>X b\/B.heap.size<=b) B GB μB A G μ/\aM (λb=>X b\/B.heap.size<=b) G μ H A
section
variable {P:Program} {Φ:(Nat->Prop)->(Nat->Prop)->World->Prop} {G0 G G':Gd} {μ μ':Mp} {H H':Heap} {A A' W:World} {F F':Frm} {nt n:Nat} {a:Act}
theorem Sg.start {J g0}(hlt:Lt W g0)(h:J (λ_=>False) (λ_=>False) W):Sg J (Gd.of g0) (Gd.of g0) aF [] W :=
 ⟨_,_,W,Gd.of g0,aF,h,λb h=>h,λb h=>h.elim,λb h=>.inl h,λb h=>h,Ext.refl _ _ _ _,λr k b h=>by grind,λr k g h=>by grind,λr s k l b h=>by simp,hlt,λ_ _=>⟨rfl,rfl⟩,λb hb=>.inr hb,kH.none _ _ (λ_=>rfl) _ _ (λr k h=>by grind)⟩
theorem Sg.open_ (h:Sg Φ G0 G μ H A):∃ n0,aM n0 G μ H A/\(∀ b,G0 b->G b)/\∀ A' G' μ' H',Ext n0 A G μ A' G' μ'->aM n0 G' μ' H' A'->Sg Φ G0 G' μ' H' A':=by
 obtain⟨T,X,B,GB,μB,h1,h2,h3,h4,h5,h6,h7⟩:=h;exact⟨_,h7,λb hb=>(h6.bS b (h5 b hb)).1,λA' G' μ' H' e w=>⟨T,X,B,GB,μB,h1,h2,h3,h4,h5,h6.trans e,w⟩⟩
theorem Sg.stp (h:Sg Φ G0 G μ H A):∃ T X B,Stp X B A/\Φ T X B:=by
 obtain⟨T,X,B,GB,μB,h1,h2,h3,h4,h5,h6,h7⟩:=h;exact⟨T,X,B,⟨λb hb hx=>h6.old b hb (by grind),h6.room,h6.os,h6.tape,h6.output,h6.size⟩,h1⟩
theorem Sg.yield {ks:List Kd} {l:Nat} {all:List (aL ks)} {J Jx:List (aL ks)->(Nat->Prop)->(Nat->Prop)->World->Prop}
  (hY:∀ pre e post T X B T' X' A us Gx m',all=pre++e::post->J pre T X B->Stp X B A->(∀ b,T' b->(T b\/B.heap.size<=b)/\b<A.heap.size)->(∀ b,X' b->T' b/\(X b\/B.heap.size<=b)) ->
   (∀ b,Gx b->(G0 b\/T' b)/\¬ X' b)->VRs A (Gd.of Gx) aF (eX ks e) us ->
   YieldAt Fence.wide m' P l us.toArray A λen C =>
    ((∀ b,b<A.heap.size->G0 b\/T' b->C.heap[b]?=A.heap[b]?)/\(∀ b n,Room A b n->Room C b n)/\A.heap.size<=C.heap.size)/\((en=.returned (.bool true)/\J (pre++[e]) T' X' C)\/(en=.returned (.bool false)/\Jx (pre++[e]) T' X' C)))
  {pre post:List (aL ks)} {e:aL ks} (hall:all=pre++e::post) {us:List Value} (h:Sg (J pre) G0 G μ H A) (hus:VRs A G aF (eX ks e) us) (hpl:cR.noRows (eX ks e)=true) (m':Nat) :
  YieldAt Fence.wide m' P l us.toArray A λen C=>Mono A G μ C G μ/\((en=.returned (.bool true)/\Sg (J (pre++[e])) G0 G μ H C)\/(en=.returned (.bool false)/\Sg (Jx (pre++[e])) G0 G μ H C)):=by
 obtain⟨T,X,B,GB,μB,h1,h2,h3,h4,h5,h6,h7⟩:=h;obtain⟨T',hT'⟩:∃ T':Nat->Prop,T'=λb=>T b\/(B.heap.size<=b/\b<A.heap.size):=⟨_,rfl⟩
 obtain⟨X',hX'⟩:∃ X':Nat->Prop,X'=λb=>(∃ r k,H[r]?=some (some k)/\k.frozen=false/\μ.loc r=some b)\/∃ j,G.row j=some b:=⟨_,rfl⟩
 have hGT:∀ b,G b->G0 b\/T' b:=by
  intro b hb;have hlt:=h7.lt b hb;rw[hT'];rcases h6.new b hb with h|h|h
  ·grind
  ·grind
  ·grind
 have hXT:∀ b,X' b->T' b/\(X b\/B.heap.size<=b)/\¬ G b:=by
  intro b hb;rw[hX']at hb;rcases hb with ⟨r,k,g1,g2,g3⟩|⟨j,hj⟩
  case inr =>
   obtain⟨s1,s2,s3,_⟩:=h7.rows.sep j b hj;grind
  obtain⟨c,q1,_,_,_,q5⟩:=h7.blk r k b g1 g3;grind
 have hst:Stp X B A:=⟨λb hb hx=>h6.old b hb (by rintro(h|h); exact hx h; omega),h6.room,h6.os,h6.tape,h6.output,h6.size⟩;obtain⟨fn,tmps,as1,body,y1,y2⟩:=hY pre e post T X B T' X' A us G.ok m' hall h1 hst (λb hb=>by
  rw[hT']at hb;rcases hb with hb|hb
  ·exact⟨.inl hb,Nat.lt_of_lt_of_le (h3 b hb) h6.size⟩
  ·exact⟨.inr hb.1,hb.2⟩) (λb hb=>⟨(hXT b hb).1,(hXT b hb).2.1⟩) (λb hb=>⟨hGT b hb,λhx=>(hXT b hx).2.2 hb⟩) (j9 (G:=G) (G':=Gd.of G.ok) (λb h=>h) _ _ _ hpl hus)
 refine⟨fn,tmps,as1,body,y1,y2.mono ?_⟩;rintro en C ⟨⟨k1,k2,k3⟩,hout⟩;have hgood:∀ b,G b->C.heap[b]?=A.heap[b]?:=λb hb=>k1 b (h7.lt b hb) (hGT b hb)
 have hmono:Mono A G μ C G μ:=⟨λb hb=>⟨hb,hgood b hb⟩,λ_ _ h=>h,λ_ _ h=>h,k2,λ_ _ h=>h,λ_ _ _=>rfl⟩;have hTs:∀ b,T' b->b<C.heap.size:=by
  intro b hb;rw[hT']at hb;rcases hb with hb|hb
  ·have:=h3 b hb; have:=h6.size; omega
  ·omega
 have hwinv:aM (λb=>X' b\/C.heap.size<=b) G μ H C:=by
  refine⟨?_,h7.tags,h7.inj,h7.lt.step (λb hb=>⟨hb,hgood b hb⟩) λb hb=>Nat.lt_of_lt_of_le (h7.lt b hb) k3,h7.top,λb hb=>.inr hb,(h7.rows.OG (n1:=λb=>X' b\/C.heap.size<=b) λj b hj _=>.inl (by rw[hX']; exact .inr ⟨j,hj⟩)).step hmono.aF k3 (λ_=>rfl) (λj b hj=>⟨?_,id,λr k h1 h2 h3=>⟨r,k,h1,h2,h3⟩⟩) (λr k _ _ h1 _ _=>⟨k,h1,rfl,rfl,rfl,rfl⟩)⟩
  case refine_2 =>
   exact k1 b (h7.rows.sep j b hj).1 (.inr (hXT b (by rw[hX']; exact .inr ⟨j,hj⟩)).1)
  intro r k b hr hb;obtain⟨c,q1,q2,q3,q4,q5⟩:=h7.blk r k b hr hb;have hx:k.frozen=false->X' b:=λhf=>by rw[hX']; exact .inl ⟨r,k,hr,hf,hb⟩
  have heq:C.heap[b]?=A.heap[b]?:=by
   cases hf:k.frozen with
   | true=>exact hgood b (q4 hf)
   | false=>exact k1 b (h7.hZ hr hb) (.inr (hXT b (hx hf)).1)
  exact⟨c,heq.trans q1,aK.mono hmono heq _ _ q2,q3,q4,λhf=>⟨.inl (hx hf),(q5 hf).2⟩⟩
 have key:∀ {Ψ:(Nat->Prop)->(Nat->Prop)->World->Prop},Ψ T' X' C->Sg Ψ G0 G μ H C:=λhψ =>
  ⟨T',X',C,G,μ,hψ,λb hb=>(hXT b hb).1,hTs,hGT,λb hb=>(h6.bS b (h5 b hb)).1,Ext.refl _ _ _ _,hwinv⟩
 refine⟨hmono,?_⟩;rcases hout with ⟨rfl,hj⟩|⟨rfl,hj⟩
 ·exact .inl ⟨rfl,key hj⟩
 ·exact .inr ⟨rfl,key hj⟩
variable {ops:Array Oper} {Q:Exit->Act->World->Prop}
theorem aPJ {o:Oper} {c:Call} {f:Operand} {rest:List Oper} {l:Nat} {us:Array Value} {R:Ending->World->Prop} (ho:o.op=.call c) (hc:c.callee=.value f) (hw:Region.wanted o (yielded ops a.tmps)=true) (hf:a.eval f=.func (.yield l) #[] #[]) (hargs:c.args.map a.eval=us)
  (hy:∀ m',YieldAt Fence.wide m' P l us A R) (hR:∀ en C,R en C->∃ v,en=.returned v/\wpListIn Fence.wide n P ops Q rest (a.put o.dst v) C):wpListIn Fence.wide n P ops Q (o::rest) a A:=by
 obtain⟨fn,tmps,as1,body,y1,y2⟩:=hy (n-1);unfold wpListIn;rw[if_pos hw];refine⟨λ_ _=>trivial,?_⟩;have hs:(o.semAt none a.eval).run P A=.ok (.round l fn tmps as1 body) A:=by
  rw[Oper.semAt_none];simp[execOp,ho,resolve,hc,hf,hargs,Deferred.ofValue,Sem.run_bind,Sem.run_pure,Result.andThen_ok,invoke,y1]
 show Oper.uponIn Fence.wide n P o a _ Q ((o.semAt none a.eval).run P A);rw[hs];refine⟨λh=>(by cases h),y2.mono ?_⟩;grind
theorem aQ2 {o:Oper} {rest:List Oper} (hw:Region.wanted o (yielded ops a.tmps)=false) (h:wpListIn Fence.wide n P ops Q rest (a.put o.dst undef) A):wpListIn Fence.wide n P ops Q (o::rest) a A:=by
 unfold wpListIn;rw[if_neg (by rw[hw]; decide)];exact⟨λ_ _=>trivial,h⟩
end
end Go.PM
