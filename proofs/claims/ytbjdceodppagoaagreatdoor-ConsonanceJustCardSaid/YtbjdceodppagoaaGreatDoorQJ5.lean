/- Texts of one proof, joined (5). -/
import Derived.ProofKit
import Derived.Lib.SmallJoins
import Derived.Test.YtbjdceodppagoaaGreatDoorRows
import Derived.LaidMore
import Derived.OpenShut
import Derived.Lib.LaidU8
import Derived.MakeChecks
import Derived.Test.YtbjdceodppagoaaGreatDoorTie
import Derived.Test.YtbjdceodppagoaaGreatDoorCards
import Derived.SevenTiedAt
import Derived.Test.YtbjdceodppagoaaGreatDoorProg
import Derived.KernelRfl
import Derived.OrdersIn
import Derived.TacticsIn
import Derived.RangeFuncRecord
import Derived.Sort.LoopGhostIn
import Derived.RangeFuncSeq
import Derived.Lib.AppendIntMem
import Derived.WalkKit
import Derived.BigCall
import Derived.BigGuard
import Derived.Test.YtbjdceodppagoaaGreatDoorQJ4
set_option linter.unusedSimpArgs false
set_option linter.unusedVariables false
set_option maxRecDepth 100000
noncomputable section
namespace Go.PM
open Go Go.RowKit
@[reducible] def aM:List Kd->Type
 | []=>Unit
 | k::r=>k.den×aM r
def kX:(l:List Kd)->aM l->List PV
 | [],_=>[]
 | k::r,(x,xs)=>B8 k x 0::kX r xs
def aLF:(l:List Kd)->List PV->Option (aM l)
 | [],[]=>some ()
 | k::r,p::ps=>match aDM k p [] 0 with
  | some x=>match aLF r ps with
   | some xs=>some (x,xs)
   | none=>none
  | none=>none
 | _,_=>none
def aDW:List Kd->Bool
 | []=>true
 | .own _ _::_|.box _ _::_|.win _ _::_|.bown _ _ _::_|.bque _ _ _::_|.bag _ _ _ _ _::_|.bag2 _ _ _ _ _ _::_|.ar _ _::_=>false
 | _::r=>aDW r
def Kd.plain:Kd->Bool
 | .list t|.agg t|.ptr t=>t.plain
 | .clo _ ts=>ts.all Ty.plain
 | .hnd _=>false
 | .mpk _=>false
 | _=>true
theorem aNW:∀ ts x,ts.all Ty.plain=true->dV.noRows (ZX ts x)=true
 | [],_,_=>rfl
 | t::r,(x,xs),h=>by
  simp only[List.all_cons,oA]at h;simp only[ZX,dV.noRows,oA];exact⟨aCQ t x h.1,aNW r xs h.2⟩
def XH(l:List Kd) (x:aM l):PV:=j6 (kX l x)
def aLD:(l:List Kd)->PV->Option (aM l)
 | [k],q=>match aDM k q [] 0 with
  | some x=>some (x,())
  | none=>none
 | l,.tuple qs=>aLF l qs
 | _,_=>none
section
variable {P:Program} {n0:Nat->Prop} {w wi:World} {G Gi:Gd} {μ μi μ':Mp} {H:Heap} {F:Frm} {a:Act} {nt:Nat}
theorem aYR {e t p n}:EY e t p [] n=none:=by
 unfold EY;split
 ·cases Nat.beq _ n&&Nat.beq _ t.size <;> rfl
 rfl
theorem aYW {e t p n}:aPB e t p [] n=none:=by
 unfold aPB;split
 ·cases Nat.beq _ n&&Nat.beq _ 0 <;> rfl
 rfl
theorem aVG {e et t p n}:aG7 e et t p [] n=none:=by
 unfold aG7;split
 ·cases Nat.beq _ n&&Nat.beq _ 0 <;> rfl
 rfl
theorem aVD {e et t p n}:aHS e et t p [] n=none:=by
 unfold aHS;split
 ·cases Nat.beq _ n&&Nat.beq _ 0 <;> rfl
 rfl
theorem aVB {e t1 et t eu u p n}:aHW e t1 et t eu u p [] n=none:=by
 unfold aHW;split
 ·rw[show gS [] n=none from by rfl];simp
 rfl
theorem aZ3 {e t1 et t t2 p n}:aPH e t1 et t t2 p [] n=none:=by
 unfold aPH;split
 ·cases Nat.beq _ n&&Nat.beq _ 0 <;> rfl
 rfl
theorem aR2:∀ k {p x v},aDM k p [] 0=some x->VR w G aG p v->VR w G aG (B8 k x 0) v
 | .int k,p,x,v,h,hv=>by
  have:=aBJ h;simp only[List.cons.injEq,and_true]at this;subst this;exact hv
 | .bool,p,x,v,h,hv=>by
  have:=YZ h;simp only[List.cons.injEq,and_true]at this;subst this;exact hv
 | .str,p,x,v,h,hv=>by
  have:=aAO h;simp only[List.cons.injEq,and_true]at this;subst this;exact hv
 | .list t,p,x,v,h,hv=>by
  have:=yH (.list t) aG [p] x [v] h (by rw[VRs]; exact⟨v,[],rfl,hv,by rw[VRs]⟩);simp only[enc]at this;obtain⟨y,ys,h1,h2,_⟩:=this;cases h1;exact h2
 | .agg t,p,x,v,h,hv=>by
  simp only[aDM]at h;unfold a0O at h;split at h
  next cs=>obtain⟨vs,rfl,h2⟩:=hv;simp only[B8];exact⟨vs,rfl,yH t aG cs x vs.toList h h2⟩
  ·cases h
 | .own e t,p,x,v,h,hv=>by
  simp only[aDM,aYR]at h;cases h
 | .box e t,p,x,v,h,hv=>by
  simp only[aDM,aYW]at h;cases h
 | .ptr t,p,x,v,h,hv=>Y1 h hv
 | .fn g,p,x,v,h,hv=>by
  have:=UD h;subst this;exact hv
 | .nil0,p,x,v,h,hv=>by
  have:=aGS h;subst this;exact hv
 | .val,p,x,v,h,hv=>by
  have:=aH1 (p:=p) (x:=x) h;subst this;exact hv
 | .nilI,p,x,v,h,hv=>by
  have:=aEA (p:=p) (x:=x) h;subst this;exact hv
 | .clo g ts,p,x,v,h,hv=>QI h hv
 | .win j sz,p,x,v,h,hv=>by
  have:=aHJ h;subst this;exact hv
 | .bown e et t,p,x,v,h,hv=>by
  simp only[aDM,aVG]at h;cases h
 | .bque e et t,p,x,v,h,hv=>by
  simp only[aDM,aVD]at h;cases h
 | .bag e t1 et t t2,p,x,v,h,hv=>by
  simp only[aDM,aZ3]at h;cases h
 | .bag2 e t1 et t eu u,p,x,v,h,hv=>by
  simp only[aDM,aVB]at h;cases h
 | .mpk j,p,x,v,h,hv=>by
  have:=aJY h;subst this;exact hv
 | .hnd sz,p,x,v,h,hv=>by
  have:=aIH (μ:=aG) (vs:=[v]) h (by rw[VRs]; exact⟨v,[],rfl,hv,by rw[VRs]⟩);obtain⟨y,ys,h1,h2,_⟩:=this;cases h1;exact h2
 | .ar e t,p,x,v,h,hv=>by
  simp only[aDM,a2J,PM.gS]at h;simp at h
theorem EF:∀ l {ps x vs},aLF l ps=some x->VRs w G aG ps vs->VRs w G aG (kX l x) vs
 | [],[],x,vs,h,hv=>hv
 | [],_::_,x,vs,h,hv=>by cases h
 | _::_,[],x,vs,h,hv=>by cases h
 | k::r,p::ps,x,vs,h,hv=>by
  simp only[aLF]at h;split at h
  next y hy=>
   split at h
   next ys hys=>simp only[oJ]at h;subst h;obtain⟨u,us,h1,h2,h3⟩:=hv;exact⟨u,us,h1,aR2 k hy h2,EF r hys h3⟩
   grind
  grind
theorem T4 {l q x v}(h:aLD l q=some x)(hv:VR w G aG q v):VR w G aG (XH l x) v:=by
 unfold aLD at h;split at h
 ·split at h
  next k q y hy=>simp only[oJ]at h;subst h;exact aR2 _ hy hv
  grind
 ·obtain⟨vs,rfl,h2⟩:=hv;have h3:=EF _ h h2
  match l,x,h3 with
  | [],x,h3 =>
   exact⟨vs,rfl,h3⟩
  | [k],x,h3=>grind
  | k::k2::r,(x,y,z),h3 =>
   exact⟨vs,rfl,h3⟩
 grind
def ZR(P:Program) (g:FuncId) (args rets:List Kd) (f:aM args->Option (aM rets)):Prop :=
 ∀ x y,f x=some y->o3 P g (kX args x) (XH rets y)
def a1U(args rets:List Kd) (f:aM args->Option (aM rets)) (qs:List PV):Option Res:=match aLF args qs with
 | some x=>some ⟨aM rets,f x,XH rets⟩
 | none=>none
theorem a6F {g args rets f}(hf:ZR P g args rets f){qs r}(h:a1U args rets f qs=some r):∀ y,r.val=some y->o3 P g qs (r.out y):=by
 unfold a1U at h;split at h
 next x hx=>simp only[oJ]at h;subst h;intro y hy w G vs hlt hv;exact hf x y hy w G vs hlt (EF args hx hv)
 grind
structure eS (P:Program) (E:Env):Prop where
 pure:∀ g qs r,E.pure g qs=some r->∀ y,r.val=some y->o3 P g qs (r.out y)
 shr:∀ g args H r,E.shr g args H=some r->∀ y,r.val=some y->∀ {n0 G μ w vs},aO n0 G μ H w->VRs w G μ args vs->vG P n0 w G μ g vs.toArray (r.out y).1 (r.out y).2
theorem eS.callee {E}(h:eS P E):dA P (eY P E):=by
 refine aQ3 ?_ ?_
 ·intro g args r hr;unfold aN3 at hr;split at hr
  next s hs=>
   split at hr
   next x hx=>simp only[oJ]at hr;subst hr;exact h.pure g args s hs x hx
   grind
  grind
 ·intro g args H r H' hr;unfold aM0 at hr;split at hr
  next s hs=>
   split at hr
   ·rename_i x hx;have hr:=oB hr;have h1:r=(s.out x).1:=W
    have h2:H'=(s.out x).2:=W
    subst h1; subst h2;intro n0 G μ w vs hW hv;exact h.shr g args H s hs x hx hW hv
   grind
  grind
def aXT(P:Program) (rs:List ResultVar) (rets:List Kd) (ex:Ex) (F:Frm) (H:Heap):Option (aM rets):=match ex with
 | .exit _=>none
 | _=>match o9 P F H rs with
  | some vs=>match aTG H (j6 vs)with
   | some q=>aLD rets q
   | none=>none
  | none=>none
def a03(P:Program)(E:Env)(fn:Func)(keep:Nat)(lt:Nat->Option eE)(c:Code) args rets (x:aM args):Option (aM rets) :=
 bif Nat.ble (kX args x).length fn.ntmps then l4 P E fn.ntmps keep lt c (start keep 0 (kX args x)) [] (aXT P fn.results.toList rets) else none
theorem aE3 {E} (hP:LW P) (hE:eS P E) {g:Nat} {fn} (hg:P.funcs[g]?=some fn) {c} (hc:fn.body=some c) {keep lt args rets f}
  (hl:∀ a∈bB c,∀ s,lt (cA a)=some s->eJ P fn.ntmps a s) (hb:∀ x,a03 P E fn keep lt c args rets x=f x):ZR P g args rets f:=by
 intro x y hy;rw[<- hb]at hy;obtain⟨hlen,hy⟩:=aJ hy;obtain⟨⟨ex,F',H'⟩,h1,h2⟩:=k8 hE.callee hP.mixed c _ _ _ _ hl hy;obtain⟨vs,q,hex,hvs,hq,hd⟩:∃ vs q,(ex=.normal\/ex=.ret)/\o9 P F' H' fn.results.toList=some vs/\aTG H' (j6 vs)=some q/\aLD rets q=some y:=by
  unfold aXT at h1;split at h1
  ·cases h1
  next hne=>
   split at h1
   ·rename_i vs hvs;split at h1
    ·rename_i q hq;refine⟨vs,q,?_,hvs,hq,h1⟩;cases ex with
     | normal=>exact .inl rfl
     | ret=>exact .inr rfl
     | exit i=>exact absurd rfl (hne i)
    ·cases h1
   ·cases h1
 have hcall:∀ {n0 G μ w us},aO n0 G μ [] w->VRs w G μ (kX args x) us->vG P n0 w G μ g us.toArray (j6 vs) H':=by
  intro n0 G μ w us hW hv;refine⟨enters hg (hP.names g fn hg) (by rw[hc]; rfl) _ _,calls_of_wp hg hc ?_⟩;have hI:I n0 w G μ fn.ntmps (start keep 0 (kX args x)) [] ⟨us.toArray++Array.replicate (fn.ntmps-us.toArray.size) undef,[]⟩ w:=⟨G,μ,Ext.refl _ _ _ _,hW,mE (by simpa using hv) (oL hlen)⟩;refine wp_mono (h2 n0 w G μ _ w (λr=>hW.top r (Nat.zero_le _)) hI) ?_;rintro e a' w' ⟨rfl,G',μ',e',hW',hF'⟩;obtain⟨ws,h3,h4⟩:=lK (P:=P) hW' hF' hvs
  have hres:(results fn a'.tmps).run P w'=.ok (if hh:ws.toArray.size=1 then ws.toArray[0] else .tuple ws.toArray) w':=by
   rw[wA,Array.mapM_eq_mapM_toList]
   simp_all
  have hpost:a'.defers=[]/\∃ v,(results fn a'.tmps).run P w'=.ok v w'/\(∃ v' G'' μ'',Ending.returned v=.returned v'/\Ext n0 w G μ w' G'' μ''/\aO n0 G'' μ'' H' w'/\VR w' G'' μ'' (j6 vs) v') :=
   ⟨hF'.defers,_,hres,_,G',μ',rfl,e',hW',mT h4⟩
  rcases hex with rfl|rfl
  ·exact hpost
  ·exact hpost
 have hp:=KF hcall (CR hq).1 (CR hq).2;intro w G us hlt hv;obtain⟨h3,h4⟩:=hp w G us hlt hv;refine⟨h3,h4.mono ?_⟩;rintro e w' ⟨v',G',rfl,e1,e2,e3⟩;exact⟨v',G',rfl,e1,e2,T4 hd e3⟩
end
open Go Go.RowKit Go.ChangeShapes Go.WideShapes Go.ChangeAt Go.Joins
theorem aM6 b off n:(⟨b,off,none⟩:Addr).add n=⟨b,off+n,none⟩:=by cases n <;> simp[Addr.add]
def WF:(t:Ty)->t.den->Prop
 | .int k,x=>(Lit.int k x).wf=true
 | .bool,_=>True
 | .str,s=>s.size<=maxLen
 | .hnd _,_=>True
 | .rows _,_=>True
 | .smap,_=>True
 | .list t,l=>l.length<=maxLen/\∀ a∈l,WF t a
 | .prod a b,(x,y)=>WF a x/\WF b y
abbrev GW(w:World):Gd:=Gd.of λb=>b<w.heap.size
def OpT(P:Program) (t:TypeId) (T:Ty):Prop :=
 P.cellsOf t=T.size/\∀ (H:Type) (en:TypeId×Value->H) (w:World) (base:Nat) (spare:Nat->Bool) (held:Bool) (fuel:Nat) (cs:List Value) (x:DataW H×List MemPlace),
  DataW.trod en P w base spare held fuel t cs=some x->∃ a:T.den,VRs w (GW w) aG (enc T a) cs/\WF T a
section
variable {P:Program}
theorem aN2 {w G p v}(h:VR w G aG p v):VRs w G aG [p] [v]:=by exact⟨v,[],rfl,h,by rfl⟩
theorem aMC {t k}(ht:P.underlying t=some (.int k))(hc:P.cellsOf t=1):OpT P t (.int k):=by
 refine⟨hc,λH en w base spare held fuel cs x h=>?_⟩;obtain⟨n,rfl,-,wf⟩:=DataW.trod_int ht h;exact⟨n,aN2 (by rfl),wf⟩
theorem a6Z {t}(ht:P.underlying t=some .bool)(hc:P.cellsOf t=1):OpT P t .bool:=by
 refine⟨hc,λH en w base spare held fuel cs x h=>?_⟩;obtain⟨n,rfl,-⟩:=DataW.trod_bool ht h;exact⟨n,aN2 (by rfl),trivial⟩
theorem aL.app {w G b}:∀ {ps qs off},aL w G aG b off ps->aL w G aG b (off+ps.length) qs->aL w G aG b off (ps++qs)
 | [],qs,off,_,h=>h
 | p::ps,qs,off,h,k=>by
  refine⟨h.1,aL.app h.2 ?_⟩;grind
theorem aL.a8C {w G b}:∀ {ps vs off},VRs w G aG ps vs->(∀ i h,w.cell? ⟨b,off+i,none⟩=some vs[i])->aL w G aG b off ps
 | [],vs,off,_,_=>by trivial
 | p::ps,vs,off,h,k=>by
  obtain⟨x,xs,rfl,h2,h3⟩:=h;refine⟨⟨x,k 0 R,h2⟩,aL.a8C h3 λi hi=>?_⟩;have:=k (i+1) W;grind
theorem aSD {w:World}{T:Ty}{b:Nat}:∀ (l:List T.den) (off:Nat),(∀ i (h:i<l.length),aL w (GW w) aG b (off+i*T.size) (enc T l[i]))->aL w (GW w) aG b off (aI T l)
 | [],off,_=>by show aL w _ aG b off []; rw[aL]; trivial
 | a::l,off,h=>by
  show aL w _ aG b off (enc T a++aI T l);refine aL.app (by have:=h 0 R; rw[Nat.zero_mul,Nat.add_zero]at this; exact this) ?_;rw[vP];refine aSD l _ λi hi=>?_
  have:=h (i+1) (by simpa using hi);rw[Nat.add_mul,Nat.one_mul,Nat.add_comm (i*_),<- Nat.add_assoc]at this;exact this
theorem aQP {t e T}(ht:P.underlying t=some (.slice e))(hc:P.cellsOf t=1)(he:OpT P e T):OpT P t (.list T):=by
 refine⟨hc,λH en w base spare held fuel cs x h=>?_⟩;rcases DataW.trod_slice ht h with ⟨rfl,-⟩|⟨a,len,cap,elems,rest,n,-,rfl,-,-,hl,hm,hel,hx,-,-⟩
 ·refine⟨[],aN2 ?_,⟨Nat.zero_le _,λa ha=>(by simp at ha)⟩⟩;rw[VR];refine⟨?_,rfl⟩;rw[VR];exact⟨none,0,rfl,oM _,λk hk=>(by cases hk),.inl rfl⟩
 ·have each:∀ i,i<len->∃ q:T.den,∃ es,(∀ j (_:j<es.length),w.cell? ((a.add (i*T.size)).add j)=some es[j])/\VRs w (GW w) aG (enc T q) es/\WF T q:=by
   intro i hi;have h1:=hx i hi;rw[List.getElem?_eq_getElem Z]at h1;obtain⟨es,h2,h3⟩:=Option.bind_eq_some_iff.1 h1;obtain⟨q,hq⟩:=he.2 _ _ _ _ _ _ _ _ _ h3;rw[he.1]at h2;obtain⟨-,hlen,hcell⟩:=World.cells?_some h2;refine⟨q,es,λj hj=>?_,hq⟩;rw[hcell j Z,List.getElem?_eq_getElem hj]
  by_cases h0:len=0
  ·subst h0;refine⟨[],aN2 ?_,⟨Nat.zero_le _,λa ha=>(by simp at ha)⟩⟩;rw[VR];refine⟨?_,rfl⟩;rw[VR];exact⟨some a,cap,rfl,hl,λk hk=>(by cases hk),.inl rfl⟩
  ·have hne:Nonempty T.den:=let ⟨q,_⟩:=each 0 Z; ⟨q⟩
   have key:∃ f:Nat->T.den,∀ i,i<len->∃ es,(∀ j (_:j<es.length),w.cell? ((a.add (i*T.size)).add j)=some es[j])/\VRs w (GW w) aG (enc T (f i)) es/\WF T (f i):=by
    classical
    refine⟨λi=>if hi:i<len then Classical.choose (each i hi) else Classical.choice hne,λi hi=>?_⟩;simp only[dif_pos hi];exact Classical.choose_spec (each i hi)
   obtain⟨f,hf⟩:=key;obtain⟨b,off,spot⟩:=a;have hfirst:∃ v,w.cell? ⟨b,off,spot⟩=some v:=by
    obtain⟨es,h1,h2,-⟩:=hf 0 Z;have hpos:0<es.length:=by rw[<- VRs.length h2,vP]; exact T.size_pos
    have:=h1 0 hpos;exact⟨_,by simpa[Addr.add]using this⟩
   have hspot:spot=none:=by
    obtain⟨v,hv⟩:=hfirst;simpa using World.cell?_spot hv
   subst hspot;have hb:b<w.heap.size:=by
    obtain⟨v,hv⟩:=hfirst;cases hh:w.heap[b]? with
    | none=>simp[World.cell?,hh]at hv
    | some o=>exact kM hh
   refine⟨(List.range len).map f,aN2 ?_,?_⟩
   ·rw[VR];refine⟨?_,rfl⟩;rw[VR];refine⟨some ⟨b,off,none⟩,cap,by simp,by simpa using hl,λk hk=>(by cases hk),.inr ⟨b,off,rfl,hb,?_⟩⟩;refine aSD _ _ λi hi=>?_
    have hi':i<len:=by simpa using hi
    obtain⟨es,h1,h2,-⟩:=hf i hi';have e1:((List.range len).map f)[i]=f i:=R
    rw[e1];refine aL.a8C h2 λj hj=>?_
    have:=h1 j hj;rw[aM6,aM6]at this;exact this
   ·refine⟨by simpa using oR hl hm,?_⟩;intro q hq;obtain⟨i,hi,rfl⟩:=List.mem_map.1 hq;obtain⟨es,-,-,h3⟩:=hf i (by simpa using hi);exact h3
def aTC(P:Program):List Field->Nat->Ty->Prop
 | [],_,_=>False
 | [f],off,T=>f.offset=off/\OpT P f.type T
 | f::g::r,off,.prod a b=>f.offset=off/\OpT P f.type a/\aTC P (g::r) (off+a.size) b
 | _::_::_,_,_=>False
theorem aO8 {w}:∀ fs off T (cs:List Value),aTC P fs off T->cs.length=off+T.size->(∀ f∈fs,∀ A ,OpT P f.type A->∃ a ,VRs w (GW w) aG (enc A a) ((cs.drop f.offset).take A.size)/\WF A a) ->
  ∃ a ,VRs w (GW w) aG (enc T a) (cs.drop off)/\WF T a
 | [],_,_,_,h,_,_=>h.elim
 | [f],off,T,cs,h,hl,hx=>by
  obtain⟨rfl,h2⟩:=h;obtain⟨a,h3,h4⟩:=hx f R T h2;rw[List.take_of_length_le W]at h3;grind
 | f::g::r,off,.prod A B,cs,h,hl,hx=>by
  obtain⟨rfl,h2,h3⟩:=h;obtain⟨a,h4,h5⟩:=hx f R A h2;obtain⟨b,h6,h7⟩:=aO8 (g::r) _ B cs h3 (by rw[hl,Ty.size]; omega) (λk hk=>hx k (List.mem_cons_of_mem _ hk));refine⟨(a,b),?_,h5,h7⟩;have:=VRs.append h4 h6;rw[<- List.drop_drop,List.take_append_drop]at this;exact this
 | _::_::_,_,.int _,_,h,_,_=>h.elim
 | _::_::_,_,.bool,_,h,_,_=>h.elim
 | _::_::_,_,.str,_,h,_,_=>h.elim
 | _::_::_,_,.list _,_,h,_,_=>h.elim
theorem aYK {t fs T}(ht:P.underlying t=some (.struct fs))(hc:P.cellsOf t=T.size)(hf:aTC P fs.toList 0 T):OpT P t T:=by
 refine⟨hc,λH en w base spare held fuel cs x h=>?_⟩;obtain⟨xs,n,-,-,hl,hx,hi⟩:=DataW.trod_struct ht h;obtain⟨a,h1,h2⟩:=aO8 fs.toList 0 T cs hf Z (λf hf A hA=>by
  obtain⟨i,hi',rfl⟩:=List.getElem_of_mem hf;have hs :=by simpa using hi'
  have h3:=hi i fs[i] R;rw[List.getElem?_eq_getElem Z]at h3;have hA1:=hA.1;simp only[Array.getElem_toList]at hA1 hA ⊢;rw[hA1]at h3;exact hA.2 _ _ _ _ _ _ _ _ _ h3)
 grind
def Ty.arr (T:Ty):Nat->Ty
 | 0=>T
 | n+1=>.prod T (Ty.arr T n)
theorem aWV T:∀ n,(Ty.arr T n).size=(n+1)*T.size
 | 0=>by simp[Ty.arr]
 | n+1=>by simp only[Ty.arr,Ty.size,aWV T n]; grind
theorem a0X {w T}{cs:List Value}:∀ n i,cs.length=(i+n+1)*T.size->(∀ j,i<=j->j<i+n+1->∃ a ,VRs w (GW w) aG (enc T a) ((cs.drop (j*T.size)).take T.size)/\WF T a) ->
  ∃ a ,VRs w (GW w) aG (enc (Ty.arr T n) a) (cs.drop (i*T.size))/\WF (Ty.arr T n) a
 | 0,i,hl,hx=>by
  obtain⟨a,h3,h4⟩:=hx i (oM _) R;rw[List.take_of_length_le W]at h3;exact⟨a,h3,h4⟩
 | n+1,i,hl,hx=>by
  obtain⟨a,h4,h5⟩:=hx i (oM _) Z;obtain⟨b,h6,h7⟩:=a0X n (i+1) W (λj h1 h2=>hx j Z Z);refine⟨(a,b),?_,h5,h7⟩;have:=VRs.append h4 h6;rw[Nat.add_mul,Nat.one_mul,<- List.drop_drop,List.take_append_drop]at this;exact this
theorem aIG {t e n T}(ht:P.underlying t=some (.array (n+1) e))(hc:P.cellsOf t=(n+1)*T.size)(he:OpT P e T):OpT P t (Ty.arr T n):=by
 refine⟨by rw[hc,aWV],λH en w base spare held fuel cs x h=>?_⟩;obtain⟨xs,m,-,-,hl,hx,hi⟩:=DataW.trod_array ht h;rw[he.1]at hi;obtain⟨a,h1,h2⟩:=a0X (T:=T) (cs:=cs) n 0 W (λj _ h2=>by
  have h3:=hi j Z;rw[List.getElem?_eq_getElem Z]at h3;exact he.2 _ _ _ _ _ _ _ _ _ h3)
 grind
def OpK(P:Program) (t:TypeId) (k:Kd) (W:k.den->Prop):Prop :=
 ∀ {H:Type} {en:TypeId×Value->H} {w:World} {base b0:Nat} {spare:Nat->Bool} {held:Bool} {r:Reach} {v:Value} {d:DataW H} {p:List MemPlace},
  Value.okWide P w r b0 t v->DataW.Trod en P w base spare held t v d p->∃ x:k.den,VR w (GW w) aG (B8 k x 0) v/\W x
theorem a6D {t e T}(ht:P.underlying t=some (.slice e))(hc:P.cellsOf t=1)(he:OpT P e T):OpK P t (.list T) (WF (.list T)):=by
 intro H en w base b0 spare held r v d p hv h;obtain⟨a,len,cap,rfl⟩:=okWide_slice ht hv;obtain⟨fuel,hf⟩:=h;obtain⟨l,h1,h2⟩:=(aQP ht hc he).2 _ _ _ _ _ _ _ _ _ hf;refine⟨l,?_,h2⟩;obtain⟨x,xs,h3,h4,-⟩:=h1;cases h3;exact h4
theorem a1R {t T}(hs:∀ w r b0 v,Value.okWide P w r b0 t v->∃ cs,v=.agg cs)(he:OpT P t T):OpK P t (.agg T) (WF T):=by
 intro H en w base b0 spare held r v d p hv h;obtain⟨cs,rfl⟩:=hs _ _ _ _ hv;obtain⟨fuel,hf⟩:=h;obtain⟨l,h1,h2⟩:=he.2 _ _ _ _ _ _ _ _ _ hf;refine⟨l,?_,h2⟩;exact⟨cs,rfl,h1⟩
theorem a0M {t fs T}(ht:P.underlying t=some (.struct fs))(he:OpT P t T):OpK P t (.agg T) (WF T) :=
 a1R (λw r b0 v h=>by obtain⟨cs,h1,-⟩:=okWide_struct ht h; grind) he
theorem a2S {t e n T}(ht:P.underlying t=some (.array n e))(he:OpT P t T):OpK P t (.agg T) (WF T) :=
 a1R (λw r b0 v h=>by simp only[Value.okWide]at h; grind) he
theorem a89 {g:FuncId} {args:List Kd} {f:aM args->Option (aM [.bool])} (hf:ZR P g args [.bool] f) {x:aM args} (hx:f x=some (true,())) {w:World} (hT:Lt w λb=>b<w.heap.size) {vs:Array Value} (hv:VRs w (GW w) aG (kX args x) vs.toList) :
  Calls P g vs w λe w'=>e=.returned (.bool true)/\Below w.heap.size w w':=by
 obtain⟨-,h⟩:=hf x _ hx w (λb=>b<w.heap.size) vs hT hv;refine h.mono ?_;rintro e w' ⟨v',G',rfl,e1,-,e3⟩;refine⟨?_,e1.os,e1.tape,e1.output,e1.size,λb hb=>e1.old b hb (Nat.not_le.2 hb)⟩;have e3:VR w' (Gd.of G') aG (.lit (.bool true)) v':=e3;rw[VR]at e3;rw[e3]
theorem aNI {w G p v ps vs}(h:VR w G aG p v)(k:VRs w G aG ps vs):VRs w G aG (p::ps) (v::vs):=by rw[VRs]; grind
theorem bBL {w G}:VRs w G aG [] []:=by rfl
end
theorem aR8 {H enc P}(hl:laidOutB P=true){W W'}(hb:Below W.heap.size W W') :
  ∀ ts vs (ds:List (DataW H)) ps,(∀ t∈ts,P.readableRec t=true/\t<P.types.size)->(∀ x∈ps,x.block<W.heap.size) ->
   DataW.TrodAll enc P W 0 (λ_=>true) true ts vs ds ps->DataW.TrodAll enc P W' 0 (λb=>decide (b<W.heap.size)) true ts vs ds ps
 | [],vs,ds,ps,_,_,h=>by
  unfold DataW.TrodAll at h ⊢;grind
 | t::ts,vs,ds,ps,ht,hlt,h=>by
  obtain⟨v,vs',d,ds',p,q,rfl,rfl,rfl,h1,h2⟩:=trodAll_cons h;exact⟨p,q,Below.trod hl (ht t R).1 (ht t R).2 h1 hb (λx hx=>hlt x zf),aR8 hl hb ts vs' ds' q (λt h=>ht t zf) (λx hx=>hlt x zf) h2,rfl⟩
theorem aVO {P:Program} {ts:List TypeId} (h:(ts.all λt=>P.readableRec t&&decide (t<P.types.size))=true):∀ t∈ts,P.readableRec t=true/\t<P.types.size:=by
 intro t ht;have:=List.all_eq_true.1 h t ht;simpa using this
theorem aZH {H enc P f} {s:ChangeSpec} {W W' args ds p tb} (hl:laidOutB P=true)
  (hts:∀ t∈f.params.toList,P.readableRec t=true/\t<P.types.size) (hr:f.resultTypes=#[tb]) (htb:P.underlying tb=some .bool)
  (hf1:(s.fn H (ds++[])).results=[.lit (.bool true)]) (hf2:(s.fn H (ds++[])).args=ds) (hf3:(s.fn H (ds++[])).vars=[]) (hv:s.vars=[])
  (hW:DataW.Whole enc P f.params.toList s.vars false W args.toList ds [] p) (hb:Below W.heap.size W W') :
  ∃ v,Ending.returned (.bool true)=Ending.returned v/\s.post enc P f false true false false W args v W':=by
 have hW':=hW;obtain⟨q,q',hA,hV,rfl,-,-⟩:=hW;refine⟨_,rfl,ds,[],_,[],q,[],hW',?_,?_,?_,hb.frame _,λh=>by grind⟩
 ·rw[hf1,hr]; exact trodAll_mk1 (shut_bool htb true)
 ·rw[hf2]; exact aR8 hl hb _ _ _ _ hts (λx hx=>hW'.lt x zf) hA
 ·rw[hf3,hv]; rfl
end Go.PM
namespace Go.Proofs.YtbjdceodppagoaaGreatDoor
theorem Tryz.own:ownKnob Tryz.prog.godebug=none:=Y
theorem Tryz.laidOut:laidOutB Tryz.prog=true:=Y
end Go.Proofs.YtbjdceodppagoaaGreatDoor
namespace Go.Proofs.YtbjdceodppagoaaGreatDoor
open Go Go.ChangeShapes Go.WideShapes Go.ChangeAt Go.RowKit Go.Joins Go.PM
abbrev aX9:List (String×DataW Unit):=[("math/bits.deBruijn32tab",Rows.laid_math_bits_deBruijn32tab),("math/bits.deBruijn64tab",Rows.laid_math_bits_deBruijn64tab),("internal/strconv.uint64pow10",Rows.laid_internal_strconv_uint64pow10),("strconv.ErrRange",Rows.laid_strconv_ErrRange),("strconv.ErrSyntax",Rows.laid_strconv_ErrSyntax)]
theorem a9R(os:Os)(args:Array Value):laidMetH Tryz.prog aX9 ((World.doorLaid Tryz.prog 4000 os).forCall (λ_ _=>0) ⟨#[],args,[]⟩).memory :=
 laidMetH_of_parts3 (fuel:=8) (laidMet_of_run' 8 Y Y) Y Y
theorem aXJ {H:Type} {enc:TypeId×Value->H} {P:Program} {w:World} {base:Nat} {sp:Nat->Bool} {fuel:Nat} {t:TypeId} {ms} {cs:List Value} {n:String} {d:DataW H} {p:List MemPlace}
  (ht:P.underlying t=some (.interface ms)) (h:DataW.trod enc P w base sp false fuel t cs=some (.iface n d,p)):∃ u v,cs=[.iface u v]:=by
 cases fuel with
 | zero=>simp[DataW.trod]at h
 | succ fuel =>
  simp only[DataW.trod,ht]at h;split at h <;> first
   | exact⟨_,_,rfl⟩
   | (exfalso; simp_all; done)
theorem aWG {P}{w:World}{n g cs}(hg:P.globalNamed n=some g)(h:w.var? P n=some cs):∃ t fr,w.heap[g]?=some (.cells cs t fr):=by
 unfold World.var? at h;grind
theorem aPI {w:World} {n:String} {g:Nat} {t:TypeId} {ms} {m:String} {d:DataW Unit} (hg:Tryz.prog.globalNamed n=some g) (hty:(Tryz.prog.globals[g]?).map (·.type)=some t) (ht:Tryz.prog.underlying t=some (.interface ms))
  (h:Lib.VarReads Tryz.prog w n (.iface m d)):aGN w.heap[g]?:=by
 obtain⟨g',t',cs,fuel,p,hg',ht',hvar,hd⟩:=h;obtain rfl:=oB (hg.symm.trans hg');obtain rfl:=oB (hty.symm.trans ht');obtain⟨u,v,e⟩:=aXJ ht hd;obtain⟨t2,fr,e2⟩:=aWG hg hvar;refine⟨u,v,t2,fr,?_⟩;rw[e2]
 congr 2
 exact Array.toList_inj.1 e
theorem bAY {w:World} (h:laidMetH Tryz.prog aX9 w):Lt w λb=>b<w.heap.size:=by
 rw[MakeChecks.laidMetH_plain _ _ _ Y]at h;have lt:∀ {g:Nat} {q:Option Obj->Prop},q w.heap[g]?->¬ q none->g<w.heap.size:=λ{g q} h1 h2=>by
  rcases oG g w.heap.size with h|h
  ·exact h
  ·rw[Array.getElem?_eq_none h]at h1;exact absurd h1 h2
 have nIf:¬ aGN none:=λ⟨_,_,_,_,e⟩=>by cases e
 refine⟨λ_ h=>h,λp hp=>?_⟩;have main:p.2 w.heap[p.1]?/\¬ p.2 none:=by
  rcases List.mem_cons.1 hp with rfl|hp
  ·refine⟨?_,λ⟨_,_,e⟩=>by cases e⟩;obtain⟨g',t',cs,fuel,q,hg',ht',hvar,hd⟩:=Lib.laidMet.reads h (n:= "internal/strconv.uint64pow10") (d:=Rows.laid_internal_strconv_uint64pow10) (.tail _ (.tail _ (.head _)));obtain rfl:=oB ((show Tryz.prog.globalNamed "internal/strconv.uint64pow10"=some 2 by kernel_rfl).symm.trans hg');have hd:DataW.trod (λ_=>()) Tryz.prog w 0 (λ_=>true) false fuel t' cs.toList=some (Lib.tabData .u64 [1,10,100,1000,10000,100000,1000000,10000000,100000000,1000000000,10000000000,100000000000,1000000000000,10000000000000,100000000000000,1000000000000000,10000000000000000,100000000000000000,1000000000000000000,10000000000000000000],q):=hd
   obtain⟨t,hty⟩:∃ t,(Tryz.prog.globals[2]?).map (·.type)=some t:=⟨_,ht'⟩;obtain rfl:=oB (hty.symm.trans ht');have hcs:=Lib.cells_of_tab (P:=Tryz.prog) (t:=235) (e:=172) (n:=20) Tryz.underlying235 Tryz.underlying172 Y Y (show DataW.trod (λ_=>()) Tryz.prog w 0 (λ_=>true) false fuel 235 cs.toList=_ by
    rw[<- oB ((show (Tryz.prog.globals[2]?).map (·.type)=some 235 by kernel_rfl).symm.trans hty)]at hd;exact hd)
   obtain⟨t2,fr,e2⟩:=aWG Y hvar;refine⟨t2,fr,?_⟩;rw[e2]
   congr 2
   exact Array.toList_inj.1 hcs
  ·rcases List.mem_cons.1 hp with rfl|hp
   ·exact⟨aPI (n:= "strconv.ErrSyntax") (t:=114) Y Y Tryz.underlying114 (Lib.laidMet.reads h (.tail _ (.tail _ (.tail _ (.tail _ (.head _)))))),nIf⟩
   ·rcases List.mem_cons.1 hp with rfl|hp
    ·exact⟨aPI (n:= "strconv.ErrRange") (t:=114) Y Y Tryz.underlying114 (Lib.laidMet.reads h (.tail _ (.tail _ (.tail _ (.head _))))),nIf⟩
    ·cases hp
 exact⟨lt main.1 main.2,main.1⟩
theorem a3D:Tryz.prog.mainIs=some (true,"4737ab51d747d2c0b085b5e968aa05c3c5b4528a24f532e7a84ab250f862f1d6".toList):=Y
theorem aYZ:true=Tryz.prog.looks []:=Y
end Go.Proofs.YtbjdceodppagoaaGreatDoor
namespace Go.PM
open Go Go.RowKit
structure Ent where
 g:FuncId
 args:List Kd
 rets:List Kd
 f:aM args->Option (aM rets)
def Ent.OK (P:Program)(e:Ent):Prop:=ZR P e.g e.args e.rets e.f
def aQS:List Ent->FuncId->List PV->Option Res
 | [],_,_=>none
 | e::r,g,qs=>bif Nat.beq e.g g then (match a1U e.args e.rets e.f qs with
   | some s=>some s
   | none=>aQS r g qs)
  else aQS r g qs
def DW(l:List Ent):Env:=⟨aQS l,λ_ _ _=>none,λ_=>false⟩
theorem aH4 {P}:∀ {l},(∀ e∈l,e.OK P)->∀ g qs r,aQS l g qs=some r->∀ y,r.val=some y->o3 P g qs (r.out y)
 | [],_,g,qs,r,h=>by cases h
 | e::l,hl,g,qs,r,h=>by
  simp only[aQS]at h;cases hb:Nat.beq e.g g with
  | true =>
   rw[hb]at h;have:=oE hb;subst this;cases hs:a1U e.args e.rets e.f qs with
   | some s =>
    rw[hs]at h;have h:=oB h;subst h;exact a6F (hl e List.mem_cons_self) hs
   | none =>
    rw[hs]at h;exact aH4 (λe he=>hl e (List.mem_cons_of_mem _ he)) _ qs r h
  | false =>
   rw[hb]at h;exact aH4 (λe he=>hl e (List.mem_cons_of_mem _ he)) g qs r h
theorem a6E {P l}(hl:∀ e∈l,e.OK P):eS P (DW l) where
 pure:=aH4 hl
 shr:=λ_ _ _ _ h=>by cases h
def aEO(P:Program):List Ent->Prop
 | []=>True
 | e::r=>e.OK P/\aEO P r
theorem aFF {P}:∀ {l},aEO P l->∀ e∈l,e.OK P
 | [],_,e,he=>W
 | a::r,h,e,he=>by
  rcases List.mem_cons.1 he with rfl|he
  ·exact h.1
  ·exact aFF h.2 e he
theorem aR {P l}(h:aEO P l):eS P (DW l):=a6E (aFF h)
def aVA(P:Program)(nt:Nat)(lt:Nat->Option eE):List Code->Prop
 | []=>True
 | a::r=>(∀ s,lt (cA a)=some s->eJ P nt a s)/\aVA P nt lt r
theorem aKE {P nt lt}:∀ {l},aVA P nt lt l->∀ a∈l,∀ s,lt (cA a)=some s->eJ P nt a s
 | [],_,a,ha=>W
 | b::r,h,a,ha=>by
  rcases List.mem_cons.1 ha with rfl|ha
  ·exact h.1
  ·exact aKE h.2 a ha
theorem aQ {P nt lt c l}(hc:bB c=l)(h:aVA P nt lt l):∀ a∈bB c,∀ s,lt (cA a)=some s->eJ P nt a s:=by rw[hc]; exact aKE h
theorem fB {P nt}{lt:Nat->Option eE}{a i s0}(hf:cA a=i)(hlt:lt i=some s0)(h:eJ P nt a s0):∀ s,lt (cA a)=some s->eJ P nt a s:=W
def cQ(fn:Func):Code:=match fn.body with
 | some c=>c
 | none=>.skip
def iH(c:Code)(i:Nat):Code:=(bB c).getD i .skip
def bCD(l:List Func):Bool:=l.all λf=>!(f.name== "runtime.NumGoroutine")
theorem a2P {P}(h1:P.follows .mixedOrders=true)(h2:bCD P.funcs.toList=true):LW P where
 mixed:=h1
 names g fn hg:=by
  have hm:fn∈P.funcs.toList:=W
  have:=List.all_eq_true.1 h2 fn hm;grind
theorem L4 {α:Type 1}{b x}{y:α}(h:(bif b then x else none)=some y):b=true/\x=some y:=W
abbrev Shr:=FuncId×(List PV->Heap->Option aGC)
def pV(P:Program)(s:Shr):Prop:=SortOKs P s.1 s.2
where SortOKs P g f :=∀ args H r,f args H=some r->∀ y,r.val=some y->∀ {n0 G μ w vs},aO n0 G μ H w->VRs w G μ args vs->vG P n0 w G μ g vs.toArray (r.out y).1 (r.out y).2
def a7L(p:PV) (H:Heap):Option (PV×Heap):=match p with
 | .own s _=>match gS H s with
  | some k=>match k.tag with
   | some g=>some (q9 g.t g.l none,L8 H s)
   | none=>none
  | none=>none
 | _=>none
def M5:List PV->Heap->List PV×Heap
 | [],H=>([],H)
 | p::r,H=>match a7L p H with
  | some (q,H0)=>(q::(M5 r H0).1,(M5 r H0).2)
  | none=>(p::(M5 r H).1,(M5 r H).2)
def U4(skip:Nat)(f:List PV->Heap->Option aGC)(qs:List PV)(H:Heap):Option aGC:=match M5 (qs.drop skip) H with
 | (ps,H1)=>f (qs.take skip++ps) H1
theorem a3T {n0 G μ H w}(hW:aO n0 G μ H w){s sz k g v}(hv:VR w G μ (.own s sz) v)(hk:gS H s=some k)(hg:k.tag=some g) :
  ∃ G',Ext n0 w G μ w G' μ/\aO n0 G' μ (L8 H s) w/\VR w G' μ (q9 g.t g.l none) v:=by
 have hfo:L8 H s=(bif k.frozen then H else H.set s (some { k with frozen:=true })):=by unfold L8; grind
 rw[hfo];cases hfz:k.frozen with
 | true =>
  refine⟨G,Ext.refl _ _ _ _,hW,(E5 hW hv hk hg (λb h=>h) (λb hb=>?_)).aV⟩;obtain⟨_,_,_,_,h5,_⟩:=hW.blk s k b (aH hk) hb;grind
 | false =>
  obtain⟨e1,w1⟩:=xI hW (aH hk) hfz;exact⟨_,e1,w1,(E5 (G':=G.or λx=>μ.loc s=some x) hW hv hk hg (λb h=>.inl h) (λb hb=>.inr hb)).aV⟩
theorem U1 {n0 μ w}:∀ qs {H G vs},aO n0 G μ H w->VRs w G μ qs vs->∃ G',Ext n0 w G μ w G' μ/\aO n0 G' μ (M5 qs H).2 w/\VRs w G' μ (M5 qs H).1 vs
 | [],H,G,vs,hW,hv=>⟨G,Ext.refl _ _ _ _,hW,hv⟩
 | p::r,H,G,vs,hW,hv=>by
  obtain⟨u,us,rfl,q1,q2⟩:=hv;have plain:∃ G',Ext n0 w G μ w G' μ/\aO n0 G' μ (M5 r H).2 w/\VRs w G' μ (p::(M5 r H).1) (u::us):=by
   obtain⟨G',e,h1,h2⟩:=U1 r hW q2;exact⟨G',e,h1,by exact⟨u,us,rfl,VR.mono e.toMono _ _ q1,h2⟩⟩
  rw[M5];cases hz:a7L p H with
  | none=>exact plain
  | some x =>
   obtain⟨q,H0⟩:=x;obtain⟨G1,e1,w1,v1⟩:∃ G',Ext n0 w G μ w G' μ/\aO n0 G' μ H0 w/\VR w G' μ q u:=by
    unfold a7L at hz;split at hz
    ·split at hz
     ·rename_i k hk;split at hz
      next g hg=>cases hz;exact a3T hW q1 hk hg
      ·cases hz
     ·cases hz
    ·cases hz
   obtain⟨G2,e2,w2,v2⟩:=U1 r w1 (VRs.mono e1.toMono _ _ q2);exact⟨G2,e1.trans e2,w2,by exact⟨u,us,rfl,VR.mono e2.toMono _ _ v1,v2⟩⟩
theorem aRX {w G μ}:∀ ps {qs vs},VRs w G μ (ps++qs) vs->∃ v1 v2,vs=v1++v2/\VRs w G μ ps v1/\VRs w G μ qs v2
 | [],qs,vs,h=>⟨[],vs,rfl,by rfl,h⟩
 | p::ps,qs,vs,h=>by
  obtain⟨u,us,rfl,h1,h2⟩:=h;obtain⟨v1,v2,rfl,h3,h4⟩:=aRX ps h2;exact⟨u::v1,v2,rfl,by rw[VRs]; grind,h4⟩
theorem tF {P g skip f}(hf:pV P (g,f)):pV P (g,U4 skip f):=by
 intro qs H rh h y hy n0 G μ w vs hW hv;have hv:VRs w G μ (qs.take skip++qs.drop skip) vs:=by simp_all
 obtain⟨v1,v2,rfl,hv1,hv2⟩:=aRX _ hv;obtain⟨G',e,h1,h2⟩:=U1 _ hW hv2;obtain⟨c1,c2⟩:=hf _ _ rh h y hy h1 ((VRs.mono e.toMono _ _ hv1).append h2);refine⟨c1,c2.mono ?_⟩;rintro e' w' ⟨v',G1,μ1,rfl,ee,hW',hvv⟩;exact⟨v',G1,μ1,rfl,e.trans ee,hW',hvv⟩
def bAV:List Shr->FuncId->List PV->Heap->Option aGC
 | [],_,_,_=>none
 | s::r,g,args,H=>bif Nat.beq g s.1 then s.2 args H else bAV r g args H
def shE:List Shr->FuncId->Bool
 | [],_=>false
 | s::r,g=>bif Nat.beq g s.1 then true else shE r g
def aY1(P:Program):List Shr->Prop
 | []=>True
 | s::r=>pV P s/\aY1 P r
theorem a13 {P}:∀ {l},aY1 P l->∀ g args H r,bAV l g args H=some r->∀ y,r.val=some y->∀ {n0 G μ w vs},aO n0 G μ H w->VRs w G μ args vs->vG P n0 w G μ g vs.toArray (r.out y).1 (r.out y).2
 | [],_,g,args,H,r,h=>by cases h
 | s::l,hl,g,args,H,r,h=>by
  simp only[bAV]at h;cases hb:Nat.beq g s.1 with
  | true =>
   rw[hb]at h;have:=oE hb;subst this;exact hl.1 args H r h
  | false =>
   rw[hb]at h;exact a13 hl.2 g args H r h
def MT(l:List Ent) (s:List Shr):Env:=⟨aQS l,bAV s,shE s⟩
theorem mM {P l s}(h:aEO P l)(hs:aY1 P s):eS P (MT l s) where
 pure:=aH4 (aFF h)
 shr:=a13 hs
open Go Go.RowKit Go.Proofs
abbrev tP:Program:=Tryz.prog
theorem aZ:LW Tryz.prog:=a2P Y Y
abbrev oK(k:List Kd):Type:=Option (aM k)
abbrev oX(k:List (Ex×List (Nat×Kd))):Type:=Option (cD k)
abbrev oS(s:List (Nat×Kd)) (k:List (Ex×List (Nat×Kd))):Type:=Option (Shape.den s⊕cD k)
def oY(fn:Func) (n:Nat):Bool:=fn.body.isSome&&Nat.beq (bB (cQ fn)).length n
theorem oYb {fn:Func} {n:Nat} (h:oY fn n=true):fn.body=some (cQ fn)/\(bB (cQ fn)).length=n:=by
 rw[oY,oA]at h;refine⟨?_,oE h.2⟩;have h1:=h.1;unfold cQ;cases hb:fn.body with
 | some c=>rfl
 | none=>rw[hb]at h1; cases h1
theorem oW:aEO Tryz.prog []:=trivial
theorem oV {e:Ent} {l:List Ent} (h:Ent.OK Tryz.prog e) (t:aEO Tryz.prog l):aEO Tryz.prog (e::l):=⟨h,t⟩
theorem oI {E:Env} (hE:eS Tryz.prog E) {g:Nat} {fn:Func} (hg:Tryz.prog.funcs[g]?=some fn) (hc:oY fn 0=true) {args rets:List Kd} {f:aM args->Option (aM rets)} (hb:∀ x,a03 Tryz.prog E fn (aP fn) (λ_=>none) (cQ fn) args rets x=f x):ZR Tryz.prog g args rets f:=aE3 aZ hE hg (oYb hc).1 (keep:=aP fn) (lt:=λ_=>none) (by rw[List.eq_nil_of_length_eq_zero (oYb hc).2]; intro a h; cases h) hb
theorem oU {E:Env} (hE:eS Tryz.prog E) {g:Nat} {fn:Func} (hg:Tryz.prog.funcs[g]?=some fn) (i:Nat) {sh:List (Nat×Kd)} {exits:List (Ex×List (Nat×Kd))} {step:Shape.den sh->Option (Shape.den sh⊕cD exits)} {lp:Shape.den sh->Option (cD exits)} (hlp:lp=aW step (2^64)) (hc:(oY fn 1&&(Nat.beq (bB (iH (cQ fn) 0)).length 0&&Nat.beq (cA (iH (cQ fn) 0)) i))=true) (hr:∀ x,jQ Tryz.prog E fn.ntmps (aP fn) (λid=>bif Nat.beq id i then some ⟨sh,exits,lp⟩ else none) (iH (cQ fn) 0) sh exits x=step x) {args rets:List Kd} {f:aM args->Option (aM rets)} (hb:∀ x,a03 Tryz.prog E fn (aP fn) (λid=>bif Nat.beq id i then some ⟨sh,exits,lp⟩ else none) (cQ fn) args rets x=f x):ZR Tryz.prog g args rets f:=by
 subst hlp;rw[oA,oA]at hc;have hl:bB (cQ fn)=[iH (cQ fn) 0]:=by
  have h:=(oYb hc.1).2;unfold iH;cases hl:bB (cQ fn)with
  | nil=>rw[hl]at h; cases h
  | cons a r =>
   rw[hl]at h;cases r with
   | nil=>rfl
   | cons b r=>simp at h
 exact aE3 aZ hE hg (oYb hc.1).1 (keep:=aP fn) (lt:=λid=>bif Nat.beq id i then some ⟨sh,exits,aW step (2^64)⟩ else none) (aQ (lt:=λid=>bif Nat.beq id i then some ⟨sh,exits,aW step (2^64)⟩ else none) hl ⟨fB (lt:=λid=>bif Nat.beq id i then some ⟨sh,exits,aW step (2^64)⟩ else none) (oE hc.2.2) (by rw[Nat.beq_refl]; rfl) (fG hE.callee aZ.mixed _ (aQ (List.eq_nil_of_length_eq_zero (oE hc.2.1)) trivial) hr),trivial⟩) hb
end Go.PM
namespace Go.PM
open Go Go.RowKit
def posOf:List Nat->Nat->Option Nat
 | [],_=>none
 | x::l,r=>bif Nat.beq x r then some 0 else match posOf l r with
  | some i=>some (i+1)
  | none=>none
def aOD:List Nat->Bool
 | []=>true
 | x::l=>(match posOf l x with|none=>true|some _=>false)&&aOD l
def JT(pm:List Nat):PV->Option PV
 | .lit v=>some (.lit v)
 | .vals cs n cap=>some (.vals cs n cap)
 | .iptr cs=>some (.iptr cs)
 | .tl t l cap e=>some (.tl t l cap e)
 | .tp t l i off e=>some (.tp t l i off e)
 | .row j lo n sz=>some (.row j lo n sz)
 | .rp j off=>some (.rp j off)
 | .mp j=>some (.mp j)
 | .tm l=>some (.tm l)
 | .junk=>some .junk
 | .hptr r off=>match posOf pm r with|some i=>some (.hptr i off)|none=>none
 | .hs r off len cap sz=>match posOf pm r with|some i=>some (.hs i off len cap sz)|none=>none
 | .own r sz=>match posOf pm r with|some i=>some (.own i sz)|none=>none
 | .qs r sz=>match posOf pm r with|some i=>some (.qs i sz)|none=>none
 | .op r j off sz=>match posOf pm r with|some i=>some (.op i j off sz)|none=>none
 | .win r lo n sz=>match posOf pm r with|some i=>some (.win i lo n sz)|none=>none
 | .agg cs=>match renPs pm cs with|some qs=>some (.agg qs)|none=>none
 | .tuple cs=>match renPs pm cs with|some qs=>some (.tuple qs)|none=>none
 | .clo fn f c=>match renPs pm f,renPs pm c with|some f',some c'=>some (.clo fn f' c')|_,_=>none
where renPs pm:List PV->Option (List PV)
 | []=>some []
 | p::ps=>match JT pm p,renPs pm ps with|some q,some qs=>some (q::qs)|_,_=>none
def aNY(pm:List Nat)(H:Heap):List Nat->Option Heap
 | []=>some []
 | r::l=>match gS H r with
  | some k=>match (bif k.tag.isSome then some k else match JT.renPs pm k.cells with|some cs=>some { k with cells:=cs }|none=>none),aNY pm H l with
   | some k',some H'=>some (some k'::H')
   | _,_=>none
  | none=>none
def a73(pm:List Nat)(F:Frm):List Nat->Option Frm
 | []=>some []
 | t::l=>match JT pm (bM F t),a73 pm F l with
  | some p,some F'=>some ((t,p)::F')
  | _,_=>none
def bEG(T pm:List Nat):Bool:=T.all λr=>match pm[r]? with
 | some s=>Nat.beq s r
 | none=>false
def compact(T pm l8:List Nat)(F:Frm)(H:Heap):Option (Frm×Heap) :=
 bif aOD pm&&bEG T pm then match aNY pm H pm,a73 pm F l8 with
  | some H',some F'=>some (F',H')
  | _,_=>none
 else none
def aGD(s i:Nat) (et:TypeId) (ty:Ty) (H:Heap):Heap:=match gS H s with
 | some k=>match k.cells.drop i with
  | .tl _ [] (some 0) _::rest=>bif !k.tag.isSome then ((H++[some ⟨aI ty [],et,true,false,some ⟨ty,[]⟩⟩]:Heap).set s (some { k with cells:=k.cells.take i++.own H.length ty.size::rest })) else H
  | .lit (.slice none m c)::rest=>bif Nat.beq m 0&&Nat.beq c 0&&!k.tag.isSome then ((H++[some ⟨aI ty [],et,true,false,some ⟨ty,[]⟩⟩]:Heap).set s (some { k with cells:=k.cells.take i++.own H.length ty.size::rest })) else H
  | _=>H
 | none=>H
def iK:List (Nat×Kd)->Frm->Heap->Frm×Heap
 | [],F,H=>(F,H)
 | (t,.own e ty)::r,F,H=>match bM F t with
  | .lit (.slice none m c)=>bif Nat.beq m 0&&Nat.beq c 0 then iK r ((t,.own H.length ty.size)::F) (H++[some ⟨aI ty [],e,true,false,some ⟨ty,[]⟩⟩]) else iK r F H
  | .tl _ [] (some 0) _=>iK r ((t,.own H.length ty.size)::F) (H++[some ⟨aI ty [],e,true,false,some ⟨ty,[]⟩⟩])
  | _=>iK r F H
 | (t,.bown e et ty)::r,F,H=>match bM F t with
  | .hptr s _=>match gS H s with
   | some k=>match k.cells with
    | [.lit (.slice none m c)]=>bif Nat.beq m 0&&Nat.beq c 0&&!k.tag.isSome then iK r F ((H++[some ⟨aI ty [],et,true,false,some ⟨ty,[]⟩⟩]:Heap).set s (some { k with cells:=[.own H.length ty.size] })) else iK r F H
    | _=>iK r F H
   | none=>iK r F H
  | _=>iK r F H
 | (t,.bag _ t1 et ty _)::r,F,H=>match bM F t with
  | .hptr s _=>match gS H s with
   | some k=>match k.cells.drop t1.size with
    | .tl _ [] (some 0) _::rest=>bif !k.tag.isSome then iK r F ((H++[some ⟨aI ty [],et,true,false,some ⟨ty,[]⟩⟩]:Heap).set s (some { k with cells:=k.cells.take t1.size++.own H.length ty.size::rest })) else iK r F H
    | .lit (.slice none m c)::rest=>bif Nat.beq m 0&&Nat.beq c 0&&!k.tag.isSome then iK r F ((H++[some ⟨aI ty [],et,true,false,some ⟨ty,[]⟩⟩]:Heap).set s (some { k with cells:=k.cells.take t1.size++.own H.length ty.size::rest })) else iK r F H
    | _=>iK r F H
   | none=>iK r F H
  | _=>iK r F H
 | (t,.bag2 _ t1 et ty eu u)::r,F,H=>match bM F t with
  | .hptr s _=>iK r F (aGD s (t1.size+1) eu u (aGD s t1.size et ty H))
  | _=>iK r F H
 | _::r,F,H=>iK r F H
def DH:List (Nat×Kd)->Frm->Heap->Frm×Heap
 | [],F,H=>(F,H)
 | (t,.box _ (.list _))::r,F,H=>match bM F t with
  | .hptr s _=>match gS H s with
   | some k=>match k.cells with
    | [.own u sz]=>match gS H u with
     | some ku=>match ku.tag with
      | some g=>bif !k.tag.isSome&&!Nat.beq u s then DH r F (((H.set u (some { ku with frozen:=true }))).set s (some { k with cells:=[q9 g.t g.l none] })) else DH r F H
      | none=>DH r F H
     | none=>DH r F H
    | _=>DH r F H
   | none=>DH r F H
  | _=>DH r F H
 | _::r,F,H=>DH r F H
def XX:List (Nat×Kd)->Frm->Heap->Option (List Nat)
 | [],_,_=>some []
 | (t,.own _ _)::r,F,H=>match bM F t,XX r F H with
  | .own s _,some l=>some (s::l)
  | _,_=>none
 | (t,.box _ _)::r,F,H=>match bM F t,XX r F H with
  | .hptr s _,some l=>some (s::l)
  | _,_=>none
 | (t,.bown _ _ _)::r,F,H=>match bM F t,XX r F H with
  | .hptr s _,some l=>match gS H s with
   | some k=>match k.cells with
    | [.own u _]=>some (s::u::l)
    | _=>none
   | none=>none
  | _,_=>none
 | (t,.bque _ _ _)::r,F,H=>match bM F t,XX r F H with
  | .hptr s _,some l=>match gS H s with
   | some k=>match k.cells with
    | [.own u _]=>some (s::u::l)
    | [.qs u _]=>some (s::u::l)
    | _=>none
   | none=>none
  | _,_=>none
 | (t,.bag _ t1 _ _ _)::r,F,H=>match bM F t,XX r F H with
  | .hptr s _,some l=>match gS H s with
   | some k=>match k.cells.drop t1.size with
    | .own u _::_=>some (s::u::l)
    | _=>none
   | none=>none
  | _,_=>none
 | (t,.bag2 _ t1 _ _ _ _)::r,F,H=>match bM F t,XX r F H with
  | .hptr s _,some l=>match gS H s with
   | some k=>match k.cells.drop t1.size with
    | [.own u _,.own v _]=>some (s::u::v::l)
    | _=>none
   | none=>none
  | _,_=>none
 | (_,.ar _ _)::r,F,H=>match aC4 0 H,XX r F H with
  | some (ra,_),some l=>some (ra::l)
  | _,_=>none
 | _::r,F,H=>XX r F H
def GZ(T:List Nat) (sh:List (Nat×Kd)) (F:Frm) (H:Heap):Option (Shape.den sh) :=
 match B6 sh F H with
 | (F0,H0)=>match DH sh F0 H0 with
  | (F1,H1)=>match iK sh F1 H1 with
   | (F2,H2)=>match XX sh F2 H2 with
    | some pm=>match compact T pm (slotsOf sh) F2 H2 with
     | some (F',H')=>bif Nat.beq H'.length (aQC sh) then a6T sh F' H' 0 else none
     | none=>none
    | none=>none
section
variable {P:Program} {n0:Nat->Prop} {w wi:World} {G Gi:Gd} {μ μi μ':Mp} {H:Heap} {F:Frm} {a:Act} {nt:Nat}
theorem IF:∀ {l r i},posOf l r=some i->l[i]?=some r
 | [],r,i,h=>by cases h
 | x::l,r,i,h=>by
  simp only[posOf]at h;cases hb:Nat.beq x r with
  | true =>
   rw[hb]at h;simp only[oC,oJ]at h;subst h
   simp_all
  | false =>
   rw[hb]at h;simp only[oD]at h;split at h
   next j hj=>simp only[oJ]at h;subst h;simpa using IF hj
   grind
theorem aER:∀ {l} {r i:Nat},posOf l r=none->l[i]?=some r->False
 | [],r,i,_,h=>W
 | x::l,r,i,hn,h=>by
  simp only[posOf]at hn;cases hb:Nat.beq x r with
  | true=>grind
  | false =>
   rw[hb]at hn;split at hn
   ·grind
   ·rename_i hp;cases i with
    | zero =>
     simp_all
    | succ i=>exact aER hp (by simpa using h)
theorem aEM:∀ {l} {i j r:Nat},aOD l=true->l[i]?=some r->l[j]?=some r->i=j
 | [],i,j,r,_,h,_=>W
 | x::l,i,j,r,hn,h1,h2=>by
  simp only[aOD,oA]at hn;obtain⟨hp,hn⟩:=hn;have hx:posOf l x=none:=W
  cases i with
  | zero =>
   simp only[List.getElem?_cons_zero,oJ]at h1;subst h1;cases j with
   | zero=>rfl
   | succ j=>exact(aER hx (by simpa using h2)).elim
  | succ i =>
   cases j with
   | zero =>
    simp only[List.getElem?_cons_zero,oJ]at h2;subst h2;exact(aER hx (by simpa using h1)).elim
   | succ j=>exact oZ (·+1) (aEM hn (by simpa using h1) W)
def RO(μ:Mp) (pm:List Nat):Mp:=⟨λi=>match pm[i]? with|some r=>μ.loc r|none=>none,λi=>match pm[i]? with|some r=>μ.len r|none=>none,λi=>match pm[i]? with|some r=>μ.sh r|none=>0⟩
theorem qJ {pm i r}(h:pm[i]?=some r):(RO μ pm).loc i=μ.loc r/\(RO μ pm).len i=μ.len r/\(RO μ pm).sh i=μ.sh r:=by simp[RO,h]
mutual
theorem a05 {pm:List Nat}:∀ (p q:PV) (v:Value),JT pm p=some q->VR w G μ p v->VR w G (RO μ pm) q v
 | .lit u,q,v,h,hv=>by simp only[JT,oJ]at h; subst h; rw[VR]at hv ⊢; exact hv
 | .vals ..,q,v,h,hv=>by simp only[JT,oJ]at h; subst h; rw[VR]at hv ⊢; exact hv
 | .iptr _,q,v,h,hv=>by simp only[JT,oJ]at h; subst h; rw[VR]at hv ⊢; exact hv
 | .tl ..,q,v,h,hv=>by simp only[JT,oJ]at h; subst h; rw[VR]at hv ⊢; exact hv
 | .tp ..,q,v,h,hv=>by simp only[JT,oJ]at h; subst h; rw[VR]at hv ⊢; exact hv
 | .row ..,q,v,h,hv=>by simp only[JT,oJ]at h; subst h; rw[VR]at hv ⊢; exact hv
 | .rp ..,q,v,h,hv=>by simp only[JT,oJ]at h; subst h; rw[VR]at hv ⊢; exact hv
 | .mp _,q,v,h,hv=>by simp only[JT,oJ]at h; subst h; rw[VR]at hv ⊢; exact hv
 | .tm _,q,v,h,hv=>by simp only[JT,oJ]at h; subst h; rw[VR]at hv ⊢; exact hv
 | .junk,q,v,h,hv=>by simp only[JT,oJ]at h; subst h; rw[VR]; trivial
 | .hptr r off,q,v,h,hv=>by
  simp only[JT]at h;split at h
  next i hi=>simp only[oJ]at h;subst h;have:=qJ (μ:=μ) (IF hi);rw[VR]at hv ⊢; rw[this.1,this.2.2]; exact hv
  ·cases h
 | .hs r off l c s,q,v,h,hv=>by
  simp only[JT]at h;split at h
  next i hi=>simp only[oJ]at h;subst h;have:=qJ (μ:=μ) (IF hi);rw[VR]at hv ⊢; rw[this.1,this.2.2]; exact hv
  ·cases h
 | .own r s,q,v,h,hv=>by
  simp only[JT]at h;split at h
  next i hi=>simp only[oJ]at h;subst h;have:=qJ (μ:=μ) (IF hi);rw[VR]at hv ⊢; rw[this.1,this.2.1,this.2.2]; exact hv
  ·cases h
 | .qs r s,q,v,h,hv=>by
  simp only[JT]at h;split at h
  next i hi=>simp only[oJ]at h;subst h;have:=qJ (μ:=μ) (IF hi);rw[VR]at hv ⊢; rw[this.1,this.2.1,this.2.2]; exact hv
  ·cases h
 | .op r j off s,q,v,h,hv=>by
  simp only[JT]at h;split at h
  next i hi=>simp only[oJ]at h;subst h;have:=qJ (μ:=μ) (IF hi);rw[VR]at hv ⊢; rw[this.1,this.2.2]; exact hv
  ·cases h
 | .win r lo n s,q,v,h,hv=>by
  simp only[JT]at h;split at h
  next i hi=>simp only[oJ]at h;subst h;have:=qJ (μ:=μ) (IF hi);rw[VR]at hv ⊢; rw[this.1,this.2.1,this.2.2]; exact hv
  ·cases h
 | .agg cs,q,v,h,hv=>by
  simp only[JT]at h;split at h
  next qs hq=>simp only[oJ]at h;subst h;rw[VR]at hv ⊢;obtain⟨vs,h1,h2⟩:=hv;exact⟨vs,h1,RA cs qs _ hq h2⟩
  ·cases h
 | .tuple cs,q,v,h,hv=>by
  simp only[JT]at h;split at h
  next qs hq=>simp only[oJ]at h;subst h;rw[VR]at hv ⊢;obtain⟨vs,h1,h2⟩:=hv;exact⟨vs,h1,RA cs qs _ hq h2⟩
  ·cases h
 | .clo fn f c,q,v,h,hv=>by
  simp only[JT]at h;split at h
  next f' c' hf hc=>simp only[oJ]at h;subst h;rw[VR]at hv ⊢;obtain⟨fs,cs,h1,h2,h3⟩:=hv;exact⟨fs,cs,h1,RA f f' _ hf h2,RA c c' _ hc h3⟩
  ·cases h
theorem RA {pm:List Nat}:∀ (ps qs:List PV) (vs:List Value),JT.renPs pm ps=some qs->VRs w G μ ps vs->VRs w G (RO μ pm) qs vs
 | [],qs,vs,h,hv=>by
  simp only[JT.renPs,oJ]at h;subst h;rw[VRs]at hv ⊢; exact hv
 | p::ps,qs,vs,h,hv=>by
  simp only[JT.renPs]at h;split at h
  next q qs' hq hqs=>simp only[oJ]at h;subst h;rw[VRs]at hv ⊢;obtain⟨x,xs,h1,h2,h3⟩:=hv;exact⟨x,xs,h1,a05 p q x hq h2,RA ps qs' xs hqs h3⟩
  ·cases h
end
theorem aSG {pm}:∀ {l H'},aNY pm H l=some H'->H'.length=l.length/\∀ (i:Nat) k',H'[i]?=some (some k')->∃ s k,l[i]?=some s/\H[s]?=some (some k)/\((k.tag.isSome=true/\k'=k)\/(k.tag=none/\∃ cs,JT.renPs pm k.cells=some cs/\k'={ k with cells:=cs }))
 | [],H',h=>by
  simp only[aNY,oJ]at h;grind
 | r::l,H',h=>by
  simp only[aNY]at h;split at h
  next k hk=>
   split at h
   ·rename_i k1 H1 h1 h2;simp only[oJ]at h;subst h;obtain⟨e1,e2⟩:=aSG h2;refine⟨by simp[e1],λi k' hi=>?_⟩;cases i with
    | zero =>
     simp only[List.getElem?_cons_zero,oJ]at hi;subst hi;refine⟨r,k,rfl,aH hk,?_⟩;cases ht:k.tag with
     | some g =>
      grind
     | none =>
      grind
    | succ i =>
     grind
   ·cases h
  ·cases h
theorem aQ6(hW:aO n0 G μ H w){pm}(hn:aOD pm=true){H'}(h:aNY pm H pm=some H'):aO n0 G (RO μ pm) H' w:=by
 obtain⟨hlen,gS⟩:=aSG h;refine⟨?_,?_,?_,hW.lt,?_,hW.base,hW.rows.rel (λr s=>pm[r]?=some s) (λr r' s h1 h2=>aEM hn h1 h2) (λr k' hr=>?_)⟩
 case refine_5 =>
  obtain⟨s,k,a1,a2,a3⟩:=gS r k' hr;refine⟨s,k,a1,a2,?_⟩;rcases a3 with ⟨_,rfl⟩|⟨_,cs,_,rfl⟩
  ·exact⟨rfl,rfl,rfl,rfl,(qJ a1).1⟩
  ·exact⟨rfl,rfl,rfl,rfl,(qJ a1).1⟩
 ·intro r k' b hr hb;obtain⟨s,k,a1,a2,a3⟩:=gS r k' hr;rw[(qJ a1).1]at hb;obtain⟨c,c1,c2,c3,c4⟩:=hW.blk s k b a2 hb;rw[(qJ a1).2.2];rcases a3 with ⟨ht,rfl⟩|⟨ht,cs,hcs,rfl⟩
  ·refine⟨c,c1,?_,c3,c4⟩;obtain⟨g,hg⟩:=Option.isSome_iff_exists.1 ht;have:=(hW.tags s k' g a2 hg).1;rw[this]at c2 ⊢;exact nR (iM _ _) c2
  ·obtain⟨vs,d1,d2⟩:=c2.values;have d3:=RA _ _ _ hcs d1;exact⟨c,c1,aL.nZ d3 d2,λhg=>by rw[c3 hg]; show k.cells.length=cs.length; rw[d1.length,d3.length],c4⟩
 ·intro r k' g hr hg;obtain⟨s,k,a1,a2,a3⟩:=gS r k' hr;rw[(qJ a1).2.1];rcases a3 with ⟨ht,rfl⟩|⟨ht,cs,hcs,rfl⟩
  ·exact hW.tags s k' g a2 hg
  ·grind
 ·intro r1 r2 k1 k2 b e1 e2 f1 f2 m1 m2;obtain⟨s1,l1,a1,a2,a3⟩:=gS r1 k1 e1;obtain⟨s2,l2,b1,b2,b3⟩:=gS r2 k2 e2;rw[(qJ a1).1]at m1;rw[(qJ b1).1]at m2;have fz:∀ {k k':Blk},k'.frozen=false->((k.tag.isSome=true/\k'=k)\/(k.tag=none/\∃ cs,JT.renPs pm k.cells=some cs/\k'={ k with cells:=cs }))->k.frozen=false:=W
  have:=hW.inj s1 s2 l1 l2 b a2 b2 (fz f1 a3) (fz f2 b3) m1 m2;subst this;exact aEM hn a1 b1
 ·intro r hr;have:pm[r]?=none:=List.getElem?_eq_none Z;simp[RO,this]
theorem aV7 {pm}:∀ {l F'},a73 pm F l=some F'->∀ t,bM F' t=.junk\/JT pm (bM F t)=some (bM F' t)
 | [],F',h,t=>by
  simp only[a73,oJ]at h;subst h;exact .inl rfl
 | s::l,F',h,t=>by
  simp only[a73]at h;split at h
  next p F1 hp hl=>
   simp only[oJ]at h;subst h;rw[bT]
   by_cases hs:t=s
   ·grind
   ·rw[if_neg hs]; exact aV7 hl t
  grind
theorem aPU {T pm l8 F' H'}(h:compact T pm l8 F H=some (F',H'))(hfl:∀ r,¬ r∈T->μi.loc r=none/\μi.len r=none)(hI:I n0 wi Gi μi nt F H a w):I n0 wi Gi μi nt F' H' a w:=by
 obtain⟨hn,h⟩:=aJ h;simp only[oA]at hn;obtain⟨hn,hst⟩:=hn;have stay:∀ r,r∈T->pm[r]?=some r:=by
  intro r hr;have:=List.all_eq_true.1 hst r hr;split at this
  ·simp_all
  ·grind
 split at h
 next H1 F1 h1 h2=>
  obtain⟨rfl,rfl⟩:=h;obtain⟨G,μ,e,hW,hF⟩:=hI;refine⟨G,RO μ pm,?_,aQ6 hW hn h1,hF.size,λt=>?_,hF.defers⟩
  ·exact {
    good:=e.good
    map:=λr b hr=>by
     by_cases hT:r∈T
     ·rw[(qJ (stay r hT)).1]; exact e.map r b hr
     ·grind
    len:=λr b hr=>by
     by_cases hT:r∈T
     ·rw[(qJ (stay r hT)).2.1]; exact e.len r b hr
     ·grind
    sh:=λr b hr=>by
     by_cases hT:r∈T
     ·rw[(qJ (stay r hT)).2.2]; exact e.sh r b hr
     ·grind
    room:=e.room
    row:=e.row
    os:=e.os
    tape:=e.tape
    output:=e.output
    size:=e.size
    old:=e.old
    new:=e.new }
  ·rcases aV7 h2 t with h3|h3
   ·rw[h3,VR]; trivial
   ·exact a05 _ _ _ h3 (hF.slot t)
 ·cases h
theorem JC(hW:aO n0 G μ H w) {s:Nat} {k:Blk} {cs:List PV} (hs:H[s]?=some (some k)) (ht:k.tag=none) (hc:∀ b o,aL w G μ b o k.cells->aL w G μ b o cs/\cs.length=k.cells.length) :
  aO n0 G μ (H.set s (some { k with cells:=cs })) w:=by
 have hsl:s<H.length:=(oO.1 hs).1;have key:∀ (r:Nat) (k':Blk),(H.set s (some { k with cells:=cs }))[r]?=some (some k')->(r=s/\k'={ k with cells:=cs })\/(r≠s/\H[r]?=some (some k')):=W
 refine⟨?_,?_,?_,hW.lt,λr hr=>hW.top r (by simpa using hr),hW.base,hW.rows.rel (λr s=>r=s) (λr r' s h1 h2=>h1.trans h2.symm) (λr k' hr=>?_)⟩
 case refine_4 =>
  grind
 ·intro r k' b hr hb;rcases key r k' hr with ⟨rfl,rfl⟩|⟨_,hr⟩
  ·obtain⟨c,c1,c2,c3,c4⟩:=hW.blk r k b hs hb;grind
  ·exact hW.blk r k' b hr hb
 ·intro r k' g hr hg;rcases key r k' hr with ⟨rfl,rfl⟩|⟨_,hr⟩
  ·grind
  ·exact hW.tags r k' g hr hg
 ·intro r1 r2 k1 k2 b e1 e2 f1 f2 m1 m2;have old:∀ (r:Nat) (k':Blk),(H.set s (some { k with cells:=cs }))[r]?=some (some k')->k'.frozen=false->∃ k0,H[r]?=some (some k0)/\k0.frozen=false:=W
  obtain⟨l1,a1,a2⟩:=old r1 k1 e1 f1;obtain⟨l2,b1,b2⟩:=old r2 k2 e2 f2;exact hW.inj r1 r2 l1 l2 b a1 b1 a2 b2 m1 m2
theorem aB3 {s i et ty}(hI:I n0 wi Gi μi nt F H a w):I n0 wi Gi μi nt F (aGD s i et ty H) a w:=by
 unfold aGD;split
 next k hk=>
  split
  next t' e' rest hcs=>
   cases hb:(!k.tag.isSome)with
   | false=>exact hI
   | true =>
    have htag:k.tag=none:=by simp_all
    obtain⟨G,μ,e0,hW,hF⟩:=hI;obtain⟨e1,w1⟩:=qS hW ⟨aI ty [],et,true,false,some ⟨ty,[]⟩⟩ (on:=some 0) (λg hg=>by cases hg; exact⟨rfl,rfl⟩);have hk':=aH hk;have hsl:s<H.length:=(oO.1 hk').1;have hk2:(H++[some ⟨aI ty [],et,true,false,some ⟨ty,[]⟩⟩])[s]?=some (some k):=by rw[List.getElem?_append_left hsl]; exact hk'
    refine⟨G,_,e0.trans e1,JC w1 hk2 htag ?_,hF.mono e1.toMono⟩;intro b o hc;obtain⟨vs,d1,d2⟩:=hc.values;have d3:=d1.take i;have d4:=d1.drop i;rw[hcs,VRs]at d4;obtain⟨v,vc,e3,d5,d6⟩:=d4;obtain⟨ao,d7⟩:=aCV d5;have d8:VRs w G (upd μ H.length none (some 0)) (k.cells.take i++.own H.length ty.size::rest) (vs.take i++v::vc):=VRs.append d3 (by
     refine⟨v,vc,rfl,?_,d6⟩;exact⟨0,nV ..,.inl ⟨rfl,ao,d7⟩⟩)
    rw[<- e3,List.take_append_drop]at d8;exact⟨aL.nZ d8 d2,by rw[d8.length,d1.length]⟩
  next m' c' rest hcs=>
   cases hb:(Nat.beq m' 0&&Nat.beq c' 0&&!k.tag.isSome)with
   | false=>exact hI
   | true =>
    simp only[oA]at hb;obtain⟨⟨hm,hc⟩,hb⟩:=hb;have hm:=oE hm;have hc:=oE hc;subst hm; subst hc;have htag:k.tag=none:=by simp_all
    obtain⟨G,μ,e0,hW,hF⟩:=hI;obtain⟨e1,w1⟩:=qS hW ⟨aI ty [],et,true,false,some ⟨ty,[]⟩⟩ (on:=some 0) (λg hg=>by cases hg; exact⟨rfl,rfl⟩);have hk':=aH hk;have hsl:s<H.length:=(oO.1 hk').1;have hk2:(H++[some ⟨aI ty [],et,true,false,some ⟨ty,[]⟩⟩])[s]?=some (some k):=by rw[List.getElem?_append_left hsl]; exact hk'
    refine⟨G,_,e0.trans e1,JC w1 hk2 htag ?_,hF.mono e1.toMono⟩;intro b o hc;obtain⟨vs,d1,d2⟩:=hc.values;have d3:=d1.take i;have d4:=d1.drop i;rw[hcs,VRs]at d4;obtain⟨v,vc,e3,d5,d6⟩:=d4;have d8:VRs w G (upd μ H.length none (some 0)) (k.cells.take i++.own H.length ty.size::rest) (vs.take i++v::vc):=VRs.append d3 (by
     refine⟨v,vc,rfl,?_,d6⟩;exact⟨0,nV ..,.inl ⟨rfl,none,d5⟩⟩)
    rw[<- e3,List.take_append_drop]at d8;exact⟨aL.nZ d8 d2,by rw[d8.length,d1.length]⟩
  ·exact hI
 ·exact hI
theorem bN:∀ sh F H,I n0 wi Gi μi nt F H a w->I n0 wi Gi μi nt (iK sh F H).1 (iK sh F H).2 a w
 | [],F,H,hI=>hI
 | (t,.own e ty)::r,F,H,hI=>by
  have skip:I n0 wi Gi μi nt (iK r F H).1 (iK r F H).2 a w:=bN r F H hI;unfold iK;split
  next m c ht=>
   cases hb:(Nat.beq m 0&&Nat.beq c 0)with
   | false=>exact skip
   | true =>
    simp only[oA]at hb;have h1:=oE hb.1;have h2:=oE hb.2;subst h1; subst h2;obtain⟨G,μ,e0,hW,hF⟩:=hI;have hs:=hF.slot t;rw[ht,VR]at hs;obtain⟨e1,w1⟩:=qS hW ⟨aI ty [],e,true,false,some ⟨ty,[]⟩⟩ (on:=some 0) (λg hg=>by cases hg; exact⟨rfl,rfl⟩);refine bN r _ _ ⟨G,_,e0.trans e1,w1,cZ.named (hF.mono e1.toMono) ?_⟩;exact⟨0,nV ..,.inl ⟨rfl,none,hs⟩⟩
  next t' e' ht=>obtain⟨G,μ,e0,hW,hF⟩:=hI;have hs:=hF.slot t;rw[ht]at hs;obtain⟨ao,hs⟩:=aCV hs;obtain⟨e1,w1⟩:=qS hW ⟨aI ty [],e,true,false,some ⟨ty,[]⟩⟩ (on:=some 0) (λg hg=>by cases hg; exact⟨rfl,rfl⟩);refine bN r _ _ ⟨G,_,e0.trans e1,w1,cZ.named (hF.mono e1.toMono) ?_⟩;exact⟨0,nV ..,.inl ⟨rfl,ao,hs⟩⟩
  ·grind
 | (t,.bown e et ty)::r,F,H,hI=>by
  have skip:I n0 wi Gi μi nt (iK r F H).1 (iK r F H).2 a w:=bN r F H hI;unfold iK;split
  next s off ht=>
   split
   ·rename_i k hk;split
    ·rename_i m c hcs;cases hb:(Nat.beq m 0&&Nat.beq c 0&&!k.tag.isSome)with
     | false=>exact skip
     | true =>
      simp only[oC];simp only[oA,Bool.not_eq_true']at hb;have h1:=oE hb.1.1;have h2:=oE hb.1.2;subst h1; subst h2;have htag:k.tag=none:=by
       cases hq:k.tag with
       | none=>rfl
       | some g=>rw[hq]at hb; simp at hb
      obtain⟨G,μ,e0,hW,hF⟩:=hI;obtain⟨e1,w1⟩:=qS hW ⟨aI ty [],et,true,false,some ⟨ty,[]⟩⟩ (on:=some 0) (λg hg=>by cases hg; exact⟨rfl,rfl⟩);have hk':=aH hk;have hsl:s<H.length:=(oO.1 hk').1;have hk2:(H++[some ⟨aI ty [],et,true,false,some ⟨ty,[]⟩⟩])[s]?=some (some k):=by rw[List.getElem?_append_left hsl]; exact hk'
      refine bN r _ _ ⟨G,_,e0.trans e1,JC w1 hk2 htag ?_,hF.mono e1.toMono⟩;intro b o hc;rw[hcs]at hc ⊢;refine⟨?_,rfl⟩;rw[aL]at hc ⊢;obtain⟨⟨v,v1,v2⟩,v3⟩:=hc;refine⟨⟨v,v1,?_⟩,by rw[aL]; trivial⟩;have v4:v=.slice none 0 0:=by simpa only[VR]using v2
      simp only[VR];exact⟨0,nV ..,.inl ⟨rfl,none,v4⟩⟩
    ·exact skip
   ·exact skip
  ·exact skip
 | (_,.int _)::r,F,H,hI=>bN r F H hI
 | (_,.bool)::r,F,H,hI=>bN r F H hI
 | (_,.str)::r,F,H,hI=>bN r F H hI
 | (_,.list _)::r,F,H,hI=>bN r F H hI
 | (_,.agg _)::r,F,H,hI=>bN r F H hI
 | (_,.box _ _)::r,F,H,hI=>bN r F H hI
 | (_,.ptr _)::r,F,H,hI=>bN r F H hI
 | (_,.bque _ _ _)::r,F,H,hI=>bN r F H hI
 | (_,.fn _)::r,F,H,hI=>bN r F H hI
 | (_,.nil0)::r,F,H,hI=>bN r F H hI
 | (_,.val)::r,F,H,hI=>bN r F H hI
 | (_,.nilI)::r,F,H,hI=>bN r F H hI
 | (_,.clo _ _)::r,F,H,hI=>bN r F H hI
 | (_,.win _ _)::r,F,H,hI=>bN r F H hI
 | (_,.hnd _)::r,F,H,hI=>bN r F H hI
 | (_,.mpk _)::r,F,H,hI=>bN r F H hI
 | (_,.ar _ _)::r,F,H,hI=>bN r F H hI
 | (t,.bag2 e t1 et ty eu u)::r,F,H,hI=>by
  unfold iK;split
  ·exact bN r _ _ (aB3 (aB3 hI))
  ·exact bN r F H hI
 | (t,.bag e t1 et ty t2)::r,F,H,hI=>by
  have skip:I n0 wi Gi μi nt (iK r F H).1 (iK r F H).2 a w:=bN r F H hI;unfold iK;split
  next s off ht=>
   split
   ·rename_i k hk;split
    ·rename_i t' e' rest hcs;cases hb:(!k.tag.isSome)with
     | false=>exact skip
     | true =>
      simp only[oC];have htag:k.tag=none:=by
       cases hq:k.tag with
       | none=>rfl
       | some g=>rw[hq]at hb; simp at hb
      obtain⟨G,μ,e0,hW,hF⟩:=hI;obtain⟨e1,w1⟩:=qS hW ⟨aI ty [],et,true,false,some ⟨ty,[]⟩⟩ (on:=some 0) (λg hg=>by cases hg; exact⟨rfl,rfl⟩);have hk':=aH hk;have hsl:s<H.length:=(oO.1 hk').1;have hk2:(H++[some ⟨aI ty [],et,true,false,some ⟨ty,[]⟩⟩])[s]?=some (some k):=by rw[List.getElem?_append_left hsl]; exact hk'
      refine bN r _ _ ⟨G,_,e0.trans e1,JC w1 hk2 htag ?_,hF.mono e1.toMono⟩;intro b o hc;obtain⟨vs,d1,d2⟩:=hc.values;have d3:=d1.take t1.size;have d4:=d1.drop t1.size;rw[hcs,VRs]at d4;obtain⟨v,vc,e3,d5,d6⟩:=d4;obtain⟨ao,d7⟩:=aCV d5;have d8:VRs w G (upd μ H.length none (some 0)) (k.cells.take t1.size++.own H.length ty.size::rest) (vs.take t1.size++v::vc):=VRs.append d3 (by
       rw[VRs];refine⟨v,vc,rfl,?_,d6⟩;rw[VR];exact⟨0,nV ..,.inl ⟨rfl,ao,d7⟩⟩)
      rw[<- e3,List.take_append_drop]at d8;exact⟨aL.nZ d8 d2,by rw[d8.length,d1.length]⟩
    ·rename_i m' c' rest hcs;cases hb:(Nat.beq m' 0&&Nat.beq c' 0&&!k.tag.isSome)with
     | false=>exact skip
     | true =>
      simp only[oC];simp only[oA]at hb;obtain⟨⟨hm,hc⟩,hb⟩:=hb;have hm:=oE hm;have hc:=oE hc;subst hm; subst hc;have htag:k.tag=none:=by
       cases hq:k.tag with
       | none=>rfl
       | some g=>rw[hq]at hb; simp at hb
      obtain⟨G,μ,e0,hW,hF⟩:=hI;obtain⟨e1,w1⟩:=qS hW ⟨aI ty [],et,true,false,some ⟨ty,[]⟩⟩ (on:=some 0) (λg hg=>by cases hg; exact⟨rfl,rfl⟩);have hk':=aH hk;have hsl:s<H.length:=(oO.1 hk').1;have hk2:(H++[some ⟨aI ty [],et,true,false,some ⟨ty,[]⟩⟩])[s]?=some (some k):=by rw[List.getElem?_append_left hsl]; exact hk'
      refine bN r _ _ ⟨G,_,e0.trans e1,JC w1 hk2 htag ?_,hF.mono e1.toMono⟩;intro b o hc;obtain⟨vs,d1,d2⟩:=hc.values;have d3:=d1.take t1.size;have d4:=d1.drop t1.size;rw[hcs,VRs]at d4;obtain⟨v,vc,e3,d5,d6⟩:=d4;rw[VR]at d5;have d8:VRs w G (upd μ H.length none (some 0)) (k.cells.take t1.size++.own H.length ty.size::rest) (vs.take t1.size++v::vc):=VRs.append d3 (by
       rw[VRs];refine⟨v,vc,rfl,?_,d6⟩;rw[VR];exact⟨0,nV ..,.inl ⟨rfl,none,d5⟩⟩)
      rw[<- e3,List.take_append_drop]at d8;exact⟨aL.nZ d8 d2,by rw[d8.length,d1.length]⟩
    ·exact skip
   ·exact skip
  ·exact skip
theorem bE:∀ sh F H,I n0 wi Gi μi nt F H a w->I n0 wi Gi μi nt (DH sh F H).1 (DH sh F H).2 a w
 | [],F,H,hI=>hI
 | (t,.box e (.list ty))::r,F,H,hI=>by
  have skip:I n0 wi Gi μi nt (DH r F H).1 (DH r F H).2 a w:=bE r F H hI;unfold DH;split
  next s off ht=>
   split
   ·rename_i k hk;split
    ·rename_i u sz hcs;split
     ·rename_i ku hku;split
      ·rename_i g hg;cases hb:(!k.tag.isSome&&!Nat.beq u s)with
       | false=>exact skip
       | true =>
        have htag:k.tag=none:=by simp_all
        have hne:u≠s:=λe=>by rw[e]at hb; simp at hb
        obtain⟨G,μ,e0,hW,hF⟩:=hI;have hul:u<H.length:=(oO.1 (aH hku)).1;have hk2:(H.set u (some { ku with frozen:=true }))[s]?=some (some k):=by rw[List.getElem?_set_ne hne]; exact aH hk
        have hku2:gS (H.set u (some { ku with frozen:=true })) u=some { ku with frozen:=true }:=by simp only[gS,List.getElem?_set_self hul]
        have fin:∀ {G1:Gd} {w1:World} {μ1:Mp},(∀ b,μ1.loc u=some b->G1 b)->aO n0 G1 μ1 (H.set u (some { ku with frozen:=true })) w1->aO n0 G1 μ1 ((H.set u (some { ku with frozen:=true })).set s (some { k with cells:=[q9 g.t g.l none] })) w1:=by
         intro G1 w1 μ1 hGu hW1;refine JC hW1 hk2 htag λb o hc=>?_
         rw[hcs]at hc ⊢;refine⟨?_,rfl⟩;obtain⟨⟨v,v1,v2⟩,v3⟩:=hc;exact⟨⟨v,v1,(E5 hW1 v2 hku2 hg (λb h=>h) hGu).aV⟩,by rw[aL]; trivial⟩
        cases hfz:ku.frozen with
        | true =>
         have hsame:H.set u (some { ku with frozen:=true })=H:=by
          apply List.ext_getElem?;intro i
          by_cases hi:u=i
          ·subst hi;rw[List.getElem?_set_self hul,aH hku];obtain⟨k1,k2,k3,k4,k5⟩:=ku;grind
          ·grind
         refine bE r _ _ ⟨G,μ,e0,fin (λb hb=>?_) (by rw[hsame]; exact hW),hF⟩;obtain⟨_,_,_,_,h5,_⟩:=hW.blk u ku b (aH hku) hb;grind
        | false =>
         obtain⟨e1,w1⟩:=xI hW (aH hku) hfz;exact bE r _ _ ⟨_,μ,e0.trans e1,fin (λb hb=>.inr hb) w1,hF.mono e1.toMono⟩
      ·grind
     ·grind
    ·grind
   ·grind
  ·grind
 | (_,.int _)::r,F,H,hI=>bE r F H hI
 | (_,.bool)::r,F,H,hI=>bE r F H hI
 | (_,.str)::r,F,H,hI=>bE r F H hI
 | (_,.list _)::r,F,H,hI=>bE r F H hI
 | (_,.agg _)::r,F,H,hI=>bE r F H hI
 | (_,.box _ (.int _))::r,F,H,hI=>bE r F H hI
 | (_,.box _ .bool)::r,F,H,hI=>bE r F H hI
 | (_,.box _ .str)::r,F,H,hI=>bE r F H hI
 | (_,.box _ (.hnd _))::r,F,H,hI=>bE r F H hI
 | (_,.box _ (.rows _))::r,F,H,hI=>bE r F H hI
 | (_,.box _ .smap)::r,F,H,hI=>bE r F H hI
 | (_,.box _ (.prod _ _))::r,F,H,hI=>bE r F H hI
 | (_,.ptr _)::r,F,H,hI=>bE r F H hI
 | (_,.bque _ _ _)::r,F,H,hI=>bE r F H hI
 | (_,.fn _)::r,F,H,hI=>bE r F H hI
 | (_,.nil0)::r,F,H,hI=>bE r F H hI
 | (_,.val)::r,F,H,hI=>bE r F H hI
 | (_,.nilI)::r,F,H,hI=>bE r F H hI
 | (_,.clo _ _)::r,F,H,hI=>bE r F H hI
 | (_,.win _ _)::r,F,H,hI=>bE r F H hI
 | (_,.hnd _)::r,F,H,hI=>bE r F H hI
 | (_,.mpk _)::r,F,H,hI=>bE r F H hI
 | (_,.ar _ _)::r,F,H,hI=>bE r F H hI
 | (_,.own _ _)::r,F,H,hI=>bE r F H hI
 | (_,.bown _ _ _)::r,F,H,hI=>bE r F H hI
 | (_,.bag _ _ _ _ _)::r,F,H,hI=>bE r F H hI
 | (_,.bag2 _ _ _ _ _ _)::r,F,H,hI=>bE r F H hI
theorem aOR {T sh x}(h:GZ T sh F H=some x)(hfl:∀ r,¬ r∈T->μi.loc r=none/\μi.len r=none)(hI:I n0 wi Gi μi nt F H a w):I n0 wi Gi μi nt (CD sh x 0) (NC sh x) a w:=by
 unfold GZ at h;replace hI:=B4 sh F H hI;split at h;rename_i F0 H0 hd0;rw[hd0]at hI;replace hI:=bE sh F0 H0 hI;split at h;rename_i F1 H1 hd1;rw[hd1]at hI;replace hI:=bN sh F1 H1 hI;split at h;rename_i F2 H2 hd2;rw[hd2]at hI;split at h
 ·split at h
  next F' H' ht=>
   obtain⟨hb,h⟩:=aJ h;obtain⟨G,μ,e,hW,hF⟩:=aPU ht hfl hI;obtain⟨h1,h2⟩:=aFS hW hF.slot sh h;have hH:∀ i:Nat,aUC H'[i]? (NC sh x)[i]?:=by
    intro i;rcases oG i (aQC sh)with hl|hl
    ·have:=h2 i hl;rwa[Nat.zero_add]at this
    ·have e1:=oE hb;exact .inl (by rw[List.getElem?_eq_none Z,List.getElem?_eq_none (by rw[aKL]; omega)])
   exact⟨G,μ,e,hW.a1X hH,hF.size,h1,hF.defers⟩
  grind
 grind
end
@[reducible] def Fr(ro:Option Nat):Fence:={ Fence.wide with round:=ro }
def zP(ds:List Deferred) (a:Act):Act:={ a with defers:=a.defers++ds }
theorem a4P ds a:(zP ds a).eval=a.eval:=by rfl
theorem RY ds a d v:(zP ds a).put d v=zP ds (a.put d v):=by cases d <;> rfl
theorem aZ7 {ro n P f args w R}(h:Calls P f args w R):CallsIn (Fr ro) n P f args w R :=
 (callsIn_wide).2 h
theorem a4X {ro n P row args w R}(h:Rows P row args w R):RowsIn (Fr ro) n P row args w R :=
 λc cs _=>let ⟨v,w',r,s⟩:=h c cs; ⟨v,w',r,stepsIn_wide.2 s⟩
section
variable {P:Program} {ro:Option Nat} {n:Nat} {ds:List Deferred} {Q Q':Exit->Act->World->Prop}
def aHG:Op->Bool
 | .defer _=>true
 | _=>false
def aHY(ops:Array Oper):Bool:=ops.toList.all λo=>!aHG o.op
theorem UB {ops}(h:aHY ops=true){o}(ho:o∈ops.toList):∀ c,o.op≠.defer c:=by
 intro c hc;have:=List.all_eq_true.1 h o ho;rw[hc]at this;cases this
theorem a5M {o}(h:∀ c,o.op≠.defer c) ρ:o.semAt ro ρ=execOp ρ o:=by
 cases ro with
 | none=>rfl
 | some l=>exact Oper.semAt_some l ρ o h
theorem aS3 {o:Oper}{a w K K'}(hd:∀ c,o.op≠.defer c)(hK:∀ a w,K a w->K' (zP ds a) w)(hQ:∀ ch a w,Q (.panic ch) a w->Q' (.panic ch) (zP ds a) w)(hno:∀ a w,¬ Q .outgrown a w)(h:o.wp P a w K Q) :
  o.wpIn (Fr ro) n P (zP ds a) w K' Q':=by
 refine⟨λ_ _=>trivial,?_⟩;unfold Oper.wp at h;rw[a4P,a5M hd];generalize (execOp a.eval o).run P w=r at h ⊢;cases r with
 | ok x w' =>
  cases x with
  | value v=>show K' ((zP ds a).put o.dst v) w'; rw[RY]; exact hK _ _ h
  | skip=>show K' ((zP ds a).put o.dst undef) w'; rw[RY]; exact hK _ _ h
  | defer d =>
   have:=hK _ _ h;show K' (({ zP ds a with defers:=d::(zP ds a).defers }:Act).put o.dst undef) w';have e:(({ zP ds a with defers:=d::(zP ds a).defers }:Act).put o.dst undef)=zP ds (({ a with defers:=d::a.defers }:Act).put o.dst undef):=by cases o.dst <;> rfl
   grind
  | enter f args =>
   refine⟨λh=>(by cases h),aZ7 (Calls.mono h ?_)⟩;rintro e w'' he;cases e with
   | returned v=>show K' ((zP ds a).put o.dst v) w''; rw[RY]; exact hK _ _ he
   | panicked ch=>grind
   | outgrown =>
    obtain⟨a0,w0,h0⟩:=he;grind
  | row row args=>exact⟨λh=>(by cases h),a4X (Rows.mono h λv w'' he=>by rw[RY]; grind)⟩
  | _=>exact h.elim
 | halt x w' =>
  cases x <;> first|exact hQ _ _ _ h|exact h.elim
theorem aGF {ops}(hno:∀ a w,¬ Q .outgrown a w)(hQ:∀ e a w,Q e a w->Q' e (zP ds a) w):∀ {l},(∀ o∈l,∀ c,o.op≠.defer c)->∀ {a w},wpList P ops Q l a w->wpListIn (Fr ro) n P ops Q' l (zP ds a) w
 | [],_,a,w,h=>hQ _ _ _ h
 | o::l,hd,a,w,h=>by
  simp only[wpList]at h;unfold wpListIn;split at h
  next hw=>
   have hw':Region.wanted o (yielded ops (zP ds a).tmps)=true:=hw;rw[if_pos hw'];rcases h with h|⟨_,a0,w0,h0⟩
   ·exact aS3 (hd o List.mem_cons_self) (λa w hk=>aGF hno hQ (λo ho=>hd o (List.mem_cons_of_mem _ ho)) hk) (λ_ _ _ h=>hQ _ _ _ h) hno h
   grind
  next hw=>have hw':¬ Region.wanted o (yielded ops (zP ds a).tmps)=true:=hw;rw[if_neg hw'];refine⟨λ_ _=>trivial,?_⟩;rw[RY];exact aGF hno hQ (λo ho=>hd o (List.mem_cons_of_mem _ ho)) h
theorem aSW {ops md}(hno:∀ a w,¬ Q .outgrown a w)(hQ:∀ e a w,Q e a w->Q' e (zP ds a) w)(hd:∀ o∈ops.toList,∀ c,o.op≠.defer c):∀ {fuel listed a w},wpAny P md ops Q fuel listed a w->wpAnyIn (Fr ro) n P md ops Q' fuel listed (zP ds a) w
 | 0,listed,a,w,h=>⟨h.1,hQ _ _ _ h.2⟩
 | fuel+1,listed,a,w,h=>by
  refine⟨λhr=>hQ _ _ _ (h.1 hr),λi hi=>?_⟩;have h2:=h.2 i hi;unfold wpOp at h2;unfold wpOpIn;split
  next hn=>rw[hn]at h2;exact aSW hno hQ hd h2
  next o ho=>
   rw[ho]at h2;simp only at h2;have hm:o∈ops.toList:=W
   split at h2
   ·rename_i hw;have hw':Region.wanted o (yielded ops (zP ds a).tmps)=true:=hw;rw[if_pos hw'];rcases h2 with h2|⟨_,a0,w0,h0⟩
    ·exact aS3 (hd o hm) (λa w hk=>aSW hno hQ hd hk) (λ_ _ _ h=>hQ _ _ _ h) hno h2
    ·grind
   next hw=>have hw':¬ Region.wanted o (yielded ops (zP ds a).tmps)=true:=hw;rw[if_neg hw'];refine⟨λ_ _=>trivial,?_⟩;rw[RY];exact aSW hno hQ hd h2
end
def Marks(wi w:World) (G:Gd):List Deferred->Prop
 | []=>True
 | d::ds=>(∃ b,d={ target:=.collected b,args:=#[] }/\w.heap[b]?=some (.deferred (some []))/\wi.heap.size<=b/\¬ G b/\∀ d'∈ds,d'≠d)/\Marks wi w G ds
theorem Marks.mem {wi w G}:∀ {ds},Marks wi w G ds->∀ d∈ds,∃ b,d={ target:=.collected b,args:=#[] }/\w.heap[b]?=some (.deferred (some []))/\wi.heap.size<=b/\¬ G b
 | [],_,d,hd=>W
 | x::ds,h,d,hd=>by
  rcases List.mem_cons.1 hd with rfl|hd
  ·obtain⟨b,h1,h2,h3,h4,_⟩:=h.1;grind
  ·exact Marks.mem h.2 d hd
theorem Marks.to {wi w w' G G'}:∀ {ds},Marks wi w G ds->(∀ b,({ target:=.collected b,args:=#[] })∈ds->w.heap[b]?=some (.deferred (some []))->¬ G b->w'.heap[b]?=some (.deferred (some []))/\¬ G' b)->Marks wi w' G' ds
 | [],_,_=>trivial
 | x::ds,h,hs=>by
  obtain⟨⟨b,rfl,h2,h3,h4,h5⟩,h6⟩:=h;obtain⟨k1,k2⟩:=hs b List.mem_cons_self h2 h4;exact⟨⟨b,rfl,k1,h3,k2,h5⟩,Marks.to h6 λb hb=>hs b (List.mem_cons_of_mem _ hb)⟩
def IM(n0:Nat->Prop) (wi:World) (Gi:Gd) (μi:Mp) (nt:Nat) (F:Frm) (H:Heap) (a:Act) (w:World):Prop :=
 ∃ G μ,Ext n0 wi Gi μi w G μ/\aO n0 G μ H w/\cZ w G μ nt F { a with defers:=[] }/\Marks wi w G a.defers
section
variable {P:Program} {E:Env} {n0 n1:Nat->Prop} {w w' wi:World} {G G' Gi:Gd} {μ μ' μi:Mp} {H:Heap} {F:Frm} {a:Act} {nt:Nat}
theorem Ext.wider (h:Ext n1 w G μ w' G' μ')(hn:∀ b,n1 b->n0 b):Ext n0 w G μ w' G' μ' :=
 ⟨h.toMono,h.os,h.tape,h.output,h.size,λb hb hnb=>h.old b hb λh1=>hnb (hn b h1),λb hb=>(h.new b hb).imp id (hn b)⟩
theorem aO.wider (h:aO n1 G μ H w)(hn:∀ b,n1 b->n0 b):aO n0 G μ H w :=
 ⟨λr k b hr hb=>by
  obtain⟨c,h1,h2,h3,h4,h5⟩:=h.blk r k b hr hb;grind,h.tags,h.inj,h.lt,h.top,λb hb=>hn b (h.base b hb),h.rows.aK0 λ_ b _=>hn b⟩
theorem aO.less (h:aO n0 G μ H w) {S:Nat->Prop} (hS:∀ b,S b->b<w.heap.size/\(∀ c t fr,w.heap[b]?≠some (.cells c t fr))/\∀ es clk,w.heap[b]?≠some (.map es clk)):aO (λb=>n0 b/\¬ S b) G μ H w :=
 ⟨λr k b hr hb=>by
  obtain⟨c,h1,h2,h3,h4,h5⟩:=h.blk r k b hr hb;exact⟨c,h1,h2,h3,h4,λhf=>⟨⟨(h5 hf).1,λhs=>(hS b hs).2.1 _ _ _ h1⟩,(h5 hf).2⟩⟩,h.tags,h.inj,h.lt,h.top,λb hb=>⟨h.base b hb,λhs=>Nat.lt_irrefl _ (Nat.lt_of_lt_of_le (hS b hs).1 hb)⟩,h.rows.aK0 λj b hj hn=>⟨hn,λhs=>by
   rcases h.rows.cel j b hj with ⟨c,t,fr,hc⟩|⟨es,clk,hc⟩
   ·grind
   ·exact(hS b hs).2.2 es clk hc⟩⟩
theorem cZ.same (h:cZ w G μ nt F a):cZ w G μ nt F { a with defers:=[] }:=⟨h.size,h.slot,rfl⟩
theorem I.bCA (h:I n0 wi Gi μi nt F H a w):IM n0 wi Gi μi nt F H a w:=by
 obtain⟨G,μ,e,hW,hF⟩:=h;refine⟨G,μ,e,hW,hF.same,?_⟩;rw[hF.defers]; trivial
theorem aYH {nt:Nat} {id:Nat} {ops:Array Oper} {draw:Bool} {F:Frm} {H:Heap} {α:Type} {z:α} {k:Frm->Heap->Option α} (hcl:dA P (eY P E)) (hP:P.follows .mixedOrders=true) (hd:aHY ops=true) (h:lP P E nt ops draw F H k=some z) :
  ∃ F' H',k F' H'=some z/\∀ {ro:Option Nat} {n:Nat} {n0 wi Gi μi} {a w} {Q:Exit->Act->World->Prop},IM n0 wi Gi μi nt F H a w->(∀ a' w',a'.defers=a.defers->IM n0 wi Gi μi nt F' H' a' w'->Q .normal a' w')->(Code.region id ops draw).wpIn (Fr ro) n P Q a w:=by
 have core:∃ F' H',k F' H'=some z/\∀ {ro:Option Nat} {n:Nat} {n0 wi Gi μi} {a w} {ds:List Deferred} {Q:Exit->Act->World->Prop},I n0 wi Gi μi nt F H a w->(∀ a' w',I n0 wi Gi μi nt F' H' a' w'->Q .normal (zP ds a') w')->(Code.region id ops draw).wpIn (Fr ro) n P Q (zP ds a) w:=by
  cases draw with
  | true =>
   obtain⟨F',H',h2,h3⟩:=XU h;refine⟨F',H',h3,?_⟩;intro ro n n0 wi Gi μi a w ds Q hI hQ;refine wpIn_region_any hP (aSW (Q:=λe a' w'=>e=.normal/\I n0 wi Gi μi nt F' H' a' w') (λa w h=>by cases h.1) (λe a' w' h=>by obtain⟨rfl,h⟩:=h; exact hQ a' w' h) (λo ho=>UB hd ho) ?_);exact aAW hcl h2 hI (λa' w' h=>⟨rfl,h⟩)
  | false =>
   unfold lP at h;obtain⟨F',H',h2,h3⟩:=KO h;refine⟨F',H',h3,?_⟩;intro ro n n0 wi Gi μi a w ds Q hI hQ;refine wpIn_region_list (aGF (Q:=λe a' w'=>e=.normal/\I n0 wi Gi μi nt F' H' a' w') (λa w h=>by cases h.1) (λe a' w' h=>by obtain⟨rfl,h⟩:=h; exact hQ a' w' h) (λo ho=>UB hd ho) ?_);exact CA hcl ops.toList F H _ _ h2 hI (λa' w' h=>⟨rfl,h⟩)
 obtain⟨F',H',h1,h2⟩:=core;refine⟨F',H',h1,?_⟩;intro ro n n0 wi Gi μi a w Q hI hQ;obtain⟨G,μ,e,hW,hF,hm⟩:=hI;have hS:∀ b,({ target:=.collected b,args:=#[] }:Deferred)∈a.defers->b<w.heap.size/\(∀ c t fr,w.heap[b]?≠some (.cells c t fr))/\∀ es clk,w.heap[b]?≠some (.map es clk):=by
  intro b hb;obtain⟨b',e1,e2,_⟩:=hm.mem _ hb;grind
 have e0:a=zP a.defers { a with defers:=[] }:=rfl;refine h2 (n0:=λb=>n0 b/\¬ ({ target:=.collected b,args:=#[] }:Deferred)∈a.defers) (wi:=w) (Gi:=G) (μi:=μ) ⟨G,μ,Ext.refl _ _ _ _,hW.less hS,hF⟩ ?_;rintro a' w' ⟨G',μ',e',hW',hF'⟩;have hW2:aO n0 G' μ' H' w':=hW'.wider λb hb=>hb.1
 have hdef:(zP a.defers a').defers=a.defers:=by
  show a'.defers++a.defers=a.defers;rw[hF'.defers]; rfl
 refine hQ _ _ hdef ⟨G',μ',e.trans (e'.wider λb hb=>hb.1),hW2,hF'.same,?_⟩;rw[hdef];refine hm.to λb hb h1 h2=>⟨?_,λhg=>?_⟩
 ·rw[e'.old b (hS b hb).1 (λh=>h.2 hb)]; exact h1
 ·rcases e'.new b hg with h|h
  ·grind
  ·grind
end
def aAH(T:List Nat):(l:List (Ex×List (Nat×Kd)))->Ex->Frm->Heap->Option (cD l)
 | [],_,_,_=>none
 | [(e,s)],ex,F,H=>bif aX4 e ex then GZ T s F H else none
 | (e,s)::b::r,ex,F,H=>bif aX4 e ex then (match GZ T s F H with|some x=>some (.inl x)|none=>none) else (match aAH T (b::r) ex F H with|some y=>some (.inr y)|none=>none)
section
variable {α:Type} (P:Program) (E:Env) (nt keep:Nat) (lt rt:Nat->Option eE) (rd:Bool) (T:List Nat)
def IJ:Code->Frm->Heap->(Ex->Frm->Heap->Option α)->Option α
 | .skip,F,H,k=>k .normal F H
 | .label _,F,H,k=>k .normal F H
 | .region _ ops draw,F,H,k=>bif aHY ops then lP P E nt ops draw F H λF H=>aKO keep F λF=>k .normal F H else none
 | .seq a b,F,H,k=>IJ a F H λex F H=>match ex with
  | .normal=>IJ b F H k
  | .exit i=>k (.exit i) F H
  | .ret=>k .ret F H
 | .cond c a b,F,H,k=>match ev F c with
  | .lit (.bool t)=>a4K F c t λF t=>bif t then IJ a F H k else IJ b F H k
  | _=>none
 | .block id a,F,H,k=>IJ a F H λex F H=>match ex with
  | .exit i=>bif Nat.beq i id then k .normal F H else k (.exit i) F H
  | .normal=>k .normal F H
  | .ret=>k .ret F H
 | .loop a,F,H,k=>match lt (cA a)with
  | some s=>match GZ T s.sh F H with
   | some x=>aC (s.run x) λz=>a88 s.exits z k
   | none=>none
  | none=>none
 | .rangeFunc _ _ _ a,F,H,k=>bif rd then none else match rt (cA a)with
  | some s=>match GZ T s.sh F H with
   | some x=>aC (s.run x) λz=>a88 s.exits z k
   | none=>none
  | none=>none
 | .exit id,F,H,k=>k (.exit id) F H
 | .ret,F,H,k=>k .ret F H
 | _,_,_,_=>none
def aRU(T:List Nat) sh exits (ex:Ex)(F:Frm)(H:Heap):Option (Shape.den sh⊕cD exits):=match ex with
 | .normal=>match GZ T sh F H with
  | some y=>some (.inl y)
  | none=>none
 | .exit i=>match aAH T exits (.exit i) F H with
  | some z=>some (.inr z)
  | none=>none
 | .ret=>match aAH T exits .ret F H with
  | some z=>some (.inr z)
  | none=>none
def aZV(a:Code) (sh:List (Nat×Kd)) (exits:List (Ex×List (Nat×Kd))) (x:Shape.den sh):Option (Shape.den sh⊕cD exits) :=
 IJ P E nt keep lt rt rd T a (CD sh x 0) (NC sh x) (aRU T sh exits)
end
def pS:Code->List Code
 | .seq a b=>pS a++pS b
 | .cond _ a b=>pS a++pS b
 | .block _ a=>pS a
 | .loop a=>[.loop a]
 | .rangeFunc g ps as1 a=>[.rangeFunc g ps as1 a]
 | _=>[]
section
variable {α:Type} {P:Program} {E:Env} {nt keep:Nat} {lt rt:Nat->Option eE} {rd:Bool} {T:List Nat}
def bC8(P:Program) (nt:Nat) (rd:Bool) (T:List Nat) (c:Code) (F:Frm) (H:Heap) (r:Ex×Frm×Heap):Prop :=
 ∀ (ro:Option Nat) (n:Nat) (n0:Nat->Prop) (wi:World) (Gi:Gd) (μi:Mp) (a:Act) (w:World),(rd=false->ro=none)->(∀ r,¬ r∈T->μi.loc r=none/\μi.len r=none)->IM n0 wi Gi μi nt F H a w ->
  c.wpIn (Fr ro) n P (λe a' w'=>e=r.1.to/\IM n0 wi Gi μi nt r.2.1 r.2.2 a' w'/\(rd=true->a'.defers=a.defers)) a w
def TW(P:Program)(nt:Nat)(rd:Bool)(T:List Nat)(c:Code)(s:eE):Prop :=
 ∀ x z,s.run x=some z->bC8 P nt rd T c (CD s.sh x 0) (NC s.sh x) (KZ s.exits z)
def UW(P:Program)(nt:Nat)(lt rt:Nat->Option eE)(rd:Bool)(T:List Nat):Code->Prop
 | .loop a=>∀ s,lt (cA a)=some s->TW P nt rd T (.loop a) s
 | .rangeFunc g ps as1 a=>rd=false->∀ s,rt (cA a)=some s->TW P nt rd T (.rangeFunc g ps as1 a) s
 | _=>True
theorem IM.a4S {n0 wi Gi μi F F' H a w}(h:IM n0 wi Gi μi nt F H a w)(hF:∀ t,bM F' t=bM F t\/bM F' t=.junk):IM n0 wi Gi μi nt F' H a w:=by
 obtain⟨G,μ,e,hW,hI,hm⟩:=h;refine⟨G,μ,e,hW,⟨hI.size,λt=>?_,rfl⟩,hm⟩;rcases hF t with h1|h1
 ·rw[h1]; exact hI.slot t
 ·rw[h1,VR]; simp
theorem IM.same {n0:Nat->Prop} {wi:World} {Gi:Gd} {μi:Mp} {F F':Frm} {H H':Heap} {a:Act} {w:World} (hfl:∀ r,¬ r∈T->μi.loc r=none/\μi.len r=none)
  (hs:∀ {n0:Nat->Prop} {wi:World} {Gi:Gd} {μi:Mp} {a:Act},(∀ r,¬ r∈T->μi.loc r=none/\μi.len r=none)->I n0 wi Gi μi nt F H a w->I n0 wi Gi μi nt F' H' a w) (h:IM n0 wi Gi μi nt F H a w):IM n0 wi Gi μi nt F' H' a w:=by
 obtain⟨G,μ,e,hW,hF,hm⟩:=h;have hS:∀ b,({ target:=.collected b,args:=#[] }:Deferred)∈a.defers->b<w.heap.size/\(∀ c t fr,w.heap[b]?≠some (.cells c t fr))/\∀ es clk,w.heap[b]?≠some (.map es clk):=by
  intro b hb;obtain⟨b',e1,e2,_⟩:=hm.mem _ hb;grind
 have e0:Ext (λb=>n0 b/\¬ ({ target:=.collected b,args:=#[] }:Deferred)∈a.defers) w G μi w G μ:=⟨⟨λ_ h=>⟨h,rfl⟩,e.map,e.len,λ_ _ h=>h,λ_ _ h=>h,e.sh⟩,rfl,rfl,rfl,oM _,λ_ _ _=>rfl,λ_ h=>.inl h⟩;obtain⟨G',μ',e',hW',hF'⟩:=hs (n0:=λb=>n0 b/\¬ ({ target:=.collected b,args:=#[] }:Deferred)∈a.defers) (wi:=w) (Gi:=G) (μi:=μi) (a:={ a with defers:=[] }) hfl ⟨G,μ,e0,hW.less hS,hF⟩;refine⟨G',μ',?_,hW'.wider λb hb=>hb.1,hF',hm.to λb hb h1 h2=>⟨h1,λhg=>?_⟩⟩
 ·exact {
   good:=λb hb=>⟨(e'.good b (e.good b hb).1).1,(e.good b hb).2⟩
   map:=e'.map
   len:=e'.len
   sh:=e'.sh
   room:=e.room
   row:=λj b hj=>e'.row j b (e.row j b hj)
   os:=e.os
   tape:=e.tape
   output:=e.output
   size:=e.size
   old:=e.old
   new:=λb hb=>by
    rcases e'.new b hb with h|h
    ·exact e.new b h
    ·exact .inr h.1 }
 ·rcases e'.new b hg with h|h
  ·grind
  ·grind
theorem IM.dec {n0 wi Gi μi F H a w}(hfl:∀ r,¬ r∈T->μi.loc r=none/\μi.len r=none){sh x}(h:GZ T sh F H=some x)(hI:IM n0 wi Gi μi nt F H a w):IM n0 wi Gi μi nt (CD sh x 0) (NC sh x) a w :=
 hI.same hfl λhfl hI=>aOR h hfl hI
theorem X4 {ex F H}:∀ {l z},aAH T l ex F H=some z ->
  (KZ l z).1=ex/\∃ sh,∃ x ,GZ T sh F H=some x/\(KZ l z).2.1=CD sh x 0/\(KZ l z).2.2=NC sh x
 | [],z,_=>Empty.elim z
 | [(e,s)],z,h=>by
  obtain⟨hb,h⟩:=aJ h;exact⟨aMB hb,s,z,h,rfl,rfl⟩
 | (e,s)::b::r,z,h=>by
  simp only[aAH]at h;cases hb:aX4 e ex with
  | true =>
   rw[hb]at h;simp only[oC]at h;split at h
   next x hx=>simp only[oJ]at h;subst h;exact⟨aMB hb,s,x,hx,rfl,rfl⟩
   grind
  | false =>
   rw[hb]at h;simp only[oD]at h;split at h
   next x hx=>simp only[oJ]at h;subst h;exact X4 (z:=x) hx
   ·cases h
theorem IM.aF1 {n0 wi Gi μi F H a w ex}(hfl:∀ r,¬ r∈T->μi.loc r=none/\μi.len r=none){l z}(h:aAH T l ex F H=some z)(hI:IM n0 wi Gi μi nt F H a w) :
  (KZ l z).1=ex/\IM n0 wi Gi μi nt (KZ l z).2.1 (KZ l z).2.2 a w:=by
 obtain⟨h1,sh,x,h2,h3,h4⟩:=X4 h;exact⟨h1,by rw[h3,h4]; exact hI.dec hfl h2⟩
theorem nX(hcl:dA P (eY P E))(hP:P.follows .mixedOrders=true):∀ c F H k (z:α),(∀ a∈pS c,UW P nt lt rt rd T a) ->
  IJ P E nt keep lt rt rd T c F H k=some z->∃ r ,k r.1 r.2.1 r.2.2=some z/\bC8 P nt rd T c F H r
 | .skip,F,H,k,z,hl,h=>⟨(.normal,F,H),h,λ_ _ _ _ _ _ _ _ _ _ hI=>wpIn_skip ⟨rfl,hI,λ_=>rfl⟩⟩
 | .label l,F,H,k,z,hl,h=>⟨(.normal,F,H),h,λ_ _ _ _ _ _ _ _ _ _ hI=>wpIn_label ⟨rfl,hI,λ_=>rfl⟩⟩
 | .region id ops draw,F,H,k,z,hl,h=>by
  obtain⟨hd,h⟩:=aJ h;obtain⟨F1,H1,h1,h2⟩:=aYH (id:=id) hcl hP hd h;obtain⟨F2,h3,h4⟩:=aI9 keep F1 λF=>k .normal F H1
  rw[h3]at h1;exact⟨(.normal,F2,H1),h1,λ_ _ _ _ _ _ _ _ _ _ hI=>h2 hI λa' w' hd' hI'=>⟨rfl,hI'.a4S h4,λ_=>hd'⟩⟩
 | .seq x y,F,H,k,z,hl,h=>by
  obtain⟨⟨ex,F1,H1⟩,h1,h2⟩:=nX hcl hP x F H _ z (λa ha=>hl a (by simp[pS,ha])) h;cases ex with
  | normal =>
   obtain⟨r,h3,h4⟩:=nX hcl hP y F1 H1 k z (λa ha=>hl a (by simp[pS,ha])) h1;refine⟨r,h3,λro n n0 wi Gi μi a w hro hfl hI=>wpIn_seq (wpIn_mono (h2 ro n n0 wi Gi μi a w hro hfl hI) ?_)⟩;rintro e a' w' ⟨rfl,hI',hd'⟩;refine wpIn_mono (h4 ro n n0 wi Gi μi a' w' hro hfl hI') ?_;grind
  | exit i =>
   refine⟨(.exit i,F1,H1),h1,λro n n0 wi Gi μi a w hro hfl hI=>wpIn_seq (wpIn_mono (h2 ro n n0 wi Gi μi a w hro hfl hI) ?_)⟩;rintro e a' w' ⟨rfl,hI'⟩;exact⟨rfl,hI'⟩
  | ret =>
   refine⟨(.ret,F1,H1),h1,λro n n0 wi Gi μi a w hro hfl hI=>wpIn_seq (wpIn_mono (h2 ro n n0 wi Gi μi a w hro hfl hI) ?_)⟩;rintro e a' w' ⟨rfl,hI'⟩;exact⟨rfl,hI'⟩
 | .cond c x y,F,H,k,z,hl,h=>by
  simp only[IJ]at h;split at h
  next t ht=>
   replace h:=aCM h ht;have hc:∀ {n0 wi Gi μi a w},IM n0 wi Gi μi nt F H a w->a.eval c=.bool t:=λ{n0 wi Gi μi a w} hI=>by
    obtain⟨G,μ,e,hW,hF,_⟩:=hI;have hc:=cC hF c;rw[ht,VR]at hc;rw[<- hc];cases c <;> rfl
   cases t with
   | true =>
    obtain⟨r,h3,h4⟩:=nX hcl hP x F H k z (λa ha=>hl a (by simp[pS,ha])) h;exact⟨r,h3,λro n n0 wi Gi μi a w hro hfl hI=>wpIn_cond (hc hI) (h4 ro n n0 wi Gi μi a w hro hfl hI)⟩
   | false =>
    obtain⟨r,h3,h4⟩:=nX hcl hP y F H k z (λa ha=>hl a (by simp[pS,ha])) h;exact⟨r,h3,λro n n0 wi Gi μi a w hro hfl hI=>wpIn_cond (hc hI) (h4 ro n n0 wi Gi μi a w hro hfl hI)⟩
  ·cases h
 | .block id x,F,H,k,z,hl,h=>by
  simp only[IJ]at h;obtain⟨⟨ex,F1,H1⟩,h1,h2⟩:=nX hcl hP x F H _ z (λa ha=>hl a (by simp[pS,ha])) h;cases ex with
  | normal =>
   refine⟨(.normal,F1,H1),h1,λro n n0 wi Gi μi a w hro hfl hI=>wpIn_block (wpIn_mono (h2 ro n n0 wi Gi μi a w hro hfl hI) ?_)⟩;rintro e a' w' ⟨rfl,hI'⟩;exact⟨rfl,hI'⟩
  | ret =>
   refine⟨(.ret,F1,H1),h1,λro n n0 wi Gi μi a w hro hfl hI=>wpIn_block (wpIn_mono (h2 ro n n0 wi Gi μi a w hro hfl hI) ?_)⟩;rintro e a' w' ⟨rfl,hI'⟩;exact⟨rfl,hI'⟩
  | exit i =>
   simp only at h1;cases hi:Nat.beq i id with
   | true =>
    rw[hi]at h1;have:=oE hi;subst this;refine⟨(.normal,F1,H1),h1,λro n n0 wi Gi μi a w hro hfl hI=>wpIn_block (wpIn_mono (h2 ro n n0 wi Gi μi a w hro hfl hI) ?_)⟩;rintro e a' w' ⟨rfl,hI'⟩;simp only[Ex.to,Exit.inBlock,if_true];exact⟨trivial,hI'⟩
   | false =>
    rw[hi]at h1;have hne:¬ i=id:=λe=>by rw[e]at hi; simp at hi
    refine⟨(.exit i,F1,H1),h1,λro n n0 wi Gi μi a w hro hfl hI=>wpIn_block (wpIn_mono (h2 ro n n0 wi Gi μi a w hro hfl hI) ?_)⟩;rintro e a' w' ⟨rfl,hI'⟩;simp only[Ex.to,Exit.inBlock,hne,if_false];exact⟨trivial,hI'⟩
 | .loop x,F,H,k,z,hl,h=>by
  simp only[IJ]at h;split at h
  next s hs=>
   split at h
   next x0 hx=>obtain⟨y,h1,h2⟩:=mR h;exact⟨KZ s.exits y,aCJ h2,λro n n0 wi Gi μi a w hro hfl hI=>hl (.loop x) (by simp[pS]) s hs x0 y h1 ro n n0 wi Gi μi a w hro hfl (hI.dec hfl hx)⟩
   ·cases h
  ·cases h
 | .rangeFunc g ps as1 x,F,H,k,z,hl,h=>by
  simp only[IJ]at h;cases hrd:rd with
  | true=>rw[hrd]at h; cases h
  | false =>
   rw[hrd]at h;simp only[oD]at h;split at h
   ·rename_i s hs;split at h
    next x0 hx=>obtain⟨y,h1,h2⟩:=mR h;refine⟨KZ s.exits y,aCJ h2,λro n n0 wi Gi μi a w hro hfl hI=>?_⟩;have:=hl (.rangeFunc g ps as1 x) (by simp[pS]) hrd s hs x0 y h1 ro n n0 wi Gi μi a w (by rw[hrd]; exact hro) hfl (hI.dec hfl hx);rw[hrd]at this;exact this
    ·cases h
   ·cases h
 | .exit id,F,H,k,z,hl,h=>⟨(.exit id,F,H),h,λ_ _ _ _ _ _ _ _ _ _ hI=>wpIn_exit ⟨rfl,hI,λ_=>rfl⟩⟩
 | .scope x,F,H,k,z,hl,h=>by simp only[IJ]at h; cases h
 | .ret,F,H,k,z,hl,h=>⟨(.ret,F,H),h,λ_ _ _ _ _ _ _ _ _ _ hI=>wpIn_ret ⟨rfl,hI,λ_=>rfl⟩⟩
 | .goto l,F,H,k,z,hl,h=>by simp only[IJ]at h; cases h
 | .refuse s,F,H,k,z,hl,h=>by simp only[IJ]at h; cases h
theorem aI3 {sh exits ex F H y}(h:aRU T sh exits ex F H=some y) :
  (∃ x,y=.inl x/\ex=.normal/\GZ T sh F H=some x)\/(∃ z,y=.inr z/\ex≠.normal/\aAH T exits ex F H=some z):=by
 cases ex with
 | normal =>
  simp only[aRU]at h;grind
 | exit i =>
  simp only[aRU]at h;grind
 | ret =>
  simp only[aRU]at h;grind
theorem aW1(hcl:dA P (eY P E)) (hP:P.follows .mixedOrders=true) {a:Code} {sh:List (Nat×Kd)} {exits:List (Ex×List (Nat×Kd))} {step:Shape.den sh->Option (Shape.den sh⊕cD exits)} (L:Nat)
  (hl:∀ b∈pS a,UW P nt lt rt rd T b) (hr:∀ x,aZV P E nt keep lt rt rd T a sh exits x=step x):TW P nt rd T (.loop a) ⟨sh,exits,aW step L⟩:=by
 intro x z hz ro n n0 wi Gi μi act w hro hfl hI;refine wpIn_loop_ghost (λk a w=>(∃ x,aW step k x=some z/\IM n0 wi Gi μi nt (CD sh x 0) (NC sh x) a w)/\(rd=true->a.defers=act.defers)) L ⟨⟨x,hz,hI⟩,λ_=>rfl⟩ ?_;rintro k act1 w ⟨⟨x,hz,hI⟩,hdef⟩;cases k with
 | zero=>cases hz
 | succ k =>
  simp only[aW]at hz;split at hz
  next y hs=>
   rw[<- hr]at hs;obtain⟨⟨ex,F',H'⟩,h1,h2⟩:=nX hcl hP a _ _ _ _ hl hs;refine wpIn_mono (h2 ro n n0 wi Gi μi act1 w hro hfl hI) ?_;rintro e a' w' ⟨rfl,hI',hd'⟩;rcases aI3 h1 with ⟨y',e1,e2,e3⟩|⟨z',e1,_,_⟩
   ·cases e1;subst e2;exact⟨k,by omega,⟨y,hz,hI'.dec hfl e3⟩,λhr=>(hd' hr).trans (hdef hr)⟩
   ·cases e1
  next y hs=>
   simp only[oJ]at hz;subst hz;rw[<- hr]at hs;obtain⟨⟨ex,F',H'⟩,h1,h2⟩:=nX hcl hP a _ _ _ _ hl hs;refine wpIn_mono (h2 ro n n0 wi Gi μi act1 w hro hfl hI) ?_;rintro e a' w' ⟨rfl,hI',hd'⟩;rcases aI3 h1 with ⟨y',e1,e2,e3⟩|⟨z',e1,e2,e3⟩
   ·cases e1
   ·cases e1;obtain⟨h3,h5⟩:=hI'.aF1 hfl e3;have h6:(rd=true->a'.defers=act.defers):=λhr=>(hd' hr).trans (hdef hr)
    cases ex with
    | normal=>exact absurd rfl e2
    | exit i=>exact⟨by rw[h3],h5,h6⟩
    | ret=>exact⟨by rw[h3],h5,h6⟩
  ·cases hz
end
def Y0:Kd->Nat->List Nat
 | .own _ _,n|.box _ _,n|.bown _ _ _,n|.bque _ _ _,n|.bag _ _ _ _ _,n|.bag2 _ _ _ _ _ _,n=>[n]
 | .win j _,_=>[j]
 | _,_=>[]
def GQ:List (Nat×Kd)->Nat->List Nat
 | [],_=>[]
 | (_,k)::r,n=>Y0 k n++GQ r (n+k.pos)
structure Stp (S:Nat->Prop) (B A:World):Prop where
 keep:∀ b,b<B.heap.size->¬ S b->A.heap[b]?=B.heap[b]?
 room:∀ b n,Room B b n->Room A b n
 os:A.os=B.os
 tape:A.tape=B.tape
 output:A.output=B.output
 size:B.heap.size<=A.heap.size
theorem Stp.trans {S A B C}(h:Stp S A B)(k:Stp S B C):Stp S A C :=
 ⟨λb hb hs=>(k.keep b (Nat.lt_of_lt_of_le hb h.size) hs).trans (h.keep b hb hs),λb n hr=>k.room b n (h.room b n hr),k.os.trans h.os,k.tape.trans h.tape,k.output.trans h.output,oR h.size k.size⟩
def aTR(P:Program) (gf:FuncId) (ts:List Ty) (ks:List Kd) (f:aBD ts->Option (List (aM ks))):Prop :=
 ∀ x all,f x=some all->∀ (m l:Nat) (W:World) (G:Nat->Prop) (vs:List Value),Lt W G->VRs W (Gd.of G) aG (ZX ts x) vs ->
  ∀ (J Jx:List (aM ks)->(Nat->Prop)->(Nat->Prop)->World->Prop),
  (∀ pre e post T X B T' X' A us Gx m',all=pre++e::post->J pre T X B->Stp X B A->(∀ b,T' b->(T b\/B.heap.size<=b)/\b<A.heap.size)->(∀ b,X' b->T' b/\(X b\/B.heap.size<=b)) ->
   (∀ b,Gx b->(G b\/T' b)/\¬ X' b)->VRs A (Gd.of Gx) aG (kX ks e) us ->
   YieldAt Fence.wide m' P l us.toArray A λen C =>
    ((∀ b,b<A.heap.size->G b\/T' b->C.heap[b]?=A.heap[b]?)/\(∀ b n,Room A b n->Room C b n)/\A.heap.size<=C.heap.size)/\((en=.returned (.bool true)/\J (pre++[e]) T' X' C)\/(en=.returned (.bool false)/\Jx (pre++[e]) T' X' C))) ->
  J [] (λ_=>False) (λ_=>False) W ->
  CallsIn Fence.wide m P gf ((#[.func (.yield l) #[] #[]]:Array Value)++vs.toArray) W λen C=>(∃ v,en=.returned v)/\∃ T X B,Stp X B C/\(J all T X B\/∃ pre,Jx pre T X B)
def aEJ {σ τ ε:Type} (step:σ->ε->Option (σ⊕τ)) (fin:σ->Option τ):List ε->σ->Option τ
 | [],y=>fin y
 | e::es,y=>match step y e with
  | some (.inl y')=>aEJ step fin es y'
  | some (.inr z)=>some z
  | none=>none
def aWD:List Nat->List PV->Frm->Frm
 | t::ts,p::ps,F=>aWD ts ps ((t,p)::F)
 | _,_,F=>F
def bDC(sh:List (Nat×Kd)) (exits:List (Ex×List (Nat×Kd))) (F0:Frm) (ex:Ex) (_:Frm) (H:Heap):Option (Shape.den sh⊕cD exits):=aRU [] sh exits ex F0 H
def aFP(P:Program)(E:Env)(nt keep:Nat)(lt rt:Nat->Option eE)(ps:List Nat)(assign body:Code) ks sh exits (y:Shape.den sh)(e:aM ks):Option (Shape.den sh⊕cD exits) :=
 bif Nat.beq ps.length ks.length&&ps.all (λt=>Nat.blt t nt) then
  IJ P E nt keep lt rt true (GQ sh 0) assign (aWD ps (kX ks e) (CD sh y 0)) (NC sh y) λex F H=>match ex with
   | .normal=>IJ P E nt keep lt rt true (GQ sh 0) body F H (bDC sh exits (CD sh y 0))
   | _=>none
 else none
def a9I sh exits (y:Shape.den sh):Option (cD exits):=aAH [] exits .normal (CD sh y 0) (NC sh y)
def aW0(sh:List (Nat×Kd)) (exits:List (Ex×List (Nat×Kd))) {ε:Type} (all:Shape.den sh->Option (List ε)) (step:Shape.den sh->ε->Option (Shape.den sh⊕cD exits)) (x:Shape.den sh):Option (cD exits) :=
 match all x with
 | some l=>aEJ step (a9I sh exits) l x
 | none=>none
def aRB(gf:FuncId) (ts:List Ty) (sh:List (Nat×Kd)) (g:Operand) (x:Shape.den sh):Option (aBD ts):=bif ts.all Ty.plain then aS0 gf ts (ev (CD sh x 0) g) else none
section
variable {P:Program} {n0:Nat->Prop} {w wi:World} {G Gi:Gd} {μ μi:Mp} {H:Heap} {F:Frm} {a:Act} {nt:Nat}
theorem I5 {l:Nat} {o o':Obj} (hl:w.heap[l]?=some o) (ho:(∀ c t fr,o≠.cells c t fr)/\∀ es clk,o≠.map es clk) (hG:¬ G l):Mono w G μ (w.putObj l o') G μ :=
 ⟨λb hb=>⟨hb,World.putObj_heap_other (by rintro rfl; exact hG hb)⟩,λ_ _ h=>h,λ_ _ h=>h,λb n ⟨cs,t,fr,h1,h2⟩=>⟨cs,t,fr,by
  rw[World.putObj_heap_other]
  ·exact h1
  ·rintro rfl;rw[hl]at h1;exact ho.1 cs t fr (oB h1),h2⟩,λ_ _ h=>h,λ_ _ _=>rfl⟩
theorem UG(hW:aO n0 G μ H w){l o o'}(hl:w.heap[l]?=some o)(ho:(∀ c t fr,o≠.cells c t fr)/\∀ es clk,o≠.map es clk)(hG:¬ G l):aO n0 G μ H (w.putObj l o'):=by
 have m:=I5 (μ:=μ) (o':=o') hl ho hG;refine⟨?_,hW.tags,hW.inj,hW.lt.step m.good λb hb=>by rw[World.putObj_size]; exact hW.lt b hb,hW.top,λb hb=>hW.base b (by simp_all),hW.rows.step m.aG R (λ_=>rfl) (λj b hj=>⟨?_,id,λr k h1 h2 h3=>⟨r,k,h1,h2,h3⟩⟩) (λr k _ _ h1 _ _=>⟨k,h1,rfl,rfl,rfl,rfl⟩)⟩
 case refine_2 =>
  rw[World.putObj_heap_other];rcases hW.rows.cel j _ hj with ⟨c,t,fr,hc⟩|⟨es,clk,hc⟩
  ·grind
  grind
 intro r k b hr hb;obtain⟨c,h1,h2,h3,h4⟩:=hW.blk r k b hr hb;have e:(w.putObj l o').heap[b]?=w.heap[b]?:=by
  rw[World.putObj_heap_other];grind
 exact⟨c,e.trans h1,aL.mono m e _ _ h2,h3,h4⟩
theorem YE {l o o'}(hl:w.heap[l]?=some o)(ho:(∀ c t fr,o≠.cells c t fr)/\∀ es clk,o≠.map es clk)(hG:¬ G l)(hn:n0 l):Ext n0 w G μ (w.putObj l o') G μ :=
 {toMono:=I5 hl ho hG
  os:=rfl
  tape:=rfl
  output:=rfl
  size:=R
  old:=λb hb hnb=>World.putObj_heap_other W
  new:=λb hb=>.inl hb }
theorem a1E {T X T' Gx G1:Nat->Prop} {A B:World} (hW:aO (λb=>n0 b/\¬ T b) G μ H B) (hn:∀ b,T b->n0 b) (hTX:∀ b,X b->T b) (hGX:∀ b,G b->¬ X b) (hG1:∀ b,G1 b->G b) (st:Stp X B A) (hT:∀ b,T' b->(T b\/B.heap.size<=b)/\b<A.heap.size) (hx:∀ b,Gx b->G1 b\/T' b) :
  Ext n0 B G μ A (G.or Gx) μ:={
 good:=λb hb=>⟨.inl hb,st.keep b (hW.lt b hb) (hGX b hb)⟩
 map:=λ_ _ h=>h
 len:=λ_ _ h=>h
 room:=st.room
 row:=λ_ _ h=>h
 os:=st.os
 tape:=st.tape
 output:=st.output
 size:=st.size
 old:=λb hb hnb=>st.keep b hb λhs=>hnb (hn b (hTX b hs))
 new:=λb hb=>by
  rcases hb with hb|hb
  ·grind
  ·rcases hx b hb with h|h
   ·grind
   ·rcases(hT b h).1 with h|h
    ·grind
    ·exact .inr (hW.base b h).1 }
theorem aXA {T X T' Gx G1:Nat->Prop}{A B}(hW:aO (λb=>n0 b/\¬ T b) G μ H B)(hTX:∀ b,X b->T b)(hGX:∀ b,G b->¬ X b)(hG1:∀ b,G1 b->G b)(st:Stp X B A)(hT:∀ b,T' b->(T b\/B.heap.size<=b)/\b<A.heap.size)(hx:∀ b,Gx b->G1 b\/T' b) :
  aO (λb=>n0 b/\¬ T' b) (G.or Gx) μ H A:=by
 have m:Mono B G μ A (G.or Gx) μ:=⟨λb hb=>⟨.inl hb,st.keep b (hW.lt b hb) (hGX b hb)⟩,λ_ _ h=>h,λ_ _ h=>h,st.room,λ_ _ h=>h,λ_ _ _=>rfl⟩;refine⟨?_,hW.tags,hW.inj,?_,hW.top,λb hb=>⟨(hW.base b (oR st.size hb)).1,λhs=>Nat.lt_irrefl _ (Nat.lt_of_lt_of_le (hT b hs).2 hb)⟩,?_⟩
 case refine_3 =>
  have nT:∀ j b,G.row j=some b->¬ T' b:=λj b hj hs=>by
   obtain⟨a1,a2,_⟩:=hW.rows.sep j b hj;grind
  refine(hW.rows.aK0 (n1:=λb=>n0 b/\¬ T' b) λj b hj hn=>⟨hn.1,nT j b hj⟩).step m.aG st.size (λ_=>rfl) (λj b hj=>⟨?_,?_,λr k h1 h2 h3=>⟨r,k,h1,h2,h3⟩⟩) (λr k _ _ h1 _ _=>⟨k,h1,rfl,rfl,rfl,rfl⟩)
  ·obtain⟨a1,a2,_⟩:=hW.rows.sep j b hj;exact st.keep b a1 λhx=>a2.2 (hTX b hx)
  ·rintro(h|h)
   ·exact h
   ·grind
 ·intro r k b hr hb;obtain⟨c,h1,h2,h3,h4,h5⟩:=hW.blk r k b hr hb;have hlt:=hW.pK hr hb;have hns:¬ X b:=W
  have e:=st.keep b hlt hns;have nT:k.frozen=false->¬ T' b:=λhf hs=>W
  refine⟨c,e.trans h1,aL.mono m e _ _ h2,h3,λhf=>.inl (h4 hf),λhf=>⟨⟨(h5 hf).1.1,nT hf⟩,?_⟩⟩;rintro(h|h)
  ·grind
  ·grind
 ·refine hW.lt.step m.good ?_;rintro b (hb|hb)
  ·exact Nat.lt_of_lt_of_le (hW.lt b hb) st.size
  ·rcases hx b hb with h|h
   ·exact Nat.lt_of_lt_of_le (hW.lt b (hG1 b h)) st.size
   ·grind
theorem aR1:∀ {ps qs us F tmps},ps.length=qs.length->(∀ t∈ps,t<nt)->VRs w G μ qs us->cZ w G μ nt F { tmps:=tmps,defers:=[] } ->
  cZ w G μ nt (aWD ps qs F) { tmps:=(ps.zip us).foldl (λt (p,v)=>t.setIfInBounds p v) tmps,defers:=[] }
 | [],[],us,F,tmps,_,_,hv,hF=>by exact hF
 | t::ts,q::qs,us,F,tmps,hl,hb,hv,hF=>by
  obtain⟨v,vs,rfl,h1,h2⟩:=hv;simp only[aWD];exact aR1 W (λs hs=>hb s (List.mem_cons_of_mem _ hs)) h2 (hF.cons (hb t List.mem_cons_self) h1)
 | [],_::_,us,F,tmps,hl,_,_,_=>W
 | _::_,[],us,F,tmps,hl,_,_,_=>W
end
def GO(μ:Mp) (T:List Nat):Mp:=⟨λr=>if r∈T then μ.loc r else none,λr=>if r∈T then μ.len r else none,μ.sh⟩
section
variable {P:Program} {n0:Nat->Prop} {w w' wi:World} {G G' Gi:Gd} {μ μ' μi:Mp} {H:Heap} {F:Frm} {a:Act} {nt:Nat}
theorem FV {T r}(h:r∈T):(GO μ T).loc r=μ.loc r/\(GO μ T).len r=μ.len r/\(GO μ T).sh r=μ.sh r:=by simp[GO,h]
theorem YO {T}:∀ r,¬ r∈T->(GO μ T).loc r=none/\(GO μ T).len r=none:=λr h=>by simp[GO,h]
theorem aFU T:Ext n0 w G (GO μ T) w G μ:={
 good:=λ_ h=>⟨h,rfl⟩
 map:=λr b hr=>by
  by_cases h:r∈T
  ·rw[(FV h).1]at hr; grind
  ·rw[(YO r h).1]at hr; grind
 len:=λr b hr=>by
  by_cases h:r∈T
  ·rw[(FV h).2.1]at hr; omega
  ·rw[(YO r h).2]at hr; grind
 room:=λ_ _ h=>h
 row:=λ_ _ h=>h
 os:=rfl
 tape:=rfl
 output:=rfl
 size:=oM _
 old:=λ_ _ _=>rfl
 new:=λ_ h=>.inl h }
theorem aGI:∀ ts x,dR.noRefs (ZX ts x)=true
 | [],_=>rfl
 | t::r,(x,xs)=>by simp only[ZX,dR.noRefs,dR,aGI r xs,Bool.and_self]
theorem a3X {T}:∀ k x n {v},(∀ r,r∈Y0 k n->r∈T)->VR w G μ (B8 k x n) v->VR w G (GO μ T) (B8 k x n) v
 | .int _,x,n,v,_,h=>by simp only[B8]at h ⊢; rw[VR]at h ⊢; exact h
 | .bool,x,n,v,_,h=>by simp only[B8]at h ⊢; rw[VR]at h ⊢; exact h
 | .str,x,n,v,_,h=>by simp only[B8]at h ⊢; rw[VR]at h ⊢; exact h
 | .list t,x,n,v,_,h=>(nC (B8 (.list t) x n) v rfl h).aV
 | .agg t,x,n,v,_,h=>(nC (B8 (.agg t) x n) v (by simp only[B8,dR]; exact RD t x) h).aV
 | .own e t,x,n,v,hT,h=>by
  have:=FV (μ:=μ) (hT n (by simp[Y0]));simp only[B8]at h ⊢;rw[VR]at h ⊢; rw[this.1,this.2.1,this.2.2]; exact h
 | .box e t,x,n,v,hT,h=>by
  have:=FV (μ:=μ) (hT n (by simp[Y0]));simp only[B8]at h ⊢;rw[VR]at h ⊢; rw[this.1,this.2.2]; exact h
 | .bown e et t,x,n,v,hT,h=>by
  have:=FV (μ:=μ) (hT n (by simp[Y0]));simp only[B8]at h ⊢;rw[VR]at h ⊢; rw[this.1,this.2.2]; exact h
 | .bque e et t,x,n,v,hT,h=>by
  have:=FV (μ:=μ) (hT n (by simp[Y0]));simp only[B8]at h ⊢;rw[VR]at h ⊢; rw[this.1,this.2.2]; exact h
 | .bag e t1 et t t2,x,n,v,hT,h=>by
  have:=FV (μ:=μ) (hT n (by simp[Y0]));simp only[B8]at h ⊢;rw[VR]at h ⊢; rw[this.1,this.2.2]; exact h
 | .bag2 e t1 et t eu u,x,n,v,hT,h=>by
  have:=FV (μ:=μ) (hT n (by simp[Y0]));simp only[B8]at h ⊢;rw[VR]at h ⊢; rw[this.1,this.2.2]; exact h
 | .ptr t,x,n,v,_,h=>(nC (B8 (.ptr t) x n) v rfl h).aV
 | .fn g,x,n,v,_,h=>by simp only[B8]at h ⊢; rw[VR]at h ⊢; exact h
 | .nil0,x,n,v,_,h=>by simp only[B8]at h ⊢; rw[VR]at h ⊢; exact h
 | .val,x,n,v,_,h=>by simp only[B8]at h ⊢; rw[VR]at h ⊢; exact h
 | .hnd sz,x,n,v,_,h=>(nC (B8 (.hnd sz) x n) v rfl h).aV
 | .mpk j,x,n,v,_,h=>(nC (B8 (.mpk j) x n) v rfl h).aV
 | .ar e t,x,n,v,_,h=>by simp only[B8]; rw[VR]; trivial
 | .nilI,x,n,v,_,h=>by simp only[B8]at h ⊢; rw[VR]at h ⊢; exact h
 | .clo g ts,x,n,v,_,h=>(nC (B8 (.clo g ts) x n) v (by simp only[B8,dR,dR.noRefs,aGI ts x,Bool.and_self]) h).aV
 | .win j sz,x,n,v,hT,h=>by
  have:=FV (μ:=μ) (hT j (by simp[Y0]));simp only[B8]at h ⊢;rw[VR]at h ⊢; rw[this.1,this.2.1,this.2.2]; exact h
theorem aRM {T}:∀ sh x n {t v},(∀ r,r∈GQ sh n->r∈T)->VR w G μ (bM (CD sh x n) t) v->VR w G (GO μ T) (bM (CD sh x n) t) v
 | [],_,_,t,v,_,h=>by simp only[CD,bM]; rw[VR]; trivial
 | (s,k)::r,(x,xs),n,t,v,hT,h=>by
  simp only[CD]at h ⊢;rw[bT]at h ⊢
  by_cases hs:t=s
  ·rw[if_pos hs]at h ⊢;exact a3X k x n (λr hr=>hT r (by simp only[GQ]; grind)) h
  ·rw[if_neg hs]at h ⊢;exact aRM r xs (n+k.pos) (λr hr=>hT r (by simp only[GQ]; grind)) h
theorem aKD(hW:aO n0 G μ H w) (o:Obj):Ext n0 w G μ (w.alloc o) G μ/\aO n0 G μ H (w.alloc o):=by
 have e:Ext n0 w G μ (w.alloc o) G μ:={
  good:=λb hb=>⟨hb,Below.heap_alloc _ _ _ (hW.lt b hb)⟩
  map:=λ_ _ h=>h
  len:=λ_ _ h=>h
  room:=λb n hc=>by
   obtain⟨cs,t,fr,h1,h2⟩:=hc;exact⟨cs,t,fr,by rw[Below.heap_alloc _ _ _ (kM h1)]; exact h1,h2⟩
  row:=λ_ _ h=>h
  os:=rfl
  tape:=rfl
  output:=rfl
  size:=R
  old:=λb hb _=>Below.heap_alloc _ _ _ hb
  new:=λb hb=>.inl hb }
 exact⟨e,hW.keep e ⟨λ_=>rfl,λj b hj=>⟨Below.heap_alloc _ _ _ (hW.rows.sep j b hj).1,id⟩⟩ (λr k b hr hb=>⟨Below.heap_alloc _ _ _ (hW.pK hr hb),id⟩) λb hb=>Nat.lt_of_lt_of_le (hW.lt b hb) e.size⟩
theorem Ext.plain (h:Ext n0 w G μ w' G' μ'):Ext n0 w G aG w' G' aG :=
 {good:=h.good,map:=λ_ _ h=>(by cases h),len:=λ_ _ h=>(by cases h),room:=h.room,row:=h.row,os:=h.os,tape:=h.tape,output:=h.output,size:=h.size,old:=h.old,new:=h.new }
theorem Ext.back (hfl:∀ r,μi.loc r=none/\μi.len r=none)(h:Ext n0 w G aG w' G' aG):Ext n0 w G μi w' G' μ' :=
 {good:=h.good,map:=λr b hr=>W,len:=λr b hr=>W,sh:=λr b hr=>W,room:=h.room,row:=h.row,os:=h.os,tape:=h.tape,output:=h.output,size:=h.size,old:=h.old,new:=h.new }
def Ex.code:Ex->Code
 | .normal=>.skip
 | .ret=>.ret
 | .exit i=>.exit i
structure Btw (n0:Nat->Prop) (wi:World) (Gi:Gd) (μi:Mp) (nt:Nat) (a:Act) (G0:Gd) (N L D:Nat) (F:Frm) (H:Heap) (T X:Nat->Prop) (B:World) (rec:Obj) (G:Gd) (μ:Mp):Prop where
 ext:Ext n0 wi Gi μi B G μ
 winv:aO (λb=>n0 b/\¬ T b) G μ H B
 finv:cZ B G μ nt F { a with defers:=[] }
 base:∀ b,G0 b->G b
 good:∀ b,G b->¬ X b
 sub:∀ b,X b->T b
 seq:∀ b,T b->n0 b/\N<=b
 size:N<=B.heap.size
 notL:¬ G L
 notD:¬ G D
 atL:B.heap[L]?=some rec
 atD:B.heap[D]?=some (.deferred (some []))
 marks:Marks wi B G a.defers
theorem a5B {gf ts c v}(h:VR w G aG (.clo (.func gf) [] (ZX ts c)) v):∃ cs ,v=.func (.func gf) #[] cs/\VRs w G aG (ZX ts c) cs.toList:=by
 obtain⟨fs,cs,h1,h2,h3⟩:=h;rw[VRs]at h2
 simp_all
theorem aA9:∀ l x,(kX l x).length=l.length
 | [],_=>rfl
 | k::r,(x,xs)=>by simp only[kX,List.length_cons,aA9 r xs]
set_option maxHeartbeats 2000000 in
theorem a8X {E:Env} {keep:Nat} {lt rt:Nat->Option eE} (hcl:dA P (eY P E)) (hP:P.follows .mixedOrders=true) {g:Operand} {ps:Array Tmp} {as1 body:Code} {gf:FuncId} {ts:List Ty} {ks:List Kd} {f:aBD ts->Option (List (aM ks))}
  (hit:aTR P gf ts ks f) (hgf:∀ args w,(callFunc gf args).run P w=.ok (.enter gf args) w)
  {sh:List (Nat×Kd)} {exits:List (Ex×List (Nat×Kd))} {step:Shape.den sh->aM ks->Option (Shape.den sh⊕cD exits)} {all:Shape.den sh->Option (List (aM ks))}
  (has:∀ b∈pS as1,UW P nt lt rt true (GQ sh 0) b) (hbd:∀ b∈pS body,UW P nt lt rt true (GQ sh 0) b)
  (hsq:∀ x l,all x=some l->∃ c,aRB gf ts sh g x=some c/\f c=some l)
  (hr:∀ y e,aFP P E nt keep lt rt ps.toList as1 body ks sh exits y e=step y e) :
  TW P nt false [] (.rangeFunc g ps as1 body) ⟨sh,exits,aW0 sh exits all step⟩:=by
 intro x z hz ro n n0 wi Gi μi a w hro hfl0 hI;have hfl:∀ r,μi.loc r=none/\μi.len r=none:=λr=>hfl0 r R
 have hro:=hro rfl;subst hro;show (Code.rangeFunc g ps as1 body).wpIn Fence.wide n P _ a w;dsimp only at hz hI ⊢;unfold aW0 at hz;obtain⟨lst,hall⟩:∃ lst,all x=some lst:=by
  cases h:all x with
  | none=>rw[h]at hz; cases hz
  | some l=>exact⟨l,rfl⟩
 rw[hall]at hz;dsimp only at hz;obtain⟨c,hc1,hc2⟩:=hsq x lst hall;obtain⟨G,μ,e,hW,hF,hm⟩:=hI;have hgv:VR w G μ (ev (CD sh x 0) g) (a.eval g):=by
  have:=cC hF g;have e1:({ a with defers:=[] }:Act).eval g=a.eval g:=by cases g <;> rfl
  rwa[e1]at this
 obtain⟨hpl0,hc1⟩:=aJ hc1;obtain⟨lb,hg,hvs⟩:=a5B (QI hc1 hgv);refine wpIn_rangeFunc ?_;intro fn _;obtain⟨rec,hrec⟩:∃ rec:LoopState->Option Code->Loop,rec=λst pe=>{ state:=st,pending:=pe,fn,tmps:=a.tmps,params:=ps,assign:=as1,body,defers:=w.heap.size }:=⟨_,rfl⟩
 obtain⟨W1,hW1⟩:∃ W1,(w.alloc (.deferred (some []))).alloc (.loop (rec .ready none))=W1:=⟨_,rfl⟩;obtain⟨L,hLe⟩:∃ L,w.heap.size+1=L:=⟨_,rfl⟩;obtain⟨D,hDe⟩:∃ D,w.heap.size=D:=⟨_,rfl⟩;have hs1:W1.heap.size=w.heap.size+2:=by rw[<- hW1]; simp
 have hL1:W1.heap[L]?=some (.loop (rec .ready none)):=by rw[<- hW1,<- hLe]; have:=World.alloc_heap_new (w.alloc (.deferred (some []))) (.loop (rec .ready none)); rwa[World.size_alloc]at this
 have hD1:W1.heap[D]?=some (.deferred (some [])):=by rw[<- hW1,<- hDe]; exact(Below.heap_alloc _ _ _ R).trans (World.alloc_heap_new w _)
 obtain⟨a1,a2⟩:=aKD (n0:=n0) hW (.deferred (some []));obtain⟨b1,b2⟩:=aKD (n0:=n0) a2 (.loop (rec .ready none));rw[hW1]at b1 b2;have eW1:Ext n0 wi Gi μi W1 G μ:=(e.trans a1).trans b1;have hvs1:VRs W1 G aG (ZX ts c) lb.toList:=VRs.mono (a1.toMono.trans b1.toMono).aG _ _ hvs;have hGL:¬ G L:=λh=>by have:=hW.lt L h; omega
 have hGD:¬ G D:=λh=>by have:=hW.lt D h; omega
 have hn0L:n0 L:=hW.base L Z;have hn0D:n0 D:=hW.base D Z;have marks1:Marks wi W1 G a.defers:=hm.to λb hb h1 h2=>⟨by rw[<- hW1,Below.heap_alloc _ _ _ (by have:=kM h1; simp; omega),Below.heap_alloc _ _ _ (kM h1)]; exact h1,h2⟩
 have markN:∀ b,({ target:=.collected b,args:=#[] }:Deferred)∈a.defers->b<w.heap.size:=by
  intro b hb;obtain⟨b',e1,e2,_⟩:=hm.mem _ hb;have:b=b':=by injection e1 with e1 _; injection e1
  subst this;exact kM e2
 -- the states between the rounds
 let J:List (aM ks)->(Nat->Prop)->(Nat->Prop)->World->Prop:=λpre T X B=>∃ y,aEJ step (a9I sh exits) (lst.drop pre.length) y=some z/\∃ G' μ',Btw n0 wi Gi μi nt a G W1.heap.size L D (CD sh y 0) (NC sh y) T X B (.loop (rec .ready none)) G' μ'
 let Jx:List (aM ks)->(Nat->Prop)->(Nat->Prop)->World->Prop:=λpre T X B=>(KZ exits z).1≠.normal/\∃ G' μ',Btw n0 wi Gi μi nt a G W1.heap.size L D (KZ exits z).2.1 (KZ exits z).2.2 T X B (.loop (rec .done (some (KZ exits z).1.code))) G' μ'
 refine⟨L,[{ target:=.collected D,args:=#[] }],W1,{ target:=.fn (.func gf) lb,args:=#[.func (.yield L) #[] #[]] },W1,gf,#[.func (.yield L) #[] #[]]++lb,W1,?_,?_,λ_ _=>trivial,?_,λh=>(by cases h),?_⟩
 ·rw[<- hW1,hrec,<- hLe,<- hDe]; exact run_enterLoop_outer _ _ _ _ _
 ·simp only[resolve,hg];simp[go_sem]
 ·simp[invoke,go_sem,hgf]
 ·have hcall:=hit c lst hc2 (n-1) L W1 G.ok lb.toList b2.lt (vA (G:=G) (G':=Gd.of G.ok) (λb h=>h) _ _ _ (aNW ts c hpl0) hvs1) J Jx ?round ?start
  ·rw[Array.toArray_toList]at hcall;refine hcall.mono ?_;rintro en C ⟨⟨v,rfl⟩,T,X,B,st,hJ⟩;have hstep:∀ {F':Frm} {H':Heap} {st':LoopState} {pe:Option Code} {G':Gd} {μ':Mp},Btw n0 wi Gi μi nt a G W1.heap.size L D F' H' T X B (.loop (rec st' pe)) G' μ' ->
     C.heap[L]?=some (.loop (rec st' pe))/\∀ o,IM n0 wi Gi μi nt F' H' { a with defers:={ target:=.collected D,args:=#[] }::a.defers } (C.putObj L o):=by
    intro F' H' st' pe G' μ' bt;have nS:∀ b,b<W1.heap.size->¬ X b:=λb hb hs=>Nat.lt_irrefl _ (Nat.lt_of_lt_of_le hb (bt.seq b (bt.sub b hs)).2)
    have hLC:C.heap[L]?=some (.loop (rec st' pe)):=(st.keep L (kM bt.atL) (nS L Z)).trans bt.atL;have hDC:C.heap[D]?=some (.deferred (some [])):=(st.keep D (kM bt.atD) (nS D Z)).trans bt.atD;refine⟨hLC,λo=>?_⟩;have x1:=a1E (T':=λ_=>False) (Gx:=λ_=>False) bt.winv (λb hb=>(bt.seq b hb).1) bt.sub bt.good bt.base st (λb hb=>hb.elim) (λb hb=>hb.elim);have x2:=(aXA (T':=λ_=>False) (Gx:=λ_=>False) bt.winv bt.sub bt.good bt.base st (λb hb=>hb.elim) (λb hb=>hb.elim)).wider (n0:=n0) λb hb=>hb.1
    have nL:¬ (G' L\/False):=λh=>h.elim bt.notL id
    have nD:¬ (G' D\/False):=λh=>h.elim bt.notD id
    have x3:=UG (o':=o) x2 hLC ⟨λ_ _ _ h=>(by cases h),λ_ _ h=>(by cases h)⟩ nL;have x4:=YE (G:=G'.or λ_=>False) (n0:=n0) (μ:=μ') (o':=o) hLC ⟨λ_ _ _ h=>(by cases h),λ_ _ h=>(by cases h)⟩ nL hn0L;refine⟨G'.or λ_=>False,μ',(bt.ext.trans x1).trans x4,x3,bt.finv.mono (x1.toMono.trans x4.toMono),⟨D,rfl,?_,?_,nD,?_⟩,?_⟩
    ·rw[World.putObj_heap_other Z]; exact hDC
    ·have:=e.size; omega
    ·intro d' hd' he;subst he;have:=markN _ hd';omega
    ·refine bt.marks.to λb hb h1 h2=>⟨?_,λh=>h.elim h2 id⟩
     have hbw:=markN b hb;rw[World.putObj_heap_other Z,st.keep b (kM h1) (nS b Z)];exact h1
   rcases hJ with ⟨y,hy,G',μ',bt⟩|⟨pre,hne,G',μ',bt⟩
   ·obtain⟨h1,h2⟩:=hstep bt;rw[List.drop_length]at hy;simp only[aEJ]at hy;have hel:=run_endLoop (P:=P) h1 (by rw[hrec]; simp);have k:=λo=>(h2 o).aF1 hfl0 hy
    have hpn:(rec .ready none).pending=none:=by rw[hrec]
    rw[hpn]at hel;exact⟨none,_,hel,by rw[(k (.deferred none)).1]; rfl,(k _).2,λh=>by cases h⟩
   ·obtain⟨h1,h2⟩:=hstep bt;have hel:=run_endLoop (P:=P) h1 (by rw[hrec]; simp);have hpn:(rec .done (some (KZ exits z).1.code)).pending=some (KZ exits z).1.code:=by rw[hrec]
    rw[hpn]at hel;refine⟨some (KZ exits z).1.code,_,hel,?_⟩;dsimp only;clear hel hpn h1 bt;generalize KZ exits z=zz at hne h2 ⊢;obtain⟨ex,F',H'⟩:=zz;cases ex with
    | normal=>exact absurd rfl hne
    | ret=>exact wpIn_ret ⟨rfl,h2 _,λh=>by cases h⟩
    | exit i=>exact wpIn_exit ⟨rfl,h2 _,λh=>by cases h⟩
  case start =>
   refine⟨x,by simpa using hz,G,μ,eW1,b2.wider λb hb=>⟨hb,id⟩,hF.mono (a1.toMono.trans b1.toMono),λb h=>h,λb _ h=>h,λb h=>h.elim,λb h=>h.elim,oM _,hGL,hGD,hL1,hD1,marks1⟩
  case round =>
   rintro pre el post T X B T' X' A us Gx m' hlst ⟨y,hy,G',μ',bt⟩ st hT' hX' hGx hus;have hdrop:lst.drop pre.length=el::post:=by rw[hlst]; simp
   have hdrop2:lst.drop (pre++[el]).length=post:=by rw[hlst]; simp
   rw[hdrop]at hy;simp only[aEJ]at hy;obtain⟨v,hv⟩:∃ v,step y el=some v:=by
    cases h:step y el with
    | none=>rw[h]at hy; cases hy
    | some v=>exact⟨v,rfl⟩
   have hrg:=hr y el;rw[hv]at hrg;unfold aFP at hrg;obtain⟨hck,hrg⟩:=aJ hrg;simp only[oA,List.all_eq_true]at hck;have hpl:=oE hck.1;have hpt:∀ t∈ps.toList,t<nt:=λt ht=>fX (hck.2 t ht)
   -- the world in which the element comes
   have nT:∀ b,b<W1.heap.size->¬ T b:=λb hb hs=>Nat.lt_irrefl _ (Nat.lt_of_lt_of_le hb (bt.seq b hs).2)
   have nS:∀ b,b<W1.heap.size->¬ X b:=λb hb hs=>nT b hb (bt.sub b hs)
   have hLB:=kM bt.atL;have hDB:=kM bt.atD;have hLA:A.heap[L]?=some (.loop (rec .ready none)):=(st.keep L hLB (nS L Z)).trans bt.atL;have hDA:A.heap[D]?=some (.deferred (some [])):=(st.keep D hDB (nS D Z)).trans bt.atD;have x1:=a1E bt.winv (λb hb=>(bt.seq b hb).1) bt.sub bt.good bt.base st hT' (λb hb=>(hGx b hb).1);have x2:=aXA bt.winv bt.sub bt.good bt.base st hT' (λb hb=>(hGx b hb).1)
   have nS':∀ b,b<B.heap.size->¬ T b->¬ T' b:=by
    intro b hb hs h;rcases(hT' b h).1 with h'|h'
    ·exact hs h'
    ·omega
   have nG2:∀ b,b<B.heap.size->¬ T b->¬ G' b->¬ (G' b\/Gx b):=by
    rintro b hb ht hg (h|h)
    ·exact hg h
    ·rcases(hGx b h).1 with h'|h'
     ·exact hg (bt.base b h')
     ·exact nS' b hb ht h'
   have nL2:=nG2 L hLB (nT L Z) bt.notL;have nD2:=nG2 D hDB (nT D Z) bt.notD;have marksA:Marks wi A (G'.or Gx) a.defers:=bt.marks.to λb hb h1 h2=>⟨by rw[st.keep b (kM h1) (nS b (by have:=markN b hb; omega))]; exact h1,nG2 b (kM h1) (nT b (by have:=markN b hb; omega)) h2⟩
   obtain⟨G2,hG2⟩:∃ G2,G2=G'.or Gx:=⟨_,rfl⟩;rw[<- hG2]at x1 x2 marksA;have nL2:¬ G2 L:=by rw[hG2]; exact nL2
   have nD2:¬ G2 D:=by rw[hG2]; exact nD2
   have hxS:∀ b,(b=L\/b=D\/({ target:=.collected b,args:=#[] }:Deferred)∈a.defers)->b<A.heap.size/\(∀ c t fr,A.heap[b]?≠some (.cells c t fr))/\∀ es clk,A.heap[b]?≠some (.map es clk):=by
    rintro b (rfl|rfl|hb)
    ·exact⟨kM hLA,λc t fr h=>(by rw[hLA]at h; cases h),λ_ _ h=>(by rw[hLA]at h; cases h)⟩
    ·exact⟨kM hDA,λc t fr h=>(by rw[hDA]at h; cases h),λ_ _ h=>(by rw[hDA]at h; cases h)⟩
    ·obtain⟨b',e1,e2,_⟩:=marksA.mem _ hb;have:b=b':=by injection e1 with e1 _; injection e1
     subst this;exact⟨kM e2,λc t fr h=>(by rw[e2]at h; cases h),λ_ _ h=>(by rw[e2]at h; cases h)⟩
   have x3:=x2.less hxS;obtain⟨n1,hn1⟩:∃ n1:Nat->Prop,n1=λb=>(n0 b/\¬ T' b)/\¬ (b=L\/b=D\/({ target:=.collected b,args:=#[] }:Deferred)∈a.defers):=⟨_,rfl⟩
   rw[<- hn1]at x3;have n1n0:∀ b,n1 b->n0 b:=λb h=>by rw[hn1]at h; exact h.1.1
   have n1S:∀ b,n1 b->¬ T' b:=λb h=>by rw[hn1]at h; exact h.1.2
   have n1L:¬ n1 L:=λh=>by rw[hn1]at h; exact h.2 (.inl rfl)
   have n1D:¬ n1 D:=λh=>by rw[hn1]at h; exact h.2 (.inr (.inl rfl))
   have n1M:∀ b,({ target:=.collected b,args:=#[] }:Deferred)∈a.defers->¬ n1 b:=λb hb h=>by rw[hn1]at h; exact h.2 (.inr (.inr hb))
   have hFA:cZ A G2 μ' nt (CD sh y 0) { a with defers:=[] }:=bt.finv.mono x1.toMono;have husA:VRs A G2 μ' (kX ks el) us:=VRs.mono (⟨λb hb=>⟨by rw[hG2]; exact .inr hb,rfl⟩,λ_ _ h=>(by cases h),λ_ _ h=>(by cases h),λ_ _ h=>h,λ_ _ h=>(by cases h),λ_ _ h=>(by cases h)⟩:Mono A (Gd.of Gx) aG A G2 μ') _ _ hus;have hlen:us.length=ps.size:=by rw[<- husA.length,aA9,<- hpl,Array.length_toList]
   have hyield:=run_yield (P:=P) (args:=us.toArray) hLA (by rw[hrec]; simpa using hlen);have hfold:(ps.zip us.toArray).foldl (λtmps (t,a)=>tmps.setIfInBounds t a) a.tmps=(ps.toList.zip us).foldl (λt (p,v)=>t.setIfInBounds p v) a.tmps:=by rw[<- Array.foldl_toList,Array.toList_zip]
   rw[hrec]at hyield;dsimp only at hyield;rw[hfold]at hyield;refine⟨fn,_,as1,body,hyield,roundIn_of_wpIn trivial ?_⟩
   -- the assignment
   have hI0:IM n1 A G2 (GO μ' (GQ sh 0)) nt (aWD ps.toList (kX ks el) (CD sh y 0)) (NC sh y) { tmps:=(ps.toList.zip us).foldl (λt (p,v)=>t.setIfInBounds p v) a.tmps,defers:=[] } A :=
    ⟨G2,μ',aFU _,x3,aR1 (by rw[aA9]; exact hpl) hpt husA hFA,trivial⟩
   obtain⟨⟨ex1,F1,H1⟩,hk1,hrun1⟩:=nX hcl hP as1 _ _ _ _ has hrg;dsimp only at hk1;cases ex1 with
   | ret=>cases hk1
   | exit i=>cases hk1
   | normal =>
   dsimp only at hk1;obtain⟨⟨ex2,F2,H2⟩,hk2,hrun2⟩:=nX hcl hP body _ _ _ _ hbd hk1;show as1.wpIn (Fr (some L)) m' P _ _ A;refine wpIn_mono (hrun1 (some L) m' n1 A G2 _ _ A (λh=>by cases h) (λr h=>YO r h) hI0) ?_;rintro e1 act1 A1 ⟨rfl,⟨G3,μ3,y1,y2,y3,y4⟩,hd1⟩;have hd1:act1.defers=[]:=hd1 rfl;have nL3:¬ G3 L:=λh=>(y1.new L h).elim nL2 n1L
   have hL1':A1.heap[L]?=some (.loop (rec .ready none)):=(y1.old L (kM hLA) n1L).trans hLA;refine⟨_,run_beginRound hL1' (by rw[hrec]),?_⟩;obtain⟨A2,hA2⟩:∃ A2,A1.putObj L (.loop { rec .ready none with state:=.busy })=A2:=⟨_,rfl⟩;rw[hA2];have p1:Mono A1 G3 μ3 A2 G3 μ3:=by rw[<- hA2]; exact I5 hL1' ⟨λ_ _ _ h=>(by cases h),λ_ _ h=>(by cases h)⟩ nL3
   have p2:aO n1 G3 μ3 H1 A2:=by rw[<- hA2]; exact UG y2 hL1' ⟨λ_ _ _ h=>(by cases h),λ_ _ h=>(by cases h)⟩ nL3
   have hL2':A2.heap[L]?=some (.loop { rec .ready none with state:=.busy }):=by rw[<- hA2]; exact World.putObj_heap_same (kM hL1')
   have e12:Ext n0 A1 G3 μ3 A2 G3 μ3:=by rw[<- hA2]; exact YE hL1' ⟨λ_ _ _ h=>(by cases h),λ_ _ h=>(by cases h)⟩ nL3 hn0L
   have hI2:IM n1 A2 G3 (GO μ' (GQ sh 0)) nt F1 H1 act1 A2 :=
    ⟨G3,μ3,{ aFU (n0:=n1) (w:=A2) (G:=G3) (μ:=μ') []with
     map:=y1.map
     len:=y1.len
     sh:=y1.sh
     good:=λb hb=>⟨hb,rfl⟩
     room:=λ_ _ h=>h
     new:=λb hb=>.inl hb },p2,y3.mono p1,by rw[hd1]; trivial⟩
   show body.wpIn (Fr (some L)) m' P _ act1 A2;refine wpIn_mono (hrun2 (some L) m' n1 A2 G3 _ act1 A2 (λh=>by cases h) (λr h=>YO r h) hI2) ?_;rintro e2 act2 A3 ⟨rfl,⟨G4,μ4,z1,z2,z3,z4⟩,hd2⟩;have nL4:¬ G4 L:=λh=>(z1.new L h).elim nL3 n1L
   have hL3':A3.heap[L]?=some (.loop { rec .ready none with state:=.busy }):=(z1.old L (kM hL2') n1L).trans hL2';have hdn:act2.defers=[]:=(hd2 rfl).trans hd1
   -- back with the caller
   have hFend:cZ A3 G4 μ4 nt (CD sh y 0) { a with defers:=[] }:=by
    refine⟨hFA.size,λt=>?_,rfl⟩;have v0:=aRM (T:=GQ sh 0) sh y 0 (λr h=>h) (hFA.slot t);have v1:=VR.mono (⟨y1.good,λ_ _ h=>h,λ_ _ h=>h,y1.room,y1.row,λ_ _ _=>rfl⟩:Mono A G2 (GO μ' (GQ sh 0)) A1 G3 (GO μ' (GQ sh 0))) _ _ v0;have v2:=VR.mono (⟨p1.good,λ_ _ h=>h,λ_ _ h=>h,p1.room,p1.row,λ_ _ _=>rfl⟩:Mono A1 G3 (GO μ' (GQ sh 0)) A2 G3 (GO μ' (GQ sh 0))) _ _ v1;exact VR.mono z1.toMono _ _ v2
   have back:∀ (o:Obj) (F5:Frm) (H5:Heap),(∀ {n0:Nat->Prop} {wi:World} {Gi:Gd} {μi:Mp} {a:Act} {w:World},(∀ r,¬ r∈([]:List Nat)->μi.loc r=none/\μi.len r=none)->IM n0 wi Gi μi nt (CD sh y 0) H2 a w->IM n0 wi Gi μi nt F5 H5 a w) ->
     ∃ G5 μ5,Btw n0 wi Gi μi nt a G W1.heap.size L D F5 H5 T' X' (A3.putObj L o) o G5 μ5:=by
    intro o F5 H5 hdec;have q1:=UG (o':=o) z2 hL3' ⟨λ_ _ _ h=>(by cases h),λ_ _ h=>(by cases h)⟩ nL4;have q2:=I5 (μ:=μ4) (o':=o) hL3' ⟨λ_ _ _ h=>(by cases h),λ_ _ h=>(by cases h)⟩ nL4;have q3:=YE (n0:=n0) (μ:=μ4) (o':=o) hL3' ⟨λ_ _ _ h=>(by cases h),λ_ _ h=>(by cases h)⟩ nL4 hn0L;have hIe:IM n1 (A3.putObj L o) G4 aG nt (CD sh y 0) H2 { a with defers:=[] } (A3.putObj L o) :=
     ⟨G4,μ4,{ aFU (n0:=n1) (w:=A3.putObj L o) (G:=G4) (μ:=μ4) []with
      map:=λ_ _ h=>by cases h
      len:=λ_ _ h=>by cases h
      sh:=λ_ _ h=>by cases h
      good:=λb hb=>⟨hb,rfl⟩
      room:=λ_ _ h=>h
      new:=λb hb=>.inl hb },q1,hFend.mono q2,trivial⟩
    obtain⟨G5,μ5,r1,r2,r3,_⟩:=hdec (λ_ _=>⟨rfl,rfl⟩) hIe;have g45:∀ b,G5 b->G2 b\/n1 b:=λb h=>by
     rcases r1.new b h with h|h
     ·rcases z1.new b h with h|h
      ·exact y1.new b h
      ·exact .inr h
     ·exact .inr h
    have mk:∀ b,({ target:=.collected b,args:=#[] }:Deferred)∈a.defers->A.heap[b]?=some (.deferred (some []))->(A3.putObj L o).heap[b]?=some (.deferred (some [])):=by
     intro b hb h1;have hbw:=markN b hb;have k1:=(y1.old b (kM h1) (n1M b hb)).trans h1;have k2:A2.heap[b]?=some (.deferred (some [])):=by rw[<- hA2,World.putObj_heap_other Z]; exact k1
     have k3:=(z1.old b (kM k2) (n1M b hb)).trans k2;rw[World.putObj_heap_other Z]; exact k3
    refine⟨G5,μ5,?_,r2.wider λb hb=>⟨n1n0 b hb,n1S b hb⟩,r3,?_,?_,?_,?_,?_,?_,?_,?_,?_,?_⟩
    ·have t1:=((bt.ext.plain.trans x1.plain).trans (y1.wider n1n0).plain).trans e12.plain;exact Ext.back hfl (((t1.trans (z1.wider n1n0).plain).trans q3.plain).trans (r1.wider n1n0).plain)
    ·intro b hb;have h2:G2 b:=by rw[hG2]; exact .inl (bt.base b hb)
     exact(r1.good b (z1.good b (y1.good b h2).1).1).1
    ·intro b hb hs;rcases g45 b hb with h|h
     ·rw[hG2]at h;rcases h with h|h
      ·rcases(hX' b hs).2 with h'|h'
       ·exact bt.good b h h'
       ·exact Nat.lt_irrefl _ (Nat.lt_of_lt_of_le (bt.winv.lt b h) h')
      ·exact(hGx b h).2 hs
     ·exact n1S b h (hX' b hs).1
    ·exact λb hs=>(hX' b hs).1
    ·intro b hs;rcases(hT' b hs).1 with h|h
     ·exact bt.seq b h
     ·exact⟨(bt.winv.base b h).1,oR bt.size h⟩
    ·have s1:=bt.size;have s2:=st.size;have s3:=y1.size;have s4:=e12.size;have s5:=z1.size;rw[World.putObj_size];omega
    ·exact λh=>(g45 L h).elim nL2 n1L
    ·exact λh=>(g45 D h).elim nD2 n1D
    ·exact World.putObj_heap_same (kM hL3')
    ·have k1:=(y1.old D (kM hDA) n1D).trans hDA;have k2:A2.heap[D]?=some (.deferred (some [])):=by rw[<- hA2,World.putObj_heap_other Z]; exact k1
     have k3:=(z1.old D (kM k2) n1D).trans k2;rw[World.putObj_heap_other Z]; exact k3
    ·refine marksA.to λb hb h1 h2=>⟨mk b hb h1,λhg=>?_⟩
     exact(g45 b hg).elim h2 (n1M b hb)
   have frame:∀ (o:Obj) (b:Nat),b<A.heap.size->G b\/T' b->(A3.putObj L o).heap[b]?=A.heap[b]?:=by
    intro o b hb h;have hbL:b≠L:=by
     rintro rfl;rcases h with h|h
     ·exact hGL h
     ·exact nS' b hLB (nT b Z) h
    have k1:A1.heap[b]?=A.heap[b]?/\(G3 b\/T' b):=by
     rcases h with h|h
     ·have:=y1.good b (by rw[hG2]; exact .inl (bt.base b h));exact⟨this.2,.inl this.1⟩
     ·exact⟨y1.old b hb λhn=>n1S b hn h,.inr h⟩
    have k2:A2.heap[b]?=A.heap[b]?:=by rw[<- hA2,World.putObj_heap_other hbL]; exact k1.1
    have k3:A3.heap[b]?=A2.heap[b]?:=by
     rcases k1.2 with h|h
     ·exact(z1.good b h).2
     ·refine z1.old b ?_ λhn=>n1S b hn h
      have s3:=y1.size;have s4:=e12.size;omega
    rw[World.putObj_heap_other hbL,k3,k2]
   have hroom:∀ (o:Obj) (b n:Nat),Room A b n->Room (A3.putObj L o) b n:=λo b n h =>
    (I5 (μ:=μ4) (o':=o) hL3' ⟨λ_ _ _ h=>(by cases h),λ_ _ h=>(by cases h)⟩ nL4).room b n (z1.room b n (p1.room b n (y1.room b n h)))
   have hsz:∀ o,A.heap.size<=(A3.putObj L o).heap.size:=by
    intro o;have s3:=y1.size;have s4:=e12.size;have s5:=z1.size;rw[World.putObj_size]; omega
   rw[hv]at hy;unfold bDC at hk2;dsimp only at hk2;rcases aI3 hk2 with ⟨x',rfl,e2,e3⟩|⟨z',rfl,e2,e3⟩
   ·subst e2;dsimp only at hy;refine⟨_,_,run_endRound none hL3',⟨frame _,hroom _,hsz _⟩,.inl ⟨rfl,⟨x',by rw[hdrop2]; exact hy,?_⟩⟩⟩;have:=back (.loop (rec .ready none)) (CD sh x' 0) (NC sh x') (λh hI=>hI.dec h e3);rw[hrec]at this ⊢;exact this
   ·dsimp only at hy;have hzz:z'=z:=oB hy;subst hzz;obtain⟨o1,_⟩:=X4 e3;have hb:=back (.loop (rec .done (some ex2.code))) (KZ exits z').2.1 (KZ exits z').2.2 (λh hI=>(hI.aF1 h e3).2);rw[hrec]at hb;cases ex2 with
    | normal=>exact absurd rfl e2
    | ret =>
     refine⟨_,_,run_endRound (some .ret) hL3',⟨frame _,hroom _,hsz _⟩,.inr ⟨rfl,by rw[o1]; exact e2,?_⟩⟩;rw[o1,hrec];exact hb
    | exit i =>
     refine⟨_,_,run_endRound (some (.exit i)) hL3',⟨frame _,hroom _,hsz _⟩,.inr ⟨rfl,by rw[o1]; exact e2,?_⟩⟩;rw[o1,hrec];exact hb
end
section
variable {P:Program} {n0:Nat->Prop} {w w' wi:World} {G G' Gi:Gd} {μ μ' μi:Mp} {H:Heap} {F:Frm} {nt n:Nat}
theorem BJ {fn tmps R}(hb:∀ b,wi.heap.size<=b->n0 b)(hend:∀ w',IM n0 wi Gi μi nt F H { tmps:=tmps,defers:=[] } w'->LeavesIn Fence.wide n P fn tmps R [] .returning w') :
  ∀ ds w,IM n0 wi Gi μi nt F H { tmps:=tmps,defers:=ds } w->LeavesInM Fence.wide n P fn tmps R ds .returning w
 | [],w,h=>hend w h
 | d::ds,w,h=>by
  obtain⟨G,μ,e,hW,hF,⟨b,rfl,h1,h2,h3,h4⟩,hm⟩:=h;refine⟨by simp,.inl ⟨b,_,rfl,run_takeDeferred h1,BJ hb hend ds _ ⟨G,μ,e.trans (YE h1 ⟨λ_ _ _ h=>(by cases h),λ_ _ h=>W⟩ h3 (hb b h2)),UG hW h1 ⟨λ_ _ _ h=>W,λ_ _ h=>W⟩ h3,hF.mono (I5 h1 ⟨λ_ _ _ h=>(by cases h),λ_ _ h=>(by cases h)⟩ h3),?_⟩⟩⟩;refine hm.to λb' hb' k1 k2=>⟨?_,k2⟩
  rw[World.putObj_heap_other]
  ·omega
  grind
def a94(P:Program)(E:Env)(fn:Func)(keep:Nat)(lt rt:Nat->Option eE)(c:Code) args rets (x:aM args):Option (aM rets) :=
 bif Nat.ble (kX args x).length fn.ntmps then IJ P E fn.ntmps keep lt rt false [] c (start keep 0 (kX args x)) [] (aXT P fn.results.toList rets) else none
theorem a00 {E} (hP:LW P) (hE:eS P E) {g:Nat} {fn} (hg:P.funcs[g]?=some fn) {c} (hc:fn.body=some c) {keep lt rt args rets f}
  (hl:∀ a∈pS c,UW P fn.ntmps lt rt false [] a) (hb:∀ x,a94 P E fn keep lt rt c args rets x=f x):ZR P g args rets f:=by
 intro x y hy;rw[<- hb]at hy;obtain⟨hlen,hy⟩:=aJ hy;obtain⟨⟨ex,F',H'⟩,h1,h2⟩:=nX hE.callee hP.mixed c _ _ _ _ hl hy;obtain⟨vs,q,hex,hvs,hq,hd⟩:∃ vs q,(ex=.normal\/ex=.ret)/\o9 P F' H' fn.results.toList=some vs/\aTG H' (j6 vs)=some q/\aLD rets q=some y:=by
  unfold aXT at h1;split at h1
  ·cases h1
  next hne=>
   split at h1
   ·rename_i vs hvs;split at h1
    ·rename_i q hq;refine⟨vs,q,?_,hvs,hq,h1⟩;cases ex with
     | normal=>exact .inl rfl
     | ret=>exact .inr rfl
     | exit i=>exact absurd rfl (hne i)
    ·cases h1
   ·cases h1
 have hcall:∀ {n0 G μ w us},aO n0 G μ [] w->VRs w G μ (kX args x) us->vG P n0 w G μ g us.toArray (j6 vs) H':=by
  intro n0 G μ w us hW hv;refine⟨enters hg (hP.names g fn hg) (by rw[hc]; rfl) _ _,(callsIn_wide (n:=0)).1 (callsIn_of_wp_marks hg hc trivial ?_)⟩;have hI:I n0 w G μ fn.ntmps (start keep 0 (kX args x)) [] ⟨us.toArray++Array.replicate (fn.ntmps-us.toArray.size) undef,[]⟩ w:=⟨G,μ,Ext.refl _ _ _ _,hW,mE (by simpa using hv) (oL hlen)⟩;refine wpIn_mono (h2 none 0 n0 w G μ _ w (λ_=>rfl) (λr _=>hW.top r (Nat.zero_le _)) hI.bCA) ?_
  rintro e ⟨tm,ds⟩ w' ⟨rfl,hI',_⟩;have hend:∀ w',IM n0 w G μ fn.ntmps F' H' { tmps:=tm,defers:=[] } w'->LeavesIn Fence.wide 0 P fn tm (λe w'=>∃ v' G'' μ'',e=.returned v'/\Ext n0 w G μ w' G'' μ''/\aO n0 G'' μ'' H' w'/\VR w' G'' μ'' (j6 vs) v') [] .returning w':=by
   rintro w' ⟨G',μ',e',hW',hF',_⟩;obtain⟨ws,h3,h4⟩:=lK (P:=P) hW' hF' hvs;have hres:(results fn tm).run P w'=.ok (if hh:ws.toArray.size=1 then ws.toArray[0] else .tuple ws.toArray) w':=by
    rw[wA,Array.mapM_eq_mapM_toList]
    simp_all
   exact⟨_,hres,_,G',μ',rfl,e',hW',mT h4⟩
  rcases hex with rfl|rfl
  ·exact BJ (λb hb=>hW.base b hb) hend ds w' hI'
  ·exact BJ (λb hb=>hW.base b hb) hend ds w' hI'
 have hp:=KF hcall (CR hq).1 (CR hq).2;intro w G us hlt hv;obtain⟨h3,h4⟩:=hp w G us hlt hv;refine⟨h3,h4.mono ?_⟩;rintro e w' ⟨v',G',rfl,e1,e2,e3⟩;exact⟨v',G',rfl,e1,e2,T4 hd e3⟩
def aZC(P:Program) (nt:Nat) (lt rt:Nat->Option eE) (rd:Bool) (T:List Nat):List Code->Prop
 | []=>True
 | a::r=>UW P nt lt rt rd T a/\aZC P nt lt rt rd T r
theorem aOQ {lt rt rd T}:∀ {l},aZC P nt lt rt rd T l->∀ a∈l,UW P nt lt rt rd T a
 | [],_,a,ha=>W
 | b::r,h,a,ha=>by
  rcases List.mem_cons.1 ha with rfl|ha
  ·exact h.1
  ·exact aOQ h.2 a ha
theorem M4 {lt rt rd T c l}(hc:pS c=l)(h:aZC P nt lt rt rd T l):∀ a∈pS c,UW P nt lt rt rd T a:=by rw[hc]; exact aOQ h
theorem aWB {lt rt rd T a i s0}(hf:cA a=i)(hlt:lt i=some s0)(h:TW P nt rd T (.loop a) s0):UW P nt lt rt rd T (.loop a):=by
 intro s hs;grind
theorem a3E {lt rt g ps as1 a i s0}(hf:cA a=i)(hrt:rt i=some s0)(h:TW P nt false [] (.rangeFunc g ps as1 a) s0):UW P nt lt rt false [] (.rangeFunc g ps as1 a):=by
 intro _ s hs;grind
def aQV(c:Code) (i:Nat):Code:=(pS c).getD i .skip
def inLoop:Code->Code
 | .loop a=>a
 | .rangeFunc _ _ _ a=>a
 | _=>.skip
def CK:Code->Code
 | .rangeFunc _ _ as1 _=>as1
 | _=>.skip
def aB0:Code->Operand
 | .rangeFunc g _ _ _=>g
 | _=>.const undef
def aNQ:Code->Array Tmp
 | .rangeFunc _ ps _ _=>ps
 | _=>#[]
theorem XO {lt rt r i s0}(hr:r=.rangeFunc (aB0 r) (aNQ r) (CK r) (inLoop r))(hf:cA (inLoop r)=i)(hrt:rt i=some s0)(h:TW P nt false [] r s0):UW P nt lt rt false [] r:=by
 rw[hr]at h ⊢;exact a3E hf hrt h
theorem aCW {E keep lt rt} (hE:eS P E) (hP:LW P) {r} (hrc:r=.rangeFunc (aB0 r) (aNQ r) (CK r) (inLoop r)) {gf:Nat} {fn c ts ks f}
  (hg:P.funcs[gf]?=some fn) (hc:fn.body=some c) (hit:aTR P gf ts ks f)
  {sh exits step} {cap:Shape.den sh->aBD ts}
  (has:pS (CK r)=[]) (hbd:∀ b∈pS (inLoop r),UW P nt lt rt true (GQ sh 0) b)
  (hsq:∀ x,aRB gf ts sh (aB0 r) x=some (cap x))
  (hr:∀ y e,aFP P E nt keep lt rt (aNQ r).toList (CK r) (inLoop r) ks sh exits y e=step y e) :
  TW P nt false [] r ⟨sh,exits,aW0 sh exits (λx=>f (cap x)) step⟩:=by
 have:=a8X hE.callee hP.mixed hit (λargs w=>enters hg (hP.names gf fn hg) W args w) W hbd (λx l hl=>⟨cap x,hsq x,hl⟩) hr;grind
end
def yA:Code->Nat
 | .region _ ops _=>aA1 ops.toList ops.toList 0 0
 | .seq a b=>yA a ||| yA b
 | .cond c a b=>a9D c ||| yA a ||| yA b
 | .block _ a=>yA a
 | .loop a=>yA a
 | .scope a=>yA a
 | .rangeFunc g _ as1 a=>a9D g ||| yA as1 ||| yA a
 | _=>0
def UC(fn:Func):Nat:=match fn.body with
 | some c=>UP fn.results.toList (yA c)
 | none=>0
end Go.PM
namespace Go.Proofs
open Go Go.RowKit Go.Sort Go.Lib
set_option maxHeartbeats 6400000
theorem Tryz.aDN (u:Nat)(hu64:u<18446744073709551616)(w:World)(htab:Lib.TabIs Tryz.prog w "internal/strconv.uint64pow10" .u64 Lib.pow10Tab) :
  Calls Tryz.prog 180 #[.int .u64 u,.int .i64 10] w λe w'=>e=.returned (.string ⟨(Lib.decDigits u).toArray⟩)/\∃ k os,w'=grow (w.drewN k) os:=by
 by_cases hs:u<100
 ·go_enter Tryz.func180,Tryz.ntmps180
  have hwr:IntKind.i64.wrap (u:Int)=(u:Int):=by rw[IntKind.wrap_i64]; omega
  go_wp2_with (go_at_call 181; refine(Tryz.internal_strconv_small u hs _).mono ?_; rintro e w' ⟨rfl,rfl⟩)
  go_ret
  exact⟨rfl,0,#[],by simp[World.drewN_zero]⟩
 ·have hu1:1<=u:=Z
  have hnd20:Lib.nDigits u<=20:=by have:=Lib.numDigits_eq u hu1 hu64; split at this <;> omega
  have hal:Tryz.prog.arrayLen 224=24:=by simp[Program.arrayLen,Tryz.underlying224]
  have hsl:∀ W,(Instr.sliceAt 224 (.pointer (some ⟨w.heap.size,0,none⟩)) none (some (.int .i64 (Lib.nDigits u:Int))) none).run Tryz.prog W=.ok (.slice (some ⟨w.heap.size,0,none⟩) (Lib.nDigits u) 24) W:=λW=>by
   rw[run_sliceAt_array_h W 224 ⟨w.heap.size,0,none⟩ (by simp[Program.arrayLen,Program.elem,Tryz.underlying224]) .i64 (Lib.nDigits u:Int) Z (by rw[hal]; omega)]
   go_simp
  have hH0:=Lib.holds_zero0 w 224 (Lib.nDigits u) Z;have hfmt:=Tryz.internal_strconv_formatBase10 w.heap.size 0 24 u (Array.replicate (Lib.nDigits u) 0) (w.alloc (.cells Lib.zeros24 224)) hH0 (by rw[Array.size_replicate]; exact Lib.lt_pow_nDigits u) hu64 (by rw[Array.size_replicate]; omega);rw[Array.size_replicate]at hfmt;have HH0:=Lib.hid hH0;clear hH0 hal
  go_enter Tryz.func180,Tryz.ntmps180
  go_wp2_with (first
   | (go_at_call 182; refine(Tryz.internal_strconv_numDigits u hu1 hu64 _ (Lib.tabIs_alloc htab _)).mono ?_; rintro e w' ⟨rfl,rfl⟩))
  go_at_call 183
  refine hfmt.mono ?_;rintro e w' ⟨rfl,k,v',dk,rfl,hF⟩;have hcv:(convert 204 9 (.slice (some ⟨w.heap.size,0,none⟩) (Lib.nDigits u) 24)).run Tryz.prog ((putRow (λ(b:UInt8)=>Value.int .u8 (b.toNat:Int)) (w.alloc (.cells Lib.zeros24 224)) w.heap.size 0 dk).drewN k)=.ok (.string ⟨(Lib.decDigits u).toArray⟩) ((putRow (λ(b:UInt8)=>Value.int .u8 (b.toNat:Int)) (w.alloc (.cells Lib.zeros24 224)) w.heap.size 0 dk).drewN k):=by
   have h:=run_convert_bytes_back (P:=Tryz.prog) ((putRow (λ(b:UInt8)=>Value.int .u8 (b.toNat:Int)) (w.alloc (.cells Lib.zeros24 224)) w.heap.size 0 dk).drewN k) 204 9 5 ⟨w.heap.size,0,none⟩ 24 (Lib.decDigits u) Tryz.underlying204 Tryz.underlying5 Tryz.underlying9 (λj hj=>by
    rw[Lib.row_is_numeral hF j hj,Lib.add_plain,World.cell?_drewN];exact cell?_putRow (λ(b:UInt8)=>Value.int .u8 (b.toNat:Int)) _ w.heap.size 0 _ dk HH0.out (by rw[hF.size,Array.size_replicate]) j (by rw[hF.size]; rw[Lib.decDigits_length]at hj; exact hj))
   rw[Lib.decDigits_length]at h;exact h
  go_wp2
  go_ret
  obtain⟨os,eo⟩:=Lib.fin_at w (.cells Lib.zeros24 224) dk k 0;exact⟨rfl,k,os,eo⟩
theorem Tryz.ZP (u:Nat)(hu64:u<18446744073709551616)(w:World)(htab:Lib.TabIs Tryz.prog w "internal/strconv.uint64pow10" .u64 Lib.pow10Tab) :
  Calls Tryz.prog 164 #[.int .u64 u,.int .i64 10] w λe w'=>e=.returned (.string ⟨(Lib.decDigits u).toArray⟩)/\∃ k os,w'=grow (w.drewN k) os:=by
 go_enter Tryz.func164,Tryz.ntmps164
 go_wp2_with (go_at_call 180; refine(Tryz.aDN u hu64 _ htab).mono ?_; rintro e w' ⟨rfl,k,os,rfl⟩)
 go_ret
 exact⟨rfl,k,os,rfl⟩
end Go.Proofs
namespace Go.PM
open Go Go.RowKit Go.Proofs Tryz
theorem a15 {w:World}{G:Nat->Prop}(h:Lt w G):Lib.TabIs Tryz.prog w "internal/strconv.uint64pow10" .u64 Lib.pow10Tab:=by
 have hm:(2,a1J .u64 [1,10,100,1000,10000,100000,1000000,10000000,100000000,1000000000,10000000000,100000000000,1000000000000,10000000000000,100000000000000,1000000000000000,10000000000000000,100000000000000000,1000000000000000000,10000000000000000000])∈a5H:=by simp[a5H]
 obtain⟨-,t,fr,ht⟩:=h.tab _ hm;have hg:Tryz.prog.globalNamed "internal/strconv.uint64pow10"=some 2:=Y
 unfold Lib.TabIs World.var?;rw[hg];simp only[Option.bind_some];rw[ht];rfl
theorem aXU {w G}(hG:∀ b,G b->b<w.heap.size) k os:Ext (uF w) w (Gd.of G) aG (Sort.grow (w.drewN k) os) (Gd.of G) aG :=
 have hb :=λb hb=>Lib.heap_grow_old w k os b hb
 {good:=λb h=>⟨h,hb b (hG b h)⟩
  row:=λ_ _ h=>h
  map:=λ_ _ h=>Z
  len:=λ_ _ h=>W
  room:=λb n ⟨c,t,fr,h1,h2⟩=>⟨c,t,fr,by grind,h2⟩
  os:=rfl
  tape:=rfl
  output:=rfl
  size:=R
  old:=λb h _=>hb b h
  new:=λb h=>.inl h }
theorem aQ2 {w w' G}(hG:∀ b,G b->b<w.heap.size)(h:Below w.heap.size w w'):Ext (uF w) w (Gd.of G) aG w' (Gd.of G) aG :=
 {good:=λb hb=>⟨hb,h.block b (hG b hb)⟩
  row:=λ_ _ h=>h
  map:=λ_ _ h=>W
  len:=λ_ _ h=>W
  room:=λb n ⟨c,t,fr,h1,h2⟩=>⟨c,t,fr,by rw[h.block b (kM h1)]; omega,h2⟩
  os:=h.os
  tape:=h.tape
  output:=h.output
  size:=h.size
  old:=λb hb _=>h.block b hb
  new:=λb hb=>.inl hb }
theorem aC2 {w G}(hG:∀ b,G b->b<w.heap.size) e t:Ext (uF w) w (Gd.of G) aG (Lib.bytesWorld w e t) (Gd.of G) aG :=
 aQ2 hG (Joins.below_bytesWorld _ w e t (oM _))
def aKK:Nat->Nat->List UInt8->List UInt8
 | 0,_,acc=>acc
 | f+1,u,acc=>bif Nat.blt u 10 then UInt8.ofNat (48+u)::acc else aKK f (u/10) (UInt8.ofNat (48+u%10)::acc)
theorem aOU:∀ f u acc,u<10^(f+1)->aKK (f+1) u acc=Lib.decDigits u++acc
 | f,u,acc,h=>by
  rw[Lib.decDigits]
  by_cases h1:u<10
  ·rw[dif_pos h1,aKK];have:Nat.blt u 10=true:=by simp_all
   grind
  ·rw[dif_neg h1,aKK];have:Nat.blt u 10=false:=by rw[bW]; simpa using h1
   rw[this,oD];cases f with
   | zero=>omega
   | succ f =>
    rw[aOU f (u/10) _ W];simp
def aW9:Int->ByteArray
 | .ofNat u=>⟨(aKK 20 u []).toArray⟩
 | .negSucc u=>⟨(45::aKK 20 (u+1) []).toArray⟩
theorem aMV {n}(h:n.natAbs<10^20):aW9 n=⟨(Lib.itoa n).toArray⟩:=by
 cases n with
 | ofNat u =>
  have h1:¬ (Int.ofNat u<0):=R
  unfold Lib.itoa;show (⟨(aKK (19+1) u []).toArray⟩:ByteArray)=⟨(Lib.decDigits u).toArray⟩;rw[aOU 19 u [] h,List.append_nil]
 | negSucc u =>
  have h1 :=Int.negSucc_lt_zero u;unfold Lib.itoa;rw[if_pos h1];show (⟨(45::aKK (19+1) (u+1) []).toArray⟩:ByteArray)=⟨(45::Lib.decDigits (u+1)).toArray⟩;rw[aOU 19 (u+1) [] h,List.append_nil]
def HH(x:aM [.int .i64]):oK [.str]:=match x with
 | (n,())=>bif !(ltI n (-9223372036854775808))&&!(ltI 9223372036854775807 n) then some (aW9 n,()) else none
def HQ(x:aM [.str]):oK [.int .i64,.nilI]:=match x with
 | (s,())=>bif Nat.ble s.size 18 then (match Lib.atoi s.data.toList with
  | some n=>some (n,(),())
  | none=>none) else none
def UI(x:aM [.str,.int .i64,.int .i64]):oK [.int .i64,.nilI]:=match x with
 | (s,b,c,())=>bif Nat.ble s.size 1000000000&&(eqI b 10&&eqI c 64) then (match Lib.parseIntB 64 s.data.toList with
  | .ok n=>some (n,(),())
  | _=>none) else none
def vR(x:aM [.str,.int .i64,.int .i64]):oK [.int .u64,.nilI]:=match x with
 | (s,b,c,())=>bif Nat.ble s.size 1000000000&&(eqI b 10&&eqI c 64) then (match Lib.parseUintB 64 s.data.toList with
  | .ok n=>some ((n:Int),(),())
  | _=>none) else none
def uA(x:aM [.int .u64,.int .i64]):oK [.str]:=match x with
 | (n,b,())=>bif !(ltI n 0)&&(ltI n 18446744073709551616&&eqI b 10) then some (aW9 n,()) else none
theorem bAJ {w G u vs}(h:VRs w G aG [.lit u] vs.toList):vs=#[u]:=by
 obtain⟨v,us,hvs,h1,h2⟩:=h;rw[VRs]at h2;rw[VR]at h1;grind
theorem bGX {w G u1 u2 vs}(h:VRs w G aG [.lit u1,.lit u2] vs.toList):vs=#[u1,u2]:=by
 obtain⟨v,us,hvs,h1,h2⟩:=h;obtain⟨v2,us2,hvs2,h3,h4⟩:=h2;rw[VRs]at h4;rw[VR]at h1 h3;grind
theorem bE0 {w G u1 u2 u3 vs}(h:VRs w G aG [.lit u1,.lit u2,.lit u3] vs.toList):vs=#[u1,u2,u3]:=by
 obtain⟨v,us,hvs,h1,h2⟩:=h;obtain⟨v2,us2,hvs2,h3,h4⟩:=h2;obtain⟨v3,us3,hvs3,h5,h6⟩:=h4;rw[VRs]at h6;rw[VR]at h1 h3 h5;grind
theorem aAK {w G} k n:VR w G aG (.tuple [.lit (.int k n),.lit .nilIface]) (.tuple #[.int k n,.nilIface]):=by
 refine⟨_,rfl,?_⟩;refine⟨_,_,rfl,by rfl,?_⟩;exact⟨_,_,rfl,by rfl,by rfl⟩
theorem a9U {w G} s:VR w G aG (.lit (.string s)) (.string s):=by rfl
theorem aPF:ZR Tryz.prog 105 _ _ HH:=by
 rintro⟨n,⟨⟩⟩ y h w G vs hG hv;unfold HH at h;obtain⟨hb,h⟩:=aJ h;simp only[oA,Bool.not_eq_true',aE,decide_eq_false_iff_not]at hb;obtain rfl:=oB h;obtain rfl:=bAJ hv;refine⟨enters func105 Y Y _ _,(Tryz.strconv_Itoa n Z Z w (a15 hG)).mono ?_⟩;rintro e w' ⟨rfl,k,os,rfl⟩;rw[<- aMV Z];have he:=aXU hG.lt k os;exact⟨_,G,rfl,he,λb hb=>Nat.lt_of_lt_of_le (hG b hb) he.size,a9U _⟩
theorem aMM:ZR Tryz.prog 133 _ _ HQ:=by
 rintro⟨s,⟨⟩⟩ y h w G vs hG hv;unfold HQ at h;obtain⟨hb,h4⟩:=aJ h;clear h;have hl:=oL hb;split at h4
 next n hn=>obtain rfl:=oB h4;obtain rfl:=bAJ hv;refine⟨enters func133 Y Y _ _,(Tryz.strconv_Atoi s n hl hn w).mono ?_⟩;rintro e w' ⟨rfl,t,rfl⟩;have he:=aC2 hG.lt 5 t;exact⟨_,G,rfl,he,λb hb=>Nat.lt_of_lt_of_le (hG b hb) he.size,aAK _ n⟩
 ·cases h4
theorem aY9:ZR Tryz.prog 70 _ _ UI:=by
 rintro⟨s,b,c,⟨⟩⟩ y h w G vs hG hv;unfold UI at h;obtain⟨hb,h4⟩:=aJ h;clear h;simp only[oA,bP,decide_eq_true_eq]at hb;obtain⟨hb1,rfl,rfl⟩:=hb;have hl:=oL hb1;split at h4
 next n hn=>
  obtain rfl:=oB h4;obtain rfl:=bE0 hv;refine⟨enters func70 Y Y _ _,(Tryz.strconv_ParseInt_10_at64_ok s Z n hn w).mono ?_⟩;rintro e w' ⟨rfl,hw⟩;rcases hw with rfl|⟨t,rfl⟩
  ·exact⟨_,G,rfl,Ext.refl _ _ _ _,hG.lt,aAK _ n⟩
  ·have he:=aC2 hG.lt 5 t;exact⟨_,G,rfl,he,λb hb=>Nat.lt_of_lt_of_le (hG b hb) he.size,aAK _ n⟩
 ·cases h4
theorem aDJ:ZR Tryz.prog 179 _ _ vR:=by
 rintro⟨s,b,c,⟨⟩⟩ y h w G vs hG hv;unfold vR at h;obtain⟨hb,h4⟩:=aJ h;clear h;simp only[oA,bP,decide_eq_true_eq]at hb;obtain⟨hb1,rfl,rfl⟩:=hb;have hl:=oL hb1;split at h4
 next n hn=>
  obtain rfl:=oB h4;obtain rfl:=bE0 hv;refine⟨enters func179 Y Y _ _,(Tryz.strconv_ParseUint_10_at64_ok s Z n hn w).mono ?_⟩;rintro e w' ⟨rfl,hw⟩;rcases hw with rfl|rfl
  ·exact⟨_,G,rfl,Ext.refl _ _ _ _,hG.lt,aAK _ n⟩
  ·have he:=aC2 hG.lt 5 s;exact⟨_,G,rfl,he,λb hb=>Nat.lt_of_lt_of_le (hG b hb) he.size,aAK _ n⟩
 ·cases h4
theorem aB2:ZR Tryz.prog 164 _ _ uA:=by
 rintro⟨n,b,⟨⟩⟩ y h w G vs hG hv;unfold uA at h;obtain⟨hb,h4⟩:=aJ h;clear h;simp only[oA,Bool.not_eq_true',aE,bP,decide_eq_true_eq,decide_eq_false_iff_not]at hb;obtain⟨hb1,hb2,rfl⟩:=hb;obtain rfl:=oB h4;obtain rfl:=bGX hv;obtain⟨u,hu⟩:∃ u:Nat,(n:Int)=(u:Int):=⟨Int.toNat n,(Int.toNat_of_nonneg (Int.not_lt.1 hb1)).symm⟩;subst hu;refine⟨enters func164 Y Y _ _,(Tryz.ZP u (Int.ofNat_lt.1 hb2) w (a15 hG)).mono ?_⟩
 rintro e w' ⟨rfl,k,os,rfl⟩;have hi:(⟨(Lib.decDigits u).toArray⟩:ByteArray)=aW9 (u:Int):=by
  have h1:u<10^20:=Nat.lt_trans (Int.ofNat_lt.1 hb2) O;rw[aMV (by simpa using h1),Lib.itoa_nonneg]
 rw[hi];have he:=aXU hG.lt k os;exact⟨_,G,rfl,he,λb hb=>Nat.lt_of_lt_of_le (hG b hb) he.size,a9U _⟩
abbrev aP2:Ent:=⟨105,_,_,HH⟩
theorem aJH:Ent.OK Tryz.prog aP2:=aPF
abbrev aPM:Ent:=⟨133,_,_,HQ⟩
theorem aJD:Ent.OK Tryz.prog aPM:=aMM
abbrev aE0:Ent:=⟨179,_,_,vR⟩
theorem ZL:Ent.OK Tryz.prog aE0:=aDJ
abbrev aDQ:Ent:=⟨164,_,_,uA⟩
theorem YR:Ent.OK Tryz.prog aDQ:=aB2
set_option maxHeartbeats 4000000
theorem a96(s:ByteArray)(hl:s.size<=1000000000)(v:Int)(h:Lib.parseIntB 64 s.data.toList=.ok v)(w:World) :
  Calls Tryz.prog 32 #[.string s] w λe w'=>e=.returned (.tuple #[.int .i64 v,.bool true])/\(w'=w\/∃ t,w'=Lib.bytesWorld w 5 t):=by
 go_enter func32,ntmps32
 go_wp2_with (go_at_call 70; refine(Tryz.strconv_ParseInt_10_at64_ok s Z v h _).mono ?_; rintro e w' ⟨rfl,hw⟩)
 all_goals refine bodyPost_ret (results_tmp2 rfl _ _ _) rfl ?_
 exact⟨rfl,hw⟩
theorem aWN(s:ByteArray)(hl:s.size<=1000000000)(h:Lib.parseIntB 64 s.data.toList=.range)(ev:Value)(w:World)(hv:w.cell? ⟨1,0,none⟩=some ev)(hev:ev=.nilIface\/∃ te pe,ev=.iface te pe) :
  Calls Tryz.prog 32 #[.string s] w λe w'=>e=.returned (.tuple #[.int .i64 0,.bool false])/\Below w.heap.size w w':=by
 go_enter func32,ntmps32
 go_wp2_with (go_at_call 70; refine(Tryz.strconv_ParseInt_10_at64_range s Z h ev _ hv hev).mono ?_; rintro e w' ⟨N,rfl,hN1,hN2,hB⟩)
 all_goals refine bodyPost_ret (results_tmp2 rfl _ _ _) rfl ?_
 exact⟨rfl,hB⟩
theorem bAB {w:World}{G:Nat->Prop}(h:Lt w G):∃ te pe,w.cell? ⟨1,0,none⟩=some (.iface te pe):=by
 have hm:(1,aGN)∈a5H:=by simp[a5H]
 obtain⟨-,te,pe,t,fr,ht⟩:=h.tab _ hm;refine⟨te,pe,?_⟩;simp only[World.cell?];rw[ht];rfl
theorem aOJ {w G} k n b:VR w G aG (.tuple [.lit (.int k n),.lit (.bool b)]) (.tuple #[.int k n,.bool b]):=by
 refine⟨_,rfl,?_⟩;refine⟨_,_,rfl,by rfl,?_⟩;exact⟨_,_,rfl,by rfl,by rfl⟩
def nM(x:aM [.str]):oK [.int .i64,.bool]:=match x with
 | (s,())=>bif Nat.ble s.size 1000000000 then (match Lib.parseIntB 64 s.data.toList with
  | .ok n=>some (n,true,())
  | .range=>some (0,false,())
  | _=>none) else none
theorem aPX:ZR Tryz.prog 32 _ _ nM:=by
 rintro⟨s,⟨⟩⟩ y h w G vs hG hv;unfold nM at h;obtain⟨hb,h4⟩:=aJ h;clear h;have hl:=oL hb;split at h4
 next n hn=>
  obtain rfl:=oB h4;obtain rfl:=bAJ hv;refine⟨enters func32 Y Y _ _,(a96 s hl n hn w).mono ?_⟩;rintro e w' ⟨rfl,hw⟩;rcases hw with rfl|⟨t,rfl⟩
  ·exact⟨_,G,rfl,Ext.refl _ _ _ _,hG.lt,aOJ _ n true⟩
  ·have he:=aC2 hG.lt 5 t;exact⟨_,G,rfl,he,λb hb=>Nat.lt_of_lt_of_le (hG b hb) he.size,aOJ _ n true⟩
 next hn=>obtain rfl:=oB h4;obtain rfl:=bAJ hv;obtain⟨te,pe,hc⟩:=bAB hG;refine⟨enters func32 Y Y _ _,(aWN s hl hn _ w hc (.inr ⟨te,pe,rfl⟩)).mono ?_⟩;rintro e w' ⟨rfl,hB⟩;have he:=aQ2 hG hB;exact⟨_,G,rfl,he,λb hb=>Nat.lt_of_lt_of_le (hG b hb) he.size,aOJ _ 0 false⟩
 ·cases h4
abbrev aH6:Ent:=⟨32,_,_,nM⟩
theorem ZG:Ent.OK Tryz.prog aH6:=aPX
end Go.PM
namespace Go.PM
open Go Go.RowKit
abbrev arB(ae:TypeId) (t:Ty) (A:List (List t.den)):Blk:=⟨aI (.rows t) A,ae,false,false,some ⟨.rows t,A⟩⟩
abbrev owB(e:TypeId)(t:Ty)(l:List t.den):Blk:=⟨aI t l,e,true,false,some ⟨t,l⟩⟩
abbrev OwA:=Option (Nat×Blk)
def UH:OwA->Heap->Heap
 | none,H=>H
 | some (r,_),H=>H.set r none
def OE:OwA->Heap
 | none=>[]
 | some (_,k)=>[some k]
def bFK(μ:Mp):OwA->Option Nat
 | none=>none
 | some (r,_)=>μ.loc r
def bG0(μ:Mp):OwA->Option Nat
 | none=>none
 | some (r,_)=>μ.len r
def shA(μ:Mp):OwA->Nat
 | none=>0
 | some (r,_)=>μ.sh r
def wrA(w:World) (G:Gd) (μ:Mp) (ow:OwA):Nat->Prop:=λb=>w.heap.size<=b\/bFK μ ow=some b\/∃ j,G.row j=some b
def mpA(μ:Mp) (ow:OwA) (n:Nat):Mp:=⟨λq=>if q<(OE ow).length then bFK μ ow else none,λq=>if q<(OE ow).length then bG0 μ ow else if q=(OE ow).length then some n else none,λq=>if q<(OE ow).length then shA μ ow else 0⟩
structure a2Y (H:Heap) (ow:OwA):Prop where
 at_:∀ r k,ow=some (r,k)->H[r]?=some (some k)/\k.grown=true/\k.frozen=false/\k.tag.isSome=true
section
variable {P:Program} {n0:Nat->Prop} {w w':World} {G G1 G2:Gd} {μ μ2:Mp} {H H':Heap} {ae:TypeId} {t:Ty} {A B:List (List t.den)}
theorem a4L {ow s k}(h:(UH ow H)[s]?=some (some k)):H[s]?=some (some k)/\∀ r k',ow=some (r,k')->s≠r:=by
 cases ow with
 | none=>exact⟨h,λr k' e=>by grind⟩
 | some p =>
  obtain⟨h1,h2⟩:=sI h;grind
theorem aT1 {ow}:(UH ow H).length=H.length:=by
 cases ow with
 | none=>rfl
 | some p=>simp[UH]
theorem bEM(hW:aO n0 G μ H w) {ow:OwA} (ho:a2Y H ow):∀ b,wrA w G μ ow b->n0 b:=by
 rintro b (h|h|⟨j,h⟩)
 ·exact hW.base b h
 ·cases ow with
  | none=>cases h
  | some p =>
   obtain⟨r,k⟩:=p;obtain⟨h1,_,h3,_⟩:=ho.at_ r k rfl;obtain⟨_,_,_,_,_,h6⟩:=hW.blk r k b h1 h;grind
 ·exact(hW.rows.sep j b h).2.1
theorem a4F(hW:aO n0 G μ H w) {ow:OwA} (ho:a2Y H ow) {s:Nat} {k:Blk} {b:Nat} (hs:H[s]?=some (some k)) (hne:∀ r k',ow=some (r,k')->s≠r) (hb:μ.loc s=some b):¬ wrA w G μ ow b:=by
 rintro(h|h|⟨j,h⟩)
 ·exact Nat.not_lt.2 h (hW.pK hs hb)
 ·cases ow with
  | none=>cases h
  | some p =>
   obtain⟨r,k'⟩:=p;obtain⟨h1,_,h3,_⟩:=ho.at_ r k' rfl;cases hf:k.frozen with
   | false=>exact hne r k' rfl (hW.inj s r k k' b hs h1 hf h3 hb h)
   | true =>
    obtain⟨_,_,_,_,h5,_⟩:=hW.blk s k b hs hb;obtain⟨_,_,_,_,_,h6⟩:=hW.blk r k' b h1 h;grind
 ·obtain⟨_,_,a3,a4⟩:=hW.rows.sep j b h;cases hf:k.frozen with
  | false=>exact a4 s k hs hf hb
  | true =>
   obtain⟨_,_,_,_,h5,_⟩:=hW.blk s k b hs hb;grind
theorem aF2(hW:aO n0 G μ H w) {ow:OwA} (ho:a2Y H ow) {ra:Nat} (har:H[ra]?=some (some (arB ae t A))) :
  aO (wrA w G μ ow) G (mpA μ ow A.length) (OE ow++[some (arB ae t A)]) w:=by
 have key:∀ (s:Nat) (k:Blk),(OE ow++[some (arB ae t A)])[s]?=some (some k)->(s<(OE ow).length/\∃ r,ow=some (r,k)/\s=0)\/(s=(OE ow).length/\k=arB ae t A):=by
  intro s k hs;rcases aCC (H:=OE ow) s k hs with ⟨h1,h2⟩|⟨h1,h2⟩
  ·grind
  ·left;refine⟨h1,?_⟩;cases ow with
   | none=>simp[OE]at h1
   | some p =>
    obtain⟨r,k'⟩:=p;simp only[OE,List.length_cons,List.length_nil]at h1;have:s=0:=Z
    subst this;simp only[OE,List.getElem?_cons_zero,oJ]at h2;grind
 refine⟨?_,?_,?_,hW.lt,?_,λb hb=>.inl hb,?_⟩
 ·intro s k b hs hb;rcases key s k hs with ⟨h1,r,rfl,rfl⟩|⟨h1,rfl⟩
  ·have hb:μ.loc r=some b:=by
    have:(mpA μ (some (r,k)) A.length).loc 0=μ.loc r:=rfl;grind
   obtain⟨q1,q2,q3,q4⟩:=ho.at_ r k rfl;obtain⟨c,a1,a2,a3,a4,a5⟩:=hW.blk r k b q1 hb;refine⟨c,a1,?_,a3,a4,λhf=>⟨.inr (.inl hb),(a5 hf).2⟩⟩;obtain⟨g,hg⟩:=Option.isSome_iff_exists.1 q4;rw[(hW.tags r k g q1 hg).1]at a2 ⊢;exact nR (iM _ _) a2
  ·subst h1;simp only[mpA,Nat.lt_irrefl,if_false]at hb;cases hb
 ·intro s k g hs hg;rcases key s k hs with ⟨h1,r,rfl,rfl⟩|⟨h1,rfl⟩
  ·obtain⟨q1,_⟩:=ho.at_ r k rfl;obtain⟨a1,a2⟩:=hW.tags r k g q1 hg;exact⟨a1,a2⟩
  ·cases hg;subst h1;refine⟨rfl,?_⟩;simp only[mpA,Nat.lt_irrefl,if_false,if_true]
 ·intro s1 s2 k1 k2 b h1 h2 f1 f2 m1 m2;rcases key s1 k1 h1 with ⟨p1,r1,e1,rfl⟩|⟨p1,rfl⟩
  ·rcases key s2 k2 h2 with ⟨p2,r2,e2,rfl⟩|⟨p2,rfl⟩
   ·rfl
   ·subst p2;simp only[mpA,Nat.lt_irrefl,if_false]at m2;cases m2
  ·subst p1;simp only[mpA,Nat.lt_irrefl,if_false]at m1;cases m1
 ·intro s hs;rw[oH]at hs;simp only[List.length_cons,List.length_nil]at hs;have h1:¬ s<(OE ow).length:=Z
  have h2:¬ s=(OE ow).length:=Z
  simp only[mpA,h1,h2,if_false,and_self]
 ·refine(hW.rows.rel (λs s'=>(s<(OE ow).length/\∃ r k,ow=some (r,k)/\s'=r)\/(s=(OE ow).length/\s'=ra)) ?_ ?_).aK0 λj b hj _=>.inr (.inr ⟨j,hj⟩)
  ·rintro s s2 q (⟨h1,r,k,h3,h4⟩|⟨h1,h3⟩) (⟨h2,r2,k2,h5,h6⟩|⟨h2,h5⟩)
   ·have:(OE ow).length<=1:=by rw[h3]; simp[OE]
    omega
   ·exfalso;obtain⟨q1,q2,_⟩:=ho.at_ r k h3;rw[<- h4,h5,har]at q1;cases q1;cases q2
   ·exfalso;obtain⟨q1,q2,_⟩:=ho.at_ r2 k2 h5;rw[<- h6,h3,har]at q1;cases q1;cases q2
   ·rw[h1,h2]
  ·intro s k' hs;rcases key s k' hs with ⟨h1,r,rfl,rfl⟩|⟨h1,rfl⟩
   ·exact⟨r,k',.inl ⟨h1,r,k',rfl,rfl⟩,(ho.at_ r k' rfl).1,rfl,rfl,rfl,rfl,rfl⟩
   ·refine⟨ra,_,.inr ⟨h1,rfl⟩,har,rfl,rfl,rfl,rfl,?_⟩;subst h1;simp only[mpA,Nat.lt_irrefl,if_false];exact(hW.rows.arn ra _ t A har rfl rfl).1.symm
abbrev OsA:=Option (Nat×Blk×Blk)
def aY2:OsA->Heap
 | none=>[]
 | some (_,_,k)=>[some k]
def bAH(μ:Mp):OsA->Option Nat
 | none=>none
 | some (r,_,_)=>μ.loc r
def shS(μ:Mp):OsA->Nat
 | none=>0
 | some (r,_,_)=>μ.sh r
def a9Z:OsA->Option Nat
 | none=>none
 | some (_,_,k)=>match k.tag with
  | some g=>some g.l.length
  | none=>none
structure bDQ (H:Heap) (os:OsA):Prop where
 at_:∀ r k k',os=some (r,k,k')->H[r]?=some (some k)/\k'.grown=true/\k.frozen=false/\k'.frozen=false/\k'.ty=k.ty/\∃ g n,k'.tag=some g/\k'.cells=aI g.t g.l/\k'.cells=k.cells.take n
def sR(μ μ2:Mp) (N n:Nat) (os:OsA):Mp:=⟨λq=>if q<N then μ.loc q else if q=N+1 then bAH μ2 os else none,λq=>if q<N then μ.len q else if q=N then some n else if q=N+1 then a9Z os else none,λq=>if q<N then μ.sh q else if q=N+1 then shS μ2 os else 0⟩
theorem aLX(hW:aO n0 G μ H w) {ow:OwA} (ho:a2Y H ow) {ra:Nat} (har:H[ra]?=some (some (arB ae t A))) (ee:Ext (wrA w G μ ow) w G aG w' G1 μ2) (hW':aO (wrA w G μ ow) G1 μ2 H' w')
  {rb:Nat} (hrb:H'[rb]?=some (some (arB ae t B))) {os:OsA} (hos:bDQ H' os) (hrow:∀ j,G2.row j=G1.row j) (h12:∀ b,G1 b->G2 b)
  (h21:∀ b,G2 b->G1 b\/∃ s k,H'[s]?=some (some k)/\k.frozen=false/\μ2.loc s=some b/\∀ r k' k2,os=some (r,k',k2)->s≠r) :
  Ext n0 w G μ w' G2 (sR μ μ2 H.length B.length os)/\aO n0 G2 (sR μ μ2 H.length B.length os) (((UH ow H).set ra none)++(some (arB ae t B)::aY2 os)) w':=by
 have hwr:=bEM hW ho;have hblk:∀ s k b,H'[s]?=some (some k)->k.frozen=false->μ2.loc s=some b->wrA w G μ ow b:=λs k b hs hf hb=>by
  obtain⟨_,_,_,_,_,h6⟩:=hW'.blk s k b hs hb;grind
 have hG2:∀ b,G2 b->G b\/wrA w G μ ow b:=λb hb=>by
  rcases h21 b hb with h|⟨s,k,h1,h2,h3,_⟩
  ·exact ee.new b h
  ·grind
 have hlt2:Lt w' G2.ok:=hW'.lt.step (λb hb=>⟨h12 b hb,rfl⟩) λb hb=>by
  rcases h21 b hb with h|⟨s,k,h1,_,h3,_⟩
  ·exact hW'.lt b h
  ·exact hW'.pK h1 h3
 have e2:Ext n0 w G μ w' G2 (sR μ μ2 H.length B.length os):={
  good:=λb hb=>⟨h12 b (ee.good b hb).1,(ee.good b hb).2⟩
  map:=λr b hr=>by
   have:r<H.length:=by
    rcases oG r H.length with h|h
    ·exact h
    ·rw[(hW.top r h).1]at hr; cases hr
   simp only[sR,this,if_true]; exact hr
  len:=λr b hr=>by
   have:r<H.length:=by
    rcases oG r H.length with h|h
    ·exact h
    ·rw[(hW.top r h).2]at hr; cases hr
   simp only[sR,this,if_true]; exact hr
  sh:=λr b hr=>by
   have:r<H.length:=by
    rcases oG r H.length with h|h
    ·exact h
    ·rw[(hW.top r h).1]at hr; cases hr
   simp only[sR,this,if_true]
  room:=ee.room
  row:=λj b hj=>by rw[hrow]; exact ee.row j b hj
  os:=ee.os
  tape:=ee.tape
  output:=ee.output
  size:=ee.size
  old:=λb hb hn=>ee.old b hb λh=>hn (hwr b h)
  new:=λb hb=>(hG2 b hb).imp id (hwr b) }
 have hlen:((UH ow H).set ra none).length=H.length:=by rw[List.length_set,aT1]
 have key:∀ (s:Nat) (k:Blk),(((UH ow H).set ra none)++(some (arB ae t B)::aY2 os))[s]?=some (some k) ->
   (s<H.length/\s≠ra/\H[s]?=some (some k)/\∀ r k',ow=some (r,k')->s≠r)\/(s=H.length/\k=arB ae t B)\/(s=H.length+1/\∃ r k0,os=some (r,k0,k)):=by
  intro s k hs;rcases oG s H.length with hl|hl
  ·rw[List.getElem?_append_left (by rw[hlen]; exact hl)]at hs;obtain⟨h1,h2⟩:=sI hs;obtain⟨h3,h4⟩:=a4L h1;exact .inl ⟨hl,h2,h3,h4⟩
  ·rw[List.getElem?_append_right (by rw[hlen]; exact hl),hlen]at hs;rcases Nat.eq_zero_or_pos (s-H.length)with h0|h0
   ·rw[h0]at hs;simp only[List.getElem?_cons_zero,oJ]at hs;exact .inr (.inl ⟨by omega,hs.symm⟩)
   ·obtain⟨m,hm⟩:∃ m,s-H.length=m+1:=⟨s-H.length-1,by omega⟩;rw[hm,List.getElem?_cons_succ]at hs;cases os with
    | none=>simp[aY2]at hs
    | some p =>
     obtain⟨r,k0,k'⟩:=p;cases m with
     | zero =>
      simp only[aY2,List.getElem?_cons_zero,oJ]at hs;subst hs;exact .inr (.inr ⟨by omega,r,k0,rfl⟩)
     | succ m=>simp[aY2]at hs
 have l0:∀ s,s<H.length->(sR μ μ2 H.length B.length os).loc s=μ.loc s/\(sR μ μ2 H.length B.length os).len s=μ.len s/\(sR μ μ2 H.length B.length os).sh s=μ.sh s:=λs hs=>by simp[sR,hs]
 have l1:(sR μ μ2 H.length B.length os).loc H.length=none/\(sR μ μ2 H.length B.length os).len H.length=some B.length:=by simp[sR]
 have l2:(sR μ μ2 H.length B.length os).loc (H.length+1)=bAH μ2 os/\(sR μ μ2 H.length B.length os).len (H.length+1)=a9Z os:=by
  have h1:¬ H.length+1<H.length:=Z
  have h2:¬ H.length+1=H.length:=Z
  simp only[sR,h1,h2,if_false,if_true,and_self]
 have l3:(sR μ μ2 H.length B.length os).sh (H.length+1)=shS μ2 os:=by
  have h1:¬ H.length+1<H.length:=Z
  simp only[sR,h1,if_false,if_true]
 have hold:∀ s k b,H[s]?=some (some k)->(∀ r k',ow=some (r,k')->s≠r)->μ.loc s=some b->w'.heap[b]?=w.heap[b]?/\¬ wrA w G μ ow b:=λs k b h1 h2 h3=>by
  have h4:=a4F hW ho h1 h2 h3;exact⟨ee.old b (hW.pK h1 h3) h4,h4⟩
 refine⟨e2,?_,?_,?_,hlt2,?_,λb hb=>hW.base b (oR ee.size hb),?_⟩
 ·intro s k b hs hb;rcases key s k hs with ⟨h1,h2,h3,h4⟩|⟨h1,rfl⟩|⟨h1,r,k0,h2⟩
  ·rw[(l0 s h1).1]at hb;obtain⟨c,a1,a2,a3,a4,a5⟩:=hW.blk s k b h3 hb;obtain⟨g1,g2⟩:=hold s k b h3 h4 hb;rw[(l0 s h1).2.2];refine⟨c,g1.trans a1,aL.mono e2.toMono g1 _ _ a2,a3,λhf=>h12 b (ee.good b (a4 hf)).1,λhf=>⟨(a5 hf).1,λhg=>?_⟩⟩;rcases hG2 b hg with h|h
   ·exact(a5 hf).2 h
   ·exact g2 h
  ·subst h1;rw[l1.1]at hb; cases hb
  ·subst h1; subst h2;rw[l2.1]at hb;obtain⟨q1,q2,q3,q4,q5,g,nc,q6,q7,q8⟩:=hos.at_ r k0 k rfl;obtain⟨c,a1,a2,a3,a4,a5⟩:=hW'.blk r k0 b q1 hb;rw[l3];refine⟨c,by rw[q5]; exact a1,?_,(λhf=>by rw[q2]at hf; cases hf),(λhf=>by rw[q4]at hf; cases hf),λhf=>⟨hwr b (a5 q3).1,λhg=>?_⟩⟩
   ·replace a2:=a2.take nc;rw[<- q8,q7]at a2;rw[q7];obtain⟨us,u1,u2⟩:=a2.values;have m12:Mono w' G1 aG w' G2 (sR μ μ2 H.length B.length (some (r,k0,k))):=⟨λb hb=>⟨h12 b hb,rfl⟩,λ_ _ h=>(by cases h),λ_ _ h=>(by cases h),λ_ _ h=>h,λj b hj=>by rw[hrow]; exact hj,λ_ _ h=>(by cases h)⟩;exact aL.nZ (VRs.mono m12 _ _ (cU _ _ (iM _ _) u1)) u2
   ·rcases h21 b hg with h|⟨s2,k2,z1,z2,z3,z4⟩
    ·exact(a5 q3).2 h
    ·exact z4 r k0 k rfl (hW'.inj s2 r k2 k0 b z1 q1 z2 q3 z3 hb)
 ·intro s k g hs hg;rcases key s k hs with ⟨h1,h2,h3,h4⟩|⟨h1,rfl⟩|⟨h1,r,k0,h2⟩
  ·rw[(l0 s h1).2.1];exact hW.tags s k g h3 hg
  ·cases hg;subst h1;exact⟨rfl,l1.2⟩
  ·subst h1; subst h2;rw[l2.2];obtain⟨_,_,_,_,_,g',_,q6,q7,_⟩:=hos.at_ r k0 k rfl;rw[hg]at q6;cases q6;exact⟨q7,by simp only[a9Z,hg]⟩
 ·intro s1 s2 k1 k2 b h1 h2 f1 f2 m1 m2;rcases key s1 k1 h1 with ⟨p1,p2,p3,p4⟩|⟨p1,rfl⟩|⟨p1,r,k0,p2⟩
  ·rw[(l0 s1 p1).1]at m1;rcases key s2 k2 h2 with ⟨q1,q2,q3,q4⟩|⟨q1,rfl⟩|⟨q1,r2,k02,q2⟩
   ·rw[(l0 s2 q1).1]at m2;exact hW.inj s1 s2 k1 k2 b p3 q3 f1 f2 m1 m2
   ·subst q1; rw[l1.1]at m2; cases m2
   ·subst q1; subst q2;rw[l2.1]at m2;exact absurd (hblk r2 k02 b (hos.at_ r2 k02 k2 rfl).1 (hos.at_ r2 k02 k2 rfl).2.2.1 m2) (hold s1 k1 b p3 p4 m1).2
  ·subst p1; rw[l1.1]at m1; cases m1
  ·subst p1; subst p2;rw[l2.1]at m1;rcases key s2 k2 h2 with ⟨q1,q2,q3,q4⟩|⟨q1,rfl⟩|⟨q1,r2,k02,q2⟩
   ·rw[(l0 s2 q1).1]at m2;exact absurd (hblk r k0 b (hos.at_ r k0 k1 rfl).1 (hos.at_ r k0 k1 rfl).2.2.1 m1) (hold s2 k2 b q3 q4 m2).2
   ·subst q1; rw[l1.1]at m2; cases m2
   ·exact q1.symm
 ·intro s hs;rw[oH,hlen,List.length_cons]at hs;have h1:¬ s<H.length:=Z
  have h2:¬ s=H.length:=Z
  by_cases h3:s=H.length+1
  ·cases os with
   | none=>rw[h3]; exact l2
   | some p =>
    obtain⟨r,k0,k1⟩:=p;simp only[aY2,List.length_cons,List.length_nil]at hs;omega
  ·simp[sR,h1,h2,h3]
 ·have hr':=hW'.rows;refine⟨λi j b h1 h2=>hr'.inj i j b (by rw[<- hrow]; exact h1) (by rw[<- hrow]; exact h2),?_,?_,?_,?_⟩
  ·intro j b hj;rw[hrow]at hj;obtain⟨a1,a2,a3,a4⟩:=hr'.sep j b hj;refine⟨a1,hwr b a2,λhg=>?_,λs k hs hf hl=>?_⟩
   ·rcases h21 b hg with h|⟨s,k,z1,z2,z3,_⟩
    ·exact a3 h
    ·exact a4 s k z1 z2 z3
   ·rcases key s k hs with ⟨p1,p2,p3,p4⟩|⟨p1,rfl⟩|⟨p1,r,k0,p2⟩
    ·rw[(l0 s p1).1]at hl;exact(hold s k b p3 p4 hl).2 a2
    ·subst p1; rw[l1.1]at hl; cases hl
    ·subst p1; subst p2;rw[l2.1]at hl;exact a4 r k0 (hos.at_ r k0 k rfl).1 (hos.at_ r k0 k rfl).2.2.1 hl
  ·intro j b hj;rw[hrow]at hj;exact hr'.cel j b hj
  ·intro s k t1 l1' hs hg ht;rcases key s k hs with ⟨p1,p2,p3,p4⟩|⟨p1,rfl⟩|⟨p1,r,k0,p2⟩
   ·exact absurd (hW.rows.one s ra k _ t1 l1' t A p3 hg ht har rfl rfl) p2
   ·cases ht;subst p1;obtain⟨_,a2,a3⟩:=hr'.arn rb _ t B hrb rfl rfl;refine⟨l1.1,λj hj=>by rw[hrow]; exact a2 j hj,λj row hj=>?_⟩;rcases a3 j row hj with h|⟨b,z1,z2⟩
    ·exact .inl h
    ·have m12:Mono w' G1 aG w' G2 aG:=⟨λb hb=>⟨h12 b hb,rfl⟩,λ_ _ h=>h,λ_ _ h=>h,λ_ _ h=>h,λj b hj=>by rw[hrow]; exact hj,λ_ _ _=>rfl⟩;exact .inr ⟨b,by rw[hrow]; exact z1,z2.mono m12 rfl⟩
   ·subst p2;rw[(hos.at_ r k0 k rfl).2.1]at hg; cases hg
  ·have only:∀ (s:Nat) (k:Blk) (t1:Ty) (l1':List (List t1.den)),(((UH ow H).set ra none)++(some (arB ae t B)::aY2 os))[s]?=some (some k)->k.grown=false->k.tag=some ⟨.rows t1,l1'⟩->s=H.length:=by
    intro s k t1 l1' hs hg ht;rcases key s k hs with ⟨p1,p2,p3,p4⟩|⟨p1,_⟩|⟨p1,r,k0,p2⟩
    ·exact absurd (hW.rows.one s ra k _ t1 l1' t A p3 hg ht har rfl rfl) p2
    ·exact p1
    ·subst p2;rw[(hos.at_ r k0 k rfl).2.1]at hg; cases hg
   intro r s k k' t1 l1' t2 l2' h1 g1 t1' h2 g2 t2';rw[only r k t1 l1' h1 g1 t1',only s k' t2 l2' h2 g2 t2']
end
end Go.PM
