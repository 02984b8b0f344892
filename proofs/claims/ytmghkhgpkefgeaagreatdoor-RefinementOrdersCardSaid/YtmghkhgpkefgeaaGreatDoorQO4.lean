/- Texts of one proof, joined (4). -/
import Derived.ProofKit
import Derived.Lib.SmallJoins
import Derived.Test.YtmghkhgpkefgeaaGreatDoorRows
import Derived.LaidMore
import Derived.OpenShut
import Derived.Lib.LaidU8
import Derived.MakeChecks
import Derived.Test.YtmghkhgpkefgeaaGreatDoorProg
import Derived.KernelRfl
import Derived.OrdersIn
import Derived.TacticsIn
import Derived.RangeFuncRecord
import Derived.Sort.LoopGhostIn
import Derived.RangeFuncSeq
import Derived.Lib.AppendIntMem
import Derived.WalkKit
import Derived.BigCall
import Derived.BigGuard
import Derived.Test.YtmghkhgpkefgeaaGreatDoorQO3
set_option linter.unusedSimpArgs false
set_option linter.unusedVariables false
namespace Go.PM
open Go Go.RowKit
@[reducible] def aJ:List Kd→Type
 | []=>Unit
 | k::r=>k.den×aJ r
def qA:(l:List Kd)→aJ l→List PV
 | [],_=>[]
 | k::r,(x,xs)=>D5 k x 0::qA r xs
def a3A:(l:List Kd)→List PV→Option (aJ l)
 | [],[]=>some ()
 | k::r,p::ps=>match aVM k p [] 0 with
  | some x=>match a3A r ps with
   | some xs=>some (x,xs)
   | none=>none
  | none=>none
 | _,_=>none
def YR:List Kd→Bool
 | []=>true
 | .own _ _::_|.box _ _::_|.win _ _::_|.bown _ _ _::_|.bag _ _ _ _ _::_|.bag2 _ _ _ _ _ _::_|.ar _ _::_=>false
 | _::r=>YR r
def Kd.plain:Kd→Bool
 | .list t|.agg t|.ptr t=>t.plain
 | .clo _ ts=>ts.all Ty.plain
 | .hnd _=>false
 | .mpk _=>false
 | _=>true
theorem aQR:∀ (ts:List Ty) (x:XZ ts),ts.all Ty.plain=true→gF.noRows (aHY ts x)=true
 | [],_,_=>rfl
 | t::r,(x,xs),h=>by
  simp only[List.all_cons,Bool.and_eq_true]at h;simp only[aHY,gF.noRows,gF,Bool.and_eq_true];exact⟨WZ t x h.1,aQR r xs h.2⟩
theorem bDA:∀ (k:Kd) (x:k.den) (n:Nat),k.plain=true→gF (D5 k x n)=true
 | .int _,_,_,_|.bool,_,_,_|.str,_,_,_|.own _ _,_,_,_|.box _ _,_,_,_|.fn _,_,_,_|.nil0,_,_,_|.val,_,_,_|.nilI,_,_,_|.win _ _,_,_,_|.bown _ _ _,_,_,_|.bag _ _ _ _ _,_,_,_|.bag2 _ _ _ _ _ _,_,_,_|.ar _ _,_,_,_=>rfl
 | .hnd _,_,_,h=>by cases h
 | .mpk _,_,_,h=>by cases h
 | .list t,_,_,h=>h
 | .agg t,x,_,h=>WZ t x h
 | .ptr t,x,_,h=>WZ t x h
 | .clo _ ts,x,_,h=>by
  simp only[D5,gF,gF.noRows,Bool.true_and];exact aQR ts x h
theorem aZL:∀ (ks:List Kd) (x:aJ ks),ks.all Kd.plain=true→gF.noRows (qA ks x)=true
 | [],_,_=>rfl
 | k::r,(x,xs),h=>by
  simp only[List.all_cons,Bool.and_eq_true]at h;simp only[qA,gF.noRows,Bool.and_eq_true];exact⟨bDA k x 0 h.1,aZL r xs h.2⟩
def aXS(l:List Kd) (x:aJ l):PV:=lA (qA l x)
def bBU:(l:List Kd)→PV→Option (aJ l)
 | [k],q=>match aVM k q [] 0 with
  | some x=>some (x,())
  | none=>none
 | l,.tuple qs=>a3A l qs
 | _,_=>none
section
variable {P:Program} {n0:Nat→Prop} {w wi:World} {G Gi:Gd} {μ μi μ':Mp} {H:Heap} {F:Frm} {a:Act} {nt:Nat}
theorem bCX {e:TypeId} {t:Ty} {p:PV} {n:Nat}:N0 e t p [] n=none:=by
 unfold N0;split
 ·cases Nat.beq _ n&&Nat.beq _ t.size <;> rfl
 ·rfl
theorem bDF {e:TypeId} {t:Ty} {p:PV} {n:Nat}:a1P e t p [] n=none:=by
 unfold a1P;split
 ·cases Nat.beq _ n&&Nat.beq _ 0 <;> rfl
 ·rfl
theorem bB0 {e et:TypeId} {t:Ty} {p:PV} {n:Nat}:aR1 e et t p [] n=none:=by
 unfold aR1;split
 ·cases Nat.beq _ n&&Nat.beq _ 0 <;> rfl
 ·rfl
theorem a9L {e:TypeId} {t1:Ty} {et:TypeId} {t:Ty} {eu:TypeId} {u:Ty} {p:PV} {n:Nat}:aR7 e t1 et t eu u p [] n=none:=by
 unfold aR7;split
 ·rw[show l7 [] n=none from by simp[PM.l7]]
  cases Nat.beq _ _&&Nat.beq _ _ <;> rfl
 ·rfl
theorem bDS {e:TypeId} {t1:Ty} {et:TypeId} {t:Ty} {t2:Option Ty} {p:PV} {n:Nat}:a2J e t1 et t t2 p [] n=none:=by
 unfold a2J;split
 ·cases Nat.beq _ n&&Nat.beq _ 0 <;> rfl
 ·rfl
theorem a4V:∀ (k:Kd) {p:PV} {x:k.den} {v:Value},aVM k p [] 0=some x→VR w G aN p v→VR w G aN (D5 k x 0) v
 | .int k,p,x,v,h,hv=>by
  have:=aMU h;simp only[List.cons.injEq,and_true]at this;subst this;exact hv
 | .bool,p,x,v,h,hv=>by
  have:=aG4 h;simp only[List.cons.injEq,and_true]at this;subst this;exact hv
 | .str,p,x,v,h,hv=>by
  have:=aLN h;simp only[List.cons.injEq,and_true]at this;subst this;exact hv
 | .list t,p,x,v,h,hv=>by
  have:=A8 (.list t) aN [p] x [v] h (by rw[VRs]; exact⟨v,[],rfl,hv,by rw[VRs]⟩)
  simp only[enc]at this;rw[VRs]at this;obtain⟨y,ys,h1,h2,_⟩:=this;cases h1;exact h2
 | .agg t,p,x,v,h,hv=>by
  simp only[aVM]at h;unfold bCJ at h;split at h
  ·rename_i cs
   rw[VR]at hv;obtain⟨vs,rfl,h2⟩:=hv;simp only[D5];rw[VR];exact⟨vs,rfl,A8 t aN cs x vs.toList h h2⟩
  ·cases h
 | .own e t,p,x,v,h,hv=>by
  simp only[aVM,bCX]at h;cases h
 | .box e t,p,x,v,h,hv=>by
  simp only[aVM,bDF]at h;cases h
 | .ptr t,p,x,v,h,hv=>aHW h hv
 | .fn g,p,x,v,h,hv=>by
  have:=aWO h;subst this;exact hv
 | .nil0,p,x,v,h,hv=>by
  have:=aS6 h;subst this;exact hv
 | .val,p,x,v,h,hv=>by
  have:=aSQ (p:=p) (x:=x) h;subst this;exact hv
 | .nilI,p,x,v,h,hv=>by
  have:=aPG (p:=p) (x:=x) h;subst this;exact hv
 | .clo g ts,p,x,v,h,hv=>aHG h hv
 | .win j sz,p,x,v,h,hv=>by
  have:=aRT h;subst this;exact hv
 | .bown e et t,p,x,v,h,hv=>by
  simp only[aVM,bB0]at h;cases h
 | .bag e t1 et t t2,p,x,v,h,hv=>by
  simp only[aVM,bDS]at h;cases h
 | .bag2 e t1 et t eu u,p,x,v,h,hv=>by
  simp only[aVM,a9L]at h;cases h
 | .mpk j,p,x,v,h,hv=>by
  have:=aW0 h;subst this;exact hv
 | .hnd sz,p,x,v,h,hv=>by
  have:=aVH (μ:=aN) (vs:=[v]) h (by rw[VRs]; exact⟨v,[],rfl,hv,by rw[VRs]⟩)
  rw[VRs]at this;obtain⟨y,ys,h1,h2,_⟩:=this;cases h1;exact h2
 | .ar e t,p,x,v,h,hv=>by
  simp only[aVM,bE6,PM.l7]at h;simp at h
theorem NQ:∀ (l:List Kd) {ps:List PV} {x:aJ l} {vs:List Value},a3A l ps=some x→VRs w G aN ps vs→VRs w G aN (qA l x) vs
 | [],[],x,vs,h,hv=>hv
 | [],_::_,x,vs,h,hv=>by cases h
 | _::_,[],x,vs,h,hv=>by cases h
 | k::r,p::ps,x,vs,h,hv=>by
  simp only[a3A]at h;split at h
  ·rename_i y hy
   split at h
   ·rename_i ys hys
    simp only[Option.some.injEq]at h;subst h;rw[VRs]at hv;obtain⟨u,us,h1,h2,h3⟩:=hv;simp only[qA];rw[VRs];exact⟨u,us,h1,a4V k hy h2,NQ r hys h3⟩
   ·cases h
  ·cases h
theorem aNF {l:List Kd} {q:PV} {x:aJ l} {v:Value} (h:bBU l q=some x) (hv:VR w G aN q v):VR w G aN (aXS l x) v:=by
 unfold bBU at h;split at h
 ·split at h
  ·rename_i k q y hy
   simp only[Option.some.injEq]at h;subst h;exact a4V _ hy hv
  ·cases h
 ·rename_i hne
  rw[VR]at hv;obtain⟨vs,rfl,h2⟩:=hv;have h3:=NQ _ h h2;clear h
  match l,x,h3 with
  | [],x,h3 =>
   simp only[aXS,qA,lA];rw[VR];exact⟨vs,rfl,h3⟩
  | [k],x,h3=>exact(hne k rfl).elim
  | k::k2::r,(x,y,z),h3 =>
   simp only[aXS,qA,lA];rw[VR];exact⟨vs,rfl,h3⟩
 ·cases h
def eB(P:Program) (g:FuncId) (args rets:List Kd) (f:aJ args→Option (aJ rets)):Prop :=
 ∀ x y,f x=some y→RZ P g (qA args x) (aXS rets y)
def bER(args rets:List Kd) (f:aJ args→Option (aJ rets)) (qs:List PV):Option Res:=match a3A args qs with
 | some x=>some ⟨aJ rets,f x,aXS rets⟩
 | none=>none
theorem bH6 {g:FuncId} {args rets:List Kd} {f:aJ args→Option (aJ rets)} (hf:eB P g args rets f) {qs:List PV} {r:Res} (h:bER args rets f qs=some r):∀ y,r.val=some y→RZ P g qs (r.out y):=by
 unfold bER at h;split at h
 ·rename_i x hx
  simp only[Option.some.injEq]at h;subst h;intro y hy w G vs hlt hv;exact hf x y hy w G vs hlt (NQ args hx hv)
 ·cases h
structure bE (P:Program) (E:Env):Prop where
 pure:∀ g qs r,E.pure g qs=some r→∀ y,r.val=some y→RZ P g qs (r.out y)
 shr:∀ g args H r,E.shr g args H=some r→∀ y,r.val=some y→∀ {n0 G μ w vs},bC n0 G μ H w→VRs w G μ args vs→CC P n0 w G μ g vs.toArray (r.out y).1 (r.out y).2
theorem bE.callee {E:Env} (h:bE P E):fQ P (gX P E):=by
 refine bF9 ?_ ?_
 ·intro g args r hr
  unfold a1M at hr;split at hr
  ·rename_i s hs
   split at hr
   ·rename_i x hx
    simp only[Option.some.injEq]at hr;subst hr;exact h.pure g args s hs x hx
   ·cases hr
  ·cases hr
 ·intro g args H r H' hr
  unfold aZG at hr;split at hr
  ·rename_i s hs
   split at hr
   ·rename_i x hx
    have hr:=Option.some.inj hr;have h1:r=(s.out x).1:=by rw[hr]
    have h2:H'=(s.out x).2:=by rw[hr]
    subst h1; subst h2;intro n0 G μ w vs hW hv;exact h.shr g args H s hs x hx hW hv
   ·cases hr
  ·cases hr
def bAK(P:Program) (rs:List ResultVar) (rets:List Kd) (ex:Ex) (F:Frm) (H:Heap):Option (aJ rets):=match ex with
 | .exit _=>none
 | _=>match AZ P F H rs with
  | some vs=>match bDT H (lA vs)with
   | some q=>bBU rets q
   | none=>none
  | none=>none
def cI(P:Program) (E:Env) (fn:Func) (aZ:Nat) (lt:Nat→Option aS) (c:Code) (args rets:List Kd) (x:aJ args):Option (aJ rets) :=
 bif Nat.ble (qA args x).length fn.ntmps then K5 P E fn.ntmps aZ lt c (start aZ 0 (qA args x)) [] (bAK P fn.results.toList rets) else none
theorem bL {E:Env} (hP:XL P) (hE:bE P E) {g:Nat} {fn:Func} (hg:P.funcs[g]?=some fn) {c:Code} (hc:fn.body=some c) {aZ:Nat} {lt:Nat→Option aS} {args rets:List Kd} {f:aJ args→Option (aJ rets)}
  (hl:∀ a∈aF c,∀ s,lt (aH a)=some s→cF P fn.ntmps a s) (hb:∀ x,cI P E fn aZ lt c args rets x=f x):eB P g args rets f:=by
 intro x y hy;rw[← hb]at hy;unfold cI at hy;obtain⟨hlen,hy⟩:=aO hy;obtain⟨⟨ex,F',H'⟩,h1,h2⟩:=sM hE.callee hP.mixed c _ _ _ _ hl hy;obtain⟨vs,q,hex,hvs,hq,hd⟩:∃ vs q,(ex=.normal∨ex=.ret)∧AZ P F' H' fn.results.toList=some vs∧bDT H' (lA vs)=some q∧bBU rets q=some y:=by
  unfold bAK at h1;split at h1
  ·cases h1
  ·rename_i hne
   split at h1
   ·rename_i vs hvs
    split at h1
    ·rename_i q hq
     refine⟨vs,q,?_,hvs,hq,h1⟩;cases ex with
     | normal=>exact .inl rfl
     | ret=>exact .inr rfl
     | exit i=>exact absurd rfl (hne i)
    ·cases h1
   ·cases h1
 have hcall:∀ {n0 G μ w us},bC n0 G μ [] w→VRs w G μ (qA args x) us→CC P n0 w G μ g us.toArray (lA vs) H':=by
  intro n0 G μ w us hW hv;refine⟨enters hg (hP.names g fn hg) (by rw[hc]; rfl) _ _,calls_of_wp hg hc ?_⟩
  have hI:I n0 w G μ fn.ntmps (start aZ 0 (qA args x)) [] ⟨us.toArray++Array.replicate (fn.ntmps-us.toArray.size) undef,[]⟩ w:=⟨G,μ,Ext.refl _ _ _ _,hW,HK (by simpa using hv) (Nat.le_of_ble_eq_true hlen)⟩
  refine wp_mono (h2 n0 w G μ _ w (fun r=>hW.top r (Nat.zero_le _)) hI) ?_
  rintro e a' w' ⟨rfl,G',μ',e',hW',hF'⟩;obtain⟨ws,h3,h4⟩:=xW (P:=P) hW' hF' hvs;have hres:(results fn a'.tmps).run P w'=.ok (if hh:ws.toArray.size=1 then ws.toArray[0] else .tuple ws.toArray) w':=by
   rw[L9,Array.mapM_eq_mapM_toList];simp only[Sem.run_bind,Sem.run_map,h3,Result.andThen_ok,Sem.run_pure]
  have hpost:a'.defers=[]∧∃ v,(results fn a'.tmps).run P w'=.ok v w'∧(∃ v' G'' μ'',Ending.returned v=.returned v'∧Ext n0 w G μ w' G'' μ''∧bC n0 G'' μ'' H' w'∧VR w' G'' μ'' (lA vs) v') :=
   ⟨hF'.defers,_,hres,_,G',μ',rfl,e',hW',BL h4⟩
  rcases hex with rfl|rfl
  ·exact hpost
  ·exact hpost
 have hp:=aK0 hcall (W0 hq).1 (W0 hq).2;intro w G us hlt hv;obtain⟨h3,h4⟩:=hp w G us hlt hv;refine⟨h3,h4.mono ?_⟩;rintro e w' ⟨v',G',rfl,e1,e2,e3⟩;exact⟨v',G',rfl,e1,e2,aNF hd e3⟩
end
end Go.PM
namespace Go.PM
open Go Go.RowKit Go.ChangeShapes Go.WideShapes Go.ChangeAt Go.Joins
theorem a0T(b off n:Nat):(⟨b,off,none⟩:Addr).add n=⟨b,off+n,none⟩:=by cases n <;> simp[Addr.add]
def WF:(t:Ty)→t.den→Prop
 | .int k,x=>(Lit.int k x).wf=true
 | .bool,_=>True
 | .str,s=>s.size≤maxLen
 | .hnd _,_=>True
 | .rows _,_=>True
 | .list t,l=>l.length≤maxLen∧∀ a∈l,WF t a
 | .prod a b,(x,y)=>WF a x∧WF b y
abbrev GW(w:World):Gd:=Gd.of fun b=>b<w.heap.size
def OpT(P:Program) (t:TypeId) (T:Ty):Prop :=
 P.cellsOf t=T.size∧∀ (H:Type) (en:TypeId×Value→H) (w:World) (base:Nat) (spare:Nat→Bool) (held:Bool) (fuel:Nat) (cs:List Value) (x:DataW H×List MemPlace),
  DataW.trod en P w base spare held fuel t cs=some x→∃ a:T.den,VRs w (GW w) aN (enc T a) cs∧WF T a
section
variable {P:Program}
theorem a1N {w:World} {G:Gd} {p:PV} {v:Value} (h:VR w G aN p v):VRs w G aN [p] [v]:=by
 rw[VRs]; exact⟨v,[],rfl,h,by rw[VRs]⟩
theorem aZA {t:TypeId} {k:IntKind} (ht:P.underlying t=some (.int k)) (hc:P.cellsOf t=1):OpT P t (.int k):=by
 refine⟨hc,fun H en w base spare held fuel cs x h=>?_⟩
 obtain⟨n,rfl,-,wf⟩:=DataW.trod_int ht h;exact⟨n,a1N (by rw[VR]),wf⟩
theorem a0Y {t:TypeId} (ht:P.underlying t=some .bool) (hc:P.cellsOf t=1):OpT P t .bool:=by
 refine⟨hc,fun H en w base spare held fuel cs x h=>?_⟩
 obtain⟨n,rfl,-⟩:=DataW.trod_bool ht h;exact⟨n,a1N (by rw[VR]),trivial⟩
theorem aQ.app {w:World} {G:Gd} {b:Nat}:∀ {ps qs:List PV} {off:Nat},aQ w G aN b off ps→aQ w G aN b (off+ps.length) qs→aQ w G aN b off (ps++qs)
 | [],qs,off,_,h=>h
 | p::ps,qs,off,h,k=>by
  rw[aQ]at h;rw[List.cons_append,aQ];refine⟨h.1,aQ.app h.2 ?_⟩;rw[List.length_cons]at k;rwa[Nat.add_assoc,Nat.add_comm 1]
theorem aQ.bIO {w:World} {G:Gd} {b:Nat}:∀ {ps:List PV} {vs:List Value} {off:Nat},VRs w G aN ps vs→(∀ i (h:i<vs.length),w.cell? ⟨b,off+i,none⟩=some vs[i])→aQ w G aN b off ps
 | [],vs,off,_,_=>by rw[aQ]; trivial
 | p::ps,vs,off,h,k=>by
  rw[VRs]at h;obtain⟨x,xs,rfl,h2,h3⟩:=h;rw[aQ];refine⟨⟨x,k 0 (by simp),h2⟩,aQ.bIO h3 fun i hi=>?_⟩
  have:=k (i+1) (by simpa using hi)
  rw[Nat.add_assoc,Nat.add_comm 1 i];exact this
theorem a5T {w:World} {T:Ty} {b:Nat}:∀ (l:List T.den) (off:Nat),(∀ i (h:i<l.length),aQ w (GW w) aN b (off+i*T.size) (enc T l[i]))→aQ w (GW w) aN b off (aM T l)
 | [],off,_=>by show aQ w _ aN b off []; rw[aQ]; trivial
 | a::l,off,h=>by
  show aQ w _ aN b off (enc T a++aM T l);refine aQ.app (by have:=h 0 (by simp); rw[Nat.zero_mul,Nat.add_zero]at this; exact this) ?_
  rw[yG];refine a5T l _ fun i hi=>?_
  have:=h (i+1) (by simpa using hi)
  rw[Nat.add_mul,Nat.one_mul,Nat.add_comm (i*_),← Nat.add_assoc]at this;exact this
theorem a6M {t e:TypeId} {T:Ty} (ht:P.underlying t=some (.slice e)) (hc:P.cellsOf t=1) (he:OpT P e T):OpT P t (.list T):=by
 refine⟨hc,fun H en w base spare held fuel cs x h=>?_⟩
 rcases DataW.trod_slice ht h with ⟨rfl,-⟩|⟨a,len,cap,elems,rest,n,-,rfl,-,-,hl,hm,hel,hx,-,-⟩
 ·refine⟨[],a1N ?_,⟨Nat.zero_le _,fun a ha=>(by simp at ha)⟩⟩
  rw[VR];refine⟨?_,rfl⟩;rw[VR];exact⟨none,0,rfl,Nat.le_refl _,fun k hk=>(by cases hk),.inl rfl⟩
 ·have each:∀ i,i<len→∃ q:T.den,∃ es,(∀ j (_:j<es.length),w.cell? ((a.add (i*T.size)).add j)=some es[j])∧VRs w (GW w) aN (enc T q) es∧WF T q:=by
   intro i hi;have h1:=hx i hi;rw[List.getElem?_eq_getElem (by omega)]at h1
   obtain⟨es,h2,h3⟩:=Option.bind_eq_some_iff.1 h1;obtain⟨q,hq⟩:=he.2 _ _ _ _ _ _ _ _ _ h3;rw[he.1]at h2;obtain⟨-,hlen,hcell⟩:=World.cells?_some h2;refine⟨q,es,fun j hj=>?_,hq⟩
   rw[hcell j (by omega),List.getElem?_eq_getElem hj]
  by_cases h0:len=0
  ·subst h0
   refine⟨[],a1N ?_,⟨Nat.zero_le _,fun a ha=>(by simp at ha)⟩⟩
   rw[VR];refine⟨?_,rfl⟩;rw[VR];exact⟨some a,cap,rfl,hl,fun k hk=>(by cases hk),.inl rfl⟩
  ·have hne:Nonempty T.den:=let ⟨q,_⟩:=each 0 (by omega); ⟨q⟩
   have key:∃ f:Nat→T.den,∀ i,i<len→∃ es,(∀ j (_:j<es.length),w.cell? ((a.add (i*T.size)).add j)=some es[j])∧VRs w (GW w) aN (enc T (f i)) es∧WF T (f i):=by
    classical
    refine⟨fun i=>if hi:i<len then Classical.choose (each i hi) else Classical.choice hne,fun i hi=>?_⟩
    simp only[dif_pos hi];exact Classical.choose_spec (each i hi)
   obtain⟨f,hf⟩:=key;obtain⟨b,off,spot⟩:=a;have hfirst:∃ v,w.cell? ⟨b,off,spot⟩=some v:=by
    obtain⟨es,h1,h2,-⟩:=hf 0 (by omega)
    have hpos:0<es.length:=by rw[← VRs.length h2,yG]; exact T.size_pos
    have:=h1 0 hpos;exact⟨_,by simpa[Addr.add]using this⟩
   have hspot:spot=none:=by
    obtain⟨v,hv⟩:=hfirst;simpa using World.cell?_spot hv
   subst hspot;have hb:b<w.heap.size:=by
    obtain⟨v,hv⟩:=hfirst;cases hh:w.heap[b]? with
    | none=>simp[World.cell?,hh]at hv
    | some o=>exact iA hh
   refine⟨(List.range len).map f,a1N ?_,?_⟩
   ·rw[VR]
    refine⟨?_,rfl⟩;rw[VR];refine⟨some ⟨b,off,none⟩,cap,by simp,by simpa using hl,fun k hk=>(by cases hk),.inr ⟨b,off,rfl,hb,?_⟩⟩
    refine a5T _ _ fun i hi=>?_
    have hi':i<len:=by simpa using hi
    obtain⟨es,h1,h2,-⟩:=hf i hi';have e1:((List.range len).map f)[i]=f i:=by simp
    rw[e1];refine aQ.bIO h2 fun j hj=>?_
    have:=h1 j hj;rw[a0T,a0T]at this;exact this
   ·refine⟨by simpa using Nat.le_trans hl hm,?_⟩
    intro q hq;obtain⟨i,hi,rfl⟩:=List.mem_map.1 hq;obtain⟨es,-,-,h3⟩:=hf i (by simpa using hi)
    exact h3
def a7B(P:Program):List Field→Nat→Ty→Prop
 | [],_,_=>False
 | [f],off,T=>f.offset=off∧OpT P f.type T
 | f::g::r,off,.prod a b=>f.offset=off∧OpT P f.type a∧a7B P (g::r) (off+a.size) b
 | _::_::_,_,_=>False
theorem a0V {w:World}:∀ (fs:List Field) (off:Nat) (T:Ty) (cs:List Value),a7B P fs off T→cs.length=off+T.size→(∀ f∈fs,∀ A:Ty,OpT P f.type A→∃ a:A.den,VRs w (GW w) aN (enc A a) ((cs.drop f.offset).take A.size)∧WF A a) →
  ∃ a:T.den,VRs w (GW w) aN (enc T a) (cs.drop off)∧WF T a
 | [],_,_,_,h,_,_=>h.elim
 | [f],off,T,cs,h,hl,hx=>by
  obtain⟨rfl,h2⟩:=h;obtain⟨a,h3,h4⟩:=hx f (by simp) T h2
  rw[List.take_of_length_le (by simp; omega)]at h3
  exact⟨a,h3,h4⟩
 | f::g::r,off,.prod A B,cs,h,hl,hx=>by
  obtain⟨rfl,h2,h3⟩:=h;obtain⟨a,h4,h5⟩:=hx f (by simp) A h2
  obtain⟨b,h6,h7⟩:=a0V (g::r) _ B cs h3 (by rw[hl,Ty.size]; omega) (fun k hk=>hx k (List.mem_cons_of_mem _ hk))
  refine⟨(a,b),?_,h5,h7⟩;have:=VRs.append h4 h6;rw[← List.drop_drop,List.take_append_drop]at this;exact this
 | _::_::_,_,.int _,_,h,_,_=>h.elim
 | _::_::_,_,.bool,_,h,_,_=>h.elim
 | _::_::_,_,.str,_,h,_,_=>h.elim
 | _::_::_,_,.list _,_,h,_,_=>h.elim
theorem aP7 {t:TypeId} {fs:Array Field} {T:Ty} (ht:P.underlying t=some (.struct fs)) (hc:P.cellsOf t=T.size) (hf:a7B P fs.toList 0 T):OpT P t T:=by
 refine⟨hc,fun H en w base spare held fuel cs x h=>?_⟩
 obtain⟨xs,n,-,-,hl,hx,hi⟩:=DataW.trod_struct ht h;obtain⟨a,h1,h2⟩:=a0V (w:=w) fs.toList 0 T cs hf (by rw[hl,hc,Nat.zero_add]) (fun f hf A hA=>by
  obtain⟨i,hi',rfl⟩:=List.getElem_of_mem hf;have hs:i<fs.size:=by simpa using hi'
  have h3:=hi i fs[i] (by simp[hs])
  rw[List.getElem?_eq_getElem (by omega)]at h3
  have hA1:=hA.1;simp only[Array.getElem_toList]at hA1 hA ⊢;rw[hA1]at h3;exact hA.2 _ _ _ _ _ _ _ _ _ h3)
 exact⟨a,by simpa using h1,h2⟩
def Ty.arr (T:Ty):Nat→Ty
 | 0=>T
 | n+1=>.prod T (Ty.arr T n)
theorem bAS(T:Ty):∀ n,(Ty.arr T n).size=(n+1)*T.size
 | 0=>by simp[Ty.arr]
 | n+1=>by simp only[Ty.arr,Ty.size,bAS T n]; rw[Nat.add_mul (n+1) 1]; omega
theorem bE4 {w:World} {T:Ty} {cs:List Value}:∀ (n i:Nat),cs.length=(i+n+1)*T.size→(∀ j,i≤j→j<i+n+1→∃ a:T.den,VRs w (GW w) aN (enc T a) ((cs.drop (j*T.size)).take T.size)∧WF T a) →
  ∃ a:(Ty.arr T n).den,VRs w (GW w) aN (enc (Ty.arr T n) a) (cs.drop (i*T.size))∧WF (Ty.arr T n) a
 | 0,i,hl,hx=>by
  obtain⟨a,h3,h4⟩:=hx i (Nat.le_refl _) (by omega)
  rw[List.take_of_length_le (by rw[List.length_drop,hl,Nat.add_zero,Nat.add_mul,Nat.one_mul]; omega)]at h3
  exact⟨a,h3,h4⟩
 | n+1,i,hl,hx=>by
  obtain⟨a,h4,h5⟩:=hx i (Nat.le_refl _) (by omega)
  obtain⟨b,h6,h7⟩:=bE4 n (i+1) (by rw[hl]; congr 1; omega) (fun j h1 h2=>hx j (by omega) (by omega))
  refine⟨(a,b),?_,h5,h7⟩;have:=VRs.append h4 h6;rw[Nat.add_mul,Nat.one_mul,← List.drop_drop,List.take_append_drop]at this;exact this
theorem a54 {t e:TypeId} {n:Nat} {T:Ty} (ht:P.underlying t=some (.array (n+1) e)) (hc:P.cellsOf t=(n+1)*T.size) (he:OpT P e T):OpT P t (Ty.arr T n):=by
 refine⟨by rw[hc,bAS],fun H en w base spare held fuel cs x h=>?_⟩
 obtain⟨xs,m,-,-,hl,hx,hi⟩:=DataW.trod_array ht h;rw[he.1]at hi;obtain⟨a,h1,h2⟩:=bE4 (w:=w) (T:=T) (cs:=cs) n 0 (by rw[hl,hc,Nat.zero_add]) (fun j _ h2=>by
  have h3:=hi j (by omega)
  rw[List.getElem?_eq_getElem (by omega)]at h3
  exact he.2 _ _ _ _ _ _ _ _ _ h3)
 exact⟨a,by simpa using h1,h2⟩
def OpK(P:Program) (t:TypeId) (k:Kd) (W:k.den→Prop):Prop :=
 ∀ {H:Type} {en:TypeId×Value→H} {w:World} {base b0:Nat} {spare:Nat→Bool} {held:Bool} {r:Reach} {v:Value} {d:DataW H} {p:List MemPlace},
  Value.okWide P w r b0 t v→DataW.Trod en P w base spare held t v d p→∃ x:k.den,VR w (GW w) aN (D5 k x 0) v∧W x
theorem bLH {t:TypeId} {T:Ty} (hs:∀ (w:World) (r:Reach) (b0:Nat) (v:Value),Value.okWide P w r b0 t v→∃ cs,v=.agg cs) (he:OpT P t T):OpK P t (.agg T) (WF T):=by
 intro H en w base b0 spare held r v d p hv h;obtain⟨cs,rfl⟩:=hs _ _ _ _ hv;obtain⟨fuel,hf⟩:=h;obtain⟨l,h1,h2⟩:=he.2 _ _ _ _ _ _ _ _ _ hf;refine⟨l,?_,h2⟩;rw[D5,VR];exact⟨cs,rfl,h1⟩
theorem bCI {t:TypeId} {fs:Array Field} {T:Ty} (ht:P.underlying t=some (.struct fs)) (he:OpT P t T):OpK P t (.agg T) (WF T) :=
 bLH (fun w r b0 v h=>by obtain⟨cs,h1,-⟩:=okWide_struct ht h; exact⟨cs,h1⟩) he
theorem bIS {g:FuncId} {args:List Kd} {f:aJ args→Option (aJ [.bool])} (hf:eB P g args [.bool] f) {x:aJ args} (hx:f x=some (true,())) {w:World} (hT:Lt w fun b=>b<w.heap.size) {vs:Array Value} (hv:VRs w (GW w) aN (qA args x) vs.toList) :
  Calls P g vs w fun e w'=>e=.returned (.bool true)∧Below w.heap.size w w':=by
 obtain⟨-,h⟩:=hf x _ hx w (fun b=>b<w.heap.size) vs hT hv
 refine h.mono ?_;rintro e w' ⟨v',G',rfl,e1,-,e3⟩;refine⟨?_,e1.os,e1.tape,e1.output,e1.size,fun b hb=>e1.old b hb (Nat.not_le.2 hb)⟩
 have e3:VR w' (Gd.of G') aN (.lit (.bool true)) v':=e3;rw[VR]at e3;rw[e3]
theorem bIR {w:World} {G:Gd} {p:PV} {v:Value} {ps:List PV} {vs:List Value} (h:VR w G aN p v) (k:VRs w G aN ps vs):VRs w G aN (p::ps) (v::vs):=by
 rw[VRs]; exact⟨v,vs,rfl,h,k⟩
theorem bKO {w:World} {G:Gd}:VRs w G aN [] []:=by rw[VRs]
end
end Go.PM
namespace Go.PM
open Go Go.ChangeShapes Go.WideShapes Go.ChangeAt Go.RowKit Go.Joins
theorem a4R {H:Type} {enc:TypeId×Value→H} {P:Program} (hl:laidOutB P=true) {W W':World} (hb:Below W.heap.size W W') :
  ∀ (ts:List TypeId) (vs:List Value) (ds:List (DataW H)) (ps:List MemPlace),(∀ t∈ts,P.readableRec t=true∧t<P.types.size)→(∀ x∈ps,x.block<W.heap.size) →
   DataW.TrodAll enc P W 0 (fun _=>true) true ts vs ds ps→DataW.TrodAll enc P W' 0 (fun b=>decide (b<W.heap.size)) true ts vs ds ps
 | [],vs,ds,ps,_,_,h=>by
  unfold DataW.TrodAll at h ⊢;split at h <;> simp_all
 | t::ts,vs,ds,ps,ht,hlt,h=>by
  obtain⟨v,vs',d,ds',p,q,rfl,rfl,rfl,h1,h2⟩:=trodAll_cons h;exact⟨p,q,Below.trod hl (ht t (by simp)).1 (ht t (by simp)).2 h1 hb (fun x hx=>hlt x (by simp[hx])),a4R hl hb ts vs' ds' q (fun t h=>ht t (by simp[h])) (fun x hx=>hlt x (by simp[hx])) h2,rfl⟩
theorem bA3 {P:Program} {ts:List TypeId} (h:(ts.all fun t=>P.readableRec t&&decide (t<P.types.size))=true):∀ t∈ts,P.readableRec t=true∧t<P.types.size:=by
 intro t ht;have:=List.all_eq_true.1 h t ht;simpa using this
theorem bDE {H:Type} {enc:TypeId×Value→H} {P:Program} {f:Func} {s:ChangeSpec} {W W':World} {args:Array Value} {ds:List (DataW H)} {p:List MemPlace} {tb:TypeId} (hl:laidOutB P=true)
  (hts:∀ t∈f.params.toList,P.readableRec t=true∧t<P.types.size) (hr:f.resultTypes=#[tb]) (htb:P.underlying tb=some .bool)
  (hf1:(s.fn H (ds++[])).results=[.lit (.bool true)]) (hf2:(s.fn H (ds++[])).args=ds) (hf3:(s.fn H (ds++[])).vars=[]) (hv:s.vars=[])
  (hW:DataW.Whole enc P f.params.toList s.vars false W args.toList ds [] p) (hb:Below W.heap.size W W') :
  ∃ v,Ending.returned (.bool true)=Ending.returned v∧s.post enc P f false true false false W args v W':=by
 have hW':=hW;obtain⟨q,q',hA,hV,rfl,-,-⟩:=hW;refine⟨_,rfl,ds,[],_,[],q,[],hW',?_,?_,?_,hb.frame _,fun h=>by cases h⟩
 ·rw[hf1,hr]; exact trodAll_mk1 (shut_bool htb true)
 ·rw[hf2]; exact a4R hl hb _ _ _ _ hts (fun x hx=>hW'.lt x (by simp[hx])) hA
 ·rw[hf3,hv]; rfl
end Go.PM
namespace Go.Proofs.YtmghkhgpkefgeaaGreatDoor
theorem Tryz.own:ownKnob Tryz.prog.godebug=none:=by kernel_rfl
theorem Tryz.laidOut:laidOutB Tryz.prog=true:=by kernel_rfl
end Go.Proofs.YtmghkhgpkefgeaaGreatDoor
namespace Go.Proofs.YtmghkhgpkefgeaaGreatDoor
open Go Go.ChangeShapes Go.WideShapes Go.ChangeAt Go.RowKit Go.Joins Go.PM
set_option maxRecDepth 100000
abbrev bAW:List (String×DataW Unit):=[("math/bits.deBruijn32tab",Rows.laid_math_bits_deBruijn32tab),("math/bits.deBruijn64tab",Rows.laid_math_bits_deBruijn64tab),("internal/strconv.uint64pow10",Rows.laid_internal_strconv_uint64pow10),("strconv.ErrRange",Rows.laid_strconv_ErrRange),("strconv.ErrSyntax",Rows.laid_strconv_ErrSyntax)]
theorem bKH(os:Os) (args:Array Value):laidMetH Tryz.prog bAW ((World.doorLaid Tryz.prog 4000 os).forCall (fun _ _=>0) ⟨#[],args,[]⟩).memory :=
 laidMetH_of_parts3 (fuel:=8) (laidMet_of_run' 8 (by kernel_rfl) (by kernel_rfl)) (by kernel_rfl) (by kernel_rfl)
theorem bA6 {H:Type} {enc:TypeId×Value→H} {P:Program} {w:World} {base:Nat} {sp:Nat→Bool} {fuel:Nat} {t:TypeId} {ms} {cs:List Value} {n:String} {d:DataW H} {p:List MemPlace}
  (ht:P.underlying t=some (.interface ms)) (h:DataW.trod enc P w base sp false fuel t cs=some (.iface n d,p)):∃ u v,cs=[.iface u v]:=by
 cases fuel with
 | zero=>simp[DataW.trod]at h
 | succ fuel =>
  simp only[DataW.trod,ht]at h;split at h <;> first
   | exact⟨_,_,rfl⟩
   | (exfalso; simp_all; done)
theorem bAB {P:Program} {w:World} {n:String} {g:Nat} {cs:Array Value} (hg:P.globalNamed n=some g) (h:w.var? P n=some cs):∃ t fr,w.heap[g]?=some (.cells cs t fr):=by
 unfold World.var? at h;rw[hg]at h;simp only[Option.bind_some]at h;split at h
 ·rename_i c t fr e
  cases h;exact⟨t,fr,e⟩
 ·cases h
theorem a2K {w:World} {n:String} {g:Nat} {t:TypeId} {ms} {m:String} {d:DataW Unit} (hg:Tryz.prog.globalNamed n=some g) (hty:(Tryz.prog.globals[g]?).map (·.type)=some t) (ht:Tryz.prog.underlying t=some (.interface ms))
  (h:Lib.VarReads Tryz.prog w n (.iface m d)):aY5 w.heap[g]?:=by
 obtain⟨g',t',cs,fuel,p,hg',ht',hvar,hd⟩:=h;obtain rfl:=Option.some.inj (hg.symm.trans hg');obtain rfl:=Option.some.inj (hty.symm.trans ht');obtain⟨u,v,e⟩:=bA6 ht hd;obtain⟨t2,fr,e2⟩:=bAB hg hvar;refine⟨u,v,t2,fr,?_⟩;rw[e2]
 congr 2
 exact Array.toList_inj.1 e
theorem bLB {w:World} (h:laidMetH Tryz.prog bAW w):Lt w fun b=>b<w.heap.size:=by
 rw[MakeChecks.laidMetH_plain _ _ _ (by kernel_rfl)]at h
 have lt:∀ {g:Nat} {q:Option Obj→Prop},q w.heap[g]?→¬ q none→g<w.heap.size:=fun {g q} h1 h2=>by
  rcases Nat.lt_or_ge g w.heap.size with h|h
  ·exact h
  ·rw[Array.getElem?_eq_none h]at h1
   exact absurd h1 h2
 have nIf:¬ aY5 none:=fun⟨_,_,_,_,e⟩=>by cases e
 refine⟨fun _ h=>h,fun p hp=>?_⟩
 have main:p.2 w.heap[p.1]?∧¬ p.2 none:=by
  rcases List.mem_cons.1 hp with rfl|hp
  ·refine⟨?_,fun⟨_,_,e⟩=>by cases e⟩
   obtain⟨g',t',cs,fuel,q,hg',ht',hvar,hd⟩:=Lib.laidMet.reads h (n:= "internal/strconv.uint64pow10") (d:=Rows.laid_internal_strconv_uint64pow10) (.tail _ (.tail _ (.head _)));obtain rfl:=Option.some.inj ((show Tryz.prog.globalNamed "internal/strconv.uint64pow10"=some 2 by kernel_rfl).symm.trans hg')
   have hd:DataW.trod (fun _=>()) Tryz.prog w 0 (fun _=>true) false fuel t' cs.toList=some (Lib.tabData .u64 [1,10,100,1000,10000,100000,1000000,10000000,100000000,1000000000,10000000000,100000000000,1000000000000,10000000000000,100000000000000,1000000000000000,10000000000000000,100000000000000000,1000000000000000000,10000000000000000000],q):=hd
   obtain⟨t,hty⟩:∃ t,(Tryz.prog.globals[2]?).map (·.type)=some t:=⟨_,ht'⟩;obtain rfl:=Option.some.inj (hty.symm.trans ht');have hcs:=Lib.cells_of_tab (P:=Tryz.prog) (t:=275) (e:=180) (n:=20) Tryz.underlying275 Tryz.underlying180 (by kernel_rfl) (by kernel_rfl) (show DataW.trod (fun _=>()) Tryz.prog w 0 (fun _=>true) false fuel 275 cs.toList=_ by
    rw[← Option.some.inj ((show (Tryz.prog.globals[2]?).map (·.type)=some 275 by kernel_rfl).symm.trans hty)]at hd
    exact hd)
   obtain⟨t2,fr,e2⟩:=bAB (by kernel_rfl) hvar
   refine⟨t2,fr,?_⟩;rw[e2]
   congr 2
   exact Array.toList_inj.1 hcs
  ·rcases List.mem_cons.1 hp with rfl|hp
   ·exact⟨a2K (n:= "strconv.ErrSyntax") (t:=219) (by kernel_rfl) (by kernel_rfl) Tryz.underlying219 (Lib.laidMet.reads h (.tail _ (.tail _ (.tail _ (.tail _ (.head _)))))),nIf⟩
   ·rcases List.mem_cons.1 hp with rfl|hp
    ·exact⟨a2K (n:= "strconv.ErrRange") (t:=219) (by kernel_rfl) (by kernel_rfl) Tryz.underlying219 (Lib.laidMet.reads h (.tail _ (.tail _ (.tail _ (.head _))))),nIf⟩
    ·cases hp
 exact⟨lt main.1 main.2,main.1⟩
end Go.Proofs.YtmghkhgpkefgeaaGreatDoor
namespace Go.PM
open Go Go.RowKit
structure Ent where
 g:FuncId
 args:List Kd
 rets:List Kd
 f:aJ args→Option (aJ rets)
def Ent.OK (P:Program) (e:Ent):Prop:=eB P e.g e.args e.rets e.f
def a42:List Ent→FuncId→List PV→Option Res
 | [],_,_=>none
 | e::r,g,qs=>bif Nat.beq e.g g then (match bER e.args e.rets e.f qs with
   | some s=>some s
   | none=>a42 r g qs)
  else a42 r g qs
def b8(l:List Ent):Env:=⟨a42 l,fun _ _ _=>none,fun _=>false⟩
theorem aTF {P:Program}:∀ {l:List Ent},(∀ e∈l,e.OK P)→∀ g qs r,a42 l g qs=some r→∀ y,r.val=some y→RZ P g qs (r.out y)
 | [],_,g,qs,r,h=>by cases h
 | e::l,hl,g,qs,r,h=>by
  simp only[a42]at h;cases hb:Nat.beq e.g g with
  | true =>
   rw[hb]at h;have:=Nat.eq_of_beq_eq_true hb;subst this;cases hs:bER e.args e.rets e.f qs with
   | some s =>
    rw[hs]at h;have h:=Option.some.inj h;subst h;exact bH6 (hl e List.mem_cons_self) hs
   | none =>
    rw[hs]at h;exact aTF (fun e he=>hl e (List.mem_cons_of_mem _ he)) _ qs r h
  | false =>
   rw[hb]at h;exact aTF (fun e he=>hl e (List.mem_cons_of_mem _ he)) g qs r h
theorem bIK {P:Program} {l:List Ent} (hl:∀ e∈l,e.OK P):bE P (b8 l) where
 pure:=aTF hl
 shr:=fun _ _ _ _ h=>by cases h
def a6U(P:Program):List Ent→Prop
 | []=>True
 | e::r=>e.OK P∧a6U P r
theorem aQ7 {P:Program}:∀ {l:List Ent},a6U P l→∀ e∈l,e.OK P
 | [],_,e,he=>by simp at he
 | a::r,h,e,he=>by
  rcases List.mem_cons.1 he with rfl|he
  ·exact h.1
  ·exact aQ7 h.2 e he
theorem bF {P:Program} {l:List Ent} (h:a6U P l):bE P (b8 l):=bIK (aQ7 h)
def a8E(P:Program) (nt:Nat) (lt:Nat→Option aS):List Code→Prop
 | []=>True
 | a::r=>(∀ s,lt (aH a)=some s→cF P nt a s)∧a8E P nt lt r
theorem aW7 {P:Program} {nt:Nat} {lt:Nat→Option aS}:∀ {l:List Code},a8E P nt lt l→∀ a∈l,∀ s,lt (aH a)=some s→cF P nt a s
 | [],_,a,ha=>by simp at ha
 | b::r,h,a,ha=>by
  rcases List.mem_cons.1 ha with rfl|ha
  ·exact h.1
  ·exact aW7 h.2 a ha
theorem aE {P:Program} {nt:Nat} {lt:Nat→Option aS} {c:Code} {l:List Code} (hc:aF c=l) (h:a8E P nt lt l):∀ a∈aF c,∀ s,lt (aH a)=some s→cF P nt a s:=by
 rw[hc]; exact aW7 h
theorem cB {P:Program} {nt:Nat} {lt:Nat→Option aS} {a:Code} {i:Nat} {s0:aS} (hf:aH a=i) (hlt:lt i=some s0) (h:cF P nt a s0):∀ s,lt (aH a)=some s→cF P nt a s:=by
 intro s hs;rw[hf,hlt]at hs;cases hs;exact h
def aT(fn:Func):Code:=match fn.body with
 | some c=>c
 | none=>.skip
def dS(c:Code) (i:Nat):Code:=(aF c).getD i .skip
def bKV(l:List Func):Bool:=l.all fun f=>!(f.name== "runtime.NumGoroutine")
theorem bF6 {P:Program} (h1:P.follows .mixedOrders=true) (h2:bKV P.funcs.toList=true):XL P where
 mixed:=h1
 names g fn hg:=by
  have hm:fn∈P.funcs.toList:=by
   rw[← Array.getElem?_toList]at hg;exact List.mem_of_getElem? hg
  have:=List.all_eq_true.1 h2 fn hm;simpa using this
theorem aVN {α:Type 1} {b:Bool} {x:Option α} {y:α} (h:(bif b then x else none)=some y):b=true∧x=some y:=by
 cases b with
 | true=>exact⟨rfl,h⟩
 | false=>cases h
abbrev Shr:=FuncId×(List PV→Heap→Option a16)
def zK(P:Program) (s:Shr):Prop:=SortOKs P s.1 s.2
where SortOKs (P:Program) (g:FuncId) (f:List PV→Heap→Option a16):Prop:=∀ args H r,f args H=some r→∀ y,r.val=some y→∀ {n0 G μ w vs},bC n0 G μ H w→VRs w G μ args vs→CC P n0 w G μ g vs.toArray (r.out y).1 (r.out y).2
def bJU(p:PV) (H:Heap):Option (PV×Heap):=match p with
 | .own s _=>match l7 H s with
  | some k=>match k.tag with
   | some g=>some (W8 g.t g.l none,QH H s)
   | none=>none
  | none=>none
 | _=>none
def LF:List PV→Heap→List PV×Heap
 | [],H=>([],H)
 | p::r,H=>match bJU p H with
  | some (q,H0)=>(q::(LF r H0).1,(LF r H0).2)
  | none=>(p::(LF r H).1,(LF r H).2)
def aAO(skip:Nat) (f:List PV→Heap→Option a16) (qs:List PV) (H:Heap):Option a16:=match LF (qs.drop skip) H with
 | (ps,H1)=>f (qs.take skip++ps) H1
theorem bFY {n0:Nat→Prop} {G:Gd} {μ:Mp} {H:Heap} {w:World} (hW:bC n0 G μ H w) {s sz:Nat} {k:Blk} {g:Tg} {v:Value} (hv:VR w G μ (.own s sz) v) (hk:l7 H s=some k) (hg:k.tag=some g) :
  ∃ G',Ext n0 w G μ w G' μ∧bC n0 G' μ (QH H s) w∧VR w G' μ (W8 g.t g.l none) v:=by
 have hfo:QH H s=(bif k.frozen then H else H.set s (some { k with frozen:=true })):=by unfold QH; rw[hk]
 rw[hfo];cases hfz:k.frozen with
 | true =>
  refine⟨G,Ext.refl _ _ _ _,hW,(LP hW hv hk hg (fun b h=>h) (fun b hb=>?_)).bN⟩
  obtain⟨_,_,_,_,h5,_⟩:=hW.blk s k b (aP hk) hb;exact h5 hfz
 | false =>
  obtain⟨e1,w1⟩:=aBF hW (aP hk) hfz;exact⟨_,e1,w1,(LP (G':=G.or fun x=>μ.loc s=some x) hW hv hk hg (fun b h=>.inl h) (fun b hb=>.inr hb)).bN⟩
theorem aCK {n0:Nat→Prop} {μ:Mp} {w:World}:∀ (qs:List PV) {H:Heap} {G:Gd} {vs:List Value},bC n0 G μ H w→VRs w G μ qs vs→∃ G',Ext n0 w G μ w G' μ∧bC n0 G' μ (LF qs H).2 w∧VRs w G' μ (LF qs H).1 vs
 | [],H,G,vs,hW,hv=>⟨G,Ext.refl _ _ _ _,hW,hv⟩
 | p::r,H,G,vs,hW,hv=>by
  rw[VRs]at hv;obtain⟨u,us,rfl,q1,q2⟩:=hv;have plain:∃ G',Ext n0 w G μ w G' μ∧bC n0 G' μ (LF r H).2 w∧VRs w G' μ (p::(LF r H).1) (u::us):=by
   obtain⟨G',e,h1,h2⟩:=aCK r hW q2;exact⟨G',e,h1,by rw[VRs]; exact⟨u,us,rfl,VR.mono e.toMono _ _ q1,h2⟩⟩
  rw[LF];cases hz:bJU p H with
  | none=>exact plain
  | some x =>
   obtain⟨q,H0⟩:=x;obtain⟨G1,e1,w1,v1⟩:∃ G',Ext n0 w G μ w G' μ∧bC n0 G' μ H0 w∧VR w G' μ q u:=by
    unfold bJU at hz;split at hz
    ·split at hz
     ·rename_i k hk
      split at hz
      ·rename_i g hg
       cases hz;exact bFY hW q1 hk hg
      ·cases hz
     ·cases hz
    ·cases hz
   obtain⟨G2,e2,w2,v2⟩:=aCK r w1 (VRs.mono e1.toMono _ _ q2);exact⟨G2,e1.trans e2,w2,by rw[VRs]; exact⟨u,us,rfl,VR.mono e2.toMono _ _ v1,v2⟩⟩
theorem a4S {w:World} {G:Gd} {μ:Mp}:∀ (ps:List PV) {qs:List PV} {vs:List Value},VRs w G μ (ps++qs) vs→∃ v1 v2,vs=v1++v2∧VRs w G μ ps v1∧VRs w G μ qs v2
 | [],qs,vs,h=>⟨[],vs,rfl,by rw[VRs],h⟩
 | p::ps,qs,vs,h=>by
  rw[List.cons_append,VRs]at h;obtain⟨u,us,rfl,h1,h2⟩:=h;obtain⟨v1,v2,rfl,h3,h4⟩:=a4S ps h2;exact⟨u::v1,v2,rfl,by rw[VRs]; exact⟨u,v1,rfl,h1,h3⟩,h4⟩
theorem uK {P:Program} {g:FuncId} {skip:Nat} {f:List PV→Heap→Option a16} (hf:zK P (g,f)):zK P (g,aAO skip f):=by
 intro qs H rh h y hy n0 G μ w vs hW hv;have h:f (qs.take skip++(LF (qs.drop skip) H).1) (LF (qs.drop skip) H).2=some rh:=h;have hv:VRs w G μ (qs.take skip++qs.drop skip) vs:=by rw[List.take_append_drop]; exact hv
 obtain⟨v1,v2,rfl,hv1,hv2⟩:=a4S _ hv;obtain⟨G',e,h1,h2⟩:=aCK _ hW hv2;obtain⟨c1,c2⟩:=hf _ _ rh h y hy h1 ((VRs.mono e.toMono _ _ hv1).append h2);refine⟨c1,c2.mono ?_⟩;rintro e' w' ⟨v',G1,μ1,rfl,ee,hW',hvv⟩;exact⟨v',G1,μ1,rfl,e.trans ee,hW',hvv⟩
def bLF:List Shr→FuncId→List PV→Heap→Option a16
 | [],_,_,_=>none
 | s::r,g,args,H=>bif Nat.beq g s.1 then s.2 args H else bLF r g args H
def shE:List Shr→FuncId→Bool
 | [],_=>false
 | s::r,g=>bif Nat.beq g s.1 then true else shE r g
def bDV(P:Program):List Shr→Prop
 | []=>True
 | s::r=>zK P s∧bDV P r
theorem bE0 {P:Program}:∀ {l:List Shr},bDV P l→∀ g args H r,bLF l g args H=some r→∀ y,r.val=some y→∀ {n0 G μ w vs},bC n0 G μ H w→VRs w G μ args vs→CC P n0 w G μ g vs.toArray (r.out y).1 (r.out y).2
 | [],_,g,args,H,r,h=>by cases h
 | s::l,hl,g,args,H,r,h=>by
  simp only[bLF]at h;cases hb:Nat.beq g s.1 with
  | true =>
   rw[hb]at h;have:=Nat.eq_of_beq_eq_true hb;subst this;exact hl.1 args H r h
  | false =>
   rw[hb]at h;exact bE0 hl.2 g args H r h
def R2(l:List Ent) (s:List Shr):Env:=⟨a42 l,bLF s,shE s⟩
theorem qF {P:Program} {l:List Ent} {s:List Shr} (h:a6U P l) (hs:bDV P s):bE P (R2 l s) where
 pure:=aTF (aQ7 h)
 shr:=bE0 hs
end Go.PM
namespace Go.PM
open Go Go.RowKit Go.Proofs
set_option maxRecDepth 100000
theorem aK:XL Tryz.prog:=bF6 (by kernel_rfl) (by kernel_rfl)
end Go.PM
namespace Go.PM
open Go Go.RowKit
def posOf:List Nat→Nat→Option Nat
 | [],_=>none
 | x::l,r=>bif Nat.beq x r then some 0 else match posOf l r with
  | some i=>some (i+1)
  | none=>none
def a1V:List Nat→Bool
 | []=>true
 | x::l=>(match posOf l x with|none=>true|some _=>false)&&a1V l
def QC(pm:List Nat):PV→Option PV
 | .lit v=>some (.lit v)
 | .vals cs n cap=>some (.vals cs n cap)
 | .iptr cs=>some (.iptr cs)
 | .tl t l cap e=>some (.tl t l cap e)
 | .tp t l i off e=>some (.tp t l i off e)
 | .row j lo n sz=>some (.row j lo n sz)
 | .rp j off=>some (.rp j off)
 | .mp j=>some (.mp j)
 | .junk=>some .junk
 | .hptr r off=>match posOf pm r with|some i=>some (.hptr i off)|none=>none
 | .hs r off len cap sz=>match posOf pm r with|some i=>some (.hs i off len cap sz)|none=>none
 | .own r sz=>match posOf pm r with|some i=>some (.own i sz)|none=>none
 | .op r j off sz=>match posOf pm r with|some i=>some (.op i j off sz)|none=>none
 | .win r lo n sz=>match posOf pm r with|some i=>some (.win i lo n sz)|none=>none
 | .agg cs=>match renPs pm cs with|some qs=>some (.agg qs)|none=>none
 | .tuple cs=>match renPs pm cs with|some qs=>some (.tuple qs)|none=>none
 | .clo fn f c=>match renPs pm f,renPs pm c with|some f',some c'=>some (.clo fn f' c')|_,_=>none
where renPs (pm:List Nat):List PV→Option (List PV)
 | []=>some []
 | p::ps=>match QC pm p,renPs pm ps with|some q,some qs=>some (q::qs)|_,_=>none
def a5R(pm:List Nat) (H:Heap):List Nat→Option Heap
 | []=>some []
 | r::l=>match l7 H r with
  | some k=>match (bif k.tag.isSome then some k else match QC.renPs pm k.cells with|some cs=>some { k with cells:=cs }|none=>none),a5R pm H l with
   | some k',some H'=>some (some k'::H')
   | _,_=>none
  | none=>none
def bJL(pm:List Nat) (F:Frm):List Nat→Option Frm
 | []=>some []
 | t::l=>match QC pm (fB F t),bJL pm F l with
  | some p,some F'=>some ((t,p)::F')
  | _,_=>none
def bML(T pm:List Nat):Bool:=T.all fun r=>match pm[r]? with
 | some s=>Nat.beq s r
 | none=>false
def a9C(T pm slots:List Nat) (F:Frm) (H:Heap):Option (Frm×Heap) :=
 bif a1V pm&&bML T pm then match a5R pm H pm,bJL pm F slots with
  | some H',some F'=>some (F',H')
  | _,_=>none
 else none
def aTS(s i:Nat) (et:TypeId) (ty:Ty) (H:Heap):Heap:=match l7 H s with
 | some k=>match k.cells.drop i with
  | .tl _ [] (some 0) _::rest=>bif !k.tag.isSome then ((H++[some ⟨aM ty [],et,true,false,some ⟨ty,[]⟩⟩]:Heap).set s (some { k with cells:=k.cells.take i++.own H.length ty.size::rest })) else H
  | .lit (.slice none m c)::rest=>bif Nat.beq m 0&&Nat.beq c 0&&!k.tag.isSome then ((H++[some ⟨aM ty [],et,true,false,some ⟨ty,[]⟩⟩]:Heap).set s (some { k with cells:=k.cells.take i++.own H.length ty.size::rest })) else H
  | _=>H
 | none=>H
def kD:List (Nat×Kd)→Frm→Heap→Frm×Heap
 | [],F,H=>(F,H)
 | (t,.own e ty)::r,F,H=>match fB F t with
  | .lit (.slice none m c)=>bif Nat.beq m 0&&Nat.beq c 0 then kD r ((t,.own H.length ty.size)::F) (H++[some ⟨aM ty [],e,true,false,some ⟨ty,[]⟩⟩]) else kD r F H
  | .tl _ [] (some 0) _=>kD r ((t,.own H.length ty.size)::F) (H++[some ⟨aM ty [],e,true,false,some ⟨ty,[]⟩⟩])
  | _=>kD r F H
 | (t,.bown e et ty)::r,F,H=>match fB F t with
  | .hptr s _=>match l7 H s with
   | some k=>match k.cells with
    | [.lit (.slice none m c)]=>bif Nat.beq m 0&&Nat.beq c 0&&!k.tag.isSome then kD r F ((H++[some ⟨aM ty [],et,true,false,some ⟨ty,[]⟩⟩]:Heap).set s (some { k with cells:=[.own H.length ty.size] })) else kD r F H
    | _=>kD r F H
   | none=>kD r F H
  | _=>kD r F H
 | (t,.bag _ t1 et ty _)::r,F,H=>match fB F t with
  | .hptr s _=>match l7 H s with
   | some k=>match k.cells.drop t1.size with
    | .tl _ [] (some 0) _::rest=>bif !k.tag.isSome then kD r F ((H++[some ⟨aM ty [],et,true,false,some ⟨ty,[]⟩⟩]:Heap).set s (some { k with cells:=k.cells.take t1.size++.own H.length ty.size::rest })) else kD r F H
    | .lit (.slice none m c)::rest=>bif Nat.beq m 0&&Nat.beq c 0&&!k.tag.isSome then kD r F ((H++[some ⟨aM ty [],et,true,false,some ⟨ty,[]⟩⟩]:Heap).set s (some { k with cells:=k.cells.take t1.size++.own H.length ty.size::rest })) else kD r F H
    | _=>kD r F H
   | none=>kD r F H
  | _=>kD r F H
 | (t,.bag2 _ t1 et ty eu u)::r,F,H=>match fB F t with
  | .hptr s _=>kD r F (aTS s (t1.size+1) eu u (aTS s t1.size et ty H))
  | _=>kD r F H
 | _::r,F,H=>kD r F H
def G6:List (Nat×Kd)→Frm→Heap→Frm×Heap
 | [],F,H=>(F,H)
 | (t,.box _ (.list _))::r,F,H=>match fB F t with
  | .hptr s _=>match l7 H s with
   | some k=>match k.cells with
    | [.own u sz]=>match l7 H u with
     | some ku=>match ku.tag with
      | some g=>bif !k.tag.isSome&&!Nat.beq u s then G6 r F (((H.set u (some { ku with frozen:=true }))).set s (some { k with cells:=[W8 g.t g.l none] })) else G6 r F H
      | none=>G6 r F H
     | none=>G6 r F H
    | _=>G6 r F H
   | none=>G6 r F H
  | _=>G6 r F H
 | _::r,F,H=>G6 r F H
def aLU:List (Nat×Kd)→Frm→Heap→Option (List Nat)
 | [],_,_=>some []
 | (t,.own _ _)::r,F,H=>match fB F t,aLU r F H with
  | .own s _,some l=>some (s::l)
  | _,_=>none
 | (t,.box _ _)::r,F,H=>match fB F t,aLU r F H with
  | .hptr s _,some l=>some (s::l)
  | _,_=>none
 | (t,.bown _ _ _)::r,F,H=>match fB F t,aLU r F H with
  | .hptr s _,some l=>match l7 H s with
   | some k=>match k.cells with
    | [.own u _]=>some (s::u::l)
    | _=>none
   | none=>none
  | _,_=>none
 | (t,.bag _ t1 _ _ _)::r,F,H=>match fB F t,aLU r F H with
  | .hptr s _,some l=>match l7 H s with
   | some k=>match k.cells.drop t1.size with
    | .own u _::_=>some (s::u::l)
    | _=>none
   | none=>none
  | _,_=>none
 | (t,.bag2 _ t1 _ _ _ _)::r,F,H=>match fB F t,aLU r F H with
  | .hptr s _,some l=>match l7 H s with
   | some k=>match k.cells.drop t1.size with
    | [.own u _,.own v _]=>some (s::u::v::l)
    | _=>none
   | none=>none
  | _,_=>none
 | (_,.ar _ _)::r,F,H=>match aOH 0 H,aLU r F H with
  | some (ra,_),some l=>some (ra::l)
  | _,_=>none
 | _::r,F,H=>aLU r F H
def FO(T:List Nat) (sh:List (Nat×Kd)) (F:Frm) (H:Heap):Option (Shape.den sh) :=
 match EW sh F H with
 | (F0,H0)=>match G6 sh F0 H0 with
  | (F1,H1)=>match kD sh F1 H1 with
   | (F2,H2)=>match aLU sh F2 H2 with
    | some pm=>match a9C T pm (slotsOf sh) F2 H2 with
     | some (F',H')=>bif Nat.beq H'.length (a2W sh) then bIV sh F' H' 0 else none
     | none=>none
    | none=>none
section
variable {P:Program} {n0:Nat→Prop} {w wi:World} {G Gi:Gd} {μ μi μ':Mp} {H:Heap} {F:Frm} {a:Act} {nt:Nat}
theorem PL:∀ {l:List Nat} {r i:Nat},posOf l r=some i→l[i]?=some r
 | [],r,i,h=>by cases h
 | x::l,r,i,h=>by
  simp only[posOf]at h;cases hb:Nat.beq x r with
  | true =>
   rw[hb]at h;simp only[cond_true,Option.some.injEq]at h;subst h;rw[Nat.eq_of_beq_eq_true hb]; rfl
  | false =>
   rw[hb]at h;simp only[cond_false]at h;split at h
   ·rename_i j hj
    simp only[Option.some.injEq]at h;subst h;simpa using PL hj
   ·cases h
theorem aRP:∀ {l:List Nat} {r i:Nat},posOf l r=none→l[i]?=some r→False
 | [],r,i,_,h=>by simp at h
 | x::l,r,i,hn,h=>by
  simp only[posOf]at hn;cases hb:Nat.beq x r with
  | true=>rw[hb]at hn; simp at hn
  | false =>
   rw[hb]at hn;simp only[cond_false]at hn;split at hn
   ·cases hn
   ·rename_i hp
    cases i with
    | zero =>
     simp only[List.getElem?_cons_zero,Option.some.injEq]at h;subst h; simp at hb
    | succ i=>exact aRP hp (by simpa using h)
theorem aPN:∀ {l:List Nat} {i j r:Nat},a1V l=true→l[i]?=some r→l[j]?=some r→i=j
 | [],i,j,r,_,h,_=>by simp at h
 | x::l,i,j,r,hn,h1,h2=>by
  simp only[a1V,Bool.and_eq_true]at hn;obtain⟨hp,hn⟩:=hn;have hx:posOf l x=none:=by
   cases hq:posOf l x with
   | none=>rfl
   | some k=>rw[hq]at hp; cases hp
  cases i with
  | zero =>
   simp only[List.getElem?_cons_zero,Option.some.injEq]at h1;subst h1;cases j with
   | zero=>rfl
   | succ j=>exact(aRP hx (by simpa using h2)).elim
  | succ i =>
   cases j with
   | zero =>
    simp only[List.getElem?_cons_zero,Option.some.injEq]at h2;subst h2;exact(aRP hx (by simpa using h1)).elim
   | succ j=>exact congrArg (·+1) (aPN (r:=r) hn (by simpa using h1) (by simpa using h2))
def aLG(μ:Mp) (pm:List Nat):Mp:=⟨fun i=>match pm[i]? with|some r=>μ.loc r|none=>none,fun i=>match pm[i]? with|some r=>μ.len r|none=>none⟩
theorem xZ {pm:List Nat} {i r:Nat} (h:pm[i]?=some r):(aLG μ pm).loc i=μ.loc r∧(aLG μ pm).len i=μ.len r:=by simp[aLG,h]
mutual
theorem bEE {pm:List Nat}:∀ (p q:PV) (v:Value),QC pm p=some q→VR w G μ p v→VR w G (aLG μ pm) q v
 | .lit u,q,v,h,hv=>by simp only[QC,Option.some.injEq]at h; subst h; rw[VR]at hv ⊢; exact hv
 | .vals ..,q,v,h,hv=>by simp only[QC,Option.some.injEq]at h; subst h; rw[VR]at hv ⊢; exact hv
 | .iptr _,q,v,h,hv=>by simp only[QC,Option.some.injEq]at h; subst h; rw[VR]at hv ⊢; exact hv
 | .tl ..,q,v,h,hv=>by simp only[QC,Option.some.injEq]at h; subst h; rw[VR]at hv ⊢; exact hv
 | .tp ..,q,v,h,hv=>by simp only[QC,Option.some.injEq]at h; subst h; rw[VR]at hv ⊢; exact hv
 | .row ..,q,v,h,hv=>by simp only[QC,Option.some.injEq]at h; subst h; rw[VR]at hv ⊢; exact hv
 | .rp ..,q,v,h,hv=>by simp only[QC,Option.some.injEq]at h; subst h; rw[VR]at hv ⊢; exact hv
 | .mp _,q,v,h,hv=>by simp only[QC,Option.some.injEq]at h; subst h; rw[VR]at hv ⊢; exact hv
 | .junk,q,v,h,hv=>by simp only[QC,Option.some.injEq]at h; subst h; rw[VR]; trivial
 | .hptr r off,q,v,h,hv=>by
  simp only[QC]at h;split at h
  ·rename_i i hi
   simp only[Option.some.injEq]at h;subst h;have:=xZ (μ:=μ) (PL hi);rw[VR]at hv ⊢; rw[this.1]; exact hv
  ·cases h
 | .hs r off l c s,q,v,h,hv=>by
  simp only[QC]at h;split at h
  ·rename_i i hi
   simp only[Option.some.injEq]at h;subst h;have:=xZ (μ:=μ) (PL hi);rw[VR]at hv ⊢; rw[this.1]; exact hv
  ·cases h
 | .own r s,q,v,h,hv=>by
  simp only[QC]at h;split at h
  ·rename_i i hi
   simp only[Option.some.injEq]at h;subst h;have:=xZ (μ:=μ) (PL hi);rw[VR]at hv ⊢; rw[this.1,this.2]; exact hv
  ·cases h
 | .op r j off s,q,v,h,hv=>by
  simp only[QC]at h;split at h
  ·rename_i i hi
   simp only[Option.some.injEq]at h;subst h;have:=xZ (μ:=μ) (PL hi);rw[VR]at hv ⊢; rw[this.1]; exact hv
  ·cases h
 | .win r lo n s,q,v,h,hv=>by
  simp only[QC]at h;split at h
  ·rename_i i hi
   simp only[Option.some.injEq]at h;subst h;have:=xZ (μ:=μ) (PL hi);rw[VR]at hv ⊢; rw[this.1,this.2]; exact hv
  ·cases h
 | .agg cs,q,v,h,hv=>by
  simp only[QC]at h;split at h
  ·rename_i qs hq
   simp only[Option.some.injEq]at h;subst h;rw[VR]at hv ⊢;obtain⟨vs,h1,h2⟩:=hv;exact⟨vs,h1,WW cs qs _ hq h2⟩
  ·cases h
 | .tuple cs,q,v,h,hv=>by
  simp only[QC]at h;split at h
  ·rename_i qs hq
   simp only[Option.some.injEq]at h;subst h;rw[VR]at hv ⊢;obtain⟨vs,h1,h2⟩:=hv;exact⟨vs,h1,WW cs qs _ hq h2⟩
  ·cases h
 | .clo fn f c,q,v,h,hv=>by
  simp only[QC]at h;split at h
  ·rename_i f' c' hf hc
   simp only[Option.some.injEq]at h;subst h;rw[VR]at hv ⊢;obtain⟨fs,cs,h1,h2,h3⟩:=hv;exact⟨fs,cs,h1,WW f f' _ hf h2,WW c c' _ hc h3⟩
  ·cases h
theorem WW {pm:List Nat}:∀ (ps qs:List PV) (vs:List Value),QC.renPs pm ps=some qs→VRs w G μ ps vs→VRs w G (aLG μ pm) qs vs
 | [],qs,vs,h,hv=>by
  simp only[QC.renPs,Option.some.injEq]at h;subst h;rw[VRs]at hv ⊢; exact hv
 | p::ps,qs,vs,h,hv=>by
  simp only[QC.renPs]at h;split at h
  ·rename_i q qs' hq hqs
   simp only[Option.some.injEq]at h;subst h;rw[VRs]at hv ⊢;obtain⟨x,xs,h1,h2,h3⟩:=hv;exact⟨x,xs,h1,bEE p q x hq h2,WW ps qs' xs hqs h3⟩
  ·cases h
end
theorem a5W {pm:List Nat}:∀ {l:List Nat} {H':Heap},a5R pm H l=some H'→H'.length=l.length∧∀ (i:Nat) (k':Blk),H'[i]?=some (some k')→∃ s k,l[i]?=some s∧H[s]?=some (some k)∧((k.tag.isSome=true∧k'=k)∨(k.tag=none∧∃ cs,QC.renPs pm k.cells=some cs∧k'={ k with cells:=cs }))
 | [],H',h=>by
  simp only[a5R,Option.some.injEq]at h;subst h;exact⟨rfl,fun i k' h=>by simp at h⟩
 | r::l,H',h=>by
  simp only[a5R]at h;split at h
  ·rename_i k hk
   split at h
   ·rename_i k1 H1 h1 h2
    simp only[Option.some.injEq]at h;subst h;obtain⟨e1,e2⟩:=a5W h2;refine⟨by simp[e1],fun i k' hi=>?_⟩
    cases i with
    | zero =>
     simp only[List.getElem?_cons_zero,Option.some.injEq]at hi;subst hi;refine⟨r,k,rfl,aP hk,?_⟩;cases ht:k.tag with
     | some g =>
      rw[ht]at h1;simp only[Option.isSome_some,cond_true,Option.some.injEq]at h1;exact .inl ⟨rfl,h1.symm⟩
     | none =>
      rw[ht]at h1;simp only[Option.isSome_none,cond_false]at h1;split at h1
      ·rename_i cs hcs
       simp only[Option.some.injEq]at h1;exact .inr ⟨rfl,cs,hcs,h1.symm⟩
      ·cases h1
    | succ i =>
     obtain⟨s,k0,a1,a2,a3⟩:=e2 i k' (by simpa using hi)
     exact⟨s,k0,by simpa using a1,a2,a3⟩
   ·cases h
  ·cases h
theorem bGP(hW:bC n0 G μ H w) {pm:List Nat} (hn:a1V pm=true) {H':Heap} (h:a5R pm H pm=some H'):bC n0 G (aLG μ pm) H' w:=by
 obtain⟨hlen,l7⟩:=a5W h;refine⟨?_,?_,?_,hW.lt,?_,hW.base,hW.rows.rel (fun r s=>pm[r]?=some s) (fun r r' s h1 h2=>aPN hn h1 h2) (fun r k' hr=>?_)⟩
 case refine_5 =>
  obtain⟨s,k,a1,a2,a3⟩:=l7 r k' hr;refine⟨s,k,a1,a2,?_⟩;rcases a3 with ⟨_,rfl⟩|⟨_,cs,_,rfl⟩
  ·exact⟨rfl,rfl,rfl,rfl,(xZ a1).1⟩
  ·exact⟨rfl,rfl,rfl,rfl,(xZ a1).1⟩
 ·intro r k' b hr hb
  obtain⟨s,k,a1,a2,a3⟩:=l7 r k' hr;rw[(xZ a1).1]at hb;obtain⟨c,c1,c2,c3,c4⟩:=hW.blk s k b a2 hb;rcases a3 with ⟨ht,rfl⟩|⟨ht,cs,hcs,rfl⟩
  ·refine⟨c,c1,?_,c3,c4⟩
   obtain⟨g,hg⟩:=Option.isSome_iff_exists.1 ht;have:=(hW.tags s k' g a2 hg).1;rw[this]at c2 ⊢;exact uO (lS _ _) c2
  ·obtain⟨vs,d1,d2⟩:=c2.values
   have d3:=WW _ _ _ hcs d1;exact⟨c,c1,aQ.qU d3 d2,fun hg=>by rw[c3 hg]; show k.cells.length=cs.length; rw[d1.length,d3.length],c4⟩
 ·intro r k' g hr hg
  obtain⟨s,k,a1,a2,a3⟩:=l7 r k' hr;rw[(xZ a1).2];rcases a3 with ⟨ht,rfl⟩|⟨ht,cs,hcs,rfl⟩
  ·exact hW.tags s k' g a2 hg
  ·dsimp only at hg; rw[ht]at hg; cases hg
 ·intro r1 r2 k1 k2 b e1 e2 f1 f2 m1 m2
  obtain⟨s1,l1,a1,a2,a3⟩:=l7 r1 k1 e1;obtain⟨s2,l2,b1,b2,b3⟩:=l7 r2 k2 e2;rw[(xZ a1).1]at m1;rw[(xZ b1).1]at m2;have fz:∀ {k k':Blk},k'.frozen=false→((k.tag.isSome=true∧k'=k)∨(k.tag=none∧∃ cs,QC.renPs pm k.cells=some cs∧k'={ k with cells:=cs }))→k.frozen=false:=by
   rintro k k' hf (⟨_,rfl⟩|⟨_,cs,_,rfl⟩)
   ·exact hf
   ·exact hf
  have:=hW.inj s1 s2 l1 l2 b a2 b2 (fz f1 a3) (fz f2 b3) m1 m2;subst this;exact aPN hn a1 b1
 ·intro r hr
  have:pm[r]?=none:=List.getElem?_eq_none (by omega)
  simp[aLG,this]
theorem bAO {pm:List Nat}:∀ {l:List Nat} {F':Frm},bJL pm F l=some F'→∀ t,fB F' t=.junk∨QC pm (fB F t)=some (fB F' t)
 | [],F',h,t=>by
  simp only[bJL,Option.some.injEq]at h;subst h;exact .inl rfl
 | s::l,F',h,t=>by
  simp only[bJL]at h;split at h
  ·rename_i p F1 hp hl
   simp only[Option.some.injEq]at h;subst h;rw[jV]
   by_cases hs:t=s
   ·subst hs; rw[if_pos rfl]; exact .inr hp
   ·rw[if_neg hs]; exact bAO hl t
  ·cases h
theorem a2S {T pm slots:List Nat} {F':Frm} {H':Heap} (h:a9C T pm slots F H=some (F',H')) (hfl:∀ r,¬ r∈T→μi.loc r=none∧μi.len r=none) (hI:I n0 wi Gi μi nt F H a w):I n0 wi Gi μi nt F' H' a w:=by
 unfold a9C at h;obtain⟨hn,h⟩:=aO h;simp only[Bool.and_eq_true]at hn;obtain⟨hn,hst⟩:=hn;have stay:∀ r,r∈T→pm[r]?=some r:=by
  intro r hr;have:=List.all_eq_true.1 hst r hr;split at this
  ·rename_i s hs
   rw[hs,Nat.eq_of_beq_eq_true this]
  ·cases this
 split at h
 ·rename_i H1 F1 h1 h2
  simp only[Option.some.injEq,Prod.mk.injEq]at h;obtain⟨rfl,rfl⟩:=h;obtain⟨G,μ,e,hW,hF⟩:=hI;refine⟨G,aLG μ pm,?_,bGP hW hn h1,hF.size,fun t=>?_,hF.defers⟩
  ·exact {
    good:=e.good
    map:=fun r b hr=>by
     by_cases hT:r∈T
     ·rw[(xZ (stay r hT)).1]; exact e.map r b hr
     ·rw[(hfl r hT).1]at hr; cases hr
    len:=fun r b hr=>by
     by_cases hT:r∈T
     ·rw[(xZ (stay r hT)).2]; exact e.len r b hr
     ·rw[(hfl r hT).2]at hr; cases hr
    room:=e.room
    row:=e.row
    os:=e.os
    tape:=e.tape
    output:=e.output
    size:=e.size
    old:=e.old
    new:=e.new }
  ·rcases bAO h2 t with h3|h3
   ·rw[h3,VR]; trivial
   ·exact bEE _ _ _ h3 (hF.slot t)
 ·cases h
theorem M3(hW:bC n0 G μ H w) {s:Nat} {k:Blk} {cs:List PV} (hs:H[s]?=some (some k)) (ht:k.tag=none) (hc:∀ b,aQ w G μ b 0 k.cells→aQ w G μ b 0 cs∧cs.length=k.cells.length) :
  bC n0 G μ (H.set s (some { k with cells:=cs })) w:=by
 have hsl:s<H.length:=(List.getElem?_eq_some_iff.1 hs).1;have key:∀ (r:Nat) (k':Blk),(H.set s (some { k with cells:=cs }))[r]?=some (some k')→(r=s∧k'={ k with cells:=cs })∨(r≠s∧H[r]?=some (some k')):=by
  intro r k' hr
  by_cases hrs:s=r
  ·subst hrs; rw[List.getElem?_set_self hsl]at hr; cases hr; exact .inl ⟨rfl,rfl⟩
  ·rw[List.getElem?_set_ne hrs]at hr; exact .inr ⟨Ne.symm hrs,hr⟩
 refine⟨?_,?_,?_,hW.lt,fun r hr=>hW.top r (by simpa using hr),hW.base,hW.rows.rel (fun r s=>r=s) (fun r r' s h1 h2=>h1.trans h2.symm) (fun r k' hr=>?_)⟩
 case refine_4 =>
  rcases key r k' hr with ⟨rfl,rfl⟩|⟨_,hr⟩
  ·exact⟨r,k,rfl,hs,rfl,rfl,rfl,rfl,rfl⟩
  ·exact⟨r,k',rfl,hr,rfl,rfl,rfl,rfl,rfl⟩
 ·intro r k' b hr hb
  rcases key r k' hr with ⟨rfl,rfl⟩|⟨_,hr⟩
  ·obtain⟨c,c1,c2,c3,c4⟩:=hW.blk r k b hs hb
   obtain⟨d1,d2⟩:=hc b c2;exact⟨c,c1,d1,fun hg=>by show c.size=cs.length; rw[d2]; exact c3 hg,c4⟩
  ·exact hW.blk r k' b hr hb
 ·intro r k' g hr hg
  rcases key r k' hr with ⟨rfl,rfl⟩|⟨_,hr⟩
  ·dsimp only at hg; rw[ht]at hg; cases hg
  ·exact hW.tags r k' g hr hg
 ·intro r1 r2 k1 k2 b e1 e2 f1 f2 m1 m2
  have old:∀ (r:Nat) (k':Blk),(H.set s (some { k with cells:=cs }))[r]?=some (some k')→k'.frozen=false→∃ k0,H[r]?=some (some k0)∧k0.frozen=false:=by
   intro r k' hr hf;rcases key r k' hr with ⟨rfl,rfl⟩|⟨_,hr⟩
   ·exact⟨k,hs,hf⟩
   ·exact⟨k',hr,hf⟩
  obtain⟨l1,a1,a2⟩:=old r1 k1 e1 f1;obtain⟨l2,b1,b2⟩:=old r2 k2 e2 f2;exact hW.inj r1 r2 l1 l2 b a1 b1 a2 b2 m1 m2
theorem aMX {s i:Nat} {et:TypeId} {ty:Ty} (hI:I n0 wi Gi μi nt F H a w):I n0 wi Gi μi nt F (aTS s i et ty H) a w:=by
 unfold aTS;split
 ·rename_i k hk
  split
  ·rename_i t' e' rest hcs
   cases hb:(!k.tag.isSome)with
   | false=>exact hI
   | true =>
    simp only[cond_true];have htag:k.tag=none:=by
     cases hq:k.tag with
     | none=>rfl
     | some g=>rw[hq]at hb; simp at hb
    obtain⟨G,μ,e0,hW,hF⟩:=hI;obtain⟨e1,w1⟩:=vE hW ⟨aM ty [],et,true,false,some ⟨ty,[]⟩⟩ (on:=some 0) (fun g hg=>by cases hg; exact⟨rfl,rfl⟩)
    have hk':=aP hk;have hsl:s<H.length:=(List.getElem?_eq_some_iff.1 hk').1;have hk2:(H++[some ⟨aM ty [],et,true,false,some ⟨ty,[]⟩⟩])[s]?=some (some k):=by rw[List.getElem?_append_left hsl]; exact hk'
    refine⟨G,_,e0.trans e1,M3 w1 hk2 htag ?_,hF.mono e1.toMono⟩;intro b hc;obtain⟨vs,d1,d2⟩:=hc.values;have d3:=d1.take i;have d4:=d1.drop i;rw[hcs,VRs]at d4;obtain⟨v,vc,e3,d5,d6⟩:=d4;obtain⟨ao,d7⟩:=aNM d5;have d8:VRs w G (upd μ H.length none (some 0)) (k.cells.take i++.own H.length ty.size::rest) (vs.take i++v::vc):=VRs.append d3 (by
     rw[VRs];refine⟨v,vc,rfl,?_,d6⟩;rw[VR];exact⟨0,sV ..,.inl ⟨rfl,ao,d7⟩⟩)
    rw[← e3,List.take_append_drop]at d8;exact⟨aQ.qU d8 d2,by rw[d8.length,d1.length]⟩
  ·rename_i m' c' rest hcs
   cases hb:(Nat.beq m' 0&&Nat.beq c' 0&&!k.tag.isSome)with
   | false=>exact hI
   | true =>
    simp only[cond_true];simp only[Bool.and_eq_true]at hb;obtain⟨⟨hm,hc⟩,hb⟩:=hb;have hm:=Nat.eq_of_beq_eq_true hm;have hc:=Nat.eq_of_beq_eq_true hc;subst hm; subst hc;have htag:k.tag=none:=by
     cases hq:k.tag with
     | none=>rfl
     | some g=>rw[hq]at hb; simp at hb
    obtain⟨G,μ,e0,hW,hF⟩:=hI;obtain⟨e1,w1⟩:=vE hW ⟨aM ty [],et,true,false,some ⟨ty,[]⟩⟩ (on:=some 0) (fun g hg=>by cases hg; exact⟨rfl,rfl⟩)
    have hk':=aP hk;have hsl:s<H.length:=(List.getElem?_eq_some_iff.1 hk').1;have hk2:(H++[some ⟨aM ty [],et,true,false,some ⟨ty,[]⟩⟩])[s]?=some (some k):=by rw[List.getElem?_append_left hsl]; exact hk'
    refine⟨G,_,e0.trans e1,M3 w1 hk2 htag ?_,hF.mono e1.toMono⟩;intro b hc;obtain⟨vs,d1,d2⟩:=hc.values;have d3:=d1.take i;have d4:=d1.drop i;rw[hcs,VRs]at d4;obtain⟨v,vc,e3,d5,d6⟩:=d4;rw[VR]at d5;have d8:VRs w G (upd μ H.length none (some 0)) (k.cells.take i++.own H.length ty.size::rest) (vs.take i++v::vc):=VRs.append d3 (by
     rw[VRs];refine⟨v,vc,rfl,?_,d6⟩;rw[VR];exact⟨0,sV ..,.inl ⟨rfl,none,d5⟩⟩)
    rw[← e3,List.take_append_drop]at d8;exact⟨aQ.qU d8 d2,by rw[d8.length,d1.length]⟩
  ·exact hI
 ·exact hI
theorem b9:∀ (sh:List (Nat×Kd)) (F:Frm) (H:Heap),I n0 wi Gi μi nt F H a w→I n0 wi Gi μi nt (kD sh F H).1 (kD sh F H).2 a w
 | [],F,H,hI=>hI
 | (t,.own e ty)::r,F,H,hI=>by
  have skip:I n0 wi Gi μi nt (kD r F H).1 (kD r F H).2 a w:=b9 r F H hI;unfold kD;split
  ·rename_i m c ht
   cases hb:(Nat.beq m 0&&Nat.beq c 0)with
   | false=>exact skip
   | true =>
    simp only[cond_true];simp only[Bool.and_eq_true]at hb;have h1:=Nat.eq_of_beq_eq_true hb.1;have h2:=Nat.eq_of_beq_eq_true hb.2;subst h1; subst h2;obtain⟨G,μ,e0,hW,hF⟩:=hI;have hs:=hF.slot t;rw[ht,VR]at hs;obtain⟨e1,w1⟩:=vE hW ⟨aM ty [],e,true,false,some ⟨ty,[]⟩⟩ (on:=some 0) (fun g hg=>by cases hg; exact⟨rfl,rfl⟩)
    refine b9 r _ _ ⟨G,_,e0.trans e1,w1,j4.named (hF.mono e1.toMono) ?_⟩;rw[VR];exact⟨0,sV ..,.inl ⟨rfl,none,hs⟩⟩
  ·rename_i t' e' ht
   obtain⟨G,μ,e0,hW,hF⟩:=hI;have hs:=hF.slot t;rw[ht]at hs;obtain⟨ao,hs⟩:=aNM hs;obtain⟨e1,w1⟩:=vE hW ⟨aM ty [],e,true,false,some ⟨ty,[]⟩⟩ (on:=some 0) (fun g hg=>by cases hg; exact⟨rfl,rfl⟩)
   refine b9 r _ _ ⟨G,_,e0.trans e1,w1,j4.named (hF.mono e1.toMono) ?_⟩;rw[VR];exact⟨0,sV ..,.inl ⟨rfl,ao,hs⟩⟩
  ·exact skip
 | (t,.bown e et ty)::r,F,H,hI=>by
  have skip:I n0 wi Gi μi nt (kD r F H).1 (kD r F H).2 a w:=b9 r F H hI;unfold kD;split
  ·rename_i s off ht
   split
   ·rename_i k hk
    split
    ·rename_i m c hcs
     cases hb:(Nat.beq m 0&&Nat.beq c 0&&!k.tag.isSome)with
     | false=>exact skip
     | true =>
      simp only[cond_true];simp only[Bool.and_eq_true,Bool.not_eq_true']at hb;have h1:=Nat.eq_of_beq_eq_true hb.1.1;have h2:=Nat.eq_of_beq_eq_true hb.1.2;subst h1; subst h2;have htag:k.tag=none:=by
       cases hq:k.tag with
       | none=>rfl
       | some g=>rw[hq]at hb; simp at hb
      obtain⟨G,μ,e0,hW,hF⟩:=hI;obtain⟨e1,w1⟩:=vE hW ⟨aM ty [],et,true,false,some ⟨ty,[]⟩⟩ (on:=some 0) (fun g hg=>by cases hg; exact⟨rfl,rfl⟩)
      have hk':=aP hk;have hsl:s<H.length:=(List.getElem?_eq_some_iff.1 hk').1;have hk2:(H++[some ⟨aM ty [],et,true,false,some ⟨ty,[]⟩⟩])[s]?=some (some k):=by rw[List.getElem?_append_left hsl]; exact hk'
      refine b9 r _ _ ⟨G,_,e0.trans e1,M3 w1 hk2 htag ?_,hF.mono e1.toMono⟩;intro b hc;rw[hcs]at hc ⊢;refine⟨?_,rfl⟩;rw[aQ]at hc ⊢;obtain⟨⟨v,v1,v2⟩,v3⟩:=hc;refine⟨⟨v,v1,?_⟩,by rw[aQ]; trivial⟩
      have v4:v=.slice none 0 0:=by simpa only[VR]using v2
      simp only[VR];exact⟨0,sV ..,.inl ⟨rfl,none,v4⟩⟩
    ·exact skip
   ·exact skip
  ·exact skip
 | (_,.int _)::r,F,H,hI=>b9 r F H hI
 | (_,.bool)::r,F,H,hI=>b9 r F H hI
 | (_,.str)::r,F,H,hI=>b9 r F H hI
 | (_,.list _)::r,F,H,hI=>b9 r F H hI
 | (_,.agg _)::r,F,H,hI=>b9 r F H hI
 | (_,.box _ _)::r,F,H,hI=>b9 r F H hI
 | (_,.ptr _)::r,F,H,hI=>b9 r F H hI
 | (_,.fn _)::r,F,H,hI=>b9 r F H hI
 | (_,.nil0)::r,F,H,hI=>b9 r F H hI
 | (_,.val)::r,F,H,hI=>b9 r F H hI
 | (_,.nilI)::r,F,H,hI=>b9 r F H hI
 | (_,.clo _ _)::r,F,H,hI=>b9 r F H hI
 | (_,.win _ _)::r,F,H,hI=>b9 r F H hI
 | (_,.hnd _)::r,F,H,hI=>b9 r F H hI
 | (_,.mpk _)::r,F,H,hI=>b9 r F H hI
 | (_,.ar _ _)::r,F,H,hI=>b9 r F H hI
 | (t,.bag2 e t1 et ty eu u)::r,F,H,hI=>by
  unfold kD;split
  ·exact b9 r _ _ (aMX (aMX hI))
  ·exact b9 r F H hI
 | (t,.bag e t1 et ty t2)::r,F,H,hI=>by
  have skip:I n0 wi Gi μi nt (kD r F H).1 (kD r F H).2 a w:=b9 r F H hI;unfold kD;split
  ·rename_i s off ht
   split
   ·rename_i k hk
    split
    ·rename_i t' e' rest hcs
     cases hb:(!k.tag.isSome)with
     | false=>exact skip
     | true =>
      simp only[cond_true];have htag:k.tag=none:=by
       cases hq:k.tag with
       | none=>rfl
       | some g=>rw[hq]at hb; simp at hb
      obtain⟨G,μ,e0,hW,hF⟩:=hI;obtain⟨e1,w1⟩:=vE hW ⟨aM ty [],et,true,false,some ⟨ty,[]⟩⟩ (on:=some 0) (fun g hg=>by cases hg; exact⟨rfl,rfl⟩)
      have hk':=aP hk;have hsl:s<H.length:=(List.getElem?_eq_some_iff.1 hk').1;have hk2:(H++[some ⟨aM ty [],et,true,false,some ⟨ty,[]⟩⟩])[s]?=some (some k):=by rw[List.getElem?_append_left hsl]; exact hk'
      refine b9 r _ _ ⟨G,_,e0.trans e1,M3 w1 hk2 htag ?_,hF.mono e1.toMono⟩;intro b hc;obtain⟨vs,d1,d2⟩:=hc.values;have d3:=d1.take t1.size;have d4:=d1.drop t1.size;rw[hcs,VRs]at d4;obtain⟨v,vc,e3,d5,d6⟩:=d4;obtain⟨ao,d7⟩:=aNM d5;have d8:VRs w G (upd μ H.length none (some 0)) (k.cells.take t1.size++.own H.length ty.size::rest) (vs.take t1.size++v::vc):=VRs.append d3 (by
       rw[VRs];refine⟨v,vc,rfl,?_,d6⟩;rw[VR];exact⟨0,sV ..,.inl ⟨rfl,ao,d7⟩⟩)
      rw[← e3,List.take_append_drop]at d8;exact⟨aQ.qU d8 d2,by rw[d8.length,d1.length]⟩
    ·rename_i m' c' rest hcs
     cases hb:(Nat.beq m' 0&&Nat.beq c' 0&&!k.tag.isSome)with
     | false=>exact skip
     | true =>
      simp only[cond_true];simp only[Bool.and_eq_true]at hb;obtain⟨⟨hm,hc⟩,hb⟩:=hb;have hm:=Nat.eq_of_beq_eq_true hm;have hc:=Nat.eq_of_beq_eq_true hc;subst hm; subst hc;have htag:k.tag=none:=by
       cases hq:k.tag with
       | none=>rfl
       | some g=>rw[hq]at hb; simp at hb
      obtain⟨G,μ,e0,hW,hF⟩:=hI;obtain⟨e1,w1⟩:=vE hW ⟨aM ty [],et,true,false,some ⟨ty,[]⟩⟩ (on:=some 0) (fun g hg=>by cases hg; exact⟨rfl,rfl⟩)
      have hk':=aP hk;have hsl:s<H.length:=(List.getElem?_eq_some_iff.1 hk').1;have hk2:(H++[some ⟨aM ty [],et,true,false,some ⟨ty,[]⟩⟩])[s]?=some (some k):=by rw[List.getElem?_append_left hsl]; exact hk'
      refine b9 r _ _ ⟨G,_,e0.trans e1,M3 w1 hk2 htag ?_,hF.mono e1.toMono⟩;intro b hc;obtain⟨vs,d1,d2⟩:=hc.values;have d3:=d1.take t1.size;have d4:=d1.drop t1.size;rw[hcs,VRs]at d4;obtain⟨v,vc,e3,d5,d6⟩:=d4;rw[VR]at d5;have d8:VRs w G (upd μ H.length none (some 0)) (k.cells.take t1.size++.own H.length ty.size::rest) (vs.take t1.size++v::vc):=VRs.append d3 (by
       rw[VRs];refine⟨v,vc,rfl,?_,d6⟩;rw[VR];exact⟨0,sV ..,.inl ⟨rfl,none,d5⟩⟩)
      rw[← e3,List.take_append_drop]at d8;exact⟨aQ.qU d8 d2,by rw[d8.length,d1.length]⟩
    ·exact skip
   ·exact skip
  ·exact skip
theorem bX:∀ (sh:List (Nat×Kd)) (F:Frm) (H:Heap),I n0 wi Gi μi nt F H a w→I n0 wi Gi μi nt (G6 sh F H).1 (G6 sh F H).2 a w
 | [],F,H,hI=>hI
 | (t,.box e (.list ty))::r,F,H,hI=>by
  have skip:I n0 wi Gi μi nt (G6 r F H).1 (G6 r F H).2 a w:=bX r F H hI;unfold G6;split
  ·rename_i s off ht
   split
   ·rename_i k hk
    split
    ·rename_i u sz hcs
     split
     ·rename_i ku hku
      split
      ·rename_i g hg
       cases hb:(!k.tag.isSome&&!Nat.beq u s)with
       | false=>exact skip
       | true =>
        simp only[cond_true];simp only[Bool.and_eq_true,Bool.not_eq_true']at hb;have htag:k.tag=none:=by
         cases hq:k.tag with
         | none=>rfl
         | some g=>rw[hq]at hb; simp at hb
        have hne:u≠s:=fun e=>by rw[e]at hb; simp at hb
        obtain⟨G,μ,e0,hW,hF⟩:=hI;have hul:u<H.length:=(List.getElem?_eq_some_iff.1 (aP hku)).1;have hk2:(H.set u (some { ku with frozen:=true }))[s]?=some (some k):=by rw[List.getElem?_set_ne hne]; exact aP hk
        have hku2:l7 (H.set u (some { ku with frozen:=true })) u=some { ku with frozen:=true }:=by
         simp only[l7,List.getElem?_set_self hul]
        have fin:∀ {G1:Gd} {w1:World} {μ1:Mp},(∀ b,μ1.loc u=some b→G1 b)→bC n0 G1 μ1 (H.set u (some { ku with frozen:=true })) w1→bC n0 G1 μ1 ((H.set u (some { ku with frozen:=true })).set s (some { k with cells:=[W8 g.t g.l none] })) w1:=by
         intro G1 w1 μ1 hGu hW1;refine M3 hW1 hk2 htag fun b hc=>?_
         rw[hcs]at hc ⊢;refine⟨?_,rfl⟩;rw[aQ]at hc ⊢;obtain⟨⟨v,v1,v2⟩,v3⟩:=hc;exact⟨⟨v,v1,(LP hW1 v2 hku2 hg (fun b h=>h) hGu).bN⟩,by rw[aQ]; trivial⟩
        cases hfz:ku.frozen with
        | true =>
         have hsame:H.set u (some { ku with frozen:=true })=H:=by
          apply List.ext_getElem?;intro i
          by_cases hi:u=i
          ·subst hi
           rw[List.getElem?_set_self hul,aP hku];obtain⟨k1,k2,k3,k4,k5⟩:=ku;dsimp only at hfz;rw[hfz]
          ·rw[List.getElem?_set_ne hi]
         refine bX r _ _ ⟨G,μ,e0,fin (fun b hb=>?_) (by rw[hsame]; exact hW),hF⟩
         obtain⟨_,_,_,_,h5,_⟩:=hW.blk u ku b (aP hku) hb;exact h5 hfz
        | false =>
         obtain⟨e1,w1⟩:=aBF hW (aP hku) hfz;exact bX r _ _ ⟨_,μ,e0.trans e1,fin (fun b hb=>.inr hb) w1,hF.mono e1.toMono⟩
      ·exact skip
     ·exact skip
    ·exact skip
   ·exact skip
  ·exact skip
 | (_,.int _)::r,F,H,hI=>bX r F H hI
 | (_,.bool)::r,F,H,hI=>bX r F H hI
 | (_,.str)::r,F,H,hI=>bX r F H hI
 | (_,.list _)::r,F,H,hI=>bX r F H hI
 | (_,.agg _)::r,F,H,hI=>bX r F H hI
 | (_,.box _ (.int _))::r,F,H,hI=>bX r F H hI
 | (_,.box _ .bool)::r,F,H,hI=>bX r F H hI
 | (_,.box _ .str)::r,F,H,hI=>bX r F H hI
 | (_,.box _ (.hnd _))::r,F,H,hI=>bX r F H hI
 | (_,.box _ (.rows _))::r,F,H,hI=>bX r F H hI
 | (_,.box _ (.prod _ _))::r,F,H,hI=>bX r F H hI
 | (_,.ptr _)::r,F,H,hI=>bX r F H hI
 | (_,.fn _)::r,F,H,hI=>bX r F H hI
 | (_,.nil0)::r,F,H,hI=>bX r F H hI
 | (_,.val)::r,F,H,hI=>bX r F H hI
 | (_,.nilI)::r,F,H,hI=>bX r F H hI
 | (_,.clo _ _)::r,F,H,hI=>bX r F H hI
 | (_,.win _ _)::r,F,H,hI=>bX r F H hI
 | (_,.hnd _)::r,F,H,hI=>bX r F H hI
 | (_,.mpk _)::r,F,H,hI=>bX r F H hI
 | (_,.ar _ _)::r,F,H,hI=>bX r F H hI
 | (_,.own _ _)::r,F,H,hI=>bX r F H hI
 | (_,.bown _ _ _)::r,F,H,hI=>bX r F H hI
 | (_,.bag _ _ _ _ _)::r,F,H,hI=>bX r F H hI
 | (_,.bag2 _ _ _ _ _ _)::r,F,H,hI=>bX r F H hI
theorem NW {T:List Nat} {sh:List (Nat×Kd)} {x:Shape.den sh} (h:FO T sh F H=some x) (hfl:∀ r,¬ r∈T→μi.loc r=none∧μi.len r=none) (hI:I n0 wi Gi μi nt F H a w):I n0 wi Gi μi nt (EG sh x 0) (PO sh x) a w:=by
 unfold FO at h;replace hI:=EK sh F H hI;split at h;rename_i F0 H0 hd0;rw[hd0]at hI;replace hI:=bX sh F0 H0 hI;split at h;rename_i F1 H1 hd1;rw[hd1]at hI;replace hI:=b9 sh F1 H1 hI;split at h;rename_i F2 H2 hd2;rw[hd2]at hI;split at h
 ·rename_i pm hpm
  split at h
  ·rename_i F' H' ht
   obtain⟨hb,h⟩:=aO h;obtain⟨G,μ,e,hW,hF⟩:=a2S ht hfl hI;obtain⟨h1,h2⟩:=aQI hW hF.slot sh h;have hH:∀ i:Nat,bAM H'[i]? (PO sh x)[i]?:=by
    intro i;rcases Nat.lt_or_ge i (a2W sh)with hl|hl
    ·have:=h2 i hl
     rwa[Nat.zero_add]at this
    ·have e1:=Nat.eq_of_beq_eq_true hb
     exact .inl (by rw[List.getElem?_eq_none (by omega),List.getElem?_eq_none (by rw[aXH]; omega)])
   exact⟨G,μ,e,hW.bEX hH,hF.size,h1,hF.defers⟩
  ·cases h
 ·cases h
end
end Go.PM
namespace Go.PM
open Go Go.RowKit
@[reducible] def Fr(ro:Option Nat):Fence:={ Fence.wide with round:=ro }
def BU(ds:List Deferred) (a:Act):Act:={ a with defers:=a.defers++ds }
theorem bF5(ds:List Deferred) (a:Act):(BU ds a).eval=a.eval:=by
 funext x; cases x <;> rfl
theorem X2(ds:List Deferred) (a:Act) (d:Option Tmp) (v:Value):(BU ds a).put d v=BU ds (a.put d v):=by
 cases d <;> rfl
theorem bDQ {ro:Option Nat} {n:Nat} {P:Program} {f:FuncId} {args:Array Value} {w:World} {R:Ending→World→Prop} (h:Calls P f args w R):CallsIn (Fr ro) n P f args w R :=
 (callsIn_wide (n:=n)).2 h
theorem bFV {ro:Option Nat} {n:Nat} {P:Program} {row:String} {args:Array Value} {w:World} {R:Value→World→Prop} (h:Rows P row args w R):RowsIn (Fr ro) n P row args w R :=
 fun c cs _=>let ⟨v,w',r,s⟩:=h c cs; ⟨v,w',r,stepsIn_wide.2 s⟩
section
variable {P:Program} {ro:Option Nat} {n:Nat} {ds:List Deferred} {Q Q':Exit→Act→World→Prop}
def a7I:Op→Bool
 | .defer _=>true
 | _=>false
def aG7(ops:Array Oper):Bool:=ops.toList.all fun o=>!a7I o.op
theorem aA9 {ops:Array Oper} (h:aG7 ops=true) {o:Oper} (ho:o∈ops.toList):∀ c,o.op≠.defer c:=by
 intro c hc;have:=List.all_eq_true.1 h o ho;rw[hc]at this;cases this
theorem bIE {o:Oper} (h:∀ c,o.op≠.defer c) (ρ:Operand→Value):o.semAt ro ρ=execOp ρ o:=by
 cases ro with
 | none=>exact Oper.semAt_none ρ o
 | some l=>exact Oper.semAt_some l ρ o h
theorem a8K {o:Oper} {a:Act} {w:World} {K K':Act→World→Prop} (hd:∀ c,o.op≠.defer c) (hK:∀ a w,K a w→K' (BU ds a) w) (hQ:∀ ch a w,Q (.panic ch) a w→Q' (.panic ch) (BU ds a) w) (hno:∀ a w,¬ Q .outgrown a w) (h:o.wp P a w K Q) :
  o.wpIn (Fr ro) n P (BU ds a) w K' Q':=by
 refine⟨fun _ _=>trivial,?_⟩
 unfold Oper.wp at h;rw[bF5,bIE hd];generalize (execOp a.eval o).run P w=r at h ⊢;cases r with
 | ok x w' =>
  cases x with
  | value v=>show K' ((BU ds a).put o.dst v) w'; rw[X2]; exact hK _ _ h
  | skip=>show K' ((BU ds a).put o.dst undef) w'; rw[X2]; exact hK _ _ h
  | defer d =>
   have:=hK _ _ h;show K' (({ BU ds a with defers:=d::(BU ds a).defers }:Act).put o.dst undef) w';have e:(({ BU ds a with defers:=d::(BU ds a).defers }:Act).put o.dst undef)=BU ds (({ a with defers:=d::a.defers }:Act).put o.dst undef):=by
    cases o.dst <;> rfl
   rw[e]; exact this
  | enter f args =>
   refine⟨fun h=>(by cases h),bDQ (Calls.mono h ?_)⟩
   rintro e w'' he;cases e with
   | returned v=>show K' ((BU ds a).put o.dst v) w''; rw[X2]; exact hK _ _ he
   | panicked ch=>exact hQ _ _ _ he
   | outgrown =>
    obtain⟨a0,w0,h0⟩:=he;exact(hno a0 w0 h0).elim
  | row row args=>exact⟨fun h=>(by cases h),bFV (Rows.mono h fun v w'' he=>by show K' ((BU ds a).put o.dst v) w''; rw[X2]; exact hK _ _ he)⟩
  | _=>exact h.elim
 | halt x w' =>
  cases x <;> first|exact hQ _ _ _ h|exact h.elim
theorem aTI {ops:Array Oper} (hno:∀ a w,¬ Q .outgrown a w) (hQ:∀ e a w,Q e a w→Q' e (BU ds a) w):∀ {l:List Oper},(∀ o∈l,∀ c,o.op≠.defer c)→∀ {a w},wpList P ops Q l a w→wpListIn (Fr ro) n P ops Q' l (BU ds a) w
 | [],_,a,w,h=>hQ _ _ _ h
 | o::l,hd,a,w,h=>by
  simp only[wpList]at h;unfold wpListIn;split at h
  ·rename_i hw
   have hw':Region.wanted o (yielded ops (BU ds a).tmps)=true:=hw;rw[if_pos hw'];rcases h with h|⟨_,a0,w0,h0⟩
   ·exact a8K (hd o List.mem_cons_self) (fun a w hk=>aTI hno hQ (fun o ho=>hd o (List.mem_cons_of_mem _ ho)) hk) (fun _ _ _ h=>hQ _ _ _ h) hno h
   ·exact(hno a0 w0 h0).elim
  ·rename_i hw
   have hw':¬ Region.wanted o (yielded ops (BU ds a).tmps)=true:=hw;rw[if_neg hw'];refine⟨fun _ _=>trivial,?_⟩
   rw[X2];exact aTI hno hQ (fun o ho=>hd o (List.mem_cons_of_mem _ ho)) h
theorem a86 {ops:Array Oper} {md:Region.Mode} (hno:∀ a w,¬ Q .outgrown a w) (hQ:∀ e a w,Q e a w→Q' e (BU ds a) w) (hd:∀ o∈ops.toList,∀ c,o.op≠.defer c):∀ {fuel:Nat} {listed:Array Bool} {a w},wpAny P md ops Q fuel listed a w→wpAnyIn (Fr ro) n P md ops Q' fuel listed (BU ds a) w
 | 0,listed,a,w,h=>⟨h.1,hQ _ _ _ h.2⟩
 | fuel+1,listed,a,w,h=>by
  refine⟨fun hr=>hQ _ _ _ (h.1 hr),fun i hi=>?_⟩
  have h2:=h.2 i hi;unfold wpOp at h2;unfold wpOpIn;split
  ·rename_i hn
   rw[hn]at h2;exact a86 hno hQ hd h2
  ·rename_i o ho
   rw[ho]at h2;simp only at h2;have hm:o∈ops.toList:=by
    rw[← Array.getElem?_toList]at ho;exact List.mem_of_getElem? ho
   split at h2
   ·rename_i hw
    have hw':Region.wanted o (yielded ops (BU ds a).tmps)=true:=hw;rw[if_pos hw'];rcases h2 with h2|⟨_,a0,w0,h0⟩
    ·exact a8K (hd o hm) (fun a w hk=>a86 hno hQ hd hk) (fun _ _ _ h=>hQ _ _ _ h) hno h2
    ·exact(hno a0 w0 h0).elim
   ·rename_i hw
    have hw':¬ Region.wanted o (yielded ops (BU ds a).tmps)=true:=hw;rw[if_neg hw'];refine⟨fun _ _=>trivial,?_⟩
    rw[X2];exact a86 hno hQ hd h2
end
def Marks(wi w:World) (G:Gd):List Deferred→Prop
 | []=>True
 | d::ds=>(∃ b,d={ target:=.collected b,args:=#[] }∧w.heap[b]?=some (.deferred (some []))∧wi.heap.size≤b∧¬ G b∧∀ d'∈ds,d'≠d)∧Marks wi w G ds
theorem Marks.mem {wi w:World} {G:Gd}:∀ {ds:List Deferred},Marks wi w G ds→∀ d∈ds,∃ b,d={ target:=.collected b,args:=#[] }∧w.heap[b]?=some (.deferred (some []))∧wi.heap.size≤b∧¬ G b
 | [],_,d,hd=>by cases hd
 | x::ds,h,d,hd=>by
  rcases List.mem_cons.1 hd with rfl|hd
  ·obtain⟨b,h1,h2,h3,h4,_⟩:=h.1
   exact⟨b,h1,h2,h3,h4⟩
  ·exact Marks.mem h.2 d hd
theorem Marks.to {wi w w':World} {G G':Gd}:∀ {ds:List Deferred},Marks wi w G ds→(∀ b,({ target:=.collected b,args:=#[] }:Deferred)∈ds→w.heap[b]?=some (.deferred (some []))→¬ G b→w'.heap[b]?=some (.deferred (some []))∧¬ G' b)→Marks wi w' G' ds
 | [],_,_=>trivial
 | x::ds,h,hs=>by
  obtain⟨⟨b,rfl,h2,h3,h4,h5⟩,h6⟩:=h;obtain⟨k1,k2⟩:=hs b List.mem_cons_self h2 h4;exact⟨⟨b,rfl,k1,h3,k2,h5⟩,Marks.to h6 fun b hb=>hs b (List.mem_cons_of_mem _ hb)⟩
def IM(n0:Nat→Prop) (wi:World) (Gi:Gd) (μi:Mp) (nt:Nat) (F:Frm) (H:Heap) (a:Act) (w:World):Prop :=
 ∃ G μ,Ext n0 wi Gi μi w G μ∧bC n0 G μ H w∧j4 w G μ nt F { a with defers:=[] }∧Marks wi w G a.defers
section
variable {P:Program} {E:Env} {n0 n1:Nat→Prop} {w w' wi:World} {G G' Gi:Gd} {μ μ' μi:Mp} {H:Heap} {F:Frm} {a:Act} {nt:Nat}
theorem Ext.wider (h:Ext n1 w G μ w' G' μ') (hn:∀ b,n1 b→n0 b):Ext n0 w G μ w' G' μ' :=
 ⟨h.toMono,h.os,h.tape,h.output,h.size,fun b hb hnb=>h.old b hb fun h1=>hnb (hn b h1),fun b hb=>(h.new b hb).imp id (hn b)⟩
theorem bC.wider (h:bC n1 G μ H w) (hn:∀ b,n1 b→n0 b):bC n0 G μ H w :=
 ⟨fun r k b hr hb=>by
  obtain⟨c,h1,h2,h3,h4,h5⟩:=h.blk r k b hr hb;exact⟨c,h1,h2,h3,h4,fun hf=>⟨hn b (h5 hf).1,(h5 hf).2⟩⟩,h.tags,h.inj,h.lt,h.top,fun b hb=>hn b (h.base b hb),h.rows.aX9 fun _ b _=>hn b⟩
theorem bC.less (h:bC n0 G μ H w) {S:Nat→Prop} (hS:∀ b,S b→b<w.heap.size∧(∀ c t fr,w.heap[b]?≠some (.cells c t fr))∧∀ es clk,w.heap[b]?≠some (.map es clk)):bC (fun b=>n0 b∧¬ S b) G μ H w :=
 ⟨fun r k b hr hb=>by
  obtain⟨c,h1,h2,h3,h4,h5⟩:=h.blk r k b hr hb;exact⟨c,h1,h2,h3,h4,fun hf=>⟨⟨(h5 hf).1,fun hs=>(hS b hs).2.1 _ _ _ h1⟩,(h5 hf).2⟩⟩,h.tags,h.inj,h.lt,h.top,fun b hb=>⟨h.base b hb,fun hs=>Nat.lt_irrefl _ (Nat.lt_of_lt_of_le (hS b hs).1 hb)⟩,h.rows.aX9 fun j b hj hn=>⟨hn,fun hs=>by
   rcases h.rows.cel j b hj with ⟨c,t,fr,hc⟩|⟨es,clk,hc⟩
   ·exact(hS b hs).2.1 c t fr hc
   ·exact(hS b hs).2.2 es clk hc⟩⟩
theorem j4.same (h:j4 w G μ nt F a):j4 w G μ nt F { a with defers:=[] }:=⟨h.size,h.slot,rfl⟩
theorem I.bMP (h:I n0 wi Gi μi nt F H a w):IM n0 wi Gi μi nt F H a w:=by
 obtain⟨G,μ,e,hW,hF⟩:=h;refine⟨G,μ,e,hW,hF.same,?_⟩;rw[hF.defers]; trivial
theorem a0Z {nt:Nat} {id:Nat} {ops:Array Oper} {draw:Bool} {F:Frm} {H:Heap} {α:Type} {z:α} {k:Frm→Heap→Option α} (hcl:fQ P (gX P E)) (hP:P.follows .mixedOrders=true) (hd:aG7 ops=true) (h:LH P E nt ops draw F H k=some z) :
  ∃ F' H',k F' H'=some z∧∀ {ro:Option Nat} {n:Nat} {n0 wi Gi μi} {a w} {Q:Exit→Act→World→Prop},IM n0 wi Gi μi nt F H a w→(∀ a' w',a'.defers=a.defers→IM n0 wi Gi μi nt F' H' a' w'→Q .normal a' w')→(Code.region id ops draw).wpIn (Fr ro) n P Q a w:=by
 have core:∃ F' H',k F' H'=some z∧∀ {ro:Option Nat} {n:Nat} {n0 wi Gi μi} {a w} {ds:List Deferred} {Q:Exit→Act→World→Prop},I n0 wi Gi μi nt F H a w→(∀ a' w',I n0 wi Gi μi nt F' H' a' w'→Q .normal (BU ds a') w')→(Code.region id ops draw).wpIn (Fr ro) n P Q (BU ds a) w:=by
  cases draw with
  | true =>
   obtain⟨F',H',h2,h3⟩:=aF6 h;refine⟨F',H',h3,?_⟩;intro ro n n0 wi Gi μi a w ds Q hI hQ;refine wpIn_region_any hP (a86 (Q:=fun e a' w'=>e=.normal∧I n0 wi Gi μi nt F' H' a' w') (fun a w h=>by cases h.1) (fun e a' w' h=>by obtain⟨rfl,h⟩:=h; exact hQ a' w' h) (fun o ho=>aA9 hd ho) ?_)
   exact aLL hcl h2 hI (fun a' w' h=>⟨rfl,h⟩)
  | false =>
   unfold LH at h;simp only[cond_false]at h;obtain⟨F',H',h2,h3⟩:=EF h;refine⟨F',H',h3,?_⟩;intro ro n n0 wi Gi μi a w ds Q hI hQ;refine wpIn_region_list (aTI (Q:=fun e a' w'=>e=.normal∧I n0 wi Gi μi nt F' H' a' w') (fun a w h=>by cases h.1) (fun e a' w' h=>by obtain⟨rfl,h⟩:=h; exact hQ a' w' h) (fun o ho=>aA9 hd ho) ?_)
   exact JD hcl ops.toList F H _ _ h2 hI (fun a' w' h=>⟨rfl,h⟩)
 obtain⟨F',H',h1,h2⟩:=core;refine⟨F',H',h1,?_⟩;intro ro n n0 wi Gi μi a w Q hI hQ;obtain⟨G,μ,e,hW,hF,hm⟩:=hI;have hS:∀ b,({ target:=.collected b,args:=#[] }:Deferred)∈a.defers→b<w.heap.size∧(∀ c t fr,w.heap[b]?≠some (.cells c t fr))∧∀ es clk,w.heap[b]?≠some (.map es clk):=by
  intro b hb;obtain⟨b',e1,e2,_⟩:=hm.mem _ hb;have:b=b':=by injection e1 with e1 _; injection e1
  subst this;exact⟨iA e2,fun c t fr h=>(by rw[e2]at h; cases h),fun _ _ h=>(by rw[e2]at h; cases h)⟩
 have e0:a=BU a.defers { a with defers:=[] }:=rfl;rw[e0];refine h2 (n0:=fun b=>n0 b∧¬ ({ target:=.collected b,args:=#[] }:Deferred)∈a.defers) (wi:=w) (Gi:=G) (μi:=μ) ⟨G,μ,Ext.refl _ _ _ _,hW.less hS,hF⟩ ?_
 rintro a' w' ⟨G',μ',e',hW',hF'⟩;have hW2:bC n0 G' μ' H' w':=hW'.wider fun b hb=>hb.1
 have hdef:(BU a.defers a').defers=a.defers:=by
  show a'.defers++a.defers=a.defers;rw[hF'.defers]; rfl
 refine hQ _ _ hdef ⟨G',μ',e.trans (e'.wider fun b hb=>hb.1),hW2,hF'.same,?_⟩
 rw[hdef];refine hm.to fun b hb h1 h2=>⟨?_,fun hg=>?_⟩
 ·rw[e'.old b (hS b hb).1 (fun h=>h.2 hb)]; exact h1
 ·rcases e'.new b hg with h|h
  ·exact h2 h
  ·exact h.2 hb
end
end Go.PM
namespace Go.PM
open Go Go.RowKit
def aB9(T:List Nat):(l:List (Ex×List (Nat×Kd)))→Ex→Frm→Heap→Option (aW l)
 | [],_,_,_=>none
 | [(e,s)],ex,F,H=>bif bA7 e ex then FO T s F H else none
 | (e,s)::b::r,ex,F,H=>bif bA7 e ex then (match FO T s F H with|some x=>some (.inl x)|none=>none) else (match aB9 T (b::r) ex F H with|some y=>some (.inr y)|none=>none)
section
variable {α:Type} (P:Program) (E:Env) (nt aZ:Nat) (lt rt:Nat→Option aS) (rd:Bool) (T:List Nat)
def HW:Code→Frm→Heap→(Ex→Frm→Heap→Option α)→Option α
 | .skip,F,H,k=>k .normal F H
 | .label _,F,H,k=>k .normal F H
 | .region _ ops draw,F,H,k=>bif aG7 ops then LH P E nt ops draw F H fun F H=>aKZ aZ F fun F=>k .normal F H else none
 | .seq a b,F,H,k=>HW a F H fun ex F H=>match ex with
  | .normal=>HW b F H k
  | .exit i=>k (.exit i) F H
  | .ret=>k .ret F H
 | .cond c a b,F,H,k=>match ev F c with
  | .lit (.bool t)=>bCH F c t fun F t=>bif t then HW a F H k else HW b F H k
  | _=>none
 | .block id a,F,H,k=>HW a F H fun ex F H=>match ex with
  | .exit i=>bif Nat.beq i id then k .normal F H else k (.exit i) F H
  | .normal=>k .normal F H
  | .ret=>k .ret F H
 | .loop a,F,H,k=>match lt (aH a)with
  | some s=>match FO T s.sh F H with
   | some x=>aC (s.run x) fun z=>bCA s.exits z k
   | none=>none
  | none=>none
 | .rangeFunc _ _ _ a,F,H,k=>bif rd then none else match rt (aH a)with
  | some s=>match FO T s.sh F H with
   | some x=>aC (s.run x) fun z=>bCA s.exits z k
   | none=>none
  | none=>none
 | .exit id,F,H,k=>k (.exit id) F H
 | .ret,F,H,k=>k .ret F H
 | _,_,_,_=>none
def aW3(T:List Nat) (sh:List (Nat×Kd)) (exits:List (Ex×List (Nat×Kd))) (ex:Ex) (F:Frm) (H:Heap):Option (Shape.den sh⊕aW exits):=match ex with
 | .normal=>match FO T sh F H with
  | some y=>some (.inl y)
  | none=>none
 | .exit i=>match aB9 T exits (.exit i) F H with
  | some z=>some (.inr z)
  | none=>none
 | .ret=>match aB9 T exits .ret F H with
  | some z=>some (.inr z)
  | none=>none
def a7O(a:Code) (sh:List (Nat×Kd)) (exits:List (Ex×List (Nat×Kd))) (x:Shape.den sh):Option (Shape.den sh⊕aW exits) :=
 HW P E nt aZ lt rt rd T a (EG sh x 0) (PO sh x) (aW3 T sh exits)
end
def gR:Code→List Code
 | .seq a b=>gR a++gR b
 | .cond _ a b=>gR a++gR b
 | .block _ a=>gR a
 | .loop a=>[.loop a]
 | .rangeFunc g ps as1 a=>[.rangeFunc g ps as1 a]
 | _=>[]
section
variable {α:Type} {P:Program} {E:Env} {nt aZ:Nat} {lt rt:Nat→Option aS} {rd:Bool} {T:List Nat}
def a9J(P:Program) (nt:Nat) (rd:Bool) (T:List Nat) (c:Code) (F:Frm) (H:Heap) (r:Ex×Frm×Heap):Prop :=
 ∀ (ro:Option Nat) (n:Nat) (n0:Nat→Prop) (wi:World) (Gi:Gd) (μi:Mp) (a:Act) (w:World),(rd=false→ro=none)→(∀ r,¬ r∈T→μi.loc r=none∧μi.len r=none)→IM n0 wi Gi μi nt F H a w →
  c.wpIn (Fr ro) n P (fun e a' w'=>e=r.1.to∧IM n0 wi Gi μi nt r.2.1 r.2.2 a' w'∧(rd=true→a'.defers=a.defers)) a w
def aEU(P:Program) (nt:Nat) (rd:Bool) (T:List Nat) (c:Code) (s:aS):Prop :=
 ∀ x z,s.run x=some z→a9J P nt rd T c (EG s.sh x 0) (PO s.sh x) (I7 s.exits z)
def aA0(P:Program) (nt:Nat) (lt rt:Nat→Option aS) (rd:Bool) (T:List Nat):Code→Prop
 | .loop a=>∀ s,lt (aH a)=some s→aEU P nt rd T (.loop a) s
 | .rangeFunc g ps as1 a=>rd=false→∀ s,rt (aH a)=some s→aEU P nt rd T (.rangeFunc g ps as1 a) s
 | _=>True
theorem IM.bK4 {n0:Nat→Prop} {wi:World} {Gi:Gd} {μi:Mp} {F F':Frm} {H:Heap} {a:Act} {w:World} (h:IM n0 wi Gi μi nt F H a w) (hF:∀ t,fB F' t=fB F t∨fB F' t=.junk):IM n0 wi Gi μi nt F' H a w:=by
 obtain⟨G,μ,e,hW,hI,hm⟩:=h;refine⟨G,μ,e,hW,⟨hI.size,fun t=>?_,rfl⟩,hm⟩
 rcases hF t with h1|h1
 ·rw[h1]; exact hI.slot t
 ·rw[h1,VR]; trivial
theorem IM.same {n0:Nat→Prop} {wi:World} {Gi:Gd} {μi:Mp} {F F':Frm} {H H':Heap} {a:Act} {w:World} (hfl:∀ r,¬ r∈T→μi.loc r=none∧μi.len r=none)
  (hs:∀ {n0:Nat→Prop} {wi:World} {Gi:Gd} {μi:Mp} {a:Act},(∀ r,¬ r∈T→μi.loc r=none∧μi.len r=none)→I n0 wi Gi μi nt F H a w→I n0 wi Gi μi nt F' H' a w) (h:IM n0 wi Gi μi nt F H a w):IM n0 wi Gi μi nt F' H' a w:=by
 obtain⟨G,μ,e,hW,hF,hm⟩:=h;have hS:∀ b,({ target:=.collected b,args:=#[] }:Deferred)∈a.defers→b<w.heap.size∧(∀ c t fr,w.heap[b]?≠some (.cells c t fr))∧∀ es clk,w.heap[b]?≠some (.map es clk):=by
  intro b hb;obtain⟨b',e1,e2,_⟩:=hm.mem _ hb;have:b=b':=by injection e1 with e1 _; injection e1
  subst this;exact⟨iA e2,fun c t fr h=>(by rw[e2]at h; cases h),fun _ _ h=>(by rw[e2]at h; cases h)⟩
 have e0:Ext (fun b=>n0 b∧¬ ({ target:=.collected b,args:=#[] }:Deferred)∈a.defers) w G μi w G μ:=⟨⟨fun _ h=>⟨h,rfl⟩,e.map,e.len,fun _ _ h=>h,fun _ _ h=>h⟩,rfl,rfl,rfl,Nat.le_refl _,fun _ _ _=>rfl,fun _ h=>.inl h⟩
 obtain⟨G',μ',e',hW',hF'⟩:=hs (n0:=fun b=>n0 b∧¬ ({ target:=.collected b,args:=#[] }:Deferred)∈a.defers) (wi:=w) (Gi:=G) (μi:=μi) (a:={ a with defers:=[] }) hfl ⟨G,μ,e0,hW.less hS,hF⟩
 refine⟨G',μ',?_,hW'.wider fun b hb=>hb.1,hF',hm.to fun b hb h1 h2=>⟨h1,fun hg=>?_⟩⟩
 ·exact {
   good:=fun b hb=>⟨(e'.good b (e.good b hb).1).1,(e.good b hb).2⟩
   map:=e'.map
   len:=e'.len
   room:=e.room
   row:=fun j b hj=>e'.row j b (e.row j b hj)
   os:=e.os
   tape:=e.tape
   output:=e.output
   size:=e.size
   old:=e.old
   new:=fun b hb=>by
    rcases e'.new b hb with h|h
    ·exact e.new b h
    ·exact .inr h.1 }
 ·rcases e'.new b hg with h|h
  ·exact h2 h
  ·exact h.2 hb
theorem IM.dec {n0:Nat→Prop} {wi:World} {Gi:Gd} {μi:Mp} {F:Frm} {H:Heap} {a:Act} {w:World} (hfl:∀ r,¬ r∈T→μi.loc r=none∧μi.len r=none) {sh:List (Nat×Kd)} {x:Shape.den sh} (h:FO T sh F H=some x) (hI:IM n0 wi Gi μi nt F H a w):IM n0 wi Gi μi nt (EG sh x 0) (PO sh x) a w :=
 hI.same hfl fun hfl hI=>NW h hfl hI
theorem WC {ex:Ex} {F:Frm} {H:Heap}:∀ {l:List (Ex×List (Nat×Kd))} {z:aW l},aB9 T l ex F H=some z →
  (I7 l z).1=ex∧∃ sh,∃ x:Shape.den sh,FO T sh F H=some x∧(I7 l z).2.1=EG sh x 0∧(I7 l z).2.2=PO sh x
 | [],z,_=>Empty.elim z
 | [(e,s)],z,h=>by
  simp only[aB9]at h;obtain⟨hb,h⟩:=aO h;exact⟨aY1 hb,s,z,h,rfl,rfl⟩
 | (e,s)::b::r,z,h=>by
  simp only[aB9]at h;cases hb:bA7 e ex with
  | true =>
   rw[hb]at h;simp only[cond_true]at h;split at h
   ·rename_i x hx
    simp only[Option.some.injEq]at h;subst h;exact⟨aY1 hb,s,x,hx,rfl,rfl⟩
   ·cases h
  | false =>
   rw[hb]at h;simp only[cond_false]at h;split at h
   ·rename_i x hx
    simp only[Option.some.injEq]at h;subst h;exact WC (l:=b::r) (z:=x) hx
   ·cases h
theorem IM.aPA {n0:Nat→Prop} {wi:World} {Gi:Gd} {μi:Mp} {F:Frm} {H:Heap} {a:Act} {w:World} {ex:Ex} (hfl:∀ r,¬ r∈T→μi.loc r=none∧μi.len r=none) {l:List (Ex×List (Nat×Kd))} {z:aW l} (h:aB9 T l ex F H=some z) (hI:IM n0 wi Gi μi nt F H a w) :
  (I7 l z).1=ex∧IM n0 wi Gi μi nt (I7 l z).2.1 (I7 l z).2.2 a w:=by
 obtain⟨h1,sh,x,h2,h3,h4⟩:=WC h;exact⟨h1,by rw[h3,h4]; exact hI.dec hfl h2⟩
theorem qZ(hcl:fQ P (gX P E)) (hP:P.follows .mixedOrders=true):∀ (c:Code) (F:Frm) (H:Heap) (k:Ex→Frm→Heap→Option α) (z:α),(∀ a∈gR c,aA0 P nt lt rt rd T a) →
  HW P E nt aZ lt rt rd T c F H k=some z→∃ r:Ex×Frm×Heap,k r.1 r.2.1 r.2.2=some z∧a9J P nt rd T c F H r
 | .skip,F,H,k,z,hl,h=>⟨(.normal,F,H),h,fun _ _ _ _ _ _ _ _ _ _ hI=>wpIn_skip ⟨rfl,hI,fun _=>rfl⟩⟩
 | .label l,F,H,k,z,hl,h=>⟨(.normal,F,H),h,fun _ _ _ _ _ _ _ _ _ _ hI=>wpIn_label ⟨rfl,hI,fun _=>rfl⟩⟩
 | .region id ops draw,F,H,k,z,hl,h=>by
  simp only[HW]at h;obtain⟨hd,h⟩:=aO h;obtain⟨F1,H1,h1,h2⟩:=a0Z (id:=id) hcl hP hd h;obtain⟨F2,h3,h4⟩:=WV aZ F1 fun F=>k .normal F H1
  rw[h3]at h1;exact⟨(.normal,F2,H1),h1,fun _ _ _ _ _ _ _ _ _ _ hI=>h2 hI fun a' w' hd' hI'=>⟨rfl,hI'.bK4 h4,fun _=>hd'⟩⟩
 | .seq x y,F,H,k,z,hl,h=>by
  simp only[HW]at h;obtain⟨⟨ex,F1,H1⟩,h1,h2⟩:=qZ hcl hP x F H _ z (fun a ha=>hl a (by simp[gR,ha])) h
  cases ex with
  | normal =>
   obtain⟨r,h3,h4⟩:=qZ hcl hP y F1 H1 k z (fun a ha=>hl a (by simp[gR,ha])) h1
   refine⟨r,h3,fun ro n n0 wi Gi μi a w hro hfl hI=>wpIn_seq (wpIn_mono (h2 ro n n0 wi Gi μi a w hro hfl hI) ?_)⟩
   rintro e a' w' ⟨rfl,hI',hd'⟩;refine wpIn_mono (h4 ro n n0 wi Gi μi a' w' hro hfl hI') ?_;rintro e a'' w'' ⟨e1,e2,e3⟩;exact⟨e1,e2,fun hr=>(e3 hr).trans (hd' hr)⟩
  | exit i =>
   refine⟨(.exit i,F1,H1),h1,fun ro n n0 wi Gi μi a w hro hfl hI=>wpIn_seq (wpIn_mono (h2 ro n n0 wi Gi μi a w hro hfl hI) ?_)⟩
   rintro e a' w' ⟨rfl,hI'⟩;exact⟨rfl,hI'⟩
  | ret =>
   refine⟨(.ret,F1,H1),h1,fun ro n n0 wi Gi μi a w hro hfl hI=>wpIn_seq (wpIn_mono (h2 ro n n0 wi Gi μi a w hro hfl hI) ?_)⟩
   rintro e a' w' ⟨rfl,hI'⟩;exact⟨rfl,hI'⟩
 | .cond c x y,F,H,k,z,hl,h=>by
  simp only[HW]at h;split at h
  ·rename_i t ht
   replace h:=aFC h ht;have hc:∀ {n0 wi Gi μi a w},IM n0 wi Gi μi nt F H a w→a.eval c=.bool t:=fun {n0 wi Gi μi a w} hI=>by
    obtain⟨G,μ,e,hW,hF,_⟩:=hI;have hc:=dN hF c;rw[ht,VR]at hc;rw[← hc];cases c <;> rfl
   cases t with
   | true =>
    obtain⟨r,h3,h4⟩:=qZ hcl hP x F H k z (fun a ha=>hl a (by simp[gR,ha])) h
    exact⟨r,h3,fun ro n n0 wi Gi μi a w hro hfl hI=>wpIn_cond (hc hI) (h4 ro n n0 wi Gi μi a w hro hfl hI)⟩
   | false =>
    obtain⟨r,h3,h4⟩:=qZ hcl hP y F H k z (fun a ha=>hl a (by simp[gR,ha])) h
    exact⟨r,h3,fun ro n n0 wi Gi μi a w hro hfl hI=>wpIn_cond (hc hI) (h4 ro n n0 wi Gi μi a w hro hfl hI)⟩
  ·cases h
 | .block id x,F,H,k,z,hl,h=>by
  simp only[HW]at h;obtain⟨⟨ex,F1,H1⟩,h1,h2⟩:=qZ hcl hP x F H _ z (fun a ha=>hl a (by simp[gR,ha])) h
  cases ex with
  | normal =>
   refine⟨(.normal,F1,H1),h1,fun ro n n0 wi Gi μi a w hro hfl hI=>wpIn_block (wpIn_mono (h2 ro n n0 wi Gi μi a w hro hfl hI) ?_)⟩
   rintro e a' w' ⟨rfl,hI'⟩;exact⟨rfl,hI'⟩
  | ret =>
   refine⟨(.ret,F1,H1),h1,fun ro n n0 wi Gi μi a w hro hfl hI=>wpIn_block (wpIn_mono (h2 ro n n0 wi Gi μi a w hro hfl hI) ?_)⟩
   rintro e a' w' ⟨rfl,hI'⟩;exact⟨rfl,hI'⟩
  | exit i =>
   simp only at h1;cases hi:Nat.beq i id with
   | true =>
    rw[hi]at h1;have:=Nat.eq_of_beq_eq_true hi;subst this;refine⟨(.normal,F1,H1),h1,fun ro n n0 wi Gi μi a w hro hfl hI=>wpIn_block (wpIn_mono (h2 ro n n0 wi Gi μi a w hro hfl hI) ?_)⟩
    rintro e a' w' ⟨rfl,hI'⟩;simp only[Ex.to,Exit.inBlock,if_true];exact⟨trivial,hI'⟩
   | false =>
    rw[hi]at h1;have hne:¬ i=id:=fun e=>by rw[e]at hi; simp at hi
    refine⟨(.exit i,F1,H1),h1,fun ro n n0 wi Gi μi a w hro hfl hI=>wpIn_block (wpIn_mono (h2 ro n n0 wi Gi μi a w hro hfl hI) ?_)⟩
    rintro e a' w' ⟨rfl,hI'⟩;simp only[Ex.to,Exit.inBlock,hne,if_false];exact⟨trivial,hI'⟩
 | .loop x,F,H,k,z,hl,h=>by
  simp only[HW]at h;split at h
  ·rename_i s hs
   split at h
   ·rename_i x0 hx
    obtain⟨y,h1,h2⟩:=CX h;exact⟨I7 s.exits y,WX h2,fun ro n n0 wi Gi μi a w hro hfl hI=>hl (.loop x) (by simp[gR]) s hs x0 y h1 ro n n0 wi Gi μi a w hro hfl (hI.dec hfl hx)⟩
   ·cases h
  ·cases h
 | .rangeFunc g ps as1 x,F,H,k,z,hl,h=>by
  simp only[HW]at h;cases hrd:rd with
  | true=>rw[hrd]at h; cases h
  | false =>
   rw[hrd]at h;simp only[cond_false]at h;split at h
   ·rename_i s hs
    split at h
    ·rename_i x0 hx
     obtain⟨y,h1,h2⟩:=CX h;refine⟨I7 s.exits y,WX h2,fun ro n n0 wi Gi μi a w hro hfl hI=>?_⟩
     have:=hl (.rangeFunc g ps as1 x) (by simp[gR]) hrd s hs x0 y h1 ro n n0 wi Gi μi a w (by rw[hrd]; exact hro) hfl (hI.dec hfl hx)
     rw[hrd]at this;exact this
    ·cases h
   ·cases h
 | .exit id,F,H,k,z,hl,h=>⟨(.exit id,F,H),h,fun _ _ _ _ _ _ _ _ _ _ hI=>wpIn_exit ⟨rfl,hI,fun _=>rfl⟩⟩
 | .scope x,F,H,k,z,hl,h=>by simp only[HW]at h; cases h
 | .ret,F,H,k,z,hl,h=>⟨(.ret,F,H),h,fun _ _ _ _ _ _ _ _ _ _ hI=>wpIn_ret ⟨rfl,hI,fun _=>rfl⟩⟩
 | .goto l,F,H,k,z,hl,h=>by simp only[HW]at h; cases h
 | .refuse s,F,H,k,z,hl,h=>by simp only[HW]at h; cases h
theorem aEX {sh:List (Nat×Kd)} {exits:List (Ex×List (Nat×Kd))} {ex:Ex} {F:Frm} {H:Heap} {y:Shape.den sh⊕aW exits} (h:aW3 T sh exits ex F H=some y) :
  (∃ x,y=.inl x∧ex=.normal∧FO T sh F H=some x)∨(∃ z,y=.inr z∧ex≠.normal∧aB9 T exits ex F H=some z):=by
 cases ex with
 | normal =>
  simp only[aW3]at h;split at h
  ·rename_i x hx
   exact .inl ⟨x,(Option.some.inj h).symm,rfl,hx⟩
  ·cases h
 | exit i =>
  simp only[aW3]at h;split at h
  ·rename_i x hx
   exact .inr ⟨x,(Option.some.inj h).symm,by simp,hx⟩
  ·cases h
 | ret =>
  simp only[aW3]at h;split at h
  ·rename_i x hx
   exact .inr ⟨x,(Option.some.inj h).symm,by simp,hx⟩
  ·cases h
theorem a1O(hcl:fQ P (gX P E)) (hP:P.follows .mixedOrders=true) {a:Code} {sh:List (Nat×Kd)} {exits:List (Ex×List (Nat×Kd))} {step:Shape.den sh→Option (Shape.den sh⊕aW exits)} (L:Nat)
  (hl:∀ b∈gR a,aA0 P nt lt rt rd T b) (hr:∀ x,a7O P E nt aZ lt rt rd T a sh exits x=step x):aEU P nt rd T (.loop a) ⟨sh,exits,bZ step L⟩:=by
 intro x z hz ro n n0 wi Gi μi act w hro hfl hI;refine wpIn_loop_ghost (fun k a w=>(∃ x,bZ step k x=some z∧IM n0 wi Gi μi nt (EG sh x 0) (PO sh x) a w)∧(rd=true→a.defers=act.defers)) L ⟨⟨x,hz,hI⟩,fun _=>rfl⟩ ?_
 rintro k act1 w ⟨⟨x,hz,hI⟩,hdef⟩;cases k with
 | zero=>cases hz
 | succ k =>
  simp only[bZ]at hz;split at hz
  ·rename_i y hs
   rw[← hr]at hs;obtain⟨⟨ex,F',H'⟩,h1,h2⟩:=qZ hcl hP a _ _ _ _ hl hs;refine wpIn_mono (h2 ro n n0 wi Gi μi act1 w hro hfl hI) ?_;rintro e a' w' ⟨rfl,hI',hd'⟩;rcases aEX h1 with ⟨y',e1,e2,e3⟩|⟨z',e1,_,_⟩
   ·cases e1
    dsimp only at e2;subst e2;exact⟨k,by omega,⟨y,hz,hI'.dec hfl e3⟩,fun hr=>(hd' hr).trans (hdef hr)⟩
   ·cases e1
  ·rename_i y hs
   simp only[Option.some.injEq]at hz;subst hz;rw[← hr]at hs;obtain⟨⟨ex,F',H'⟩,h1,h2⟩:=qZ hcl hP a _ _ _ _ hl hs;refine wpIn_mono (h2 ro n n0 wi Gi μi act1 w hro hfl hI) ?_;rintro e a' w' ⟨rfl,hI',hd'⟩;rcases aEX h1 with ⟨y',e1,e2,e3⟩|⟨z',e1,e2,e3⟩
   ·cases e1
   ·cases e1
    dsimp only at e2 e3 hI';obtain⟨h3,h5⟩:=hI'.aPA hfl e3;have h6:(rd=true→a'.defers=act.defers):=fun hr=>(hd' hr).trans (hdef hr)
    cases ex with
    | normal=>exact absurd rfl e2
    | exit i=>exact⟨by rw[h3],h5,h6⟩
    | ret=>exact⟨by rw[h3],h5,h6⟩
  ·cases hz
end
end Go.PM
namespace Go.PM
open Go Go.RowKit
def aLR:Kd→Nat→List Nat
 | .own _ _,n|.box _ _,n|.bown _ _ _,n|.bag _ _ _ _ _,n|.bag2 _ _ _ _ _ _,n=>[n]
 | .win j _,_=>[j]
 | _,_=>[]
def J6:List (Nat×Kd)→Nat→List Nat
 | [],_=>[]
 | (_,k)::r,n=>aLR k n++J6 r (n+k.pos)
structure Stp (S:Nat→Prop) (B A:World):Prop where
 aZ:∀ b,b<B.heap.size→¬ S b→A.heap[b]?=B.heap[b]?
 room:∀ b n,Room B b n→Room A b n
 os:A.os=B.os
 tape:A.tape=B.tape
 output:A.output=B.output
 size:B.heap.size≤A.heap.size
theorem Stp.trans {S:Nat→Prop} {A B C:World} (h:Stp S A B) (k:Stp S B C):Stp S A C :=
 ⟨fun b hb hs=>(k.aZ b (Nat.lt_of_lt_of_le hb h.size) hs).trans (h.aZ b hb hs),fun b n hr=>k.room b n (h.room b n hr),k.os.trans h.os,k.tape.trans h.tape,k.output.trans h.output,Nat.le_trans h.size k.size⟩
def a1D(P:Program) (gf:FuncId) (ts:List Ty) (ks:List Kd) (f:XZ ts→Option (List (aJ ks))):Prop :=
 ∀ x all,f x=some all→∀ (m l:Nat) (W:World) (G:Nat→Prop) (vs:List Value),Lt W G→VRs W (Gd.of G) aN (aHY ts x) vs →
  ∀ (J Jx:List (aJ ks)→(Nat→Prop)→(Nat→Prop)→World→Prop),
  (∀ pre e post T X B T' X' A us Gx m',all=pre++e::post→J pre T X B→Stp X B A→(∀ b,T' b→(T b∨B.heap.size≤b)∧b<A.heap.size)→(∀ b,X' b→T' b∧(X b∨B.heap.size≤b)) →
   (∀ b,Gx b→(G b∨T' b)∧¬ X' b)→VRs A (Gd.of Gx) aN (qA ks e) us →
   YieldAt Fence.wide m' P l us.toArray A fun en C =>
    ((∀ b,b<A.heap.size→G b∨T' b→C.heap[b]?=A.heap[b]?)∧(∀ b n,Room A b n→Room C b n)∧A.heap.size≤C.heap.size)∧((en=.returned (.bool true)∧J (pre++[e]) T' X' C)∨(en=.returned (.bool false)∧Jx (pre++[e]) T' X' C))) →
  J [] (fun _=>False) (fun _=>False) W →
  CallsIn Fence.wide m P gf ((#[.func (.yield l) #[] #[]]:Array Value)++vs.toArray) W fun en C=>(∃ v,en=.returned v)∧∃ T X B,Stp X B C∧(J all T X B∨∃ pre,Jx pre T X B)
def aRE {σ τ ε:Type} (step:σ→ε→Option (σ⊕τ)) (fin:σ→Option τ):List ε→σ→Option τ
 | [],y=>fin y
 | e::es,y=>match step y e with
  | some (.inl y')=>aRE step fin es y'
  | some (.inr z)=>some z
  | none=>none
def a5C:List Nat→List PV→Frm→Frm
 | t::ts,p::ps,F=>a5C ts ps ((t,p)::F)
 | _,_,F=>F
def bLY(sh:List (Nat×Kd)) (exits:List (Ex×List (Nat×Kd))) (F0:Frm) (ex:Ex) (_:Frm) (H:Heap):Option (Shape.den sh⊕aW exits):=aW3 [] sh exits ex F0 H
def a7G(P:Program) (E:Env) (nt aZ:Nat) (lt rt:Nat→Option aS) (ps:List Nat) (assign body:Code) (ks:List Kd) (sh:List (Nat×Kd)) (exits:List (Ex×List (Nat×Kd))) (y:Shape.den sh) (e:aJ ks):Option (Shape.den sh⊕aW exits) :=
 bif Nat.beq ps.length ks.length&&ps.all (fun t=>Nat.blt t nt) then
  HW P E nt aZ lt rt true (J6 sh 0) assign (a5C ps (qA ks e) (EG sh y 0)) (PO sh y) fun ex F H=>match ex with
   | .normal=>HW P E nt aZ lt rt true (J6 sh 0) body F H (bLY sh exits (EG sh y 0))
   | _=>none
 else none
def bMF(sh:List (Nat×Kd)) (exits:List (Ex×List (Nat×Kd))) (y:Shape.den sh):Option (aW exits):=aB9 [] exits .normal (EG sh y 0) (PO sh y)
def bJS(sh:List (Nat×Kd)) (exits:List (Ex×List (Nat×Kd))) {ε:Type} (all:Shape.den sh→Option (List ε)) (step:Shape.den sh→ε→Option (Shape.den sh⊕aW exits)) (x:Shape.den sh):Option (aW exits) :=
 match all x with
 | some l=>aRE step (bMF sh exits) l x
 | none=>none
def bJ3(gf:FuncId) (ts:List Ty) (sh:List (Nat×Kd)) (g:Operand) (x:Shape.den sh):Option (XZ ts):=bif ts.all Ty.plain then a74 gf ts (ev (EG sh x 0) g) else none
section
variable {P:Program} {n0:Nat→Prop} {w wi:World} {G Gi:Gd} {μ μi:Mp} {H:Heap} {F:Frm} {a:Act} {nt:Nat}
theorem MI {l:Nat} {o o':Obj} (hl:w.heap[l]?=some o) (ho:(∀ c t fr,o≠.cells c t fr)∧∀ es clk,o≠.map es clk) (hG:¬ G l):Mono w G μ (w.putObj l o') G μ :=
 ⟨fun b hb=>⟨hb,World.putObj_heap_other (by rintro rfl; exact hG hb)⟩,fun _ _ h=>h,fun _ _ h=>h,fun b n ⟨cs,t,fr,h1,h2⟩=>⟨cs,t,fr,by
  rw[World.putObj_heap_other]
  ·exact h1
  ·rintro rfl
   rw[hl]at h1;exact ho.1 cs t fr (Option.some.inj h1),h2⟩,fun _ _ h=>h⟩
theorem aBD(hW:bC n0 G μ H w) {l:Nat} {o o':Obj} (hl:w.heap[l]?=some o) (ho:(∀ c t fr,o≠.cells c t fr)∧∀ es clk,o≠.map es clk) (hG:¬ G l):bC n0 G μ H (w.putObj l o'):=by
 have m:=MI (μ:=μ) (o':=o') hl ho hG;refine⟨?_,hW.tags,hW.inj,hW.lt.step m.good fun b hb=>by rw[World.putObj_size]; exact hW.lt b hb,hW.top,fun b hb=>hW.base b (by rw[World.putObj_size]at hb; exact hb),hW.rows.step m.aN (by rw[World.putObj_size]; exact Nat.le_refl _) (fun _=>rfl) (fun j b hj=>⟨?_,id,fun r k h1 h2 h3=>⟨r,k,h1,h2,h3⟩⟩) (fun r k _ _ h1 _ _=>⟨k,h1,rfl,rfl,rfl,rfl⟩)⟩
 case refine_2 =>
  rw[World.putObj_heap_other];rintro rfl;rcases hW.rows.cel j _ hj with ⟨c,t,fr,hc⟩|⟨es,clk,hc⟩
  ·rw[hl]at hc
   exact ho.1 c t fr (Option.some.inj hc)
  ·rw[hl]at hc
   exact ho.2 es clk (Option.some.inj hc)
 intro r k b hr hb;obtain⟨c,h1,h2,h3,h4⟩:=hW.blk r k b hr hb;have e:(w.putObj l o').heap[b]?=w.heap[b]?:=by
  rw[World.putObj_heap_other];rintro rfl;rw[hl]at h1;exact ho.1 _ _ _ (Option.some.inj h1)
 exact⟨c,e.trans h1,aQ.mono m e 0 _ h2,h3,h4⟩
theorem aHA {l:Nat} {o o':Obj} (hl:w.heap[l]?=some o) (ho:(∀ c t fr,o≠.cells c t fr)∧∀ es clk,o≠.map es clk) (hG:¬ G l) (hn:n0 l):Ext n0 w G μ (w.putObj l o') G μ :=
 {toMono:=MI hl ho hG
  os:=rfl
  tape:=rfl
  output:=rfl
  size:=by simp
  old:=fun b hb hnb=>World.putObj_heap_other (by rintro rfl; exact hnb hn)
  new:=fun b hb=>.inl hb }
theorem bEJ {T X T' Gx G1:Nat→Prop} {A B:World} (hW:bC (fun b=>n0 b∧¬ T b) G μ H B) (hn:∀ b,T b→n0 b) (hTX:∀ b,X b→T b) (hGX:∀ b,G b→¬ X b) (hG1:∀ b,G1 b→G b) (st:Stp X B A) (hT:∀ b,T' b→(T b∨B.heap.size≤b)∧b<A.heap.size) (hx:∀ b,Gx b→G1 b∨T' b) :
  Ext n0 B G μ A (G.or Gx) μ:={
 good:=fun b hb=>⟨.inl hb,st.aZ b (hW.lt b hb) (hGX b hb)⟩
 map:=fun _ _ h=>h
 len:=fun _ _ h=>h
 room:=st.room
 row:=fun _ _ h=>h
 os:=st.os
 tape:=st.tape
 output:=st.output
 size:=st.size
 old:=fun b hb hnb=>st.aZ b hb fun hs=>hnb (hn b (hTX b hs))
 new:=fun b hb=>by
  rcases hb with hb|hb
  ·exact .inl hb
  ·rcases hx b hb with h|h
   ·exact .inl (hG1 b h)
   ·rcases(hT b h).1 with h|h
    ·exact .inr (hn b h)
    ·exact .inr (hW.base b h).1 }
theorem a9U {T X T' Gx G1:Nat→Prop} {A B:World} (hW:bC (fun b=>n0 b∧¬ T b) G μ H B) (hTX:∀ b,X b→T b) (hGX:∀ b,G b→¬ X b) (hG1:∀ b,G1 b→G b) (st:Stp X B A) (hT:∀ b,T' b→(T b∨B.heap.size≤b)∧b<A.heap.size) (hx:∀ b,Gx b→G1 b∨T' b) :
  bC (fun b=>n0 b∧¬ T' b) (G.or Gx) μ H A:=by
 have m:Mono B G μ A (G.or Gx) μ:=⟨fun b hb=>⟨.inl hb,st.aZ b (hW.lt b hb) (hGX b hb)⟩,fun _ _ h=>h,fun _ _ h=>h,st.room,fun _ _ h=>h⟩
 refine⟨?_,hW.tags,hW.inj,?_,hW.top,fun b hb=>⟨(hW.base b (Nat.le_trans st.size hb)).1,fun hs=>Nat.lt_irrefl _ (Nat.lt_of_lt_of_le (hT b hs).2 hb)⟩,?_⟩
 case refine_3 =>
  have nT:∀ j b,G.row j=some b→¬ T' b:=fun j b hj hs=>by
   obtain⟨a1,a2,_⟩:=hW.rows.sep j b hj;rcases(hT b hs).1 with h|h
   ·exact a2.2 h
   ·omega
  refine(hW.rows.aX9 (n1:=fun b=>n0 b∧¬ T' b) fun j b hj hn=>⟨hn.1,nT j b hj⟩).step m.aN st.size (fun _=>rfl) (fun j b hj=>⟨?_,?_,fun r k h1 h2 h3=>⟨r,k,h1,h2,h3⟩⟩) (fun r k _ _ h1 _ _=>⟨k,h1,rfl,rfl,rfl,rfl⟩)
  ·obtain⟨a1,a2,_⟩:=hW.rows.sep j b hj
   exact st.aZ b a1 fun hx=>a2.2 (hTX b hx)
  ·rintro(h|h)
   ·exact h
   ·rcases hx b h with h'|h'
    ·exact hG1 b h'
    ·exact absurd h' (nT j b hj)
 ·intro r k b hr hb
  obtain⟨c,h1,h2,h3,h4,h5⟩:=hW.blk r k b hr hb;have hlt:=hW.rO hr hb;have hns:¬ X b:=by
   cases hf:k.frozen with
   | true=>exact hGX b (h4 hf)
   | false=>exact fun hx=>(h5 hf).1.2 (hTX b hx)
  have e:=st.aZ b hlt hns;have nT:k.frozen=false→¬ T' b:=fun hf hs=>by
   rcases(hT b hs).1 with h|h
   ·exact(h5 hf).1.2 h
   ·omega
  refine⟨c,e.trans h1,aQ.mono m e 0 _ h2,h3,fun hf=>.inl (h4 hf),fun hf=>⟨⟨(h5 hf).1.1,nT hf⟩,?_⟩⟩
  rintro(h|h)
  ·exact(h5 hf).2 h
  ·rcases hx b h with h'|h'
   ·exact(h5 hf).2 (hG1 b h')
   ·exact nT hf h'
 ·refine hW.lt.step m.good ?_
  rintro b (hb|hb)
  ·exact Nat.lt_of_lt_of_le (hW.lt b hb) st.size
  ·rcases hx b hb with h|h
   ·exact Nat.lt_of_lt_of_le (hW.lt b (hG1 b h)) st.size
   ·exact(hT b h).2
theorem a5M:∀ {ps:List Nat} {qs:List PV} {us:List Value} {F:Frm} {tmps:Array Value},ps.length=qs.length→(∀ t∈ps,t<nt)→VRs w G μ qs us→j4 w G μ nt F { tmps:=tmps,defers:=[] } →
  j4 w G μ nt (a5C ps qs F) { tmps:=(ps.zip us).foldl (fun t (p,v)=>t.setIfInBounds p v) tmps,defers:=[] }
 | [],[],us,F,tmps,_,_,hv,hF=>by
  simp only[a5C,List.zip_nil_left,List.foldl_nil]; exact hF
 | t::ts,q::qs,us,F,tmps,hl,hb,hv,hF=>by
  rw[VRs]at hv;obtain⟨v,vs,rfl,h1,h2⟩:=hv;simp only[a5C,List.zip_cons_cons,List.foldl_cons];exact a5M (by simpa using hl) (fun s hs=>hb s (List.mem_cons_of_mem _ hs)) h2 (hF.cons (hb t List.mem_cons_self) h1)
 | [],_::_,us,F,tmps,hl,_,_,_=>by simp at hl
 | _::_,[],us,F,tmps,hl,_,_,_=>by simp at hl
end
end Go.PM
namespace Go.PM
open Go Go.RowKit
def MF(μ:Mp) (T:List Nat):Mp:=⟨fun r=>if r∈T then μ.loc r else none,fun r=>if r∈T then μ.len r else none⟩
section
variable {P:Program} {n0:Nat→Prop} {w w' wi:World} {G G' Gi:Gd} {μ μ' μi:Mp} {H:Heap} {F:Frm} {a:Act} {nt:Nat}
theorem MZ {T:List Nat} {r:Nat} (h:r∈T):(MF μ T).loc r=μ.loc r∧(MF μ T).len r=μ.len r:=by simp[MF,h]
theorem aH0 {T:List Nat}:∀ r,¬ r∈T→(MF μ T).loc r=none∧(MF μ T).len r=none:=fun r h=>by simp[MF,h]
theorem aPX(T:List Nat):Ext n0 w G (MF μ T) w G μ:={
 good:=fun _ h=>⟨h,rfl⟩
 map:=fun r b hr=>by
  by_cases h:r∈T
  ·rw[(MZ h).1]at hr; exact hr
  ·rw[(aH0 r h).1]at hr; cases hr
 len:=fun r b hr=>by
  by_cases h:r∈T
  ·rw[(MZ h).2]at hr; exact hr
  ·rw[(aH0 r h).2]at hr; cases hr
 room:=fun _ _ h=>h
 row:=fun _ _ h=>h
 os:=rfl
 tape:=rfl
 output:=rfl
 size:=Nat.le_refl _
 old:=fun _ _ _=>rfl
 new:=fun _ h=>.inl h }
theorem aTY:∀ (ts:List Ty) (x:XZ ts),fP.noRefs (aHY ts x)=true
 | [],_=>rfl
 | t::r,(x,xs)=>by simp only[aHY,fP.noRefs,fP,aTY r xs,Bool.and_self]
theorem bFX {T:List Nat}:∀ (k:Kd) (x:k.den) (n:Nat) {v:Value},(∀ r,r∈aLR k n→r∈T)→VR w G μ (D5 k x n) v→VR w G (MF μ T) (D5 k x n) v
 | .int _,x,n,v,_,h=>by simp only[D5]at h ⊢; rw[VR]at h ⊢; exact h
 | .bool,x,n,v,_,h=>by simp only[D5]at h ⊢; rw[VR]at h ⊢; exact h
 | .str,x,n,v,_,h=>by simp only[D5]at h ⊢; rw[VR]at h ⊢; exact h
 | .list t,x,n,v,_,h=>(FG (D5 (.list t) x n) v rfl h).bN
 | .agg t,x,n,v,_,h=>(FG (D5 (.agg t) x n) v (by simp only[D5,fP]; exact XT t x) h).bN
 | .own e t,x,n,v,hT,h=>by
  have:=MZ (μ:=μ) (hT n (by simp[aLR]))
  simp only[D5]at h ⊢;rw[VR]at h ⊢; rw[this.1,this.2]; exact h
 | .box e t,x,n,v,hT,h=>by
  have:=MZ (μ:=μ) (hT n (by simp[aLR]))
  simp only[D5]at h ⊢;rw[VR]at h ⊢; rw[this.1]; exact h
 | .bown e et t,x,n,v,hT,h=>by
  have:=MZ (μ:=μ) (hT n (by simp[aLR]))
  simp only[D5]at h ⊢;rw[VR]at h ⊢; rw[this.1]; exact h
 | .bag e t1 et t t2,x,n,v,hT,h=>by
  have:=MZ (μ:=μ) (hT n (by simp[aLR]))
  simp only[D5]at h ⊢;rw[VR]at h ⊢; rw[this.1]; exact h
 | .bag2 e t1 et t eu u,x,n,v,hT,h=>by
  have:=MZ (μ:=μ) (hT n (by simp[aLR]))
  simp only[D5]at h ⊢;rw[VR]at h ⊢; rw[this.1]; exact h
 | .ptr t,x,n,v,_,h=>(FG (D5 (.ptr t) x n) v rfl h).bN
 | .fn g,x,n,v,_,h=>by simp only[D5]at h ⊢; rw[VR]at h ⊢; exact h
 | .nil0,x,n,v,_,h=>by simp only[D5]at h ⊢; rw[VR]at h ⊢; exact h
 | .val,x,n,v,_,h=>by simp only[D5]at h ⊢; rw[VR]at h ⊢; exact h
 | .hnd sz,x,n,v,_,h=>(FG (D5 (.hnd sz) x n) v rfl h).bN
 | .mpk j,x,n,v,_,h=>(FG (D5 (.mpk j) x n) v rfl h).bN
 | .ar e t,x,n,v,_,h=>by simp only[D5]; rw[VR]; trivial
 | .nilI,x,n,v,_,h=>by simp only[D5]at h ⊢; rw[VR]at h ⊢; exact h
 | .clo g ts,x,n,v,_,h=>(FG (D5 (.clo g ts) x n) v (by simp only[D5,fP,fP.noRefs,aTY ts x,Bool.and_self]) h).bN
 | .win j sz,x,n,v,hT,h=>by
  have:=MZ (μ:=μ) (hT j (by simp[aLR]))
  simp only[D5]at h ⊢;rw[VR]at h ⊢; rw[this.1,this.2]; exact h
theorem a5P {T:List Nat}:∀ (sh:List (Nat×Kd)) (x:Shape.den sh) (n:Nat) {t:Nat} {v:Value},(∀ r,r∈J6 sh n→r∈T)→VR w G μ (fB (EG sh x n) t) v→VR w G (MF μ T) (fB (EG sh x n) t) v
 | [],_,_,t,v,_,h=>by simp only[EG,fB]; rw[VR]; trivial
 | (s,k)::r,(x,xs),n,t,v,hT,h=>by
  simp only[EG]at h ⊢;rw[jV]at h ⊢
  by_cases hs:t=s
  ·rw[if_pos hs]at h ⊢
   exact bFX k x n (fun r hr=>hT r (by simp only[J6]; exact List.mem_append_left _ hr)) h
  ·rw[if_neg hs]at h ⊢
   exact a5P r xs (n+k.pos) (fun r hr=>hT r (by simp only[J6]; exact List.mem_append_right _ hr)) h
theorem aWX(hW:bC n0 G μ H w) (o:Obj):Ext n0 w G μ (w.alloc o) G μ∧bC n0 G μ H (w.alloc o):=by
 have e:Ext n0 w G μ (w.alloc o) G μ:={
  good:=fun b hb=>⟨hb,Below.heap_alloc _ _ _ (hW.lt b hb)⟩
  map:=fun _ _ h=>h
  len:=fun _ _ h=>h
  room:=fun b n hc=>by
   obtain⟨cs,t,fr,h1,h2⟩:=hc;exact⟨cs,t,fr,by rw[Below.heap_alloc _ _ _ (iA h1)]; exact h1,h2⟩
  row:=fun _ _ h=>h
  os:=rfl
  tape:=rfl
  output:=rfl
  size:=by simp
  old:=fun b hb _=>Below.heap_alloc _ _ _ hb
  new:=fun b hb=>.inl hb }
 exact⟨e,hW.aZ e ⟨fun _=>rfl,fun j b hj=>⟨Below.heap_alloc _ _ _ (hW.rows.sep j b hj).1,id⟩⟩ (fun r k b hr hb=>⟨Below.heap_alloc _ _ _ (hW.rO hr hb),id⟩) fun b hb=>Nat.lt_of_lt_of_le (hW.lt b hb) e.size⟩
theorem Ext.plain (h:Ext n0 w G μ w' G' μ'):Ext n0 w G aN w' G' aN :=
 {good:=h.good,map:=fun _ _ h=>(by cases h),len:=fun _ _ h=>(by cases h),room:=h.room,row:=h.row,os:=h.os,tape:=h.tape,output:=h.output,size:=h.size,old:=h.old,new:=h.new }
theorem Ext.back (hfl:∀ r,μi.loc r=none∧μi.len r=none) (h:Ext n0 w G aN w' G' aN):Ext n0 w G μi w' G' μ' :=
 {good:=h.good,map:=fun r b hr=>(by rw[(hfl r).1]at hr; cases hr),len:=fun r b hr=>(by rw[(hfl r).2]at hr; cases hr),room:=h.room,row:=h.row,os:=h.os,tape:=h.tape,output:=h.output,size:=h.size,old:=h.old,new:=h.new }
def Ex.code:Ex→Code
 | .normal=>.skip
 | .ret=>.ret
 | .exit i=>.exit i
structure Btw (n0:Nat→Prop) (wi:World) (Gi:Gd) (μi:Mp) (nt:Nat) (a:Act) (G0:Gd) (N L D:Nat) (F:Frm) (H:Heap) (T X:Nat→Prop) (B:World) (rec:Obj) (G:Gd) (μ:Mp):Prop where
 ext:Ext n0 wi Gi μi B G μ
 winv:bC (fun b=>n0 b∧¬ T b) G μ H B
 finv:j4 B G μ nt F { a with defers:=[] }
 base:∀ b,G0 b→G b
 good:∀ b,G b→¬ X b
 sub:∀ b,X b→T b
 seq:∀ b,T b→n0 b∧N≤b
 size:N≤B.heap.size
 notL:¬ G L
 notD:¬ G D
 atL:B.heap[L]?=some rec
 atD:B.heap[D]?=some (.deferred (some []))
 marks:Marks wi B G a.defers
theorem bGN {gf:FuncId} {ts:List Ty} {c:XZ ts} {v:Value} (h:VR w G aN (.clo (.func gf) [] (aHY ts c)) v):∃ cs:Array Value,v=.func (.func gf) #[] cs∧VRs w G aN (aHY ts c) cs.toList:=by
 rw[VR]at h;obtain⟨fs,cs,h1,h2,h3⟩:=h;rw[VRs]at h2;have:fs=#[]:=by
  apply Array.ext';simpa using h2
 subst this;exact⟨cs,h1,h3⟩
theorem aMZ:∀ (l:List Kd) (x:aJ l),(qA l x).length=l.length
 | [],_=>rfl
 | k::r,(x,xs)=>by simp only[qA,List.length_cons,aMZ r xs]
set_option maxHeartbeats 2000000 in
theorem bKC {E:Env} {aZ:Nat} {lt rt:Nat→Option aS} (hcl:fQ P (gX P E)) (hP:P.follows .mixedOrders=true) {g:Operand} {ps:Array Tmp} {as1 body:Code} {gf:FuncId} {ts:List Ty} {ks:List Kd} {f:XZ ts→Option (List (aJ ks))}
  (hit:a1D P gf ts ks f) (hgf:∀ args w,(callFunc gf args).run P w=.ok (.enter gf args) w)
  {sh:List (Nat×Kd)} {exits:List (Ex×List (Nat×Kd))} {step:Shape.den sh→aJ ks→Option (Shape.den sh⊕aW exits)} {all:Shape.den sh→Option (List (aJ ks))}
  (has:∀ b∈gR as1,aA0 P nt lt rt true (J6 sh 0) b) (hbd:∀ b∈gR body,aA0 P nt lt rt true (J6 sh 0) b)
  (hsq:∀ x l,all x=some l→∃ c,bJ3 gf ts sh g x=some c∧f c=some l)
  (hr:∀ y e,a7G P E nt aZ lt rt ps.toList as1 body ks sh exits y e=step y e) :
  aEU P nt false [] (.rangeFunc g ps as1 body) ⟨sh,exits,bJS sh exits all step⟩:=by
 intro x z hz ro n n0 wi Gi μi a w hro hfl0 hI;have hfl:∀ r,μi.loc r=none∧μi.len r=none:=fun r=>hfl0 r (by simp)
 have hro:=hro rfl;subst hro;show (Code.rangeFunc g ps as1 body).wpIn Fence.wide n P _ a w;dsimp only at hz hI ⊢;unfold bJS at hz;obtain⟨lst,hall⟩:∃ lst,all x=some lst:=by
  cases h:all x with
  | none=>rw[h]at hz; cases hz
  | some l=>exact⟨l,rfl⟩
 rw[hall]at hz;dsimp only at hz;obtain⟨c,hc1,hc2⟩:=hsq x lst hall;obtain⟨G,μ,e,hW,hF,hm⟩:=hI;have hgv:VR w G μ (ev (EG sh x 0) g) (a.eval g):=by
  have:=dN hF g;have e1:({ a with defers:=[] }:Act).eval g=a.eval g:=by cases g <;> rfl
  rwa[e1]at this
 obtain⟨hpl0,hc1⟩:=aO hc1;obtain⟨lb,hg,hvs⟩:=bGN (aHG hc1 hgv);refine wpIn_rangeFunc ?_;intro fn _;obtain⟨rec,hrec⟩:∃ rec:LoopState→Option Code→Loop,rec=fun st pe=>{ state:=st,pending:=pe,fn,tmps:=a.tmps,params:=ps,assign:=as1,body,defers:=w.heap.size }:=⟨_,rfl⟩
 obtain⟨W1,hW1⟩:∃ W1,(w.alloc (.deferred (some []))).alloc (.loop (rec .ready none))=W1:=⟨_,rfl⟩;obtain⟨L,hLe⟩:∃ L,w.heap.size+1=L:=⟨_,rfl⟩;obtain⟨D,hDe⟩:∃ D,w.heap.size=D:=⟨_,rfl⟩;have hs1:W1.heap.size=w.heap.size+2:=by rw[← hW1]; simp
 have hL1:W1.heap[L]?=some (.loop (rec .ready none)):=by
  rw[← hW1,← hLe]; have:=World.alloc_heap_new (w.alloc (.deferred (some []))) (.loop (rec .ready none)); rwa[World.size_alloc]at this
 have hD1:W1.heap[D]?=some (.deferred (some [])):=by
  rw[← hW1,← hDe]; exact(Below.heap_alloc _ _ _ (by simp)).trans (World.alloc_heap_new w _)
 obtain⟨a1,a2⟩:=aWX (n0:=n0) hW (.deferred (some []));obtain⟨b1,b2⟩:=aWX (n0:=n0) a2 (.loop (rec .ready none));rw[hW1]at b1 b2;have eW1:Ext n0 wi Gi μi W1 G μ:=(e.trans a1).trans b1;have hvs1:VRs W1 G aN (aHY ts c) lb.toList:=VRs.mono (a1.toMono.trans b1.toMono).aN _ _ hvs;have hGL:¬ G L:=fun h=>by have:=hW.lt L h; omega
 have hGD:¬ G D:=fun h=>by have:=hW.lt D h; omega
 have hn0L:n0 L:=hW.base L (by omega)
 have hn0D:n0 D:=hW.base D (by omega)
 have marks1:Marks wi W1 G a.defers:=hm.to fun b hb h1 h2=>⟨by rw[← hW1,Below.heap_alloc _ _ _ (by have:=iA h1; simp; omega),Below.heap_alloc _ _ _ (iA h1)]; exact h1,h2⟩
 have markN:∀ b,({ target:=.collected b,args:=#[] }:Deferred)∈a.defers→b<w.heap.size:=by
  intro b hb;obtain⟨b',e1,e2,_⟩:=hm.mem _ hb;have:b=b':=by injection e1 with e1 _; injection e1
  subst this;exact iA e2
 -- the states between the rounds
 let J:List (aJ ks)→(Nat→Prop)→(Nat→Prop)→World→Prop:=fun pre T X B=>∃ y,aRE step (bMF sh exits) (lst.drop pre.length) y=some z∧∃ G' μ',Btw n0 wi Gi μi nt a G W1.heap.size L D (EG sh y 0) (PO sh y) T X B (.loop (rec .ready none)) G' μ'
 let Jx:List (aJ ks)→(Nat→Prop)→(Nat→Prop)→World→Prop:=fun pre T X B=>(I7 exits z).1≠.normal∧∃ G' μ',Btw n0 wi Gi μi nt a G W1.heap.size L D (I7 exits z).2.1 (I7 exits z).2.2 T X B (.loop (rec .done (some (I7 exits z).1.code))) G' μ'
 refine⟨L,[{ target:=.collected D,args:=#[] }],W1,{ target:=.fn (.func gf) lb,args:=#[.func (.yield L) #[] #[]] },W1,gf,#[.func (.yield L) #[] #[]]++lb,W1,?_,?_,fun _ _=>trivial,?_,fun h=>(by cases h),?_⟩
 ·rw[← hW1,hrec,← hLe,← hDe]; exact run_enterLoop_outer _ _ _ _ _
 ·simp only[resolve,hg]
  simp[go_sem]
 ·simp[invoke,go_sem,hgf]
 ·have hcall:=hit c lst hc2 (n-1) L W1 G.ok lb.toList b2.lt (zX (G:=G) (G':=Gd.of G.ok) (fun b h=>h) _ _ _ (aQR ts c hpl0) hvs1) J Jx ?round ?start
  ·rw[Array.toArray_toList]at hcall
   refine hcall.mono ?_;rintro en C ⟨⟨v,rfl⟩,T,X,B,st,hJ⟩;have hstep:∀ {F':Frm} {H':Heap} {st':LoopState} {pe:Option Code} {G':Gd} {μ':Mp},Btw n0 wi Gi μi nt a G W1.heap.size L D F' H' T X B (.loop (rec st' pe)) G' μ' →
     C.heap[L]?=some (.loop (rec st' pe))∧∀ o,IM n0 wi Gi μi nt F' H' { a with defers:={ target:=.collected D,args:=#[] }::a.defers } (C.putObj L o):=by
    intro F' H' st' pe G' μ' bt;have nS:∀ b,b<W1.heap.size→¬ X b:=fun b hb hs=>Nat.lt_irrefl _ (Nat.lt_of_lt_of_le hb (bt.seq b (bt.sub b hs)).2)
    have hLC:C.heap[L]?=some (.loop (rec st' pe)):=(st.aZ L (iA bt.atL) (nS L (by omega))).trans bt.atL
    have hDC:C.heap[D]?=some (.deferred (some [])):=(st.aZ D (iA bt.atD) (nS D (by omega))).trans bt.atD
    refine⟨hLC,fun o=>?_⟩
    have x1:=bEJ (T':=fun _=>False) (Gx:=fun _=>False) bt.winv (fun b hb=>(bt.seq b hb).1) bt.sub bt.good bt.base st (fun b hb=>hb.elim) (fun b hb=>hb.elim)
    have x2:=(a9U (T':=fun _=>False) (Gx:=fun _=>False) bt.winv bt.sub bt.good bt.base st (fun b hb=>hb.elim) (fun b hb=>hb.elim)).wider (n0:=n0) fun b hb=>hb.1
    have nL:¬ (G' L∨False):=fun h=>h.elim bt.notL id
    have nD:¬ (G' D∨False):=fun h=>h.elim bt.notD id
    have x3:=aBD (o':=o) x2 hLC ⟨fun _ _ _ h=>(by cases h),fun _ _ h=>(by cases h)⟩ nL
    have x4:=aHA (G:=G'.or fun _=>False) (n0:=n0) (μ:=μ') (o':=o) hLC ⟨fun _ _ _ h=>(by cases h),fun _ _ h=>(by cases h)⟩ nL hn0L
    refine⟨G'.or fun _=>False,μ',(bt.ext.trans x1).trans x4,x3,bt.finv.mono (x1.toMono.trans x4.toMono),⟨D,rfl,?_,?_,nD,?_⟩,?_⟩
    ·rw[World.putObj_heap_other (by omega)]; exact hDC
    ·have:=e.size; omega
    ·intro d' hd' he
     subst he;have:=markN _ hd';omega
    ·refine bt.marks.to fun b hb h1 h2=>⟨?_,fun h=>h.elim h2 id⟩
     have hbw:=markN b hb;rw[World.putObj_heap_other (by omega),st.aZ b (iA h1) (nS b (by omega))]
     exact h1
   rcases hJ with ⟨y,hy,G',μ',bt⟩|⟨pre,hne,G',μ',bt⟩
   ·obtain⟨h1,h2⟩:=hstep bt
    rw[List.drop_length]at hy;simp only[aRE]at hy;have hel:=run_endLoop (P:=P) h1 (by rw[hrec]; simp)
    have k:=fun o=>(h2 o).aPA hfl0 hy
    have hpn:(rec .ready none).pending=none:=by rw[hrec]
    rw[hpn]at hel;exact⟨none,_,hel,by rw[(k (.deferred none)).1]; rfl,(k _).2,fun h=>by cases h⟩
   ·obtain⟨h1,h2⟩:=hstep bt
    have hel:=run_endLoop (P:=P) h1 (by rw[hrec]; simp)
    have hpn:(rec .done (some (I7 exits z).1.code)).pending=some (I7 exits z).1.code:=by rw[hrec]
    rw[hpn]at hel;refine⟨some (I7 exits z).1.code,_,hel,?_⟩;dsimp only;clear hel hpn h1 bt;generalize I7 exits z=zz at hne h2 ⊢;obtain⟨ex,F',H'⟩:=zz;cases ex with
    | normal=>exact absurd rfl hne
    | ret=>exact wpIn_ret ⟨rfl,h2 _,fun h=>by cases h⟩
    | exit i=>exact wpIn_exit ⟨rfl,h2 _,fun h=>by cases h⟩
  case start =>
   refine⟨x,by simpa using hz,G,μ,eW1,b2.wider fun b hb=>⟨hb,id⟩,hF.mono (a1.toMono.trans b1.toMono),fun b h=>h,fun b _ h=>h,fun b h=>h.elim,fun b h=>h.elim,Nat.le_refl _,hGL,hGD,hL1,hD1,marks1⟩
  case round =>
   rintro pre el post T X B T' X' A us Gx m' hlst ⟨y,hy,G',μ',bt⟩ st hT' hX' hGx hus;have hdrop:lst.drop pre.length=el::post:=by rw[hlst]; simp
   have hdrop2:lst.drop (pre++[el]).length=post:=by rw[hlst]; simp
   rw[hdrop]at hy;simp only[aRE]at hy;obtain⟨v,hv⟩:∃ v,step y el=some v:=by
    cases h:step y el with
    | none=>rw[h]at hy; cases hy
    | some v=>exact⟨v,rfl⟩
   have hrg:=hr y el;rw[hv]at hrg;unfold a7G at hrg;obtain⟨hck,hrg⟩:=aO hrg;simp only[Bool.and_eq_true,List.all_eq_true]at hck;have hpl:=Nat.eq_of_beq_eq_true hck.1;have hpt:∀ t∈ps.toList,t<nt:=fun t ht=>jZ (hck.2 t ht)
   -- the world in which the element comes
   have nT:∀ b,b<W1.heap.size→¬ T b:=fun b hb hs=>Nat.lt_irrefl _ (Nat.lt_of_lt_of_le hb (bt.seq b hs).2)
   have nS:∀ b,b<W1.heap.size→¬ X b:=fun b hb hs=>nT b hb (bt.sub b hs)
   have hLB:=iA bt.atL;have hDB:=iA bt.atD;have hLA:A.heap[L]?=some (.loop (rec .ready none)):=(st.aZ L hLB (nS L (by omega))).trans bt.atL
   have hDA:A.heap[D]?=some (.deferred (some [])):=(st.aZ D hDB (nS D (by omega))).trans bt.atD
   have x1:=bEJ bt.winv (fun b hb=>(bt.seq b hb).1) bt.sub bt.good bt.base st hT' (fun b hb=>(hGx b hb).1)
   have x2:=a9U bt.winv bt.sub bt.good bt.base st hT' (fun b hb=>(hGx b hb).1)
   have nS':∀ b,b<B.heap.size→¬ T b→¬ T' b:=by
    intro b hb hs h;rcases(hT' b h).1 with h'|h'
    ·exact hs h'
    ·omega
   have nG2:∀ b,b<B.heap.size→¬ T b→¬ G' b→¬ (G' b∨Gx b):=by
    rintro b hb ht hg (h|h)
    ·exact hg h
    ·rcases(hGx b h).1 with h'|h'
     ·exact hg (bt.base b h')
     ·exact nS' b hb ht h'
   have nL2:=nG2 L hLB (nT L (by omega)) bt.notL
   have nD2:=nG2 D hDB (nT D (by omega)) bt.notD
   have marksA:Marks wi A (G'.or Gx) a.defers:=bt.marks.to fun b hb h1 h2=>⟨by rw[st.aZ b (iA h1) (nS b (by have:=markN b hb; omega))]; exact h1,nG2 b (iA h1) (nT b (by have:=markN b hb; omega)) h2⟩
   obtain⟨G2,hG2⟩:∃ G2,G2=G'.or Gx:=⟨_,rfl⟩;rw[← hG2]at x1 x2 marksA;have nL2:¬ G2 L:=by rw[hG2]; exact nL2
   have nD2:¬ G2 D:=by rw[hG2]; exact nD2
   have hxS:∀ b,(b=L∨b=D∨({ target:=.collected b,args:=#[] }:Deferred)∈a.defers)→b<A.heap.size∧(∀ c t fr,A.heap[b]?≠some (.cells c t fr))∧∀ es clk,A.heap[b]?≠some (.map es clk):=by
    rintro b (rfl|rfl|hb)
    ·exact⟨iA hLA,fun c t fr h=>(by rw[hLA]at h; cases h),fun _ _ h=>(by rw[hLA]at h; cases h)⟩
    ·exact⟨iA hDA,fun c t fr h=>(by rw[hDA]at h; cases h),fun _ _ h=>(by rw[hDA]at h; cases h)⟩
    ·obtain⟨b',e1,e2,_⟩:=marksA.mem _ hb
     have:b=b':=by injection e1 with e1 _; injection e1
     subst this;exact⟨iA e2,fun c t fr h=>(by rw[e2]at h; cases h),fun _ _ h=>(by rw[e2]at h; cases h)⟩
   have x3:=x2.less hxS;obtain⟨n1,hn1⟩:∃ n1:Nat→Prop,n1=fun b=>(n0 b∧¬ T' b)∧¬ (b=L∨b=D∨({ target:=.collected b,args:=#[] }:Deferred)∈a.defers):=⟨_,rfl⟩
   rw[← hn1]at x3;have n1n0:∀ b,n1 b→n0 b:=fun b h=>by rw[hn1]at h; exact h.1.1
   have n1S:∀ b,n1 b→¬ T' b:=fun b h=>by rw[hn1]at h; exact h.1.2
   have n1L:¬ n1 L:=fun h=>by rw[hn1]at h; exact h.2 (.inl rfl)
   have n1D:¬ n1 D:=fun h=>by rw[hn1]at h; exact h.2 (.inr (.inl rfl))
   have n1M:∀ b,({ target:=.collected b,args:=#[] }:Deferred)∈a.defers→¬ n1 b:=fun b hb h=>by rw[hn1]at h; exact h.2 (.inr (.inr hb))
   have hFA:j4 A G2 μ' nt (EG sh y 0) { a with defers:=[] }:=bt.finv.mono x1.toMono;have husA:VRs A G2 μ' (qA ks el) us:=VRs.mono (⟨fun b hb=>⟨by rw[hG2]; exact .inr hb,rfl⟩,fun _ _ h=>(by cases h),fun _ _ h=>(by cases h),fun _ _ h=>h,fun _ _ h=>(by cases h)⟩:Mono A (Gd.of Gx) aN A G2 μ') _ _ hus
   have hlen:us.length=ps.size:=by
    rw[← husA.length,aMZ,← hpl,Array.length_toList]
   have hyield:=run_yield (P:=P) (args:=us.toArray) hLA (by rw[hrec]; simpa using hlen)
   have hfold:(ps.zip us.toArray).foldl (fun tmps (t,a)=>tmps.setIfInBounds t a) a.tmps=(ps.toList.zip us).foldl (fun t (p,v)=>t.setIfInBounds p v) a.tmps:=by
    rw[← Array.foldl_toList,Array.toList_zip]
   rw[hrec]at hyield;dsimp only at hyield;rw[hfold]at hyield;refine⟨fn,_,as1,body,hyield,roundIn_of_wpIn trivial ?_⟩
   -- the assignment
   have hI0:IM n1 A G2 (MF μ' (J6 sh 0)) nt (a5C ps.toList (qA ks el) (EG sh y 0)) (PO sh y) { tmps:=(ps.toList.zip us).foldl (fun t (p,v)=>t.setIfInBounds p v) a.tmps,defers:=[] } A :=
    ⟨G2,μ',aPX _,x3,a5M (by rw[aMZ]; exact hpl) hpt husA hFA,trivial⟩
   obtain⟨⟨ex1,F1,H1⟩,hk1,hrun1⟩:=qZ hcl hP as1 _ _ _ _ has hrg;dsimp only at hk1;cases ex1 with
   | ret=>cases hk1
   | exit i=>cases hk1
   | normal =>
   dsimp only at hk1;obtain⟨⟨ex2,F2,H2⟩,hk2,hrun2⟩:=qZ hcl hP body _ _ _ _ hbd hk1;show as1.wpIn (Fr (some L)) m' P _ _ A;refine wpIn_mono (hrun1 (some L) m' n1 A G2 _ _ A (fun h=>by cases h) (fun r h=>aH0 r h) hI0) ?_
   rintro e1 act1 A1 ⟨rfl,⟨G3,μ3,y1,y2,y3,y4⟩,hd1⟩;have hd1:act1.defers=[]:=hd1 rfl;have nL3:¬ G3 L:=fun h=>(y1.new L h).elim nL2 n1L
   have hL1':A1.heap[L]?=some (.loop (rec .ready none)):=(y1.old L (iA hLA) n1L).trans hLA;refine⟨_,run_beginRound hL1' (by rw[hrec]),?_⟩
   obtain⟨A2,hA2⟩:∃ A2,A1.putObj L (.loop { rec .ready none with state:=.busy })=A2:=⟨_,rfl⟩;rw[hA2];have p1:Mono A1 G3 μ3 A2 G3 μ3:=by rw[← hA2]; exact MI hL1' ⟨fun _ _ _ h=>(by cases h),fun _ _ h=>(by cases h)⟩ nL3
   have p2:bC n1 G3 μ3 H1 A2:=by rw[← hA2]; exact aBD y2 hL1' ⟨fun _ _ _ h=>(by cases h),fun _ _ h=>(by cases h)⟩ nL3
   have hL2':A2.heap[L]?=some (.loop { rec .ready none with state:=.busy }):=by rw[← hA2]; exact World.putObj_heap_same (iA hL1')
   have e12:Ext n0 A1 G3 μ3 A2 G3 μ3:=by rw[← hA2]; exact aHA hL1' ⟨fun _ _ _ h=>(by cases h),fun _ _ h=>(by cases h)⟩ nL3 hn0L
   have hI2:IM n1 A2 G3 (MF μ' (J6 sh 0)) nt F1 H1 act1 A2 :=
    ⟨G3,μ3,{ aPX (n0:=n1) (w:=A2) (G:=G3) (μ:=μ') []with
     map:=y1.map
     len:=y1.len
     good:=fun b hb=>⟨hb,rfl⟩
     room:=fun _ _ h=>h
     new:=fun b hb=>.inl hb },p2,y3.mono p1,by rw[hd1]; trivial⟩
   show body.wpIn (Fr (some L)) m' P _ act1 A2;refine wpIn_mono (hrun2 (some L) m' n1 A2 G3 _ act1 A2 (fun h=>by cases h) (fun r h=>aH0 r h) hI2) ?_
   rintro e2 act2 A3 ⟨rfl,⟨G4,μ4,z1,z2,z3,z4⟩,hd2⟩;have nL4:¬ G4 L:=fun h=>(z1.new L h).elim nL3 n1L
   have hL3':A3.heap[L]?=some (.loop { rec .ready none with state:=.busy }):=(z1.old L (iA hL2') n1L).trans hL2';have hdn:act2.defers=[]:=(hd2 rfl).trans hd1
   -- back with the caller
   have hFend:j4 A3 G4 μ4 nt (EG sh y 0) { a with defers:=[] }:=by
    refine⟨hFA.size,fun t=>?_,rfl⟩
    have v0:=a5P (T:=J6 sh 0) sh y 0 (fun r h=>h) (hFA.slot t)
    have v1:=VR.mono (⟨y1.good,fun _ _ h=>h,fun _ _ h=>h,y1.room,y1.row⟩:Mono A G2 (MF μ' (J6 sh 0)) A1 G3 (MF μ' (J6 sh 0))) _ _ v0
    have v2:=VR.mono (⟨p1.good,fun _ _ h=>h,fun _ _ h=>h,p1.room,p1.row⟩:Mono A1 G3 (MF μ' (J6 sh 0)) A2 G3 (MF μ' (J6 sh 0))) _ _ v1
    exact VR.mono z1.toMono _ _ v2
   have back:∀ (o:Obj) (F5:Frm) (H5:Heap),(∀ {n0:Nat→Prop} {wi:World} {Gi:Gd} {μi:Mp} {a:Act} {w:World},(∀ r,¬ r∈([]:List Nat)→μi.loc r=none∧μi.len r=none)→IM n0 wi Gi μi nt (EG sh y 0) H2 a w→IM n0 wi Gi μi nt F5 H5 a w) →
     ∃ G5 μ5,Btw n0 wi Gi μi nt a G W1.heap.size L D F5 H5 T' X' (A3.putObj L o) o G5 μ5:=by
    intro o F5 H5 hdec;have q1:=aBD (o':=o) z2 hL3' ⟨fun _ _ _ h=>(by cases h),fun _ _ h=>(by cases h)⟩ nL4
    have q2:=MI (μ:=μ4) (o':=o) hL3' ⟨fun _ _ _ h=>(by cases h),fun _ _ h=>(by cases h)⟩ nL4
    have q3:=aHA (n0:=n0) (μ:=μ4) (o':=o) hL3' ⟨fun _ _ _ h=>(by cases h),fun _ _ h=>(by cases h)⟩ nL4 hn0L
    have hIe:IM n1 (A3.putObj L o) G4 aN nt (EG sh y 0) H2 { a with defers:=[] } (A3.putObj L o) :=
     ⟨G4,μ4,{ aPX (n0:=n1) (w:=A3.putObj L o) (G:=G4) (μ:=μ4) []with
      map:=fun _ _ h=>by cases h
      len:=fun _ _ h=>by cases h
      good:=fun b hb=>⟨hb,rfl⟩
      room:=fun _ _ h=>h
      new:=fun b hb=>.inl hb },q1,hFend.mono q2,trivial⟩
    obtain⟨G5,μ5,r1,r2,r3,_⟩:=hdec (fun _ _=>⟨rfl,rfl⟩) hIe
    have g45:∀ b,G5 b→G2 b∨n1 b:=fun b h=>by
     rcases r1.new b h with h|h
     ·rcases z1.new b h with h|h
      ·exact y1.new b h
      ·exact .inr h
     ·exact .inr h
    have mk:∀ b,({ target:=.collected b,args:=#[] }:Deferred)∈a.defers→A.heap[b]?=some (.deferred (some []))→(A3.putObj L o).heap[b]?=some (.deferred (some [])):=by
     intro b hb h1;have hbw:=markN b hb;have k1:=(y1.old b (iA h1) (n1M b hb)).trans h1;have k2:A2.heap[b]?=some (.deferred (some [])):=by rw[← hA2,World.putObj_heap_other (by omega)]; exact k1
     have k3:=(z1.old b (iA k2) (n1M b hb)).trans k2;rw[World.putObj_heap_other (by omega)]; exact k3
    refine⟨G5,μ5,?_,r2.wider fun b hb=>⟨n1n0 b hb,n1S b hb⟩,r3,?_,?_,?_,?_,?_,?_,?_,?_,?_,?_⟩
    ·have t1:=((bt.ext.plain.trans x1.plain).trans (y1.wider n1n0).plain).trans e12.plain
     exact Ext.back hfl (((t1.trans (z1.wider n1n0).plain).trans q3.plain).trans (r1.wider n1n0).plain)
    ·intro b hb
     have h2:G2 b:=by rw[hG2]; exact .inl (bt.base b hb)
     exact(r1.good b (z1.good b (y1.good b h2).1).1).1
    ·intro b hb hs
     rcases g45 b hb with h|h
     ·rw[hG2]at h
      rcases h with h|h
      ·rcases(hX' b hs).2 with h'|h'
       ·exact bt.good b h h'
       ·exact Nat.lt_irrefl _ (Nat.lt_of_lt_of_le (bt.winv.lt b h) h')
      ·exact(hGx b h).2 hs
     ·exact n1S b h (hX' b hs).1
    ·exact fun b hs=>(hX' b hs).1
    ·intro b hs
     rcases(hT' b hs).1 with h|h
     ·exact bt.seq b h
     ·exact⟨(bt.winv.base b h).1,Nat.le_trans bt.size h⟩
    ·have s1:=bt.size
     have s2:=st.size;have s3:=y1.size;have s4:=e12.size;have s5:=z1.size;rw[World.putObj_size];omega
    ·exact fun h=>(g45 L h).elim nL2 n1L
    ·exact fun h=>(g45 D h).elim nD2 n1D
    ·exact World.putObj_heap_same (iA hL3')
    ·have k1:=(y1.old D (iA hDA) n1D).trans hDA
     have k2:A2.heap[D]?=some (.deferred (some [])):=by rw[← hA2,World.putObj_heap_other (by omega)]; exact k1
     have k3:=(z1.old D (iA k2) n1D).trans k2;rw[World.putObj_heap_other (by omega)]; exact k3
    ·refine marksA.to fun b hb h1 h2=>⟨mk b hb h1,fun hg=>?_⟩
     exact(g45 b hg).elim h2 (n1M b hb)
   have frame:∀ (o:Obj) (b:Nat),b<A.heap.size→G b∨T' b→(A3.putObj L o).heap[b]?=A.heap[b]?:=by
    intro o b hb h;have hbL:b≠L:=by
     rintro rfl;rcases h with h|h
     ·exact hGL h
     ·exact nS' b hLB (nT b (by omega)) h
    have k1:A1.heap[b]?=A.heap[b]?∧(G3 b∨T' b):=by
     rcases h with h|h
     ·have:=y1.good b (by rw[hG2]; exact .inl (bt.base b h))
      exact⟨this.2,.inl this.1⟩
     ·exact⟨y1.old b hb fun hn=>n1S b hn h,.inr h⟩
    have k2:A2.heap[b]?=A.heap[b]?:=by rw[← hA2,World.putObj_heap_other hbL]; exact k1.1
    have k3:A3.heap[b]?=A2.heap[b]?:=by
     rcases k1.2 with h|h
     ·exact(z1.good b h).2
     ·refine z1.old b ?_ fun hn=>n1S b hn h
      have s3:=y1.size;have s4:=e12.size;omega
    rw[World.putObj_heap_other hbL,k3,k2]
   have hroom:∀ (o:Obj) (b n:Nat),Room A b n→Room (A3.putObj L o) b n:=fun o b n h =>
    (MI (μ:=μ4) (o':=o) hL3' ⟨fun _ _ _ h=>(by cases h),fun _ _ h=>(by cases h)⟩ nL4).room b n (z1.room b n (p1.room b n (y1.room b n h)))
   have hsz:∀ o,A.heap.size≤(A3.putObj L o).heap.size:=by
    intro o;have s3:=y1.size;have s4:=e12.size;have s5:=z1.size;rw[World.putObj_size]; omega
   rw[hv]at hy;unfold bLY at hk2;dsimp only at hk2;rcases aEX hk2 with ⟨x',rfl,e2,e3⟩|⟨z',rfl,e2,e3⟩
   ·subst e2
    dsimp only at hy;refine⟨_,_,run_endRound none hL3',⟨frame _,hroom _,hsz _⟩,.inl ⟨rfl,⟨x',by rw[hdrop2]; exact hy,?_⟩⟩⟩
    have:=back (.loop (rec .ready none)) (EG sh x' 0) (PO sh x') (fun h hI=>hI.dec h e3)
    rw[hrec]at this ⊢;exact this
   ·dsimp only at hy
    have hzz:z'=z:=Option.some.inj hy;subst hzz;obtain⟨o1,_⟩:=WC e3;have hb:=back (.loop (rec .done (some ex2.code))) (I7 exits z').2.1 (I7 exits z').2.2 (fun h hI=>(hI.aPA h e3).2)
    rw[hrec]at hb;cases ex2 with
    | normal=>exact absurd rfl e2
    | ret =>
     refine⟨_,_,run_endRound (some .ret) hL3',⟨frame _,hroom _,hsz _⟩,.inr ⟨rfl,by rw[o1]; exact e2,?_⟩⟩
     rw[o1,hrec];exact hb
    | exit i =>
     refine⟨_,_,run_endRound (some (.exit i)) hL3',⟨frame _,hroom _,hsz _⟩,.inr ⟨rfl,by rw[o1]; exact e2,?_⟩⟩
     rw[o1,hrec];exact hb
end
end Go.PM
namespace Go.PM
open Go Go.RowKit
section
variable {P:Program} {n0:Nat→Prop} {w w' wi:World} {G G' Gi:Gd} {μ μ' μi:Mp} {H:Heap} {F:Frm} {nt n:Nat}
theorem E3 {fn:Func} {tmps:Array Value} {R:Ending→World→Prop} (hb:∀ b,wi.heap.size≤b→n0 b) (hend:∀ w',IM n0 wi Gi μi nt F H { tmps:=tmps,defers:=[] } w'→LeavesIn Fence.wide n P fn tmps R [] .returning w') :
  ∀ (ds:List Deferred) (w:World),IM n0 wi Gi μi nt F H { tmps:=tmps,defers:=ds } w→LeavesInM Fence.wide n P fn tmps R ds .returning w
 | [],w,h=>hend w h
 | d::ds,w,h=>by
  obtain⟨G,μ,e,hW,hF,⟨b,rfl,h1,h2,h3,h4⟩,hm⟩:=h;refine⟨by simp,.inl ⟨b,_,rfl,run_takeDeferred h1,E3 hb hend ds _ ⟨G,μ,e.trans (aHA h1 ⟨fun _ _ _ h=>(by cases h),fun _ _ h=>(by cases h)⟩ h3 (hb b h2)),aBD hW h1 ⟨fun _ _ _ h=>(by cases h),fun _ _ h=>(by cases h)⟩ h3,hF.mono (MI h1 ⟨fun _ _ _ h=>(by cases h),fun _ _ h=>(by cases h)⟩ h3),?_⟩⟩⟩
  refine hm.to fun b' hb' k1 k2=>⟨?_,k2⟩
  rw[World.putObj_heap_other]
  ·exact k1
  ·rintro rfl
   exact h4 _ hb' rfl
def bHT(P:Program) (E:Env) (fn:Func) (aZ:Nat) (lt rt:Nat→Option aS) (c:Code) (args rets:List Kd) (x:aJ args):Option (aJ rets) :=
 bif Nat.ble (qA args x).length fn.ntmps then HW P E fn.ntmps aZ lt rt false [] c (start aZ 0 (qA args x)) [] (bAK P fn.results.toList rets) else none
theorem bLT {E:Env} (hP:XL P) (hE:bE P E) {g:Nat} {fn:Func} (hg:P.funcs[g]?=some fn) {c:Code} (hc:fn.body=some c) {aZ:Nat} {lt rt:Nat→Option aS} {args rets:List Kd} {f:aJ args→Option (aJ rets)}
  (hl:∀ a∈gR c,aA0 P fn.ntmps lt rt false [] a) (hb:∀ x,bHT P E fn aZ lt rt c args rets x=f x):eB P g args rets f:=by
 intro x y hy;rw[← hb]at hy;unfold bHT at hy;obtain⟨hlen,hy⟩:=aO hy;obtain⟨⟨ex,F',H'⟩,h1,h2⟩:=qZ hE.callee hP.mixed c _ _ _ _ hl hy;obtain⟨vs,q,hex,hvs,hq,hd⟩:∃ vs q,(ex=.normal∨ex=.ret)∧AZ P F' H' fn.results.toList=some vs∧bDT H' (lA vs)=some q∧bBU rets q=some y:=by
  unfold bAK at h1;split at h1
  ·cases h1
  ·rename_i hne
   split at h1
   ·rename_i vs hvs
    split at h1
    ·rename_i q hq
     refine⟨vs,q,?_,hvs,hq,h1⟩;cases ex with
     | normal=>exact .inl rfl
     | ret=>exact .inr rfl
     | exit i=>exact absurd rfl (hne i)
    ·cases h1
   ·cases h1
 have hcall:∀ {n0 G μ w us},bC n0 G μ [] w→VRs w G μ (qA args x) us→CC P n0 w G μ g us.toArray (lA vs) H':=by
  intro n0 G μ w us hW hv;refine⟨enters hg (hP.names g fn hg) (by rw[hc]; rfl) _ _,(callsIn_wide (n:=0)).1 (callsIn_of_wp_marks hg hc trivial ?_)⟩
  have hI:I n0 w G μ fn.ntmps (start aZ 0 (qA args x)) [] ⟨us.toArray++Array.replicate (fn.ntmps-us.toArray.size) undef,[]⟩ w:=⟨G,μ,Ext.refl _ _ _ _,hW,HK (by simpa using hv) (Nat.le_of_ble_eq_true hlen)⟩
  refine wpIn_mono (h2 none 0 n0 w G μ _ w (fun _=>rfl) (fun r _=>hW.top r (Nat.zero_le _)) hI.bMP) ?_
  rintro e ⟨tm,ds⟩ w' ⟨rfl,hI',_⟩;have hend:∀ w',IM n0 w G μ fn.ntmps F' H' { tmps:=tm,defers:=[] } w'→LeavesIn Fence.wide 0 P fn tm (fun e w'=>∃ v' G'' μ'',e=.returned v'∧Ext n0 w G μ w' G'' μ''∧bC n0 G'' μ'' H' w'∧VR w' G'' μ'' (lA vs) v') [] .returning w':=by
   rintro w' ⟨G',μ',e',hW',hF',_⟩;obtain⟨ws,h3,h4⟩:=xW (P:=P) hW' hF' hvs;have hres:(results fn tm).run P w'=.ok (if hh:ws.toArray.size=1 then ws.toArray[0] else .tuple ws.toArray) w':=by
    rw[L9,Array.mapM_eq_mapM_toList];simp only[Sem.run_bind,Sem.run_map,h3,Result.andThen_ok,Sem.run_pure]
   exact⟨_,hres,_,G',μ',rfl,e',hW',BL h4⟩
  rcases hex with rfl|rfl
  ·exact E3 (fun b hb=>hW.base b hb) hend ds w' hI'
  ·exact E3 (fun b hb=>hW.base b hb) hend ds w' hI'
 have hp:=aK0 hcall (W0 hq).1 (W0 hq).2;intro w G us hlt hv;obtain⟨h3,h4⟩:=hp w G us hlt hv;refine⟨h3,h4.mono ?_⟩;rintro e w' ⟨v',G',rfl,e1,e2,e3⟩;exact⟨v',G',rfl,e1,e2,aNF hd e3⟩
def bDK(P:Program) (nt:Nat) (lt rt:Nat→Option aS) (rd:Bool) (T:List Nat):List Code→Prop
 | []=>True
 | a::r=>aA0 P nt lt rt rd T a∧bDK P nt lt rt rd T r
theorem a06 {lt rt:Nat→Option aS} {rd:Bool} {T:List Nat}:∀ {l:List Code},bDK P nt lt rt rd T l→∀ a∈l,aA0 P nt lt rt rd T a
 | [],_,a,ha=>by simp at ha
 | b::r,h,a,ha=>by
  rcases List.mem_cons.1 ha with rfl|ha
  ·exact h.1
  ·exact a06 h.2 a ha
theorem aF8 {lt rt:Nat→Option aS} {rd:Bool} {T:List Nat} {c:Code} {l:List Code} (hc:gR c=l) (h:bDK P nt lt rt rd T l):∀ a∈gR c,aA0 P nt lt rt rd T a:=by
 rw[hc]; exact a06 h
theorem a1F {lt rt:Nat→Option aS} {rd:Bool} {T:List Nat} {a:Code} {i:Nat} {s0:aS} (hf:aH a=i) (hlt:lt i=some s0) (h:aEU P nt rd T (.loop a) s0):aA0 P nt lt rt rd T (.loop a):=by
 intro s hs;rw[hf,hlt]at hs;cases hs;exact h
theorem bFR {lt rt:Nat→Option aS} {g:Operand} {ps:Array Tmp} {as1 a:Code} {i:Nat} {s0:aS} (hf:aH a=i) (hrt:rt i=some s0) (h:aEU P nt false [] (.rangeFunc g ps as1 a) s0):aA0 P nt lt rt false [] (.rangeFunc g ps as1 a):=by
 intro _ s hs;rw[hf,hrt]at hs;cases hs;exact h
def a95(c:Code) (i:Nat):Code:=(gR c).getD i .skip
def inLoop:Code→Code
 | .loop a=>a
 | .rangeFunc _ _ _ a=>a
 | _=>.skip
def YO:Code→Code
 | .rangeFunc _ _ as1 _=>as1
 | _=>.skip
def a6G:Code→Operand
 | .rangeFunc g _ _ _=>g
 | _=>.const undef
def bG0:Code→Array Tmp
 | .rangeFunc _ ps _ _=>ps
 | _=>#[]
theorem bCP {lt rt:Nat→Option aS} {r:Code} {i:Nat} {s0:aS} (hr:r=.rangeFunc (a6G r) (bG0 r) (YO r) (inLoop r)) (hf:aH (inLoop r)=i) (hrt:rt i=some s0) (h:aEU P nt false [] r s0):aA0 P nt lt rt false [] r:=by
 rw[hr]at h ⊢;exact bFR hf hrt h
theorem bFN {E:Env} {aZ:Nat} {lt rt:Nat→Option aS} (hE:bE P E) (hP:XL P) {r:Code} (hrc:r=.rangeFunc (a6G r) (bG0 r) (YO r) (inLoop r)) {gf:Nat} {fn:Func} {c:Code} {ts:List Ty} {ks:List Kd} {f:XZ ts→Option (List (aJ ks))}
  (hg:P.funcs[gf]?=some fn) (hc:fn.body=some c) (hit:a1D P gf ts ks f)
  {sh:List (Nat×Kd)} {exits:List (Ex×List (Nat×Kd))} {step:Shape.den sh→aJ ks→Option (Shape.den sh⊕aW exits)} {cap:Shape.den sh→XZ ts}
  (has:gR (YO r)=[]) (hbd:∀ b∈gR (inLoop r),aA0 P nt lt rt true (J6 sh 0) b)
  (hsq:∀ x,bJ3 gf ts sh (a6G r) x=some (cap x))
  (hr:∀ y e,a7G P E nt aZ lt rt (bG0 r).toList (YO r) (inLoop r) ks sh exits y e=step y e) :
  aEU P nt false [] r ⟨sh,exits,bJS sh exits (fun x=>f (cap x)) step⟩:=by
 have:=bKC (g:=a6G r) (ps:=bG0 r) (as1:=YO r) (body:=inLoop r) hE.callee hP.mixed hit (fun args w=>enters hg (hP.names gf fn hg) (by rw[hc]; rfl) args w) (by rw[has]; intro b hb; cases hb) hbd (fun x l hl=>⟨cap x,hsq x,hl⟩) hr
 rw[← hrc]at this;exact this
end
end Go.PM
namespace Go.PM
open Go Go.RowKit
def BF:Code→Nat
 | .region _ ops _=>aMQ ops.toList ops.toList 0 0
 | .seq a b=>BF a ||| BF b
 | .cond c a b=>bJ8 c ||| BF a ||| BF b
 | .block _ a=>BF a
 | .loop a=>BF a
 | .scope a=>BF a
 | .rangeFunc g _ as1 a=>bJ8 g ||| BF as1 ||| BF a
 | _=>0
def aPD(fn:Func):Nat:=match fn.body with
 | some c=>aBN fn.results.toList (BF c)
 | none=>0
end Go.PM
namespace Go.Proofs
open Go Go.RowKit Go.Sort Go.Lib
set_option maxHeartbeats 6400000
set_option maxRecDepth 100000
theorem Tryz.aOD (u:Nat) (hu64:u<18446744073709551616) (w:World) (htab:Lib.TabIs Tryz.prog w "internal/strconv.uint64pow10" .u64 Lib.pow10Tab) :
  Calls Tryz.prog 247 #[.int .u64 u,.int .i64 10] w fun e w'=>e=.returned (.string ⟨(Lib.decDigits u).toArray⟩)∧∃ k os,w'=grow (w.drewN k) os:=by
 by_cases hs:u<100
 ·go_enter Tryz.func247,Tryz.ntmps247
  have hwr:IntKind.i64.wrap (u:Int)=(u:Int):=by rw[IntKind.wrap_i64]; omega
  go_wp2_with (go_at_call 248; refine(Tryz.internal_strconv_small u hs _).mono ?_; rintro e w' ⟨rfl,rfl⟩)
  go_ret
  exact⟨rfl,0,#[],by simp[World.drewN_zero]⟩
 ·have hu1:1≤u:=by omega
  have hnd20:Lib.nDigits u≤20:=by have:=Lib.numDigits_eq u hu1 hu64; split at this <;> omega
  have hal:Tryz.prog.arrayLen 265=24:=by simp[Program.arrayLen,Tryz.underlying265]
  have hsl:∀ W,(Instr.sliceAt 265 (.pointer (some ⟨w.heap.size,0,none⟩)) none (some (.int .i64 (Lib.nDigits u:Int))) none).run Tryz.prog W=.ok (.slice (some ⟨w.heap.size,0,none⟩) (Lib.nDigits u) 24) W:=fun W=>by
   rw[run_sliceAt_array_h W 265 ⟨w.heap.size,0,none⟩ (by simp[Program.arrayLen,Program.elem,Tryz.underlying265]) .i64 (Lib.nDigits u:Int) (by omega) (by rw[hal]; omega)]
   go_simp
  have hH0:=Lib.holds_zero0 w 265 (Lib.nDigits u) (by omega)
  have hfmt:=Tryz.internal_strconv_formatBase10 w.heap.size 0 24 u (Array.replicate (Lib.nDigits u) 0) (w.alloc (.cells Lib.zeros24 265)) hH0 (by rw[Array.size_replicate]; exact Lib.lt_pow_nDigits u) hu64 (by rw[Array.size_replicate]; omega)
  rw[Array.size_replicate]at hfmt;have HH0:=Lib.hid hH0;clear hH0 hal
  go_enter Tryz.func247,Tryz.ntmps247
  go_wp2_with (first
   | (go_at_call 249; refine(Tryz.internal_strconv_numDigits u hu1 hu64 _ (Lib.tabIs_alloc htab _)).mono ?_; rintro e w' ⟨rfl,rfl⟩))
  go_at_call 250
  refine hfmt.mono ?_;rintro e w' ⟨rfl,k,v',dk,rfl,hF⟩;have hcv:(convert 253 9 (.slice (some ⟨w.heap.size,0,none⟩) (Lib.nDigits u) 24)).run Tryz.prog ((putRow (fun(b:UInt8)=>Value.int .u8 (b.toNat:Int)) (w.alloc (.cells Lib.zeros24 265)) w.heap.size 0 dk).drewN k)=.ok (.string ⟨(Lib.decDigits u).toArray⟩) ((putRow (fun(b:UInt8)=>Value.int .u8 (b.toNat:Int)) (w.alloc (.cells Lib.zeros24 265)) w.heap.size 0 dk).drewN k):=by
   have h:=run_convert_bytes_back (P:=Tryz.prog) ((putRow (fun(b:UInt8)=>Value.int .u8 (b.toNat:Int)) (w.alloc (.cells Lib.zeros24 265)) w.heap.size 0 dk).drewN k) 253 9 5 ⟨w.heap.size,0,none⟩ 24 (Lib.decDigits u) Tryz.underlying253 Tryz.underlying5 Tryz.underlying9 (fun j hj=>by
    rw[Lib.row_is_numeral hF j hj,Lib.add_plain,World.cell?_drewN];exact cell?_putRow (fun(b:UInt8)=>Value.int .u8 (b.toNat:Int)) _ w.heap.size 0 _ dk HH0.out (by rw[hF.size,Array.size_replicate]) j (by rw[hF.size]; rw[Lib.decDigits_length]at hj; exact hj))
   rw[Lib.decDigits_length]at h;exact h
  go_wp2
  go_ret
  obtain⟨os,eo⟩:=Lib.fin_at w (.cells Lib.zeros24 265) dk k 0;exact⟨rfl,k,os,eo⟩
theorem Tryz.aJL (u:Nat) (hu64:u<18446744073709551616) (w:World) (htab:Lib.TabIs Tryz.prog w "internal/strconv.uint64pow10" .u64 Lib.pow10Tab) :
  Calls Tryz.prog 235 #[.int .u64 u,.int .i64 10] w fun e w'=>e=.returned (.string ⟨(Lib.decDigits u).toArray⟩)∧∃ k os,w'=grow (w.drewN k) os:=by
 go_enter Tryz.func235,Tryz.ntmps235
 go_wp2_with (go_at_call 247; refine(Tryz.aOD u hu64 _ htab).mono ?_; rintro e w' ⟨rfl,k,os,rfl⟩)
 go_ret
 exact⟨rfl,k,os,rfl⟩
end Go.Proofs
namespace Go.PM
open Go Go.RowKit Go.Proofs
set_option maxRecDepth 100000
theorem bEV {w:World} {G:Nat→Prop} (h:Lt w G):Lib.TabIs Tryz.prog w "internal/strconv.uint64pow10" .u64 Lib.pow10Tab:=by
 have hm:(2,bEZ .u64 [1,10,100,1000,10000,100000,1000000,10000000,100000000,1000000000,10000000000,100000000000,1000000000000,10000000000000,100000000000000,1000000000000000,10000000000000000,100000000000000000,1000000000000000000,10000000000000000000])∈bM0:=by simp[bM0]
 obtain⟨-,t,fr,ht⟩:=h.tab _ hm;have hg:Tryz.prog.globalNamed "internal/strconv.uint64pow10"=some 2:=by kernel_rfl
 unfold Lib.TabIs World.var?;rw[hg];simp only[Option.bind_some];rw[ht];rfl
theorem bAF {w:World} {G:Nat→Prop} (hG:∀ b,G b→b<w.heap.size) (k:Nat) (os:Array Obj):Ext (D2 w) w (Gd.of G) aN (Sort.grow (w.drewN k) os) (Gd.of G) aN :=
 have hb:∀ b,b<w.heap.size→(Sort.grow (w.drewN k) os).heap[b]?=w.heap[b]?:=fun b hb=>Lib.heap_grow_old w k os b hb
 {good:=fun b h=>⟨h,hb b (hG b h)⟩
  row:=fun _ _ h=>h
  map:=fun _ _ h=>(by cases h)
  len:=fun _ _ h=>(by cases h)
  room:=fun b n ⟨c,t,fr,h1,h2⟩=>⟨c,t,fr,by rw[hb b (iA h1)]; exact h1,h2⟩
  os:=rfl
  tape:=rfl
  output:=rfl
  size:=by show w.heap.size≤(w.heap++os).size; simp
  old:=fun b h _=>hb b h
  new:=fun b h=>.inl h }
theorem bGD {w w':World} {G:Nat→Prop} (hG:∀ b,G b→b<w.heap.size) (h:Below w.heap.size w w'):Ext (D2 w) w (Gd.of G) aN w' (Gd.of G) aN :=
 {good:=fun b hb=>⟨hb,h.block b (hG b hb)⟩
  row:=fun _ _ h=>h
  map:=fun _ _ h=>(by cases h)
  len:=fun _ _ h=>(by cases h)
  room:=fun b n ⟨c,t,fr,h1,h2⟩=>⟨c,t,fr,by rw[h.block b (iA h1)]; exact h1,h2⟩
  os:=h.os
  tape:=h.tape
  output:=h.output
  size:=h.size
  old:=fun b hb _=>h.block b hb
  new:=fun b hb=>.inl hb }
theorem aU0 {w:World} {G:Nat→Prop} (hG:∀ b,G b→b<w.heap.size) (e:TypeId) (t:ByteArray):Ext (D2 w) w (Gd.of G) aN (Lib.bytesWorld w e t) (Gd.of G) aN :=
 bGD hG (Joins.below_bytesWorld _ w e t (Nat.le_refl _))
def aW4:Nat→Nat→List UInt8→List UInt8
 | 0,_,acc=>acc
 | f+1,u,acc=>bif Nat.blt u 10 then UInt8.ofNat (48+u)::acc else aW4 f (u/10) (UInt8.ofNat (48+u%10)::acc)
theorem aZM:∀ (f u:Nat) (acc:List UInt8),u<10^(f+1)→aW4 (f+1) u acc=Lib.decDigits u++acc
 | f,u,acc,h=>by
  rw[Lib.decDigits]
  by_cases h1:u<10
  ·rw[dif_pos h1,aW4]
   have:Nat.blt u 10=true:=by rw[cX]; simpa using h1
   rw[this]; rfl
  ·rw[dif_neg h1,aW4]
   have:Nat.blt u 10=false:=by rw[cX]; simpa using h1
   rw[this,cond_false];cases f with
   | zero=>omega
   | succ f =>
    rw[aZM f (u/10) _ (by rw[Nat.pow_succ]at h; omega)]
    simp
def bBE:Int→ByteArray
 | .ofNat u=>⟨(aW4 20 u []).toArray⟩
 | .negSucc u=>⟨(45::aW4 20 (u+1) []).toArray⟩
theorem a1S {n:Int} (h:n.natAbs<10^20):bBE n=⟨(Lib.itoa n).toArray⟩:=by
 cases n with
 | ofNat u =>
  have h1:¬ (Int.ofNat u<0):=by simp
  unfold Lib.itoa;rw[if_neg h1];show (⟨(aW4 (19+1) u []).toArray⟩:ByteArray)=⟨(Lib.decDigits u).toArray⟩;rw[aZM 19 u [] h,List.append_nil]
 | negSucc u =>
  have h1:Int.negSucc u<0:=Int.negSucc_lt_zero u;unfold Lib.itoa;rw[if_pos h1];show (⟨(45::aW4 (19+1) (u+1) []).toArray⟩:ByteArray)=⟨(45::Lib.decDigits (u+1)).toArray⟩;rw[aZM 19 (u+1) [] h,List.append_nil]
def K1(x:aJ [.int .i64]):Option (aJ [.str]):=match x with
 | (n,())=>bif !(ltI n (-9223372036854775808))&&!(ltI 9223372036854775807 n) then some (bBE n,()) else none
def KY(x:aJ [.str]):Option (aJ [.int .i64,.nilI]):=match x with
 | (s,())=>bif Nat.ble s.size 18 then (match Lib.atoi s.data.toList with
  | some n=>some (n,(),())
  | none=>none) else none
def AG(x:aJ [.str,.int .i64,.int .i64]):Option (aJ [.int .i64,.nilI]):=match x with
 | (s,b,c,())=>bif Nat.ble s.size 1000000000&&(eqI b 10&&eqI c 64) then (match Lib.parseIntB 64 s.data.toList with
  | .ok n=>some (n,(),())
  | _=>none) else none
def yL(x:aJ [.str,.int .i64,.int .i64]):Option (aJ [.int .u64,.nilI]):=match x with
 | (s,b,c,())=>bif Nat.ble s.size 1000000000&&(eqI b 10&&eqI c 64) then (match Lib.parseUintB 64 s.data.toList with
  | .ok n=>some ((n:Int),(),())
  | _=>none) else none
def wX(x:aJ [.int .u64,.int .i64]):Option (aJ [.str]):=match x with
 | (n,b,())=>bif !(ltI n 0)&&(ltI n 18446744073709551616&&eqI b 10) then some (bBE n,()) else none
theorem bNH {w:World} {G:Gd} {u:Value} {vs:Array Value} (h:VRs w G aN [.lit u] vs.toList):vs=#[u]:=by
 rw[VRs]at h;obtain⟨v,us,hvs,h1,h2⟩:=h;rw[VRs]at h2;rw[VR]at h1;subst h2; subst h1;exact Array.ext' (by simpa using hvs)
theorem bN2 {w:World} {G:Gd} {u1 u2:Value} {vs:Array Value} (h:VRs w G aN [.lit u1,.lit u2] vs.toList):vs=#[u1,u2]:=by
 rw[VRs]at h;obtain⟨v,us,hvs,h1,h2⟩:=h;rw[VRs]at h2;obtain⟨v2,us2,hvs2,h3,h4⟩:=h2;rw[VRs]at h4;rw[VR]at h1 h3;subst h4; subst h3; subst h1; subst hvs2;exact Array.ext' (by simpa using hvs)
theorem bM8 {w:World} {G:Gd} {u1 u2 u3:Value} {vs:Array Value} (h:VRs w G aN [.lit u1,.lit u2,.lit u3] vs.toList):vs=#[u1,u2,u3]:=by
 rw[VRs]at h;obtain⟨v,us,hvs,h1,h2⟩:=h;rw[VRs]at h2;obtain⟨v2,us2,hvs2,h3,h4⟩:=h2;rw[VRs]at h4;obtain⟨v3,us3,hvs3,h5,h6⟩:=h4;rw[VRs]at h6;rw[VR]at h1 h3 h5;subst h6; subst h5; subst h3; subst h1; subst hvs3; subst hvs2;exact Array.ext' (by simpa using hvs)
theorem aME {w:World} {G:Gd} (k:IntKind) (n:Int):VR w G aN (.tuple [.lit (.int k n),.lit .nilIface]) (.tuple #[.int k n,.nilIface]):=by
 rw[VR];refine⟨_,rfl,?_⟩;show VRs w G aN _ [.int k n,.nilIface];rw[VRs];refine⟨_,_,rfl,by rw[VR],?_⟩
 rw[VRs];exact⟨_,_,rfl,by rw[VR],by rw[VRs]⟩
theorem bHZ {w:World} {G:Gd} (s:ByteArray):VR w G aN (.lit (.string s)) (.string s):=by rw[VR]
theorem aZ4:eB Tryz.prog 185 _ _ K1:=by
 rintro⟨n,⟨⟩⟩ y h w G vs hG hv;unfold K1 at h;obtain⟨hb,h⟩:=aO h;simp only[Bool.and_eq_true,Bool.not_eq_true',aI,decide_eq_false_iff_not]at hb;obtain rfl:=Option.some.inj h;obtain rfl:=bNH hv;refine⟨enters Tryz.func185 (by kernel_rfl) (by kernel_rfl) _ _,(Tryz.strconv_Itoa n (by omega) (by omega) w (bEV hG)).mono ?_⟩
 rintro e w' ⟨rfl,k,os,rfl⟩;rw[← a1S (by omega)]
 have he:=bAF hG.lt k os;exact⟨_,G,rfl,he,fun b hb=>Nat.lt_of_lt_of_le (hG b hb) he.size,bHZ _⟩
theorem a09:eB Tryz.prog 212 _ _ KY:=by
 rintro⟨s,⟨⟩⟩ y h w G vs hG hv;unfold KY at h;obtain⟨hb,h4⟩:=aO h;clear h;have hl:=Nat.le_of_ble_eq_true hb;split at h4
 ·rename_i n hn
  obtain rfl:=Option.some.inj h4;obtain rfl:=bNH hv;refine⟨enters Tryz.func212 (by kernel_rfl) (by kernel_rfl) _ _,(Tryz.strconv_Atoi s n hl hn w).mono ?_⟩
  rintro e w' ⟨rfl,t,rfl⟩;have he:=aU0 hG.lt 5 t;exact⟨_,G,rfl,he,fun b hb=>Nat.lt_of_lt_of_le (hG b hb) he.size,aME _ n⟩
 ·cases h4
theorem aRB:eB Tryz.prog 231 _ _ AG:=by
 rintro⟨s,b,c,⟨⟩⟩ y h w G vs hG hv;unfold AG at h;obtain⟨hb,h4⟩:=aO h;clear h;simp only[Bool.and_eq_true,jS,decide_eq_true_eq]at hb;obtain⟨hb1,rfl,rfl⟩:=hb;have hl:=Nat.le_of_ble_eq_true hb1;split at h4
 ·rename_i n hn
  obtain rfl:=Option.some.inj h4;obtain rfl:=bM8 hv;refine⟨enters Tryz.func231 (by kernel_rfl) (by kernel_rfl) _ _,(Tryz.strconv_ParseInt_10_at64_ok s (by omega) n hn w).mono ?_⟩
  rintro e w' ⟨rfl,hw⟩;rcases hw with rfl|⟨t,rfl⟩
  ·exact⟨_,G,rfl,Ext.refl _ _ _ _,hG.lt,aME _ n⟩
  ·have he:=aU0 hG.lt 5 t
   exact⟨_,G,rfl,he,fun b hb=>Nat.lt_of_lt_of_le (hG b hb) he.size,aME _ n⟩
 ·cases h4
theorem aNY:eB Tryz.prog 246 _ _ yL:=by
 rintro⟨s,b,c,⟨⟩⟩ y h w G vs hG hv;unfold yL at h;obtain⟨hb,h4⟩:=aO h;clear h;simp only[Bool.and_eq_true,jS,decide_eq_true_eq]at hb;obtain⟨hb1,rfl,rfl⟩:=hb;have hl:=Nat.le_of_ble_eq_true hb1;split at h4
 ·rename_i n hn
  obtain rfl:=Option.some.inj h4;obtain rfl:=bM8 hv;refine⟨enters Tryz.func246 (by kernel_rfl) (by kernel_rfl) _ _,(Tryz.strconv_ParseUint_10_at64_ok s (by omega) n hn w).mono ?_⟩
  rintro e w' ⟨rfl,hw⟩;rcases hw with rfl|rfl
  ·exact⟨_,G,rfl,Ext.refl _ _ _ _,hG.lt,aME _ n⟩
  ·have he:=aU0 hG.lt 5 s
   exact⟨_,G,rfl,he,fun b hb=>Nat.lt_of_lt_of_le (hG b hb) he.size,aME _ n⟩
 ·cases h4
theorem aMK:eB Tryz.prog 235 _ _ wX:=by
 rintro⟨n,b,⟨⟩⟩ y h w G vs hG hv;unfold wX at h;obtain⟨hb,h4⟩:=aO h;clear h;simp only[Bool.and_eq_true,Bool.not_eq_true',aI,jS,decide_eq_true_eq,decide_eq_false_iff_not]at hb;obtain⟨hb1,hb2,rfl⟩:=hb;obtain rfl:=Option.some.inj h4;obtain rfl:=bN2 hv;obtain⟨u,hu⟩:∃ u:Nat,(n:Int)=(u:Int):=⟨Int.toNat n,(Int.toNat_of_nonneg (Int.not_lt.1 hb1)).symm⟩;subst hu;refine⟨enters Tryz.func235 (by kernel_rfl) (by kernel_rfl) _ _,(Tryz.aJL u (Int.ofNat_lt.1 hb2) w (bEV hG)).mono ?_⟩
 rintro e w' ⟨rfl,k,os,rfl⟩;have hi:(⟨(Lib.decDigits u).toArray⟩:ByteArray)=bBE (u:Int):=by
  have h1:u<10^20:=Nat.lt_trans (Int.ofNat_lt.1 hb2) (by decide)
  rw[a1S (by simpa using h1),Lib.itoa_nonneg]
 rw[hi];have he:=bAF hG.lt k os;exact⟨_,G,rfl,he,fun b hb=>Nat.lt_of_lt_of_le (hG b hb) he.size,bHZ _⟩
abbrev aPJ:Ent:=⟨185,_,_,K1⟩
theorem aU7:Ent.OK Tryz.prog aPJ:=aZ4
abbrev aPE:Ent:=⟨212,_,_,KY⟩
theorem aVP:Ent.OK Tryz.prog aPE:=a09
abbrev aAY:Ent:=⟨231,_,_,AG⟩
theorem aLT:Ent.OK Tryz.prog aAY:=aRB
abbrev Y5:Ent:=⟨246,_,_,yL⟩
theorem aJR:Ent.OK Tryz.prog Y5:=aNY
abbrev UP:Ent:=⟨235,_,_,wX⟩
theorem aHB:Ent.OK Tryz.prog UP:=aMK
end Go.PM
namespace Go.PM
open Go Go.RowKit
abbrev arB(ae:TypeId) (t:Ty) (A:List (List t.den)):Blk:=⟨aM (.rows t) A,ae,false,false,some ⟨.rows t,A⟩⟩
abbrev owB(e:TypeId) (t:Ty) (l:List t.den):Blk:=⟨aM t l,e,true,false,some ⟨t,l⟩⟩
abbrev OwA:=Option (Nat×Blk)
def aBK:OwA→Heap→Heap
 | none,H=>H
 | some (r,_),H=>H.set r none
def TH:OwA→Heap
 | none=>[]
 | some (_,k)=>[some k]
def bNT(μ:Mp):OwA→Option Nat
 | none=>none
 | some (r,_)=>μ.loc r
def bNY(μ:Mp):OwA→Option Nat
 | none=>none
 | some (r,_)=>μ.len r
def wrA(w:World) (G:Gd) (μ:Mp) (ow:OwA):Nat→Prop:=fun b=>w.heap.size≤b∨bNT μ ow=some b∨∃ j,G.row j=some b
def mpA(μ:Mp) (ow:OwA) (n:Nat):Mp:=⟨fun q=>if q<(TH ow).length then bNT μ ow else none,fun q=>if q<(TH ow).length then bNY μ ow else if q=(TH ow).length then some n else none⟩
structure bGA (H:Heap) (ow:OwA):Prop where
 at_:∀ r k,ow=some (r,k)→H[r]?=some (some k)∧k.grown=true∧k.frozen=false∧k.tag.isSome=true
section
variable {P:Program} {n0:Nat→Prop} {w w':World} {G G1 G2:Gd} {μ μ2:Mp} {H H':Heap} {ae:TypeId} {t:Ty} {A B:List (List t.den)}
theorem bGX {ow:OwA} {s:Nat} {k:Blk} (h:(aBK ow H)[s]?=some (some k)):H[s]?=some (some k)∧∀ r k',ow=some (r,k')→s≠r:=by
 cases ow with
 | none=>exact⟨h,fun r k' e=>by cases e⟩
 | some p =>
  obtain⟨r,k'⟩:=p;obtain⟨h1,h2⟩:=tT h;exact⟨h1,fun r' k2 e=>by cases e; exact h2⟩
theorem a8G {ow:OwA}:(aBK ow H).length=H.length:=by
 cases ow with
 | none=>rfl
 | some p=>simp[aBK]
theorem bL8(hW:bC n0 G μ H w) {ow:OwA} (ho:bGA H ow):∀ b,wrA w G μ ow b→n0 b:=by
 rintro b (h|h|⟨j,h⟩)
 ·exact hW.base b h
 ·cases ow with
  | none=>cases h
  | some p =>
   obtain⟨r,k⟩:=p;obtain⟨h1,_,h3,_⟩:=ho.at_ r k rfl;obtain⟨_,_,_,_,_,h6⟩:=hW.blk r k b h1 h;exact(h6 h3).1
 ·exact(hW.rows.sep j b h).2.1
theorem bGR(hW:bC n0 G μ H w) {ow:OwA} (ho:bGA H ow) {s:Nat} {k:Blk} {b:Nat} (hs:H[s]?=some (some k)) (hne:∀ r k',ow=some (r,k')→s≠r) (hb:μ.loc s=some b):¬ wrA w G μ ow b:=by
 rintro(h|h|⟨j,h⟩)
 ·exact Nat.not_lt.2 h (hW.rO hs hb)
 ·cases ow with
  | none=>cases h
  | some p =>
   obtain⟨r,k'⟩:=p;obtain⟨h1,_,h3,_⟩:=ho.at_ r k' rfl;cases hf:k.frozen with
   | false=>exact hne r k' rfl (hW.inj s r k k' b hs h1 hf h3 hb h)
   | true =>
    obtain⟨_,_,_,_,h5,_⟩:=hW.blk s k b hs hb;obtain⟨_,_,_,_,_,h6⟩:=hW.blk r k' b h1 h;exact(h6 h3).2 (h5 hf)
 ·obtain⟨_,_,a3,a4⟩:=hW.rows.sep j b h
  cases hf:k.frozen with
  | false=>exact a4 s k hs hf hb
  | true =>
   obtain⟨_,_,_,_,h5,_⟩:=hW.blk s k b hs hb;exact a3 (h5 hf)
theorem aSX(hW:bC n0 G μ H w) {ow:OwA} (ho:bGA H ow) {ra:Nat} (har:H[ra]?=some (some (arB ae t A))) :
  bC (wrA w G μ ow) G (mpA μ ow A.length) (TH ow++[some (arB ae t A)]) w:=by
 have key:∀ (s:Nat) (k:Blk),(TH ow++[some (arB ae t A)])[s]?=some (some k)→(s<(TH ow).length∧∃ r,ow=some (r,k)∧s=0)∨(s=(TH ow).length∧k=arB ae t A):=by
  intro s k hs;rcases XY (H:=TH ow) s k hs with ⟨h1,h2⟩|⟨h1,h2⟩
  ·exact .inr ⟨h1,h2⟩
  ·left
   refine⟨h1,?_⟩;cases ow with
   | none=>simp[TH]at h1
   | some p =>
    obtain⟨r,k'⟩:=p;simp only[TH,List.length_cons,List.length_nil]at h1;have:s=0:=by omega
    subst this;simp only[TH,List.getElem?_cons_zero,Option.some.injEq]at h2;subst h2;exact⟨r,rfl,rfl⟩
 refine⟨?_,?_,?_,hW.lt,?_,fun b hb=>.inl hb,?_⟩
 ·intro s k b hs hb
  rcases key s k hs with ⟨h1,r,rfl,rfl⟩|⟨h1,rfl⟩
  ·have hb:μ.loc r=some b:=by
    have:(mpA μ (some (r,k)) A.length).loc 0=μ.loc r:=rfl;rw[this]at hb; exact hb
   obtain⟨q1,q2,q3,q4⟩:=ho.at_ r k rfl;obtain⟨c,a1,a2,a3,a4,a5⟩:=hW.blk r k b q1 hb;refine⟨c,a1,?_,a3,a4,fun hf=>⟨.inr (.inl hb),(a5 hf).2⟩⟩
   obtain⟨g,hg⟩:=Option.isSome_iff_exists.1 q4;rw[(hW.tags r k g q1 hg).1]at a2 ⊢;exact uO (lS _ _) a2
  ·subst h1
   simp only[mpA,Nat.lt_irrefl,if_false]at hb;cases hb
 ·intro s k g hs hg
  rcases key s k hs with ⟨h1,r,rfl,rfl⟩|⟨h1,rfl⟩
  ·obtain⟨q1,_⟩:=ho.at_ r k rfl
   obtain⟨a1,a2⟩:=hW.tags r k g q1 hg;exact⟨a1,a2⟩
  ·cases hg
   subst h1;refine⟨rfl,?_⟩;simp only[mpA,Nat.lt_irrefl,if_false,if_true]
 ·intro s1 s2 k1 k2 b h1 h2 f1 f2 m1 m2
  rcases key s1 k1 h1 with ⟨p1,r1,e1,rfl⟩|⟨p1,rfl⟩
  ·rcases key s2 k2 h2 with ⟨p2,r2,e2,rfl⟩|⟨p2,rfl⟩
   ·rfl
   ·subst p2
    simp only[mpA,Nat.lt_irrefl,if_false]at m2;cases m2
  ·subst p1
   simp only[mpA,Nat.lt_irrefl,if_false]at m1;cases m1
 ·intro s hs
  rw[List.length_append]at hs;simp only[List.length_cons,List.length_nil]at hs;have h1:¬ s<(TH ow).length:=by omega
  have h2:¬ s=(TH ow).length:=by omega
  simp only[mpA,h1,h2,if_false,and_self]
 ·refine(hW.rows.rel (fun s s'=>(s<(TH ow).length∧∃ r k,ow=some (r,k)∧s'=r)∨(s=(TH ow).length∧s'=ra)) ?_ ?_).aX9 fun j b hj _=>.inr (.inr ⟨j,hj⟩)
  ·rintro s s2 q (⟨h1,r,k,h3,h4⟩|⟨h1,h3⟩) (⟨h2,r2,k2,h5,h6⟩|⟨h2,h5⟩)
   ·have:(TH ow).length≤1:=by rw[h3]; simp[TH]
    omega
   ·exfalso
    obtain⟨q1,q2,_⟩:=ho.at_ r k h3;rw[← h4,h5,har]at q1;cases q1;cases q2
   ·exfalso
    obtain⟨q1,q2,_⟩:=ho.at_ r2 k2 h5;rw[← h6,h3,har]at q1;cases q1;cases q2
   ·rw[h1,h2]
  ·intro s k' hs
   rcases key s k' hs with ⟨h1,r,rfl,rfl⟩|⟨h1,rfl⟩
   ·exact⟨r,k',.inl ⟨h1,r,k',rfl,rfl⟩,(ho.at_ r k' rfl).1,rfl,rfl,rfl,rfl,rfl⟩
   ·refine⟨ra,_,.inr ⟨h1,rfl⟩,har,rfl,rfl,rfl,rfl,?_⟩
    subst h1;simp only[mpA,Nat.lt_irrefl,if_false];exact(hW.rows.arn ra _ t A har rfl rfl).1.symm
abbrev OsA:=Option (Nat×Blk×Blk)
def bDY:OsA→Heap
 | none=>[]
 | some (_,_,k)=>[some k]
def bLN(μ:Mp):OsA→Option Nat
 | none=>none
 | some (r,_,_)=>μ.loc r
def bJ9:OsA→Option Nat
 | none=>none
 | some (_,_,k)=>match k.tag with
  | some g=>some g.l.length
  | none=>none
structure bMO (H:Heap) (os:OsA):Prop where
 at_:∀ r k k',os=some (r,k,k')→H[r]?=some (some k)∧k'.grown=true∧k.frozen=false∧k'.frozen=false∧k'.ty=k.ty∧∃ g n,k'.tag=some g∧k'.cells=aM g.t g.l∧k'.cells=k.cells.take n
def CP(μ μ2:Mp) (N n:Nat) (os:OsA):Mp:=⟨fun q=>if q<N then μ.loc q else if q=N+1 then bLN μ2 os else none,fun q=>if q<N then μ.len q else if q=N then some n else if q=N+1 then bJ9 os else none⟩
theorem aY8(hW:bC n0 G μ H w) {ow:OwA} (ho:bGA H ow) {ra:Nat} (har:H[ra]?=some (some (arB ae t A))) (ee:Ext (wrA w G μ ow) w G aN w' G1 μ2) (hW':bC (wrA w G μ ow) G1 μ2 H' w')
  {rb:Nat} (hrb:H'[rb]?=some (some (arB ae t B))) {os:OsA} (hos:bMO H' os) (hrow:∀ j,G2.row j=G1.row j) (h12:∀ b,G1 b→G2 b)
  (h21:∀ b,G2 b→G1 b∨∃ s k,H'[s]?=some (some k)∧k.frozen=false∧μ2.loc s=some b∧∀ r k' k2,os=some (r,k',k2)→s≠r) :
  Ext n0 w G μ w' G2 (CP μ μ2 H.length B.length os)∧bC n0 G2 (CP μ μ2 H.length B.length os) (((aBK ow H).set ra none)++(some (arB ae t B)::bDY os)) w':=by
 have hwr:=bL8 hW ho;have hblk:∀ s k b,H'[s]?=some (some k)→k.frozen=false→μ2.loc s=some b→wrA w G μ ow b:=fun s k b hs hf hb=>by
  obtain⟨_,_,_,_,_,h6⟩:=hW'.blk s k b hs hb;exact(h6 hf).1
 have hG2:∀ b,G2 b→G b∨wrA w G μ ow b:=fun b hb=>by
  rcases h21 b hb with h|⟨s,k,h1,h2,h3,_⟩
  ·exact ee.new b h
  ·exact .inr (hblk s k b h1 h2 h3)
 have hlt2:Lt w' G2.ok:=hW'.lt.step (fun b hb=>⟨h12 b hb,rfl⟩) fun b hb=>by
  rcases h21 b hb with h|⟨s,k,h1,_,h3,_⟩
  ·exact hW'.lt b h
  ·exact hW'.rO h1 h3
 have e2:Ext n0 w G μ w' G2 (CP μ μ2 H.length B.length os):={
  good:=fun b hb=>⟨h12 b (ee.good b hb).1,(ee.good b hb).2⟩
  map:=fun r b hr=>by
   have:r<H.length:=by
    rcases Nat.lt_or_ge r H.length with h|h
    ·exact h
    ·rw[(hW.top r h).1]at hr; cases hr
   simp only[CP,this,if_true]; exact hr
  len:=fun r b hr=>by
   have:r<H.length:=by
    rcases Nat.lt_or_ge r H.length with h|h
    ·exact h
    ·rw[(hW.top r h).2]at hr; cases hr
   simp only[CP,this,if_true]; exact hr
  room:=ee.room
  row:=fun j b hj=>by rw[hrow]; exact ee.row j b hj
  os:=ee.os
  tape:=ee.tape
  output:=ee.output
  size:=ee.size
  old:=fun b hb hn=>ee.old b hb fun h=>hn (hwr b h)
  new:=fun b hb=>(hG2 b hb).imp id (hwr b) }
 have hlen:((aBK ow H).set ra none).length=H.length:=by rw[List.length_set,a8G]
 have key:∀ (s:Nat) (k:Blk),(((aBK ow H).set ra none)++(some (arB ae t B)::bDY os))[s]?=some (some k) →
   (s<H.length∧s≠ra∧H[s]?=some (some k)∧∀ r k',ow=some (r,k')→s≠r)∨(s=H.length∧k=arB ae t B)∨(s=H.length+1∧∃ r k0,os=some (r,k0,k)):=by
  intro s k hs;rcases Nat.lt_or_ge s H.length with hl|hl
  ·rw[List.getElem?_append_left (by rw[hlen]; exact hl)]at hs
   obtain⟨h1,h2⟩:=tT hs;obtain⟨h3,h4⟩:=bGX h1;exact .inl ⟨hl,h2,h3,h4⟩
  ·rw[List.getElem?_append_right (by rw[hlen]; exact hl),hlen]at hs
   rcases Nat.eq_zero_or_pos (s-H.length)with h0|h0
   ·rw[h0]at hs
    simp only[List.getElem?_cons_zero,Option.some.injEq]at hs;exact .inr (.inl ⟨by omega,hs.symm⟩)
   ·obtain⟨m,hm⟩:∃ m,s-H.length=m+1:=⟨s-H.length-1,by omega⟩
    rw[hm,List.getElem?_cons_succ]at hs;cases os with
    | none=>simp[bDY]at hs
    | some p =>
     obtain⟨r,k0,k'⟩:=p;cases m with
     | zero =>
      simp only[bDY,List.getElem?_cons_zero,Option.some.injEq]at hs;subst hs;exact .inr (.inr ⟨by omega,r,k0,rfl⟩)
     | succ m=>simp[bDY]at hs
 have l0:∀ s,s<H.length→(CP μ μ2 H.length B.length os).loc s=μ.loc s∧(CP μ μ2 H.length B.length os).len s=μ.len s:=fun s hs=>by simp[CP,hs]
 have l1:(CP μ μ2 H.length B.length os).loc H.length=none∧(CP μ μ2 H.length B.length os).len H.length=some B.length:=by simp[CP]
 have l2:(CP μ μ2 H.length B.length os).loc (H.length+1)=bLN μ2 os∧(CP μ μ2 H.length B.length os).len (H.length+1)=bJ9 os:=by
  have h1:¬ H.length+1<H.length:=by omega
  have h2:¬ H.length+1=H.length:=by omega
  simp only[CP,h1,h2,if_false,if_true,and_self]
 have hold:∀ s k b,H[s]?=some (some k)→(∀ r k',ow=some (r,k')→s≠r)→μ.loc s=some b→w'.heap[b]?=w.heap[b]?∧¬ wrA w G μ ow b:=fun s k b h1 h2 h3=>by
  have h4:=bGR hW ho h1 h2 h3;exact⟨ee.old b (hW.rO h1 h3) h4,h4⟩
 refine⟨e2,?_,?_,?_,hlt2,?_,fun b hb=>hW.base b (Nat.le_trans ee.size hb),?_⟩
 ·intro s k b hs hb
  rcases key s k hs with ⟨h1,h2,h3,h4⟩|⟨h1,rfl⟩|⟨h1,r,k0,h2⟩
  ·rw[(l0 s h1).1]at hb
   obtain⟨c,a1,a2,a3,a4,a5⟩:=hW.blk s k b h3 hb;obtain⟨g1,g2⟩:=hold s k b h3 h4 hb;refine⟨c,g1.trans a1,aQ.mono e2.toMono g1 0 _ a2,a3,fun hf=>h12 b (ee.good b (a4 hf)).1,fun hf=>⟨(a5 hf).1,fun hg=>?_⟩⟩
   rcases hG2 b hg with h|h
   ·exact(a5 hf).2 h
   ·exact g2 h
  ·subst h1
   rw[l1.1]at hb; cases hb
  ·subst h1; subst h2
   rw[l2.1]at hb;obtain⟨q1,q2,q3,q4,q5,g,nc,q6,q7,q8⟩:=hos.at_ r k0 k rfl;obtain⟨c,a1,a2,a3,a4,a5⟩:=hW'.blk r k0 b q1 hb;refine⟨c,by rw[q5]; exact a1,?_,(fun hf=>by rw[q2]at hf; cases hf),(fun hf=>by rw[q4]at hf; cases hf),fun hf=>⟨hwr b (a5 q3).1,fun hg=>?_⟩⟩
   ·replace a2:=a2.take nc
    rw[← q8,q7]at a2;rw[q7];obtain⟨us,u1,u2⟩:=a2.values;have m12:Mono w' G1 aN w' G2 (CP μ μ2 H.length B.length (some (r,k0,k))):=⟨fun b hb=>⟨h12 b hb,rfl⟩,fun _ _ h=>(by cases h),fun _ _ h=>(by cases h),fun _ _ h=>h,fun j b hj=>by rw[hrow]; exact hj⟩
    exact aQ.qU (VRs.mono m12 _ _ (dX _ _ (lS _ _) u1)) u2
   ·rcases h21 b hg with h|⟨s2,k2,z1,z2,z3,z4⟩
    ·exact(a5 q3).2 h
    ·exact z4 r k0 k rfl (hW'.inj s2 r k2 k0 b z1 q1 z2 q3 z3 hb)
 ·intro s k g hs hg
  rcases key s k hs with ⟨h1,h2,h3,h4⟩|⟨h1,rfl⟩|⟨h1,r,k0,h2⟩
  ·rw[(l0 s h1).2]
   exact hW.tags s k g h3 hg
  ·cases hg
   subst h1;exact⟨rfl,l1.2⟩
  ·subst h1; subst h2
   rw[l2.2];obtain⟨_,_,_,_,_,g',_,q6,q7,_⟩:=hos.at_ r k0 k rfl;rw[hg]at q6;cases q6;exact⟨q7,by simp only[bJ9,hg]⟩
 ·intro s1 s2 k1 k2 b h1 h2 f1 f2 m1 m2
  rcases key s1 k1 h1 with ⟨p1,p2,p3,p4⟩|⟨p1,rfl⟩|⟨p1,r,k0,p2⟩
  ·rw[(l0 s1 p1).1]at m1
   rcases key s2 k2 h2 with ⟨q1,q2,q3,q4⟩|⟨q1,rfl⟩|⟨q1,r2,k02,q2⟩
   ·rw[(l0 s2 q1).1]at m2
    exact hW.inj s1 s2 k1 k2 b p3 q3 f1 f2 m1 m2
   ·subst q1; rw[l1.1]at m2; cases m2
   ·subst q1; subst q2
    rw[l2.1]at m2;exact absurd (hblk r2 k02 b (hos.at_ r2 k02 k2 rfl).1 (hos.at_ r2 k02 k2 rfl).2.2.1 m2) (hold s1 k1 b p3 p4 m1).2
  ·subst p1; rw[l1.1]at m1; cases m1
  ·subst p1; subst p2
   rw[l2.1]at m1;rcases key s2 k2 h2 with ⟨q1,q2,q3,q4⟩|⟨q1,rfl⟩|⟨q1,r2,k02,q2⟩
   ·rw[(l0 s2 q1).1]at m2
    exact absurd (hblk r k0 b (hos.at_ r k0 k1 rfl).1 (hos.at_ r k0 k1 rfl).2.2.1 m1) (hold s2 k2 b q3 q4 m2).2
   ·subst q1; rw[l1.1]at m2; cases m2
   ·exact q1.symm
 ·intro s hs
  rw[List.length_append,hlen,List.length_cons]at hs;have h1:¬ s<H.length:=by omega
  have h2:¬ s=H.length:=by omega
  by_cases h3:s=H.length+1
  ·cases os with
   | none=>rw[h3]; exact l2
   | some p =>
    obtain⟨r,k0,k1⟩:=p;simp only[bDY,List.length_cons,List.length_nil]at hs;omega
  ·simp[CP,h1,h2,h3]
 ·have hr':=hW'.rows
  refine⟨fun i j b h1 h2=>hr'.inj i j b (by rw[← hrow]; exact h1) (by rw[← hrow]; exact h2),?_,?_,?_,?_⟩
  ·intro j b hj
   rw[hrow]at hj;obtain⟨a1,a2,a3,a4⟩:=hr'.sep j b hj;refine⟨a1,hwr b a2,fun hg=>?_,fun s k hs hf hl=>?_⟩
   ·rcases h21 b hg with h|⟨s,k,z1,z2,z3,_⟩
    ·exact a3 h
    ·exact a4 s k z1 z2 z3
   ·rcases key s k hs with ⟨p1,p2,p3,p4⟩|⟨p1,rfl⟩|⟨p1,r,k0,p2⟩
    ·rw[(l0 s p1).1]at hl
     exact(hold s k b p3 p4 hl).2 a2
    ·subst p1; rw[l1.1]at hl; cases hl
    ·subst p1; subst p2
     rw[l2.1]at hl;exact a4 r k0 (hos.at_ r k0 k rfl).1 (hos.at_ r k0 k rfl).2.2.1 hl
  ·intro j b hj
   rw[hrow]at hj;exact hr'.cel j b hj
  ·intro s k t1 l1' hs hg ht
   rcases key s k hs with ⟨p1,p2,p3,p4⟩|⟨p1,rfl⟩|⟨p1,r,k0,p2⟩
   ·exact absurd (hW.rows.one s ra k _ t1 l1' t A p3 hg ht har rfl rfl) p2
   ·cases ht
    subst p1;obtain⟨_,a2,a3⟩:=hr'.arn rb _ t B hrb rfl rfl;refine⟨l1.1,fun j hj=>by rw[hrow]; exact a2 j hj,fun j row hj=>?_⟩
    rcases a3 j row hj with h|⟨b,z1,z2⟩
    ·exact .inl h
    ·have m12:Mono w' G1 aN w' G2 aN:=⟨fun b hb=>⟨h12 b hb,rfl⟩,fun _ _ h=>h,fun _ _ h=>h,fun _ _ h=>h,fun j b hj=>by rw[hrow]; exact hj⟩
     exact .inr ⟨b,by rw[hrow]; exact z1,z2.mono m12 rfl⟩
   ·subst p2
    rw[(hos.at_ r k0 k rfl).2.1]at hg; cases hg
  ·have only:∀ (s:Nat) (k:Blk) (t1:Ty) (l1':List (List t1.den)),(((aBK ow H).set ra none)++(some (arB ae t B)::bDY os))[s]?=some (some k)→k.grown=false→k.tag=some ⟨.rows t1,l1'⟩→s=H.length:=by
    intro s k t1 l1' hs hg ht;rcases key s k hs with ⟨p1,p2,p3,p4⟩|⟨p1,_⟩|⟨p1,r,k0,p2⟩
    ·exact absurd (hW.rows.one s ra k _ t1 l1' t A p3 hg ht har rfl rfl) p2
    ·exact p1
    ·subst p2
     rw[(hos.at_ r k0 k rfl).2.1]at hg; cases hg
   intro r s k k' t1 l1' t2 l2' h1 g1 t1' h2 g2 t2';rw[only r k t1 l1' h1 g1 t1',only s k' t2 l2' h2 g2 t2']
end
end Go.PM
namespace Go.PM
open Go Go.RowKit
theorem aTR:∀ (ts:List Ty) (x:XZ ts),fP.noRefs (aHY ts x)=true
 | [],_=>rfl
 | t::r,(x,xs)=>by simp only[aHY,fP.noRefs,fP,aTR r xs,Bool.and_self]
theorem a9X:∀ (k:Kd) (x:k.den) (r:List Kd),YR (k::r)=true→fP (D5 k x 0)=true∧YR r=true
 | .int _,_,_,h=>⟨rfl,h⟩
 | .bool,_,_,h=>⟨rfl,h⟩
 | .str,_,_,h=>⟨rfl,h⟩
 | .list _,_,_,h=>⟨rfl,h⟩
 | .agg t,x,_,h=>⟨by simp only[D5,fP]; exact XT t x,h⟩
 | .own _ _,_,_,h=>by simp only[YR]at h; cases h
 | .box _ _,_,_,h=>by simp only[YR]at h; cases h
 | .win _ _,_,_,h=>by simp only[YR]at h; cases h
 | .bown _ _ _,_,_,h=>by simp only[YR]at h; cases h
 | .bag _ _ _ _ _,_,_,h=>by simp only[YR]at h; cases h
 | .bag2 _ _ _ _ _ _,_,_,h=>by simp only[YR]at h; cases h
 | .ar _ _,_,_,h=>by simp only[YR]at h; cases h
 | .hnd _,_,_,h=>⟨rfl,h⟩
 | .mpk _,_,_,h=>⟨rfl,h⟩
 | .ptr t,x,_,h=>⟨rfl,h⟩
 | .fn _,_,_,h=>⟨rfl,h⟩
 | .nil0,_,_,h=>⟨rfl,h⟩
 | .val,_,_,h=>⟨rfl,h⟩
 | .nilI,_,_,h=>⟨rfl,h⟩
 | .clo _ ts,x,_,h=>⟨by simp only[D5,fP,fP.noRefs,aTR ts x,Bool.and_self],h⟩
theorem WG:∀ (l:List Kd) (x:aJ l),YR l=true→fP.noRefs (qA l x)=true
 | [],_,_=>rfl
 | k::r,(x,xs),h=>by
  obtain⟨h1,h2⟩:=a9X k x r h;simp only[qA,fP.noRefs,h1,WG r xs h2,Bool.and_self]
inductive Tk where
 | none
 | own (e:TypeId) (t:Ty)
@[reducible] def Tk.den:Tk→Type
 | .none=>Unit
 | .own _ t=>List t.den
def Tk.pv:Tk→Nat→List PV
 | .none,_=>[]
 | .own _ t,r=>[.own r t.size]
def Tk.ow:(k:Tk)→k.den→Nat→OwA
 | .none,_,_=>Option.none
 | .own e t,l,r=>some (r,owB e t l)
inductive An where
 | data (l:List Kd)
 | own (e:TypeId) (t:Ty)
@[reducible] def An.den:An→Type
 | .data l=>aJ l
 | .own _ t=>List t.den
def An.pv:(a:An)→a.den→Nat→PV
 | .data l,y,_=>aXS l y
 | .own _ t,_,n=>.own n t.size
def An.hp:(a:An)→a.den→Heap
 | .data _,_=>[]
 | .own e t,l=>[some (owB e t l)]
def SR(P:Program) (g:FuncId) (ae:TypeId) (t:Ty) (tk:Tk) (args:List Kd) (an:An) (f:tk.den→aJ args→List (List t.den)→Option (an.den×List (List t.den))):Prop :=
 ∀ l x A y B,f l x A=some (y,B)→∀ {n0 G μ H w us ra r},bC n0 G μ H w→H[ra]?=some (some (arB ae t A))→bGA H (tk.ow l r)→VRs w G μ (tk.pv r++qA args x) us →
  CC P n0 w G μ g us.toArray (an.pv y (H.length+1)) (((aBK (tk.ow l r) H).set ra none)++(some (arB ae t B)::an.hp y))
def bFS(ae:TypeId) (t:Ty) (H:Heap):Option (Nat×List (List t.den)):=match aOH 0 H with
 | some (r,k)=>match k.tag with
  | some g=>match M5 g.t (.rows t) g.l with
   | some l=>bif Nat.beq k.ty ae&&!k.frozen then some (r,l) else none
   | none=>none
  | none=>none
 | none=>none
def bMK(e:TypeId) (t:Ty) (H:Heap):PV→Option (List t.den)
 | .own r sz=>N0 e t (.own r sz) H r
 | .win r lo n sz=>bif Nat.beq lo 0 then match N0 e t (.own r sz) H r with
  | some l=>some (l.take n)
  | none=>none
  else none
 | _=>none
def bD5:(an:An)→PV→Heap→Option an.den
 | .data l,q,H=>match inl false H depth q with
  | some q'=>bBU l q'
  | none=>none
 | .own e t,q,H=>bMK e t H q
def bK1(P:Program) (rs:List ResultVar) (ae:TypeId) (t:Ty) (an:An) (ex:Ex) (F:Frm) (H:Heap):Option (an.den×List (List t.den)):=match ex with
 | .exit _=>none
 | _=>match AZ P F H rs with
  | some vs=>match bFS ae t H with
   | some B=>match bD5 an (lA vs) H with
    | some y=>some (y,B.2)
    | none=>none
   | none=>none
  | none=>none
def JN(P:Program) (E:Env) (fn:Func) (aZ:Nat) (lt:Nat→Option aS) (c:Code) (ae:TypeId) (t:Ty) (tk:Tk) (args:List Kd) (an:An) (l:tk.den) (x:aJ args) (A:List (List t.den)):Option (an.den×List (List t.den)) :=
 bif Nat.ble (tk.pv 0++qA args x).length fn.ntmps then K5 P E fn.ntmps aZ lt c (start aZ 0 (tk.pv 0++qA args x)) (TH (tk.ow l 0)++[some (arB ae t A)]) (bK1 P fn.results.toList ae t an) else none
section
variable {P:Program} {n0:Nat→Prop} {w w':World} {G G1 G2:Gd} {μ μ2:Mp} {H H':Heap} {ae:TypeId} {t:Ty} {A B:List (List t.den)}
theorem aPP(hW:bC n0 G μ H w) {p:Nat×List (List t.den)} (h:bFS ae t H=some p):H[p.1]?=some (some (arB ae t p.2)):=by
 unfold bFS at h;split at h
 ·rename_i r k hk
  obtain⟨h1,h2⟩:=aEG hk;split at h
  ·rename_i g hg
   split at h
   ·rename_i l hc
    obtain⟨hb,h⟩:=aO h;simp only[Bool.and_eq_true,Bool.not_eq_true']at hb;simp only[Option.some.injEq]at h;subst h;have hb3:=Nat.eq_of_beq_eq_true hb.1;have ht:=(hW.tags r k g h1 hg).1;have hge:=a98 hc;rw[hge]at hg ht;rw[h1];obtain⟨k1,k2,k3,k4,k5⟩:=k;dsimp only at ht hg hb hb3 h2 ⊢;rw[ht,hg,hb3,h2,hb.2]
   ·cases h
  ·cases h
 ·cases h
theorem aZE(hW:bC n0 G μ H w) {e:TypeId} {u:Ty} {p:PV} {l:List u.den} {v:Value} (h:bMK e u H p=some l) (hv:VR w G μ p v) :
  ∃ r l0,bMO H (some (r,owB e u l0,owB e u l))∧∀ G2 μ3 n,μ3.loc n=μ.loc r→μ3.len n=some l.length→VR w G2 μ3 (.own n u.size) v:=by
 have key:∀ (l0:List u.den) (r m:Nat),H[r]?=some (some (owB e u l0))→bMO H (some (r,owB e u l0,owB e u (l0.take m))):=fun l0 r m h0=>⟨fun r' k k' he=>by
  cases he;exact⟨h0,rfl,rfl,rfl,rfl,⟨u,l0.take m⟩,m*u.size,rfl,rfl,(xU u m l0).symm⟩⟩
 unfold bMK at h;split at h
 ·rename_i r sz
  obtain⟨h1,h2⟩:=xL hW h;cases h1;refine⟨r,l,by have:=key l r l.length h2; rwa[List.take_length]at this,fun G2 μ3 n q1 q2=>?_⟩
  rw[VR]at hv ⊢;obtain⟨m,a1,a2⟩:=hv;have:=(hW.tags r _ _ h2 rfl).2;rw[this]at a1;cases a1;refine⟨_,q2,?_⟩;rw[q1];exact a2
 ·rename_i r lo n sz
  obtain⟨hb,h⟩:=aO h;have hb:=Nat.eq_of_beq_eq_true hb;subst hb;split at h
  ·rename_i l0 hl0
   obtain rfl:=Option.some.inj h;obtain⟨h1,h2⟩:=xL hW hl0;cases h1;refine⟨r,l0,key l0 r n h2,fun G2 μ3 m q1 q2=>?_⟩
   rw[VR]at hv;rw[VR];obtain⟨b,c,m',a1,a2,a3,a4,a5,a6,a7⟩:=hv;have:=(hW.tags r _ _ h2 rfl).2;rw[this]at a5;cases a5;refine⟨n,by rw[q2,List.length_take]; change 0+n≤l0.length at a6; congr 1; omega,.inr ⟨b,c,by rw[q1]; exact a1,by rw[a2,Nat.zero_mul],a3,?_⟩⟩
   simpa using a4
  ·cases h
 ·cases h
theorem bFT {α:Type 1} {b:Bool} {x:Option α} {y:α} (h:(bif b then x else none)=some y):b=true∧x=some y:=by
 cases b with
 | true=>exact⟨rfl,h⟩
 | false=>cases h
theorem C4 {E:Env} (hP:XL P) (hE:bE P E) {g:Nat} {fn:Func} (hg:P.funcs[g]?=some fn) {c:Code} (hc:fn.body=some c) {aZ:Nat} {lt:Nat→Option aS} {ae:TypeId} {t:Ty} {tk:Tk} {args:List Kd} {an:An} {f:tk.den→aJ args→List (List t.den)→Option (an.den×List (List t.den))}
  (hd:YR args=true) (hl:∀ a∈aF c,∀ s,lt (aH a)=some s→cF P fn.ntmps a s) (hb:∀ l x A,JN P E fn aZ lt c ae t tk args an l x A=f l x A):SR P g ae t tk args an f:=by
 intro l x A y B hy n0 G μ H w us ra r hW har ho hv;rw[← hb]at hy;unfold JN at hy;obtain⟨hlen,hy⟩:=aO hy;obtain⟨⟨ex,F',H'⟩,h1,h2⟩:=sM hE.callee hP.mixed c _ _ _ _ hl hy;obtain⟨vs,B',hex,hvs,hB,hq,rfl⟩:∃ vs B',(ex=.normal∨ex=.ret)∧AZ P F' H' fn.results.toList=some vs∧bFS ae t H'=some B'∧bD5 an (lA vs) H'=some y∧B'.2=B:=by
  unfold bK1 at h1;split at h1
  ·cases h1
  ·rename_i hne
   split at h1
   ·rename_i vs hvs
    split at h1
    ·rename_i B' hB
     split at h1
     ·rename_i y' hy'
      simp only[Option.some.injEq,Prod.mk.injEq]at h1;obtain⟨rfl,h1⟩:=h1;refine⟨vs,B',?_,hvs,hB,hy',h1⟩;cases ex with
      | normal=>exact .inl rfl
      | ret=>exact .inr rfl
      | exit i=>exact absurd rfl (hne i)
     ·cases h1
    ·cases h1
   ·cases h1
 have hargs:VRs w G (mpA μ (tk.ow l r) A.length) (tk.pv 0++qA args x) us:=by
  have hn:=WG args x hd;cases tk with
  | none=>exact VRs.bN (dX _ _ hn hv)
  | own e u =>
   change VRs w G μ (.own r u.size::qA args x) us at hv;change VRs w G _ (.own 0 u.size::qA args x) us;rw[VRs]at hv ⊢;obtain⟨v,us',rfl,q1,q2⟩:=hv;refine⟨v,us',rfl,?_,VRs.bN (dX _ _ hn q2)⟩;rw[VR]at q1 ⊢;exact q1
 have howb:TH (tk.ow l 0)=TH (tk.ow l r):=by cases tk <;> rfl
 have hW1:=aSX hW ho har;rw[← howb]at hW1;have e0:Ext (wrA w G μ (tk.ow l r)) w G aN w G (mpA μ (tk.ow l r) A.length) :=
  ⟨⟨fun b hb=>⟨hb,rfl⟩,fun _ _ h=>(by cases h),fun _ _ h=>(by cases h),fun _ _ h=>h,fun _ _ h=>h⟩,rfl,rfl,rfl,Nat.le_refl _,fun _ _ _=>rfl,fun _ h=>.inl h⟩
 refine⟨enters hg (hP.names g fn hg) (by rw[hc]; rfl) _ _,calls_of_wp hg hc ?_⟩
 have hI:I (wrA w G μ (tk.ow l r)) w G aN fn.ntmps (start aZ 0 (tk.pv 0++qA args x)) (TH (tk.ow l 0)++[some (arB ae t A)]) ⟨us.toArray++Array.replicate (fn.ntmps-us.toArray.size) undef,[]⟩ w :=
  ⟨G,_,e0,hW1,HK (by simpa using hargs) (Nat.le_of_ble_eq_true hlen)⟩
 refine wp_mono (h2 _ w G aN _ w (fun r=>⟨rfl,rfl⟩) hI) ?_
 rintro e1 a' w' ⟨rfl,G1,μ1,ee,hW',hF'⟩;obtain⟨ws,h3,h4⟩:=xW (P:=P) hW' hF' hvs;have hres:(results fn a'.tmps).run P w'=.ok (if hh:ws.toArray.size=1 then ws.toArray[0] else .tuple ws.toArray) w':=by
  rw[L9,Array.mapM_eq_mapM_toList];simp only[Sem.run_bind,Sem.run_map,h3,Result.andThen_ok,Sem.run_pure]
 have hrb:=aPP hW' hB;obtain⟨G2,μ3,b1,b2,b3⟩:∃ G2 μ3,Ext n0 w G μ w' G2 μ3∧bC n0 G2 μ3 (((aBK (tk.ow l r) H).set ra none)++(some (arB ae t B'.2)::an.hp y)) w'∧VR w' G2 μ3 (an.pv y (H.length+1)) (if hh:ws.toArray.size=1 then ws.toArray[0] else .tuple ws.toArray):=by
  have hvr:=BL h4;cases an with
  | data rets =>
   simp only[bD5]at hq;split at hq
   ·rename_i q hq'
    have hb:=aY8 (G2:=⟨fun b=>G1 b∨∃ s k,H'[s]?=some (some k)∧k.frozen=false∧μ1.loc s=some b,G1.row⟩) hW ho har ee hW' hrb (os:=none) ⟨fun _ _ _ h=>by cases h⟩ (fun _=>rfl) (fun b hb=>.inl hb) (fun b hb=>by
     rcases hb with h|⟨s,k,z1,z2,z3⟩
     ·exact .inl h
     ·exact .inr ⟨s,k,z1,z2,z3,fun _ _ _ h=>by cases h⟩)
    refine⟨_,_,hb.1,hb.2,?_⟩;have:=QA (G':=⟨fun b=>G1 b∨∃ s k,H'[s]?=some (some k)∧k.frozen=false∧μ1.loc s=some b,G1.row⟩) hW' (fun _ _ h=>h) (fun b hb=>.inl hb) (fun s k1 b hs _ hb=>by
     obtain⟨_,_,_,_,g5,_⟩:=hW'.blk s k1 b hs hb;cases hf:k1.frozen with
     | true=>exact .inl (g5 hf)
     | false=>exact .inr ⟨s,k1,hs,hf,hb⟩) depth _ q _ hq' hvr
    exact(aNF hq this).bN
   ·cases hq
  | own e u =>
   simp only[bD5]at hq;obtain⟨r1,l0,hos,hvv⟩:=aZE hW' hq hvr;have hb:=aY8 (G2:=G1) hW ho har ee hW' hrb hos (fun _=>rfl) (fun b hb=>hb) (fun b hb=>.inl hb)
   refine⟨_,_,hb.1,hb.2,hvv _ _ _ ?_ ?_⟩
   ·have h1:¬ H.length+1<H.length:=by omega
    simp[CP,h1,bLN]
   ·have h1:¬ H.length+1<H.length:=by omega
    simp[CP,h1,bJ9]
 have hpost:a'.defers=[]∧∃ v,(results fn a'.tmps).run P w'=.ok v w'∧(∃ v' G'' μ'',Ending.returned v=.returned v'∧Ext n0 w G μ w' G'' μ''∧bC n0 G'' μ'' (((aBK (tk.ow l r) H).set ra none)++(some (arB ae t B'.2)::an.hp y)) w'∧VR w' G'' μ'' (an.pv y (H.length+1)) v') :=
  ⟨hF'.defers,_,hres,_,G2,μ3,rfl,b1,b2,b3⟩
 rcases hex with rfl|rfl
 ·exact hpost
 ·exact hpost
def aO5(P:Program) (E:Env) (fn:Func) (aZ:Nat) (lt:Nat→Option aS) (c:Code) (ae:TypeId) (t:Ty) (args rets:List Kd) (x:aJ args):Option (aJ rets) :=
 bif Nat.ble (qA args x).length fn.ntmps then K5 P E fn.ntmps aZ lt c (start aZ 0 (qA args x)) [some (arB ae t [])] (bAK P fn.results.toList rets) else none
theorem aWT {E:Env} (hP:XL P) (hE:bE P E) {g:Nat} {fn:Func} (hg:P.funcs[g]?=some fn) {c:Code} (hc:fn.body=some c) {aZ:Nat} {lt:Nat→Option aS} {ae:TypeId} {t:Ty} {args rets:List Kd} {f:aJ args→Option (aJ rets)}
  (hl:∀ a∈aF c,∀ s,lt (aH a)=some s→cF P fn.ntmps a s) (hb:∀ x,aO5 P E fn aZ lt c ae t args rets x=f x):eB P g args rets f:=by
 intro x y hy;rw[← hb]at hy;unfold aO5 at hy;obtain⟨hlen,hy⟩:=aO hy;obtain⟨⟨ex,F',H'⟩,h1,h2⟩:=sM hE.callee hP.mixed c _ _ _ _ hl hy;obtain⟨vs,q,hex,hvs,hq,hd⟩:∃ vs q,(ex=.normal∨ex=.ret)∧AZ P F' H' fn.results.toList=some vs∧bDT H' (lA vs)=some q∧bBU rets q=some y:=by
  unfold bAK at h1;split at h1
  ·cases h1
  ·rename_i hne
   split at h1
   ·rename_i vs hvs
    split at h1
    ·rename_i q hq
     refine⟨vs,q,?_,hvs,hq,h1⟩;cases ex with
     | normal=>exact .inl rfl
     | ret=>exact .inr rfl
     | exit i=>exact absurd rfl (hne i)
    ·cases h1
   ·cases h1
 obtain⟨hq1,hq2⟩:=W0 hq;intro w G us hlt hv;have at0:∀ (s:Nat) (k1:Blk),([some (arB ae t [])]:Heap)[s]?=some (some k1)→s=0∧k1=arB ae t []:=by
  intro s k1 hs;cases s with
  | zero=>simp only[List.getElem?_cons_zero,Option.some.injEq]at hs; exact⟨rfl,hs.symm⟩
  | succ s=>simp at hs
 have hW:bC (D2 w) (Gd.of G) ⟨fun _=>none,fun r=>if r=0 then some 0 else none⟩ [some (arB ae t [])] w:=by
  refine⟨(fun r k b h hb=>by cases hb),(fun r k g h hg=>?_),(fun r s k l b h _ _ _ hb=>by cases hb),hlt,(fun r hr=>⟨rfl,?_⟩),fun _ h=>h,⟨(fun _ _ _ h=>by cases h),(fun _ _ h=>by cases h),(fun _ _ h=>by cases h),(fun r k u l h hgr ht=>?_),(fun r s k k' u l u' l' h1 g1 t1 h2 g2 t2=>by rw[(at0 r k h1).1,(at0 s k' h2).1])⟩⟩
  ·obtain⟨rfl,rfl⟩:=at0 r k h
   cases hg;exact⟨rfl,rfl⟩
  ·have:r≠0:=by rintro rfl; simp at hr
   simp[this]
  ·obtain⟨rfl,rfl⟩:=at0 r k h
   cases ht;exact⟨rfl,fun _ _=>rfl,fun j row hj=>by simp at hj⟩
 have e0:Ext (D2 w) w (Gd.of G) aN w (Gd.of G) ⟨fun _=>none,fun r=>if r=0 then some 0 else none⟩ :=
  ⟨⟨fun b hb=>⟨hb,rfl⟩,fun _ _ h=>(by cases h),fun _ _ h=>(by cases h),fun _ _ h=>h,fun _ _ h=>h⟩,rfl,rfl,rfl,Nat.le_refl _,fun _ _ _=>rfl,fun _ h=>.inl h⟩
 refine⟨enters hg (hP.names g fn hg) (by rw[hc]; rfl) _ _,calls_of_wp hg hc ?_⟩
 have hI:I (D2 w) w (Gd.of G) aN fn.ntmps (start aZ 0 (qA args x)) [some (arB ae t [])] ⟨us++Array.replicate (fn.ntmps-us.size) undef,[]⟩ w:=⟨Gd.of G,_,e0,hW,HK hv.bN (Nat.le_of_ble_eq_true hlen)⟩;refine wp_mono (h2 _ w (Gd.of G) aN _ w (fun r=>⟨rfl,rfl⟩) hI) ?_
 rintro e a' w' ⟨rfl,G1,μ1,e1,e2,hF'⟩;obtain⟨ws,h3,h4⟩:=xW (P:=P) e2 hF' hvs;have hres:(results fn a'.tmps).run P w'=.ok (if hh:ws.toArray.size=1 then ws.toArray[0] else .tuple ws.toArray) w':=by
  rw[L9,Array.mapM_eq_mapM_toList];simp only[Sem.run_bind,Sem.run_map,h3,Result.andThen_ok,Sem.run_pure]
 have hval:=W6 (G:=⟨fun b=>G1 b∨∃ r k,H'[r]?=some (some k)∧μ1.loc r=some b,G1.row⟩) (G':=Gd.of fun b=>G1 b∨∃ r k,H'[r]?=some (some k)∧μ1.loc r=some b) (fun b h=>h) _ _ _ hq2
   (QA (G':=⟨fun b=>G1 b∨∃ r k,H'[r]?=some (some k)∧μ1.loc r=some b,G1.row⟩) e2 (fun _ _ h=>h) (fun b hb=>.inl hb) (fun r k b hr _ hb=>.inr ⟨r,k,hr,hb⟩) depth _ q _ hq1 (BL h4))
 have hext:Ext (D2 w) w (Gd.of G) aN w' (Gd.of fun b=>G1 b∨∃ r k,H'[r]?=some (some k)∧μ1.loc r=some b) aN:={
  good:=fun b hb=>⟨.inl (e1.good b hb).1,(e1.good b hb).2⟩
  map:=fun _ _ h=>h
  len:=fun _ _ h=>h
  room:=e1.room
  row:=fun _ _ h=>h
  os:=e1.os
  tape:=e1.tape
  output:=e1.output
  size:=e1.size
  old:=e1.old
  new:=fun b hb=>by
   rcases hb with hb|⟨r,k,hr,hb⟩
   ·exact e1.new b hb
   ·obtain⟨c,_,_,_,g5,g6⟩:=e2.blk r k b hr hb
    cases hf:k.frozen with
    | true=>exact e1.new b (g5 hf)
    | false=>exact .inr (g6 hf).1 }
 have hlt':∀ b,(G1 b∨∃ r k,H'[r]?=some (some k)∧μ1.loc r=some b)→b<w'.heap.size:=by
  rintro b (hb|⟨r,k,hr,hb⟩)
  ·exact e2.lt b hb
  ·exact e2.rO hr hb
 have hpost:a'.defers=[]∧∃ v,(results fn a'.tmps).run P w'=.ok v w'∧(∃ v' G',Ending.returned v=.returned v'∧Ext (D2 w) w (Gd.of G) aN w' (Gd.of G') aN∧(∀ b,G' b→b<w'.heap.size)∧VR w' (Gd.of G') aN (aXS rets y) v') :=
  ⟨hF'.defers,_,hres,_,_,rfl,hext,hlt',aNF hd hval⟩
 rcases hex with rfl|rfl
 ·exact hpost
 ·exact hpost
def a4L(e:TypeId) (t:Ty) (H:Heap):List PV→Option (List t.den×Nat×List PV)
 | .own r sz::ps=>match N0 e t (.own r sz) H r with
  | some l=>some (l,r,ps)
  | none=>none
 | _=>none
def Tk.dec:(tk:Tk)→List PV→Heap→Option (tk.den×Nat×List PV)
 | .none,qs,_=>some ((),0,qs)
 | .own e t,qs,H=>a4L e t H qs
theorem aM9(hW:bC n0 G μ H w) {e:TypeId} {u:Ty} {qs:List PV} {l:List u.den} {r:Nat} {ps:List PV} (h:a4L e u H qs=some (l,r,ps)):H[r]?=some (some (owB e u l))∧qs=.own r u.size::ps:=by
 unfold a4L at h;split at h
 ·rename_i r1 sz ps1
  split at h
  ·rename_i l1 hl1
   simp only[Option.some.injEq,Prod.mk.injEq]at h;obtain⟨rfl,rfl,rfl⟩:=h;obtain⟨g1,g2⟩:=xL hW hl1;exact⟨g2,by rw[g1]⟩
  ·cases h
 ·cases h
theorem Tk.bGF (hW:bC n0 G μ H w) {tk:Tk} {qs:List PV} {l:tk.den} {r:Nat} {ps:List PV} (h:tk.dec qs H=some (l,r,ps)):bGA H (tk.ow l r)∧qs=tk.pv r++ps:=by
 cases tk with
 | none =>
  simp only[Tk.dec,Option.some.injEq,Prod.mk.injEq]at h;obtain⟨_,_,rfl⟩:=h;exact⟨⟨fun _ _ h=>by cases h⟩,rfl⟩
 | own e u =>
  obtain⟨h1,h2⟩:=aM9 hW (h:a4L e u H qs=some (l,r,ps));refine⟨⟨fun r' k he=>?_⟩,h2⟩
  cases he;exact⟨h1,rfl,rfl,rfl⟩
def arH(ae:TypeId) (t:Ty) (tk:Tk) (args:List Kd) (an:An) (f:tk.den→aJ args→List (List t.den)→Option (an.den×List (List t.den))) (qs:List PV) (H:Heap):Option a16:=match tk.dec qs H with
 | some (l,r,ps)=>match bFS ae t H with
  | some (ra,A)=>match a3A args ps with
   | some x=>bif fP.noRefs ps then some ⟨an.den×List (List t.den),f l x A,fun y=>(an.pv y.1 (H.length+1),((aBK (tk.ow l r) H).set ra none)++(some (arB ae t y.2)::an.hp y.1))⟩ else none
   | none=>none
  | none=>none
 | none=>none
theorem IF {g:FuncId} {tk:Tk} {args:List Kd} {an:An} {f:tk.den→aJ args→List (List t.den)→Option (an.den×List (List t.den))} (hf:SR P g ae t tk args an f) :
  ∀ qs H r,arH ae t tk args an f qs H=some r→∀ y,r.val=some y→∀ {n0 G μ w vs},bC n0 G μ H w→VRs w G μ qs vs→CC P n0 w G μ g vs.toArray (r.out y).1 (r.out y).2:=by
 intro qs H rh h y hy n0 G μ w vs hW hv;unfold arH at h;split at h
 ·rename_i l r ps hl
  split at h
  ·rename_i ra A hA
   split at h
   ·rename_i x hx
    obtain⟨hb,h⟩:=bFT h;simp only[Option.some.injEq]at h;subst h;obtain⟨ho,rfl⟩:=Tk.bGF hW hl;have hv':VRs w G μ (tk.pv r++qA args x) vs:=by
     cases tk with
     | none=>exact(NQ args hx (dX _ _ hb hv)).bN
     | own e u =>
      change VRs w G μ (.own r u.size::ps) vs at hv;change VRs w G μ (.own r u.size::qA args x) vs;rw[VRs]at hv ⊢;obtain⟨v,us,rfl,q1,q2⟩:=hv;exact⟨v,us,rfl,q1,(NQ args hx (dX _ _ hb q2)).bN⟩
    obtain⟨y1,y2⟩:=y;exact hf l x A y1 y2 hy hW (aPP hW hA) ho hv'
   ·cases h
  ·cases h
 ·cases h
end
end Go.PM
