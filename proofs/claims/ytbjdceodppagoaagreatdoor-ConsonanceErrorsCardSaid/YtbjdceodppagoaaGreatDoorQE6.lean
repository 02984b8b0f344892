/- Texts of one proof, joined (6). -/
import Derived.Test.YtbjdceodppagoaaGreatDoorQE5
set_option linter.unusedSimpArgs false
set_option linter.unusedVariables false
set_option maxRecDepth 100000
noncomputable section
namespace Go.PM
open Go Go.RowKit
theorem aGC:∀ ts x,dW.noRefs (ZS ts x)=true
 | [],_=>rfl
 | t::r,(x,xs)=>by simp only[ZS,dW.noRefs,dW,aGC r xs,Bool.and_self]
theorem aUS:∀ k x r,aB3 (k::r)=true->dW (CK k x 0)=true/\aB3 r=true
 | .int _,_,_,h=>⟨rfl,h⟩
 | .bool,_,_,h=>⟨rfl,h⟩
 | .str,_,_,h=>⟨rfl,h⟩
 | .list _,_,_,h=>⟨rfl,h⟩
 | .agg t,x,_,h=>⟨PW t x,h⟩
 | .own _ _,_,_,h=>by cases h
 | .box _ _,_,_,h=>by cases h
 | .win _ _,_,_,h=>by cases h
 | .bown _ _ _,_,_,h=>by cases h
 | .bque _ _ _,_,_,h=>by cases h
 | .bag _ _ _ _ _,_,_,h=>by cases h
 | .bag2 _ _ _ _ _ _,_,_,h=>by simp only[aB3]at h; grind
 | .ar _ _,_,_,h=>by cases h
 | .hnd _,_,_,h=>⟨rfl,h⟩
 | .mpk _,_,_,h=>⟨rfl,h⟩
 | .ptr t,x,_,h=>⟨rfl,h⟩
 | .fn _,_,_,h=>⟨rfl,h⟩
 | .nil0,_,_,h=>⟨rfl,h⟩
 | .val,_,_,h=>⟨rfl,h⟩
 | .nilI,_,_,h=>⟨rfl,h⟩
 | .clo _ ts,x,_,h=>⟨by simp only[CK,dW,dW.noRefs,aGC ts x,Bool.and_self],h⟩
theorem O8:∀ l x,aB3 l=true->dW.noRefs (mB l x)=true
 | [],_,_=>rfl
 | k::r,(x,xs),h=>by
  obtain⟨h1,h2⟩:=aUS k x r h;simp only[mB,dW.noRefs,h1,O8 r xs h2,Bool.and_self]
inductive Tk where
 | none
 | own (e:TypeId) (t:Ty)
@[reducible] def Tk.den:Tk->Type
 | .none=>Unit
 | .own _ t=>List t.den
def Tk.pv:Tk->Nat->List PV
 | .none,_=>[]
 | .own _ t,r=>[.own r t.size]
def Tk.ow:(k:Tk)->k.den->Nat->OwA
 | .none,_,_=>Option.none
 | .own e t,l,r=>some (r,owB e t l)
inductive An where
 | data (l:List Kd)
 | own (e:TypeId) (t:Ty)
@[reducible] def An.den:An->Type
 | .data l=>aM l
 | .own _ t=>List t.den
def An.pv:(a:An)->a.den->Nat->PV
 | .data l,y,_=>VN l y
 | .own _ t,_,n=>.own n t.size
def An.hp:(a:An)->a.den->Heap
 | .data _,_=>[]
 | .own e t,l=>[some (owB e t l)]
def N2(P:Program) (g:FuncId) (ae:TypeId) (t:Ty) (tk:Tk) (args:List Kd) (an:An) (f:tk.den->aM args->List (List t.den)->Option (an.den×List (List t.den))):Prop :=
 ∀ l x A y B,f l x A=some (y,B)->∀ {n0 G μ H w us ra r},aO n0 G μ H w->H[ra]?=some (some (arB ae t A))->aZ9 H (tk.ow l r)->VRs w G μ (tk.pv r++mB args x) us ->
  uM P n0 w G μ g us.toArray (an.pv y (H.length+1)) (((SR (tk.ow l r) H).set ra none)++(some (arB ae t B)::an.hp y))
def a1I(ae:TypeId) (t:Ty) (H:Heap):Option (Nat×List (List t.den)):=match aBB 0 H with
 | some (r,k)=>match k.tag with
  | some g=>match AG g.t (.rows t) g.l with
   | some l=>bif Nat.beq k.ty ae&&!k.frozen then some (r,l) else none
   | none=>none
  | none=>none
 | none=>none
def bBM(e:TypeId)(t:Ty)(H:Heap):PV->Option (List t.den)
 | .own r sz=>DY e t (.own r sz) H r
 | .win r lo n sz=>bif Nat.beq lo 0 then match DY e t (.own r sz) H r with
  | some l=>some (l.take n)
  | none=>none
  else none
 | _=>none
def aXQ:(an:An)->PV->Heap->Option an.den
 | .data l,q,H=>match inl false H depth q with
  | some q'=>aJH l q'
  | none=>none
 | .own e t,q,H=>bBM e t H q
def a8M(P:Program)(rs:List ResultVar)(ae:TypeId)(t:Ty)(an:An)(ex:Ex)(F:Frm)(H:Heap):Option (an.den×List (List t.den)):=match ex with
 | .exit _=>none
 | _=>match qT P F H rs with
  | some vs=>match a1I ae t H with
   | some B=>match aXQ an (jY vs) H with
    | some y=>some (y,B.2)
    | none=>none
   | none=>none
  | none=>none
def HG(P:Program)(E:Env)(fn:Func)(keep:Nat)(lt:Nat->Option eY)(c:Code)(ae:TypeId)(t:Ty)(tk:Tk) args (an:An)(l:tk.den)(x:aM args)(A:List (List t.den)):Option (an.den×List (List t.den)) :=
 bif Nat.ble (tk.pv 0++mB args x).length fn.ntmps then lX P E fn.ntmps keep lt c (start keep 0 (tk.pv 0++mB args x)) (MR (tk.ow l 0)++[some (arB ae t A)]) (a8M P fn.results.toList ae t an) else none
section
variable {P:Program} {n0:Nat->Prop} {w w':World} {G G1 G2:Gd} {μ μ2:Mp} {H H':Heap} {ae:TypeId} {t:Ty} {A B:List (List t.den)}
theorem aDQ(hW:aO n0 G μ H w){p}(h:a1I ae t H=some p):H[p.1]?=some (some (arB ae t p.2)):=by
 unfold a1I at h;split at h
 next r k hk=>
  obtain⟨h1,h2⟩:=Z0 hk;split at h
  next g hg=>
   split at h
   next l hc=>obtain⟨hb,h⟩:=aJ h;simp only[oA]at hb;simp only[oJ]at h;subst h;have hb3:=oE hb.1;have ht:=(hW.tags r k g h1 hg).1;have hge:=aUR hc;obtain⟨k1,k2,k3,k4,k5⟩:=k;grind
   grind
  grind
 grind
theorem aM1(hW:aO n0 G μ H w) {e:TypeId} {u:Ty} {p:PV} {l:List u.den} {v:Value} (h:bBM e u H p=some l) (hv:VR w G μ p v) :
  ∃ r l0,bAJ H (some (r,owB e u l0,owB e u l))/\∀ G2 μ3 n,μ3.loc n=μ.loc r->μ3.len n=some l.length->μ3.sh n=μ.sh r->VR w G2 μ3 (.own n u.size) v:=by
 have key:∀ (l0:List u.den) (r m:Nat),H[r]?=some (some (owB e u l0))->bAJ H (some (r,owB e u l0,owB e u (l0.take m))):=λl0 r m h0=>⟨λr' k k' he=>by
  cases he;exact⟨h0,rfl,rfl,rfl,rfl,⟨u,l0.take m⟩,m*u.size,rfl,rfl,(qD u m l0).symm⟩⟩
 unfold bBM at h;split at h
 next r sz=>obtain⟨h1,h2⟩:=nG hW h;cases h1;refine⟨r,l,by have:=key l r l.length h2; rwa[List.take_length]at this,λG2 μ3 n q1 q2 q3=>?_⟩;obtain⟨m,a1,a2⟩:=hv;have:=(hW.tags r _ _ h2 rfl).2;rw[this]at a1;cases a1;refine⟨_,q2,?_⟩;grind
 next r lo n sz=>
  obtain⟨hb,h⟩:=aJ h;have hb:=oE hb;subst hb;split at h
  next l0 hl0=>obtain rfl:=oB h;obtain⟨h1,h2⟩:=nG hW hl0;cases h1;refine⟨r,l0,key l0 r n h2,λG2 μ3 m q1 q2 q3=>?_⟩;obtain⟨b,c,m',a1,a2,a3,a4,a5,a6,a7⟩:=hv;have:=(hW.tags r _ _ h2 rfl).2;rw[this]at a5;cases a5;refine⟨n,by rw[q2,List.length_take]; change 0+n<=l0.length at a6; congr 1; omega,.inr ⟨b,c,by rw[q1]; exact a1,by rw[a2,q3,Nat.zero_mul]; rfl,a3,?_,by rw[q3]; exact a7.2⟩⟩;grind
  ·cases h
 ·cases h
theorem a0L {α:Type 1}{b x}{y:α}(h:(bif b then x else none)=some y):b=true/\x=some y:=zf
theorem AK {E:Env} (hP:NA P) (hE:fX P E) {g:Nat} {fn:Func} (hg:P.funcs[g]?=some fn) {c:Code} (hc:fn.body=some c) {keep:Nat} {lt:Nat->Option eY} {ae:TypeId} {t:Ty} {tk:Tk} {args:List Kd} {an:An} {f:tk.den->aM args->List (List t.den)->Option (an.den×List (List t.den))}
  (hd:aB3 args=true) (hl:∀ a∈bA c,∀ s,lt (cA a)=some s->fN P fn.ntmps a s) (hb:∀ l x A,HG P E fn keep lt c ae t tk args an l x A=f l x A):N2 P g ae t tk args an f:=by
 intro l x A y B hy n0 G μ H w us ra r hW har ho hv;rw[<- hb]at hy;obtain⟨hlen,hy⟩:=aJ hy;obtain⟨⟨ex,F',H'⟩,h1,h2⟩:=kY hE.callee hP.mixed c _ _ _ _ hl hy;obtain⟨vs,B',hex,hvs,hB,hq,rfl⟩:∃ vs B',(ex=.normal\/ex=.ret)/\qT P F' H' fn.results.toList=some vs/\a1I ae t H'=some B'/\aXQ an (jY vs) H'=some y/\B'.2=B:=by
  unfold a8M at h1;split at h1
  ·cases h1
  next hne=>
   split at h1
   ·rename_i vs hvs;split at h1
    ·rename_i B' hB;split at h1
     ·rename_i y' hy';simp only[oJ,oP]at h1;obtain⟨rfl,h1⟩:=h1;refine⟨vs,B',?_,hvs,hB,hy',h1⟩;cases ex with
      | normal=>exact .inl rfl
      | ret=>exact .inr rfl
      | exit i=>exact absurd rfl (hne i)
     ·cases h1
    ·cases h1
   ·cases h1
 have hargs:VRs w G (mpA μ (tk.ow l r) A.length) (tk.pv 0++mB args x) us:=by
  have hn:=O8 args x hd;cases tk with
  | none=>exact VRs.aU (cX _ _ hn hv)
  | own e u =>
   change VRs w G μ (.own r u.size::mB args x) us at hv;change VRs w G _ (.own 0 u.size::mB args x) us;rw[VRs]at hv ⊢;obtain⟨v,us',rfl,q1,q2⟩:=hv;refine⟨v,us',rfl,?_,VRs.aU (cX _ _ hn q2)⟩;rw[VR]at q1 ⊢;exact q1
 have howb:MR (tk.ow l 0)=MR (tk.ow l r):=by cases tk <;> rfl
 have hW1:=aEA hW ho har;rw[<- howb]at hW1;have e0:Ext (wrA w G μ (tk.ow l r)) w G aG w G (mpA μ (tk.ow l r) A.length) :=
  ⟨⟨λb hb=>⟨hb,rfl⟩,λ_ _ h=>(by cases h),λ_ _ h=>(by cases h),λ_ _ h=>h,λ_ _ h=>h,λ_ _ h=>(by cases h)⟩,rfl,rfl,rfl,oM _,λ_ _ _=>rfl,λ_ h=>.inl h⟩
 refine⟨enters hg (hP.names g fn hg) (by rw[hc]; rfl) _ _,calls_of_wp hg hc ?_⟩;have hI:I (wrA w G μ (tk.ow l r)) w G aG fn.ntmps (start keep 0 (tk.pv 0++mB args x)) (MR (tk.ow l 0)++[some (arB ae t A)]) ⟨us.toArray++Array.replicate (fn.ntmps-us.toArray.size) undef,[]⟩ w :=
  ⟨G,_,e0,hW1,pK (by simpa using hargs) (oL hlen)⟩
 refine wp_mono (h2 _ w G aG _ w (λr=>⟨rfl,rfl⟩) hI) ?_;rintro e1 a' w' ⟨rfl,G1,μ1,ee,hW',hF'⟩;obtain⟨ws,h3,h4⟩:=mQ (P:=P) hW' hF' hvs;have hres:(results fn a'.tmps).run P w'=.ok (if hh:ws.toArray.size=1 then ws.toArray[0] else .tuple ws.toArray) w':=by
  rw[yD,Array.mapM_eq_mapM_toList];simp only[Sem.run_bind,Sem.run_map,h3,Result.andThen_ok,Sem.run_pure]
 have hrb:=aDQ hW' hB;obtain⟨G2,μ3,b1,b2,b3⟩:∃ G2 μ3,Ext n0 w G μ w' G2 μ3/\aO n0 G2 μ3 (((SR (tk.ow l r) H).set ra none)++(some (arB ae t B'.2)::an.hp y)) w'/\VR w' G2 μ3 (an.pv y (H.length+1)) (if hh:ws.toArray.size=1 then ws.toArray[0] else .tuple ws.toArray):=by
  have hvr:=pC h4;cases an with
  | data rets =>
   simp only[aXQ]at hq;split at hq
   ·rename_i q hq';have hb:=aJY (G2:=⟨λb=>G1 b\/∃ s k,H'[s]?=some (some k)/\k.frozen=false/\μ1.loc s=some b,G1.row⟩) hW ho har ee hW' hrb (os:=none) ⟨λ_ _ _ h=>by cases h⟩ (λ_=>rfl) (λb hb=>.inl hb) (λb hb=>by
     rcases hb with h|⟨s,k,z1,z2,z3⟩
     ·exact .inl h
     ·exact .inr ⟨s,k,z1,z2,z3,λ_ _ _ h=>by cases h⟩)
    refine⟨_,_,hb.1,hb.2,?_⟩;have:=KN (G':=⟨λb=>G1 b\/∃ s k,H'[s]?=some (some k)/\k.frozen=false/\μ1.loc s=some b,G1.row⟩) hW' (λ_ _ h=>h) (λb hb=>.inl hb) (λs k1 b hs _ hb=>by
     obtain⟨_,_,_,_,g5,_⟩:=hW'.blk s k1 b hs hb;cases hf:k1.frozen with
     | true=>exact .inl (g5 hf)
     | false=>exact .inr ⟨s,k1,hs,hf,hb⟩) depth _ q _ hq' hvr
    exact(SE hq this).aU
   ·cases hq
  | own e u =>
   simp only[aXQ]at hq;obtain⟨r1,l0,hos,hvv⟩:=aM1 hW' hq hvr;have hb:=aJY (G2:=G1) hW ho har ee hW' hrb hos (λ_=>rfl) (λb hb=>hb) (λb hb=>.inl hb);refine⟨_,_,hb.1,hb.2,hvv _ _ _ ?_ ?_ ?_⟩
   ·have h1:¬ H.length+1<H.length:=Z
    simp[sD,h1,a68]
   ·have h1:¬ H.length+1<H.length:=Z
    simp[sD,h1,a6P]
   ·have h1:¬ H.length+1<H.length:=Z
    simp[sD,h1,shS]
 have hpost:a'.defers=[]/\∃ v,(results fn a'.tmps).run P w'=.ok v w'/\(∃ v' G'' μ'',Ending.returned v=.returned v'/\Ext n0 w G μ w' G'' μ''/\aO n0 G'' μ'' (((SR (tk.ow l r) H).set ra none)++(some (arB ae t B'.2)::an.hp y)) w'/\VR w' G'' μ'' (an.pv y (H.length+1)) v') :=
  ⟨hF'.defers,_,hres,_,G2,μ3,rfl,b1,b2,b3⟩
 rcases hex with rfl|rfl
 ·exact hpost
 ·exact hpost
def aH9(P:Program) (E:Env) (fn:Func) (keep:Nat) (lt:Nat->Option eY) (c:Code) (ae:TypeId) (t:Ty) (args rets:List Kd) (x:aM args):Option (aM rets) :=
 bif Nat.ble (mB args x).length fn.ntmps then lX P E fn.ntmps keep lt c (start keep 0 (mB args x)) [some (arB ae t [])] (aVH P fn.results.toList rets) else none
theorem aMX {E} (hP:NA P) (hE:fX P E) {g:Nat} {fn} (hg:P.funcs[g]?=some fn) {c} (hc:fn.body=some c) {keep lt ae t args rets f}
  (hl:∀ a∈bA c,∀ s,lt (cA a)=some s->fN P fn.ntmps a s) (hb:∀ x,aH9 P E fn keep lt c ae t args rets x=f x):X5 P g args rets f:=by
 intro x y hy;rw[<- hb]at hy;obtain⟨hlen,hy⟩:=aJ hy;obtain⟨⟨ex,F',H'⟩,h1,h2⟩:=kY hE.callee hP.mixed c _ _ _ _ hl hy;obtain⟨vs,q,hex,hvs,hq,hd⟩:∃ vs q,(ex=.normal\/ex=.ret)/\qT P F' H' fn.results.toList=some vs/\aQV H' (jY vs)=some q/\aJH rets q=some y:=by
  unfold aVH at h1;split at h1
  ·cases h1
  next hne=>
   split at h1
   ·rename_i vs hvs;split at h1
    ·rename_i q hq;refine⟨vs,q,?_,hvs,hq,h1⟩;cases ex with
     | normal=>exact .inl rfl
     | ret=>exact .inr rfl
     | exit i=>exact absurd rfl (hne i)
    ·cases h1
   ·cases h1
 obtain⟨hq1,hq2⟩:=B0 hq;intro w G us hlt hv;have at0:∀ (s:Nat) (k1:Blk),([some (arB ae t [])]:Heap)[s]?=some (some k1)->s=0/\k1=arB ae t []:=zf
 have hW:aO (tM w) (Gd.of G) ⟨λ_=>none,λr=>if r=0 then some 0 else none,λ_=>0⟩ [some (arB ae t [])] w:=by
  refine⟨(λr k b h hb=>by cases hb),(λr k g h hg=>?_),(λr s k l b h _ _ _ hb=>by cases hb),hlt,(λr hr=>⟨rfl,?_⟩),λ_ h=>h,⟨(λ_ _ _ h=>by cases h),(λ_ _ h=>by cases h),(λ_ _ h=>by cases h),(λr k u l h hgr ht=>?_),(λr s k k' u l u' l' h1 g1 t1 h2 g2 t2=>by rw[(at0 r k h1).1,(at0 s k' h2).1])⟩⟩
  ·obtain⟨rfl,rfl⟩:=at0 r k h;cases hg;grind
  ·grind
  ·obtain⟨rfl,rfl⟩:=at0 r k h;cases ht;exact⟨rfl,λ_ _=>rfl,λj row hj=>by simp at hj⟩
 have e0:Ext (tM w) w (Gd.of G) aG w (Gd.of G) ⟨λ_=>none,λr=>if r=0 then some 0 else none,λ_=>0⟩ :=
  ⟨⟨λb hb=>⟨hb,rfl⟩,λ_ _ h=>(by cases h),λ_ _ h=>(by cases h),λ_ _ h=>h,λ_ _ h=>h,λ_ _ h=>(by cases h)⟩,rfl,rfl,rfl,oM _,λ_ _ _=>rfl,λ_ h=>.inl h⟩
 refine⟨enters hg (hP.names g fn hg) (by rw[hc]; rfl) _ _,calls_of_wp hg hc ?_⟩;have hI:I (tM w) w (Gd.of G) aG fn.ntmps (start keep 0 (mB args x)) [some (arB ae t [])] ⟨us++Array.replicate (fn.ntmps-us.size) undef,[]⟩ w:=⟨Gd.of G,_,e0,hW,pK hv.aU (oL hlen)⟩;refine wp_mono (h2 _ w (Gd.of G) aG _ w (λr=>⟨rfl,rfl⟩) hI) ?_;rintro e a' w' ⟨rfl,G1,μ1,e1,e2,hF'⟩;obtain⟨ws,h3,h4⟩:=mQ (P:=P) e2 hF' hvs;have hres:(results fn a'.tmps).run P w'=.ok (if hh:ws.toArray.size=1 then ws.toArray[0] else .tuple ws.toArray) w':=by
  rw[yD,Array.mapM_eq_mapM_toList];simp only[Sem.run_bind,Sem.run_map,h3,Result.andThen_ok,Sem.run_pure]
 have hval:=DX (G:=⟨λb=>G1 b\/∃ r k,H'[r]?=some (some k)/\μ1.loc r=some b,G1.row⟩) (G':=Gd.of λb=>G1 b\/∃ r k,H'[r]?=some (some k)/\μ1.loc r=some b) (λb h=>h) _ _ _ hq2
   (KN (G':=⟨λb=>G1 b\/∃ r k,H'[r]?=some (some k)/\μ1.loc r=some b,G1.row⟩) e2 (λ_ _ h=>h) (λb hb=>.inl hb) (λr k b hr _ hb=>.inr ⟨r,k,hr,hb⟩) depth _ q _ hq1 (pC h4))
 have hext:Ext (tM w) w (Gd.of G) aG w' (Gd.of λb=>G1 b\/∃ r k,H'[r]?=some (some k)/\μ1.loc r=some b) aG:={
  good:=λb hb=>⟨.inl (e1.good b hb).1,(e1.good b hb).2⟩
  map:=λ_ _ h=>h
  len:=λ_ _ h=>h
  room:=e1.room
  row:=λ_ _ h=>h
  os:=e1.os
  tape:=e1.tape
  output:=e1.output
  size:=e1.size
  old:=e1.old
  new:=λb hb=>by
   rcases hb with hb|⟨r,k,hr,hb⟩
   ·exact e1.new b hb
   ·obtain⟨c,_,_,_,g5,g6⟩:=e2.blk r k b hr hb;cases hf:k.frozen with
    | true=>exact e1.new b (g5 hf)
    | false=>exact .inr (g6 hf).1 }
 have hlt':∀ b,(G1 b\/∃ r k,H'[r]?=some (some k)/\μ1.loc r=some b)->b<w'.heap.size:=by
  rintro b (hb|⟨r,k,hr,hb⟩)
  ·exact e2.lt b hb
  ·exact e2.o5 hr hb
 have hpost:a'.defers=[]/\∃ v,(results fn a'.tmps).run P w'=.ok v w'/\(∃ v' G',Ending.returned v=.returned v'/\Ext (tM w) w (Gd.of G) aG w' (Gd.of G') aG/\(∀ b,G' b->b<w'.heap.size)/\VR w' (Gd.of G') aG (VN rets y) v') :=
  ⟨hF'.defers,_,hres,_,_,rfl,hext,hlt',SE hd hval⟩
 rcases hex with rfl|rfl
 ·exact hpost
 ·exact hpost
def aSZ(e:TypeId)(t:Ty)(H:Heap):List PV->Option (List t.den×Nat×List PV)
 | .own r sz::ps=>match DY e t (.own r sz) H r with
  | some l=>some (l,r,ps)
  | none=>none
 | _=>none
def Tk.dec:(tk:Tk)->List PV->Heap->Option (tk.den×Nat×List PV)
 | .none,qs,_=>some ((),0,qs)
 | .own e t,qs,H=>aSZ e t H qs
theorem YN(hW:aO n0 G μ H w){e u qs l r ps}(h:aSZ e u H qs=some (l,r,ps)):H[r]?=some (some (owB e u l))/\qs=.own r u.size::ps:=by
 unfold aSZ at h;split at h
 ·split at h
  next l1 hl1=>obtain⟨g1,g2⟩:=nG hW hl1;grind
  grind
 grind
theorem Tk.aZ7 (hW:aO n0 G μ H w){tk:Tk}{qs l r ps}(h:tk.dec qs H=some (l,r,ps)):aZ9 H (tk.ow l r)/\qs=tk.pv r++ps:=by
 cases tk with
 | none =>
  obtain⟨_,_,rfl⟩:=h;exact⟨⟨λ_ _ h=>by cases h⟩,rfl⟩
 | own e u =>
  obtain⟨h1,h2⟩:=YN hW h;refine⟨⟨λr' k he=>?_⟩,h2⟩;cases he;grind
def arH(ae:TypeId) (t:Ty) (tk:Tk) (args:List Kd) (an:An) (f:tk.den->aM args->List (List t.den)->Option (an.den×List (List t.den))) (qs:List PV) (H:Heap):Option aEL:=match tk.dec qs H with
 | some (l,r,ps)=>match a1I ae t H with
  | some (ra,A)=>match aJI args ps with
   | some x=>bif dW.noRefs ps then some ⟨an.den×List (List t.den),f l x A,λy=>(an.pv y.1 (H.length+1),((SR (tk.ow l r) H).set ra none)++(some (arB ae t y.2)::an.hp y.1))⟩ else none
   | none=>none
  | none=>none
 | none=>none
theorem C5 {g tk args an f}(hf:N2 P g ae t tk args an f) :
  ∀ qs H r,arH ae t tk args an f qs H=some r->∀ y,r.val=some y->∀ {n0 G μ w vs},aO n0 G μ H w->VRs w G μ qs vs->uM P n0 w G μ g vs.toArray (r.out y).1 (r.out y).2:=by
 intro qs H rh h y hy n0 G μ w vs hW hv;unfold arH at h;split at h
 next l r ps hl=>
  split at h
  next ra A hA=>
   split at h
   ·rename_i x hx;obtain⟨hb,h⟩:=a0L h;simp only[oJ]at h;subst h;obtain⟨ho,rfl⟩:=Tk.aZ7 hW hl;have hv':VRs w G μ (tk.pv r++mB args x) vs:=by
     cases tk with
     | none=>exact(DI args hx (cX _ _ hb hv)).aU
     | own e u =>
      obtain⟨v,us,rfl,q1,q2⟩:=hv;exact⟨v,us,rfl,q1,(DI args hx (cX _ _ hb q2)).aU⟩
    obtain⟨y1,y2⟩:=y;exact hf l x A y1 y2 hy hW (aDQ hW hA) ho hv'
   grind
  grind
 grind
end
def forced(ops:Array Oper) (s:Nat):Bool:=(List.range ops.size).all λj=>Nat.blt j s||Nat.beq (Nat.land ((kT ops).getD j 0) (2^j-1)) (2^j-1)
def aLS(l:List Oper):Bool:=(List.range l.length).all λi=>match l[i]? with
 | some o=>match o.guard with
  | some (g,_)=>Nat.blt g i
  | none=>true
 | none=>true
def V9(ops:Array Oper)(s:Nat):Bool:=QE (kT ops) 0 ops.toList&&forced ops s&&aLS ops.toList&&aF2 ops&&Nat.ble s ops.size
section
variable {P:Program} {ops:Array Oper} {s:Nat}
theorem aKR(h:forced ops s=true){j b}(hj:j<ops.size)(hs:s<=j)(hb:b<j):((kT ops).getD j 0).testBit b=true:=by
 have:=List.all_eq_true.1 h j (List.mem_range.2 hj);rw[Bool.or_eq_true]at this;rcases this with h1|h1
 ·have:=fU h1; omega
 ·have h2:=oE h1;have h3:(Nat.land ((kT ops).getD j 0) (2^j-1)).testBit b=(2^j-1).testBit b:=zf
  have h4:(2^j-1).testBit b=true:=zf
  rw[h4]at h3;have h5:((kT ops).getD j 0 &&& (2^j-1)).testBit b=true:=h3;grind
theorem aAO(hm:QE (kT ops) 0 ops.toList=true){i o}(ho:ops[i]?=some o):(kT ops).getD i 0=aEY (kT ops) o.after.toList/\∀ e∈o.after,Region.binds .any e=true->e.on<i:=by
 have:=aG9 hm (by simpa using ho);grind
theorem aIW(hm:QE (kT ops) 0 ops.toList=true) {listed:Array Bool} (hc:T6 (kT ops) (λi=>listed.getD i false)) {i:Nat} (hi:i∈Region.ready .any ops listed) :
  i<ops.size/\listed.getD i true=false/\∀ b,((kT ops).getD i 0).testBit b=true->listed.getD b false=true:=by
 obtain⟨h1,o,ho,h2⟩:=mem_ready.1 hi;refine⟨(Array.getElem?_eq_some_iff.1 ho).1,by simpa using h1,λb hb=>?_⟩;rw[(aAO hm ho).1]at hb;rcases O7 _ _ hb with h3|⟨e,h3,h4,h5⟩
 ·grind
 ·have h6:=h2 e (Array.mem_toList_iff.1 h3) h4;rcases h5 with rfl|h5
  ·exact h6
  ·exact hc e.on h6 b h5
theorem a8O(hm:QE (kT ops) 0 ops.toList=true):∀ i b,i<ops.size->((kT ops).getD i 0).testBit b=true->b<i:=by
 intro i
 induction i using Nat.strongRecOn with
 | _ i ih =>
  intro b hi hb;obtain⟨o,ho⟩:∃ o,ops[i]?=some o:=⟨ops[i],Array.getElem?_eq_getElem hi⟩;have hma:=aAO hm ho;rw[hma.1]at hb;rcases O7 _ _ hb with h3|⟨e,h3,h4,h5⟩
  ·grind
  grind
variable {ro:Option Nat} {n:Nat} {Q:Exit->Act->World->Prop}
theorem aTN(hm:QE (kT ops) 0 ops.toList=true) (hf:forced ops s=true):∀ (k j:Nat) (L:Array Bool) (a:Act) (w:World),j+k=ops.size->s<=j->L.size=ops.size->(∀ i,i<ops.size->L.getD i false=decide (i<j)) ->
  wpListIn (Fr ro) n P ops Q (ops.toList.drop j) a w->wpAnyIn (Fr ro) n P .any ops Q k L a w
 | 0,j,L,a,w,hk,hs,hsz,hL,h=>by
  have hd:ops.toList.drop j=[]:=List.drop_of_length_le (by simp; omega);rw[hd]at h;refine⟨?_,h⟩
  by_cases hr:Region.ready .any ops L=[]
  ·exact hr
  ·obtain⟨i,hi⟩:=List.exists_mem_of_ne_nil _ hr;obtain⟨h1,o,ho,_⟩:=mem_ready.1 hi;grind
 | k+1,j,L,a,w,hk,hs,hsz,hL,h=>by
  have hj:j<ops.size:=Z
  have hcl:T6 (kT ops) (λi=>L.getD i false):=by
   intro i hi b hb;replace hi:L.getD i false=true:=hi;have hilt:i<ops.size:=zf
   have h1:=hL i hilt;rw[hi]at h1;have h2:=of_decide_eq_true h1.symm;have h3:=a8O hm i b hilt hb;grind
  have hready:∀ i∈Region.ready .any ops L,i=j:=by
   intro i hi;obtain⟨h1,h2,h3⟩:=aIW hm hcl hi;have h4:¬ i<j:=λhij=>zf
   rcases oG j i with hji|hji
   ·exfalso;have h5:=h3 j (aKR hf h1 Z hji);grind
   ·omega
  obtain⟨o,ho⟩:∃ o,ops[j]?=some o:=⟨ops[j],Array.getElem?_eq_getElem hj⟩;have hd:ops.toList.drop j=o::ops.toList.drop (j+1):=by
   rw[List.drop_eq_getElem_cons (by simpa using hj)];grind
  rw[hd]at h;unfold wpListIn at h;have ih:∀ a w,wpListIn (Fr ro) n P ops Q (ops.toList.drop (j+1)) a w->wpAnyIn (Fr ro) n P .any ops Q k (L.setIfInBounds j true) a w:=λa w h=>by
   refine aTN hm hf k (j+1) _ a w Z Z (by simpa using hsz) (λi hi=>?_) h
   by_cases hij:j=i
   ·simp_all
   ·rw[getD_set_ne false hij,hL i hi]
    by_cases h2:i<j
    ·rw[oT h2,oT Z]
    ·rw[oF h2,oF Z]
  refine⟨λhr=>?_,λi hi=>?_⟩
  ·exfalso;have:j∈Region.ready .any ops L:=mem_ready.2 ⟨by
    have:=hL j hj;rw[oF Z]at this;have hlt:j<L.size:=Z
    simpa[Array.getD,hlt]using this,o,ho,λe he hb=>by
     have:=(aAO hm ho).2 e he hb;rw[hL e.on Z];exact oT this⟩
   rw[hr]at this;cases this
  ·have:=hready i hi;subst this;unfold wpOpIn;rw[ho];simp only
   by_cases hw:Region.wanted o (yielded ops a.tmps)=true
   ·rw[if_pos hw]at h ⊢;exact Oper.wpIn_mono ih h
   ·rw[if_neg hw]at h ⊢;exact⟨h.1,ih _ _ h.2⟩
theorem aV8 {o y y'}(h:∀ g b,o.guard=some (g,b)->y g=y' g):Region.wanted o y=Region.wanted o y':=by
 unfold Region.wanted;grind
theorem aQL {l}(h:aLS l=true){i:Nat}{o}(ho:l[i]?=some o){g b}(hg:o.guard=some (g,b)):g<i:=by
 have:=List.all_eq_true.1 h i (List.mem_range.2 (oO.1 ho).1)
 simp_all
theorem a5N {ds:List Deferred} {Q1:Exit->Act->World->Prop} (hm:QE (kT ops) 0 ops.toList=true) (hf:forced ops s=true) (hg:aLS ops.toList=true) (hnd:aF2 ops=true) (hs:s<=ops.size)
  (hno:∀ e a w,Q1 e a w->e=.normal) (hQ:∀ a w,Q1 .normal a w->wpListIn (Fr ro) n P ops Q (ops.toList.drop s) (zA ds a) w) :
  ∀ (k:Nat) (L1 L:Array Bool) (a:Act) (w:World),L1.size=s->L.size=ops.size->(∀ i,i<s->L1.getD i false=L.getD i false)->(∀ i,s<=i->L.getD i false=false)->T6 (kT ops) (λi=>L.getD i false)->(List.range s).countP (λi=>!L.getD i false)=k ->
   wpAny P .any (ops.toList.take s).toArray Q1 k L1 a w->wpAnyIn (Fr ro) n P .any ops Q (k+(ops.size-s)) L (zA ds a) w
 | 0,L1,L,a,w,h1,h2,h3,h4,hc,hk,h=>by
  rw[Nat.zero_add];refine aTN hm hf (ops.size-s) s L _ w Z (oM _) h2 (λi hi=>?_) (hQ a w h.2)
  by_cases his:i<s
  ·rw[oT his];rw[List.countP_eq_zero]at hk;grind
  ·grind
 | k+1,L1,L,a,w,h1,h2,h3,h4,hc,hk,h=>by
  have hun:∃ i,i<s/\L.getD i false=false:=by
   have:0<(List.range s).countP (λi=>!L.getD i false):=Z
   obtain⟨i,hi,hp⟩:=List.countP_pos_iff.1 this;grind
  obtain⟨i0,hi0,hu0⟩:=hun;rw[show k+1+(ops.size-s)=(k+(ops.size-s))+1 by omega];refine⟨λhr=>?_,λi hi=>?_⟩
  ·exfalso;have all:∀ i,i<ops.size->L.getD i false=true:=by
    intro i
    induction i using Nat.strongRecOn with
    | _ i ih =>
     intro hi;cases hli:L.getD i false with
     | true=>rfl
     | false =>
      obtain⟨o,ho⟩:∃ o,ops[i]?=some o:=⟨ops[i],Array.getElem?_eq_getElem hi⟩;have:i∈Region.ready .any ops L:=mem_ready.2 ⟨by
       have hlt:i<L.size:=Z
       simpa[Array.getD,hlt]using hli,o,ho,λe he hb=>ih e.on ((aAO hm ho).2 e he hb) (by have:=(aAO hm ho).2 e he hb; omega)⟩
      grind
   grind
  ·obtain⟨hi1,hi2,hi3⟩:=aIW hm hc hi;have his:i<s:=by
    rcases oG i s with h|h
    ·exact h
    ·have:=hi3 i0 (aKR hf hi1 h Z);rw[hu0]at this; cases this
   obtain⟨_,o,ho,hdeps⟩:=mem_ready.1 hi;have hLi:L.getD i false=false:=by
    have hlt:i<L.size:=Z
    simp only[Array.getD,hlt,dif_pos]at hi2 ⊢;exact hi2
   have hpre:∀ j,j<s->(ops.toList.take s).toArray[j]?=ops[j]?:=by
    intro j hj;simp only[List.getElem?_toArray,List.getElem?_take,hj,if_true,Array.getElem?_toList]
   have hready:i∈Region.ready .any (ops.toList.take s).toArray L1:=mem_ready.2 ⟨by
    have:=h3 i his;rw[hLi]at this;have hlt:i<L1.size:=Z
    simpa[Array.getD,hlt]using this,o,by rw[hpre i his]; exact ho,λe he hb=>by
     have h5:=(aAO hm ho).2 e he hb;rw[h3 e.on Z];exact hdeps e he hb⟩
   have hop:=h.2 i hready;have hw:Region.wanted o (yielded (ops.toList.take s).toArray a.tmps)=Region.wanted o (yielded ops (zA ds a).tmps):=aV8 λg b hgu=>by
    have hgi:=aQL hg (i:=i) (o:=o) (by simpa using ho) hgu;unfold yielded;rw[hpre g Z];rfl
   have hset:∀ a w,wpAny P .any (ops.toList.take s).toArray Q1 k (L1.setIfInBounds i true) a w->wpAnyIn (Fr ro) n P .any ops Q (k+(ops.size-s)) (L.setIfInBounds i true) (zA ds a) w:=by
    intro a w h;have hLs:∀ j,j≠i->(L.setIfInBounds i true).getD j false=L.getD j false:=λj hj=>getD_set_ne false (λe=>hj e.symm)
    have hL1s:∀ j,j≠i->(L1.setIfInBounds i true).getD j false=L1.getD j false:=λj hj=>getD_set_ne false (λe=>hj e.symm)
    have hSi:(L.setIfInBounds i true).getD i false=true:=by
     have hlt:i<L.size:=Z
     simp[Array.getD,hlt]
    have hS1i:(L1.setIfInBounds i true).getD i false=true:=by
     have hlt:i<L1.size:=Z
     simp[Array.getD,hlt]
    refine a5N hm hf hg hnd hs hno hQ k _ _ a w (by simpa using h1) (by simpa using h2) ?_ ?_ ?_ ?_ h
    ·intro j hj
     by_cases hji:j=i
     ·subst hji; rw[hSi,hS1i]
     ·rw[hLs j hji,hL1s j hji,h3 j hj]
    ·intro j hj;rw[hLs j Z]; exact h4 j hj
    ·intro j hj b hb;show (L.setIfInBounds i true).getD b false=true
     by_cases hbi:b=i
     ·subst hbi; exact hSi
     ·rw[hLs b hbi]
      by_cases hji:j=i
      ·subst hji; exact hi3 b hb
      ·have hj':L.getD j false=true:=by rw[<- hLs j hji]; exact hj
       exact hc j hj' b hb
    ·have:=aHR (p:=λi=>!L.getD i false) (p':=λj=>!(L.setIfInBounds i true).getD j false) (i:=i) (by simp only[hLi,Bool.not_false]) (by simp only[hSi,Bool.not_true]) (λj hj=>by simp only[hLs j hj]) s his;omega
   unfold wpOp at hop;rw[hpre i his,ho]at hop;simp only at hop;unfold wpOpIn;rw[ho];simp only;rw[hw]at hop
   by_cases hww:Region.wanted o (yielded ops (zA ds a).tmps)=true
   ·rw[if_pos hww]at hop ⊢;rcases hop with hop|⟨_,a0,w0,h0⟩
    ·exact aQH (SM hnd (by rw[<- Array.getElem?_toList]at ho; exact List.mem_of_getElem? ho)) hset (λch a w h=>by cases hno _ a w h) (λa w h=>by cases hno _ a w h) hop
    ·cases hno _ a0 w0 h0
   ·rw[if_neg hww]at hop ⊢;refine⟨λ_ _=>trivial,?_⟩;rw[QF];exact hset _ _ hop
theorem AF {F Q1 l2}(hno:∀ e a w,Q1 e a w->e=.normal)(hQ:∀ a w,Q1 .normal a w->wpListIn F n P ops Q l2 a w):∀ {l1 a w},wpListIn F n P ops Q1 l1 a w->wpListIn F n P ops Q (l1++l2) a w
 | [],a,w,h=>hQ a w h
 | o::l1,a,w,h=>by
  rw[List.cons_append];unfold wpListIn at h ⊢;split at h
  next hw=>
   rw[if_pos hw];refine⟨h.1,?_⟩;have h2:=h.2;generalize (o.semAt F.round a.eval).run P w=r at h2 ⊢;cases r with
   | ok x w' =>
    cases x with
    | value v=>exact AF hno hQ h2
    | skip=>exact AF hno hQ h2
    | defer d=>exact AF hno hQ h2
    | enter f args =>
     refine⟨h2.1,CallsIn.mono h2.2 ?_⟩;rintro e w'' he;cases e with
     | returned v=>exact AF hno hQ he
     | panicked ch=>cases hno _ _ _ he
     | outgrown=>obtain⟨a0,w0,h0⟩:=he; cases hno _ _ _ h0
    | row row args=>exact⟨h2.1,RowsIn.mono h2.2 λv w'' he=>AF hno hQ he⟩
    | round l f t as1 b =>
     refine⟨h2.1,RoundIn.mono h2.2 ?_⟩;rintro e w'' he;cases e with
     | returned v=>exact AF hno hQ he
     | panicked ch=>cases hno _ _ _ he
     | outgrown=>obtain⟨a0,w0,h0⟩:=he; cases hno _ _ _ h0
    | _=>exact h2.elim
   | halt x w' =>
    cases x <;> first|(cases hno _ _ _ h2; done)|exact h2.elim
  next hw=>rw[if_neg hw];exact⟨h.1,AF hno hQ h.2⟩
end
section
variable {P:Program} {E:Env} {nt:Nat} {F F':Frm} {H H':Heap} {ops:Array Oper} {s:Nat}
theorem aQF(hcl:dH P (fJ P E)) (hP:P.follows .mixedOrders=true) {id:Nat} {draw:Bool} (hsp:V9 ops s=true)
  (hrun:(bif draw then S4 P (fJ P E) nt (ops.toList.take s).toArray F H else N0 P (fJ P E) nt ops.toList (ops.toList.take s) F H)=some (F',H'))
  {ro:Option Nat} {n:Nat} {n0:Nat->Prop} {wi:World} {Gi:Gd} {μi:Mp} {a:Act} {w:World} {ds:List Deferred} {Q:Exit->Act->World->Prop} (hI:I n0 wi Gi μi nt F H a w)
  (hQ:∀ a' w',I n0 wi Gi μi nt F' H' a' w'->wpListIn (Fr ro) n P ops Q (ops.toList.drop s) (zA ds a') w'):(Code.region id ops draw).wpIn (Fr ro) n P Q (zA ds a) w:=by
 simp only[V9,oA]at hsp;obtain⟨⟨⟨⟨hm,hf⟩,hg⟩,hnd⟩,hs⟩:=hsp;have hs:=oL hs;cases draw with
 | true =>
  have h1:=Y8 (Q:=λe a' w'=>e=.normal/\I n0 wi Gi μi nt F' H' a' w') hcl hrun hI (λa' w' h=>⟨rfl,h⟩);refine wpIn_region_any hP ?_;have hsz:(ops.toList.take s).toArray.size=s:=by simp[List.length_take]; omega
  rw[hsz]at h1;have hfalse:∀ m j,(Array.replicate m false).getD j false=false:=λm j=>by
   simp only[Array.getD]
   simp_all
  have:=a5N (n:=n) (ro:=ro) (ds:=ds) (Q:=Q) hm hf hg hnd hs (λe a w h=>h.1) (λa w h=>hQ a w h.2) s (Array.replicate s false) (Array.replicate ops.size false) a _ R R (λi _=>by rw[hfalse,hfalse]) (λi _=>hfalse _ i) (λj hj b hb=>by
   have:(Array.replicate ops.size false).getD j false=true:=hj;rw[hfalse]at this; cases this) (by
   rw[List.countP_eq_length.2]
   ·simp
   ·intro i _;rw[hfalse]; rfl) h1
  grind
 | false =>
  refine wpIn_region_list ?_;rw[<- List.take_append_drop s ops.toList];have h1:=BK (Q:=λe a' w'=>e=.normal/\I n0 wi Gi μi nt F' H' a' w') hcl (ops.toList.take s) F H a w hrun hI (λa' w' h=>⟨rfl,h⟩);have h2:=aEO (ro:=ro) (n:=n) (ds:=ds) (Q':=λe a' w'=>e=.normal/\wpListIn (Fr ro) n P ops Q (ops.toList.drop s) a' w') (λa w h=>by cases h.1) (λe a w h=>⟨h.1,hQ a w h.2⟩) (λo ho=>SM hnd (List.mem_of_mem_take ho)) h1
  exact AF (λe a w h=>h.1) (λa w h=>h.2) h2
end
def Sg(Φ:(Nat->Prop)->(Nat->Prop)->World->Prop) (G0 G:Gd) (μ:Mp) (H:Heap) (A:World):Prop :=
 ∃ (T X:Nat->Prop) (B:World) (GB:Gd) (μB:Mp),Φ T X B/\(∀ b,X b->T b)/\(∀ b,T b->b<B.heap.size)/\(∀ b,GB b->G0 b\/T b)/\(∀ b,G0 b->GB b) /\
  Ext (λb=>X b\/B.heap.size<=b) B GB μB A G μ/\aO (λb=>X b\/B.heap.size<=b) G μ H A
def vC(sl:List Nat) (F:Frm):Frm:=sl.map λt=>(t,bM F t)
def aCY:Code->List (Nat×Array Oper)
 | .seq a b=>aCY a++aCY b
 | .cond _ a b=>aCY a++aCY b
 | .block _ a=>aCY a
 | .loop a=>aCY a
 | .region id ops _=>[(id,ops)]
 | _=>[]
def a9Y:List (Nat×Array Oper)->Nat->Array Oper
 | [],_=>#[]
 | (j,o)::r,i=>bif Nat.beq j i then o else a9Y r i
def jI(c:Code)(i:Nat):Array Oper:=a9Y (aCY c) i
def uZ(c:Code)(i j:Nat):Oper:=(jI c i).toList.getD j default
def VY(o:Oper):Call:=match o.op with
 | .call c=>c
 | _=>{ callee:=.value (.const undef),args:=#[],argTypes:=#[] }
section
variable {P:Program} {Φ:(Nat->Prop)->(Nat->Prop)->World->Prop} {G0 G G':Gd} {μ μ':Mp} {H H':Heap} {A A' W:World} {F F':Frm} {nt n:Nat} {a:Act}
theorem Sg.start {J g0}(hlt:Lt W g0)(h:J (λ_=>False) (λ_=>False) W):Sg J (Gd.of g0) (Gd.of g0) aG [] W :=
 ⟨_,_,W,Gd.of g0,aG,h,λb h=>h,λb h=>h.elim,λb h=>.inl h,λb h=>h,Ext.refl _ _ _ _,λr k b h=>by grind,λr k g h=>by grind,λr s k l b h=>by simp,hlt,λ_ _=>⟨rfl,rfl⟩,λb hb=>.inr hb,rA.none _ _ (λ_=>rfl) _ _ (λr k h=>by grind)⟩
theorem Sg.open_ (h:Sg Φ G0 G μ H A):∃ n0,aO n0 G μ H A/\(∀ b,G0 b->G b)/\∀ A' G' μ' H',Ext n0 A G μ A' G' μ'->aO n0 G' μ' H' A'->Sg Φ G0 G' μ' H' A':=by
 obtain⟨T,X,B,GB,μB,h1,h2,h3,h4,h5,h6,h7⟩:=h;exact⟨_,h7,λb hb=>(h6.good b (h5 b hb)).1,λA' G' μ' H' e w=>⟨T,X,B,GB,μB,h1,h2,h3,h4,h5,h6.trans e,w⟩⟩
theorem Sg.renamed (h:Sg Φ G0 G μ H A) (hs:∀ n0,aO n0 G μ H A->aO n0 G μ' H' A):Sg Φ G0 G μ' H' A:=by
 obtain⟨T,X,B,GB,μB,h1,h2,h3,h4,h5,h6,h7⟩:=h;refine⟨T,X,B,GB,aG,h1,h2,h3,h4,h5,?_,hs _ h7⟩;exact { good:=h6.good,map:=λ_ _ h=>(by cases h),len:=λ_ _ h=>(by cases h),room:=h6.room,row:=h6.row,os:=h6.os,tape:=h6.tape,output:=h6.output,size:=h6.size,old:=h6.old,new:=h6.new }
theorem Sg.stp (h:Sg Φ G0 G μ H A):∃ T X B,Stp X B A/\Φ T X B:=by
 obtain⟨T,X,B,GB,μB,h1,h2,h3,h4,h5,h6,h7⟩:=h;exact⟨T,X,B,⟨λb hb hx=>h6.old b hb zf,h6.room,h6.os,h6.tape,h6.output,h6.size⟩,h1⟩
theorem Sg.freeze (h:Sg Φ G0 G μ H A) {r:Nat} {k:Blk} (hr:H[r]?=some (some k)) (hf:k.frozen=false):Sg Φ G0 (G.or λx=>μ.loc r=some x) μ (H.set r (some { k with frozen:=true })) A/\Mono A G μ A (G.or λx=>μ.loc r=some x) μ:=by
 obtain⟨n0,hW,_,hS⟩:=h.open_;obtain⟨e,w⟩:=wR hW hr hf;exact⟨hS _ _ _ _ e w,e.toMono⟩
theorem Sg.bDC {k:Blk} {H:Heap} (h:Sg Φ G0 G μ (some k::H) A) (ht:k.tag.isSome=true):Sg Φ G0 G (P7 μ [0]) [some k] A:=by
 refine h.renamed λn0 hW=>aOQ hW rfl ?_
 simp only[aLT,gO,List.getElem?_cons_zero,ht,oC]
theorem aW1 {B GB μB}(hm:Mono A G μ B GB μB)(htop:∀ r,1<=r->μ.loc r=none/\μ.len r=none):Mono A G μ B GB (P7 μB [0]):=by
 refine⟨hm.good,?_,?_,hm.room,hm.row,?_⟩
 ·intro r b hr;cases r with
  | zero=>exact hm.map 0 b hr
  | succ r=>grind
 ·intro r b hr;cases r with
  | zero=>exact hm.len 0 b hr
  | succ r=>grind
 ·intro r b hr;cases r with
  | zero=>exact hm.sh 0 b hr
  | succ r=>grind
theorem aPP t:∀ sl ,bM (vC sl F) t=bM F t\/bM (vC sl F) t=.junk
 | []=>.inr rfl
 | s::sl=>by
  show bM ((s,bM F s)::vC sl F) t=bM F t\/bM ((s,bM F s)::vC sl F) t=.junk;rw[bQ]
  by_cases hs:t=s
  ·grind
  ·rw[if_neg hs]; exact aPP t sl
theorem dO.pick (h:dO A G μ nt F a) sl:dO A G μ nt (vC sl F) a:=⟨h.size,λt=>by
 rcases aPP t sl with h1|h1
 ·rw[h1]; exact h.slot t
 ·rw[h1,VR]; simp,h.defers⟩
theorem uJ {E:Env} (hcl:dH P (fJ P E)) (hP:P.follows .mixedOrders=true) {id:Nat} {ops:Array Oper} {draw:Bool} {sl:List Nat} (h:pG P E nt ops draw F H (λF H=>some (vC sl F,H))=some (F',H'))
  {Q:Exit->Act->World->Prop} (hS:Sg Φ G0 G μ H A) (hF:dO A G μ nt F a) (hQ:∀ G' μ' a' A',Sg Φ G0 G' μ' H' A'->Mono A G μ A' G' μ'->dO A' G' μ' nt F' a'->Q .normal a' A') :
  (Code.region id ops draw).wpIn Fence.wide n P Q a A:=by
 obtain⟨F1,H1,h1,h2⟩:=aB7 (id:=id) hcl hP h;obtain⟨rfl,rfl⟩:=h1;obtain⟨n0,hW,_,hS2⟩:=hS.open_;refine wpIn_wide.2 (h2 (n0:=n0) (wi:=A) (Gi:=G) (μi:=μ) ⟨G,μ,Ext.refl _ _ _ _,hW,hF⟩ ?_);rintro a' A' ⟨G',μ',e,hW',hF'⟩;exact hQ G' μ' a' A' (hS2 _ _ _ _ e hW') e.toMono (hF'.pick sl)
theorem a4A {E:Env} (hcl:dH P (fJ P E)) (hP:P.follows .mixedOrders=true) {id s:Nat} {ops:Array Oper} {draw:Bool} {sl:List Nat} (hsp:V9 ops s=true)
  (h:(bif draw then pG P E nt (ops.toList.take s).toArray true F H (λF H=>some (vC sl F,H)) else O5 P E nt ops.toList (ops.toList.take s) F H (λF H=>some (vC sl F,H)))=some (F',H'))
  {Q:Exit->Act->World->Prop} (hS:Sg Φ G0 G μ H A) (hF:dO A G μ nt F a) (hQ:∀ G' μ' a' A',Sg Φ G0 G' μ' H' A'->Mono A G μ A' G' μ'->dO A' G' μ' nt F' a'->wpListIn Fence.wide n P ops Q (ops.toList.drop s) a' A') :
  (Code.region id ops draw).wpIn Fence.wide n P Q a A:=by
 obtain⟨F1,hrun,hF1⟩:∃ F1,(bif draw then S4 P (fJ P E) nt (ops.toList.take s).toArray F H else N0 P (fJ P E) nt ops.toList (ops.toList.take s) F H)=some (F1,H')/\vC sl F1=F':=by
  cases draw with
  | true =>
   obtain⟨F1,H1,h2,h3⟩:=V1 h;grind
  | false =>
   obtain⟨F1,H1,h2,h3⟩:=JD h;grind
 obtain⟨n0,hW,_,hS2⟩:=hS.open_;have:=aQF (ro:=none) (n:=n) (ds:=[]) (Q:=Q) hcl hP (id:=id) hsp hrun (n0:=n0) (wi:=A) (Gi:=G) (μi:=μ) (a:=a) (w:=A) ⟨G,μ,Ext.refl _ _ _ _,hW,hF⟩ (λa' w' h=>by
  obtain⟨G',μ',e,hW',hF'⟩:=h;have e1:zA [] a'=a':=by simp[zA]
  rw[e1];rw[<- hF1]at hQ;exact hQ G' μ' a' w' (hS2 _ _ _ _ e hW') e.toMono (hF'.pick sl))
 have e1:zA [] a=a:=by simp[zA]
 rw[e1]at this;exact this
theorem UT {E} (hcl:dH P (fJ P E)) (hP:P.follows .mixedOrders=true) {id s ops sl} (hsp:V9 ops s=true)
  (h:pG P E nt (ops.toList.take s).toArray true F H (λF H=>some (vC sl F,H))=some (F',H'))
  {Q} (hS:Sg Φ G0 G μ H A) (hF:dO A G μ nt F a) (hQ:∀ G' μ' a' A',Sg Φ G0 G' μ' H' A'->Mono A G μ A' G' μ'->dO A' G' μ' nt F' a'->wpListIn Fence.wide n P ops Q (ops.toList.drop s) a' A') :
  (Code.region id ops true).wpIn Fence.wide n P Q a A:=a4A (draw:=true) hcl hP hsp h hS hF hQ
theorem Sg.yield {ks:List Kd} {l:Nat} {all:List (aM ks)} {J Jx:List (aM ks)->(Nat->Prop)->(Nat->Prop)->World->Prop}
  (hY:∀ pre e post T X B T' X' A us Gx m',all=pre++e::post->J pre T X B->Stp X B A->(∀ b,T' b->(T b\/B.heap.size<=b)/\b<A.heap.size)->(∀ b,X' b->T' b/\(X b\/B.heap.size<=b)) ->
   (∀ b,Gx b->(G0 b\/T' b)/\¬ X' b)->VRs A (Gd.of Gx) aG (mB ks e) us ->
   YieldAt Fence.wide m' P l us.toArray A λen C =>
    ((∀ b,b<A.heap.size->G0 b\/T' b->C.heap[b]?=A.heap[b]?)/\(∀ b n,Room A b n->Room C b n)/\A.heap.size<=C.heap.size)/\((en=.returned (.bool true)/\J (pre++[e]) T' X' C)\/(en=.returned (.bool false)/\Jx (pre++[e]) T' X' C)))
  {pre post:List (aM ks)} {e:aM ks} (hall:all=pre++e::post) {us:List Value} (h:Sg (J pre) G0 G μ H A) (hus:VRs A G aG (mB ks e) us) (hpl:dZ.noRows (mB ks e)=true) (m':Nat) :
  YieldAt Fence.wide m' P l us.toArray A λen C=>Mono A G μ C G μ/\((en=.returned (.bool true)/\Sg (J (pre++[e])) G0 G μ H C)\/(en=.returned (.bool false)/\Sg (Jx (pre++[e])) G0 G μ H C)):=by
 obtain⟨T,X,B,GB,μB,h1,h2,h3,h4,h5,h6,h7⟩:=h;obtain⟨T',hT'⟩:∃ T':Nat->Prop,T'=λb=>T b\/(B.heap.size<=b/\b<A.heap.size):=⟨_,rfl⟩
 obtain⟨X',hX'⟩:∃ X':Nat->Prop,X'=λb=>(∃ r k,H[r]?=some (some k)/\k.frozen=false/\μ.loc r=some b)\/∃ j,G.row j=some b:=⟨_,rfl⟩
 have hGT:∀ b,G b->G0 b\/T' b:=by
  intro b hb;have hlt:=h7.lt b hb;rw[hT'];rcases h6.new b hb with h|h|h
  ·grind
  ·grind
  ·grind
 have hXT:∀ b,X' b->T' b/\(X b\/B.heap.size<=b)/\¬ G b:=by
  intro b hb;rw[hX']at hb;rcases hb with ⟨r,k,g1,g2,g3⟩|⟨j,hj⟩
  case inr =>
   obtain⟨s1,s2,s3,_⟩:=h7.rows.sep j b hj;grind
  obtain⟨c,q1,_,_,_,q5⟩:=h7.blk r k b g1 g3;grind
 have hst:Stp X B A:=⟨λb hb hx=>h6.old b hb (by rintro(h|h); exact hx h; omega),h6.room,h6.os,h6.tape,h6.output,h6.size⟩;obtain⟨fn,tmps,as1,body,y1,y2⟩:=hY pre e post T X B T' X' A us G.ok m' hall h1 hst (λb hb=>by
  rw[hT']at hb;rcases hb with hb|hb
  ·exact⟨.inl hb,Nat.lt_of_lt_of_le (h3 b hb) h6.size⟩
  ·exact⟨.inr hb.1,hb.2⟩) (λb hb=>⟨(hXT b hb).1,(hXT b hb).2.1⟩) (λb hb=>⟨hGT b hb,λhx=>(hXT b hx).2.2 hb⟩) (uI (G:=G) (G':=Gd.of G.ok) (λb h=>h) _ _ _ hpl hus)
 refine⟨fn,tmps,as1,body,y1,y2.mono ?_⟩;rintro en C ⟨⟨k1,k2,k3⟩,hout⟩;have hgood:∀ b,G b->C.heap[b]?=A.heap[b]?:=λb hb=>k1 b (h7.lt b hb) (hGT b hb)
 have hmono:Mono A G μ C G μ:=⟨λb hb=>⟨hb,hgood b hb⟩,λ_ _ h=>h,λ_ _ h=>h,k2,λ_ _ h=>h,λ_ _ _=>rfl⟩;have hTs:∀ b,T' b->b<C.heap.size:=by
  intro b hb;rw[hT']at hb;rcases hb with hb|hb
  ·have:=h3 b hb; have:=h6.size; omega
  ·omega
 have hwinv:aO (λb=>X' b\/C.heap.size<=b) G μ H C:=by
  refine⟨?_,h7.tags,h7.inj,h7.lt.step (λb hb=>⟨hb,hgood b hb⟩) λb hb=>Nat.lt_of_lt_of_le (h7.lt b hb) k3,h7.top,λb hb=>.inr hb,(h7.rows.aI4 (n1:=λb=>X' b\/C.heap.size<=b) λj b hj _=>.inl (by rw[hX']; exact .inr ⟨j,hj⟩)).step hmono.aG k3 (λ_=>rfl) (λj b hj=>⟨?_,id,λr k h1 h2 h3=>⟨r,k,h1,h2,h3⟩⟩) (λr k _ _ h1 _ _=>⟨k,h1,rfl,rfl,rfl,rfl⟩)⟩
  case refine_2 =>
   exact k1 b (h7.rows.sep j b hj).1 (.inr (hXT b (by rw[hX']; exact .inr ⟨j,hj⟩)).1)
  intro r k b hr hb;obtain⟨c,q1,q2,q3,q4,q5⟩:=h7.blk r k b hr hb;have hx:k.frozen=false->X' b:=λhf=>by rw[hX']; exact .inl ⟨r,k,hr,hf,hb⟩
  have heq:C.heap[b]?=A.heap[b]?:=by
   cases hf:k.frozen with
   | true=>exact hgood b (q4 hf)
   | false=>exact k1 b (h7.o5 hr hb) (.inr (hXT b (hx hf)).1)
  exact⟨c,heq.trans q1,aL.mono hmono heq _ _ q2,q3,q4,λhf=>⟨.inl (hx hf),(q5 hf).2⟩⟩
 have key:∀ {Ψ:(Nat->Prop)->(Nat->Prop)->World->Prop},Ψ T' X' C->Sg Ψ G0 G μ H C:=λhψ =>
  ⟨T',X',C,G,μ,hψ,λb hb=>(hXT b hb).1,hTs,hGT,λb hb=>(h6.good b (h5 b hb)).1,Ext.refl _ _ _ _,hwinv⟩
 refine⟨hmono,?_⟩;rcases hout with ⟨rfl,hj⟩|⟨rfl,hj⟩
 ·exact .inl ⟨rfl,key hj⟩
 ·exact .inr ⟨rfl,key hj⟩
variable {ops:Array Oper} {Q:Exit->Act->World->Prop}
theorem a6S {o:Oper} {c:Call} {f:Operand} {rest:List Oper} {l:Nat} {us:Array Value} {R:Ending->World->Prop} (ho:o.op=.call c) (hc:c.callee=.value f) (hw:Region.wanted o (yielded ops a.tmps)=true) (hf:a.eval f=.func (.yield l) #[] #[]) (hargs:c.args.map a.eval=us)
  (hy:∀ m',YieldAt Fence.wide m' P l us A R) (hR:∀ en C,R en C->∃ v,en=.returned v/\wpListIn Fence.wide n P ops Q rest (a.put o.dst v) C):wpListIn Fence.wide n P ops Q (o::rest) a A:=by
 obtain⟨fn,tmps,as1,body,y1,y2⟩:=hy (n-1);unfold wpListIn;rw[if_pos hw];refine⟨λ_ _=>trivial,?_⟩;have hs:(o.semAt none a.eval).run P A=.ok (.round l fn tmps as1 body) A:=by
  rw[Oper.semAt_none];simp[execOp,ho,resolve,hc,hf,hargs,Deferred.ofValue,Sem.run_bind,Sem.run_pure,Result.andThen_ok,invoke,y1]
 show Oper.uponIn Fence.wide n P o a _ Q ((o.semAt none a.eval).run P A);rw[hs];refine⟨λh=>(by cases h),y2.mono ?_⟩;grind
theorem aTM {o:Oper} {c:Call} {f:Operand} {rest:List Oper} {g:FuncId} {caps us:Array Value} {R:Ending->World->Prop} (ho:o.op=.call c) (hc:c.callee=.value f) (hw:Region.wanted o (yielded ops a.tmps)=true) (hf:a.eval f=.func (.func g) #[] caps) (hargs:c.args.map a.eval++caps=us)
  (hen:(callFunc g us).run P A=.ok (.enter g us) A) (hy:∀ m',CallsIn Fence.wide m' P g us A R) (hR:∀ en C,R en C->∃ v,en=.returned v/\wpListIn Fence.wide n P ops Q rest (a.put o.dst v) C):wpListIn Fence.wide n P ops Q (o::rest) a A:=by
 unfold wpListIn;rw[if_pos hw];refine⟨λ_ _=>trivial,?_⟩;have hs:(o.semAt none a.eval).run P A=.ok (.enter g us) A:=by
  rw[Oper.semAt_none];simp[execOp,ho,resolve,hc,hf,hargs,Deferred.ofValue,Sem.run_bind,Sem.run_pure,Result.andThen_ok,invoke,hen]
 show Oper.uponIn Fence.wide n P o a _ Q ((o.semAt none a.eval).run P A);rw[hs];refine⟨λh=>(by cases h),(hy (n-1)).mono ?_⟩;grind
theorem aY3 {o:Oper} {rest:List Oper} (hw:Region.wanted o (yielded ops a.tmps)=false) (h:wpListIn Fence.wide n P ops Q rest (a.put o.dst undef) A):wpListIn Fence.wide n P ops Q (o::rest) a A:=by
 unfold wpListIn;rw[if_neg (by rw[hw]; decide)];exact⟨λ_ _=>trivial,h⟩
theorem aE2 {E:Env} (hcl:dH P (fJ P E)) {l:List Oper} {sl:List Nat} (h:O5 P E nt ops.toList l F H (λF H=>some (vC sl F,H))=some (F',H')) (hnd:(l.all λo=>!aJ5 o.op)=true)
  (hS:Sg Φ G0 G μ H A) (hF:dO A G μ nt F a) (hQ:∀ G' μ' a' A',Sg Φ G0 G' μ' H' A'->Mono A G μ A' G' μ'->dO A' G' μ' nt F' a'->Q .normal a' A'):wpListIn Fence.wide n P ops Q l a A:=by
 obtain⟨F1,H1,hrun,h3⟩:=JD h;simp only[oJ,oP]at h3;obtain⟨hF1,rfl⟩:=h3;obtain⟨n0,hW,_,hS2⟩:=hS.open_;have h1:=BK (Q:=λe a' w'=>e=.normal/\I n0 A G μ nt F1 H1 a' w') hcl l F H a A hrun ⟨G,μ,Ext.refl _ _ _ _,hW,hF⟩ (λa' w' h=>⟨rfl,h⟩);have h2:=aEO (ro:=none) (n:=n) (ds:=[]) (Q':=Q) (λa w h=>by cases h.1) (λe a' w' h=>by
  obtain⟨rfl,G',μ',e,hW',hF'⟩:=h;have e1:zA [] a'=a':=by simp[zA]
  rw[e1];rw[<- hF1]at hQ;exact hQ G' μ' a' w' (hS2 _ _ _ _ e hW') e.toMono (hF'.pick sl)) (λo ho c hc=>by
  have:=List.all_eq_true.1 hnd o ho;rw[hc]at this;cases this) h1
 have e1:zA [] a=a:=by simp[zA]
 rw[e1]at h2;exact h2
theorem BZ {t b}(hF:dO A G μ nt F a)(h:bM F t=.lit (.bool b)):a.eval (.tmp t)=.bool b:=by
 have:=hF.slot t;rw[h,VR]at this;exact this
theorem aLA {t v}(hF:dO A G μ nt F a)(h:bM F t=.lit v):a.eval (.tmp t)=v:=by
 have:=hF.slot t;rw[h,VR]at this;exact this
theorem aGV(a:Act)(t:Nat):(#[Operand.tmp t]).map a.eval=#[a.tmps.getD t undef]:=by
 simp only[List.map_toArray];rfl
theorem aH3 {o y}(h:o.guard=none):Region.wanted o y=true:=by
 unfold Region.wanted;grind
end
structure a5C (Y:Type) where
 sh:List (Nat×Kd)
 exits:List (Ex×List (Nat×Kd))
 run:Shape.den sh->Option (List Y×dB exits)
section
variable {α:Type} (P:Program) (E:Env) (nt keep:Nat) (lt:Nat->Option eY) (ks:List Kd) (li:Nat->Option (a5C (Value×aM ks)))
end
section
variable {P:Program} {E:Env} {nt keep:Nat} {lt:Nat->Option eY} {ks:List Kd} {li:Nat->Option (a5C (Value×aM ks))}
variable {Φ:(Nat->Prop)->(Nat->Prop)->World->Prop} {G0 G G':Gd} {μ μ':Mp} {H H':Heap} {A A' W:World} {F F':Frm} {n:Nat} {a:Act}
end
end Go.PM
namespace Go.PM
open Go
theorem aK i n:aF i n=decide (0<=i/\i<n):=by
 cases i with
 | ofNat m =>
  show Nat.blt m n=_;rw[bT];simp
 | negSucc m =>
  rfl
theorem dF(m n:Nat):Nat.ble m n=decide (m<=n):=by
 cases h:Nat.ble m n with
 | true=>simp_all
 | false =>
  refine(oF λhl=>?_).symm;rw[Nat.ble_eq_true_of_le hl]at h;grind
theorem wrap64 {x}(h1 : -9223372036854775808<=x)(h2:x<9223372036854775808):aB .i64 x=x:=by
 cases x with
 | ofNat m =>
  have:m<9223372036854775808:=zf
  unfold aB;simp only[bT,oT this,oC]
 | negSucc m =>
  have:m<9223372036854775808:=Z
  unfold aB;simp only[bT,oT this,oC]
theorem bI(i:Nat)(h:i<9223372036854775807):aB .i64 (i+1)=((i+1:Nat)):=by rw[wrap64 Z Z]; rfl
theorem V7 {x}(h1 : -9223372036854775808<=x)(h2:x<9223372036854775808):IntKind.wrap .i64 x=x:=by rw[<- QU]; exact wrap64 h1 h2
theorem aY {α:Type} p [Decidable p](a b:α):(bif decide p then a else b)=if p then a else b:=R
theorem aD {τ α} x (k:τ->Option α):aC (some x) k=k x:=rfl
theorem rP p [Decidable p]:(!decide p)=decide (¬ p):=R
theorem KP {β γ α}(z:β) f (g:γ->Option α):mH (.inl z) f g=f z:=rfl
theorem pY {β γ α}(z:γ)(f:β->Option α) g:mH (.inr z) f g=g z:=rfl
section
variable {σ τ:Type} {step:σ->Option (σ⊕τ)}
theorem cM n x:aX step (n+1) x=match step x with
  | some (.inl y)=>aX step n y
  | some (.inr z)=>some z
  | none=>none:=rfl
theorem ZJ(F:Nat->σ) k:∀ m j,(∀ i,j<=i->i<j+m->step (F i)=some (.inl (F (i+1))))->aX step (m+k) (F j)=aX step k (F (j+m))
 | 0,j,_=>R
 | m+1,j,h=>by
  rw[Nat.add_right_comm,cM,h j (oM _) R];show aX step (m+k) (F (j+1))=_;rw[ZJ F k m (j+1) λi h1 h2=>h i Z Z];grind
theorem bL {N:Nat} (F:Nat->σ) (m:Nat) (z:τ) (hN:m<N) (h:∀ i,i<m->step (F i)=some (.inl (F (i+1)))) (he:step (F m)=some (.inr z)):aX step N (F 0)=some z:=by
 obtain⟨k,rfl⟩:∃ k,N=m+(k+1):=⟨N-m-1,by omega⟩;rw[ZJ F (k+1) m 0 (λi _ h2=>h i Z),Nat.zero_add,cM,he]
theorem aAF(F:Nat->σ) (stop:Nat->Option τ) (z:τ) (k:Nat):∀ (m j:Nat),(∀ i,j<=i->i<j+m->step (F i)=some (match stop i with|some y=>.inr y|none=>.inl (F (i+1))))->step (F (j+m))=some (.inr z) ->
   aX step (m+(k+1)) (F j)=some (((List.range' j m).findSome? stop).getD z)
 | 0,j,_,he=>by rw[Nat.zero_add,cM,show F j=F (j+0) from rfl,he]; rfl
 | m+1,j,h,he=>by
  rw[Nat.add_right_comm,cM,h j (oM _) Z,List.range'_succ,List.findSome?_cons];cases hs:stop j with
  | some y=>rfl
  | none =>
   show aX step (m+(k+1)) (F (j+1))=_;exact aAF F stop z k m (j+1) (λi h1 h2=>h i Z Z) (by rw[<- he]; congr 2; omega)
theorem vG {N}(F:Nat->σ) stop m z (hN:m<N)(h:∀ i,i<m->step (F i)=some (match stop i with|some y=>.inr y|none=>.inl (F (i+1))))(he:step (F m)=some (.inr z)) :
  aX step N (F 0)=some (((List.range m).findSome? stop).getD z):=by
 obtain⟨k,rfl⟩:∃ k,N=m+(k+1):=⟨N-m-1,by omega⟩;rw[List.range_eq_range'];exact aAF F stop z k m 0 (λi _ h2=>h i Z) zf
end
open Go Go.RowKit
section
variable {P:Program} {n0:Nat->Prop} {w w':World} {G G':Gd} {μ μ1:Mp} {H H1:Heap}
def M5(μ μ1:Mp)(h:Nat):Mp:=⟨λr=>if r<h then μ.loc r else μ1.loc (r-h),λr=>if r<h then μ.len r else μ1.len (r-h),λr=>if r<h then μ.sh r else μ1.sh (r-h)⟩
theorem wH {h r}(hr:r<h):(M5 μ μ1 h).loc r=μ.loc r/\(M5 μ μ1 h).len r=μ.len r/\(M5 μ μ1 h).sh r=μ.sh r:=by simp[M5,hr]
theorem yZ {h r}(hr:h<=r):(M5 μ μ1 h).loc r=μ1.loc (r-h)/\(M5 μ μ1 h).len r=μ1.len (r-h)/\(M5 μ μ1 h).sh r=μ1.sh (r-h):=by
 have:¬ r<h:=Z
 simp[M5,this]
theorem aT9(hW:aO n0 G μ H w)(e:Ext (tM w) w G.bare aG w' G' μ1):Ext n0 w G μ w' (G'.with G) (M5 μ μ1 H.length):={
 good:=e.good
 map:=λr b hr=>by
  rcases oG r H.length with hl|hl
  ·rw[(wH hl).1]; omega
  ·rw[(hW.top r hl).1]at hr; grind
 len:=λr b hr=>by
  rcases oG r H.length with hl|hl
  ·rw[(wH hl).2.1]; omega
  ·rw[(hW.top r hl).2]at hr; grind
 sh:=λr b hr=>by
  rcases oG r H.length with hl|hl
  ·exact(wH hl).2.2
  ·rw[(hW.top r hl).1]at hr; cases hr
 room:=e.room
 row:=λ_ _ h=>h
 os:=e.os
 tape:=e.tape
 output:=e.output
 size:=e.size
 old:=λb hb _=>e.old b hb (Nat.not_le.2 hb)
 new:=λb hb=>by
  rcases e.new b hb with h|h
  ·exact .inl h
  ·exact .inr (hW.base b h) }
theorem a1Q(hW:aO n0 G μ H w)(e:Ext (tM w) w G.bare aG w' G' μ1)(h1:aO (tM w) G' μ1 H1 w')(ht:VZ H1=true)(hp:∀ (r:Nat) k,H1[r]?=some (some k)->dZ.noRows k.cells=true/\∀ t l,k.tag≠some ⟨.rows t,l⟩):aO n0 (G'.with G) (M5 μ μ1 H.length) (H++H1) w':=by
 have e':=aT9 hW e;have key:∀ (r:Nat) (k:Blk),(H++H1)[r]?=some (some k)->(r<H.length/\H[r]?=some (some k))\/(H.length<=r/\H1[r-H.length]?=some (some k)):=by
  intro r k hr;rcases oG r H.length with hl|hl
  ·rw[List.getElem?_append_left hl]at hr; exact .inl ⟨hl,hr⟩
  ·rw[List.getElem?_append_right hl]at hr; exact .inr ⟨hl,hr⟩
 refine⟨?_,?_,?_,h1.lt,?_,λb hb=>hW.base b (oR e.size hb),hW.rows.step e'.toMono.aG e.size (λ_=>rfl) (λj b hj=>?_) (λr k t l hr hg htg=>?_)⟩
 case refine_5 =>
  have hlt:=(hW.rows.sep j b hj).1;refine⟨e.old b hlt (Nat.not_le.2 hlt),λhg=>?_,λr k hr hf hl=>?_⟩
  ·rcases e.new b hg with h|h
   ·exact h
   ·exact absurd hlt (Nat.not_lt.2 h)
  ·rcases key r k hr with ⟨hl2,hr⟩|⟨hl2,hr⟩
   ·rw[(wH hl2).1]at hl; exact⟨r,k,hr,hf,hl⟩
   ·rw[(yZ hl2).1]at hl;obtain⟨_,_,_,_,_,a5⟩:=h1.blk _ k b hr hl;exact absurd hlt (Nat.not_lt.2 (a5 hf).1)
 case refine_6 =>
  rcases key r k hr with ⟨hl2,hr⟩|⟨hl2,hr⟩
  ·exact⟨k,hr,rfl,rfl,rfl,(wH hl2).1⟩
  ·exact absurd htg ((hp _ k hr).2 t l)
 ·intro r k b hr hb;rcases key r k hr with ⟨hl,hr⟩|⟨hl,hr⟩
  ·rw[(wH hl).1]at hb;obtain⟨c,a1,a2,a3,a4,a5⟩:=hW.blk r k b hr hb;have hlt:=hW.o5 hr hb;have ho:=e.old b hlt (Nat.not_le.2 hlt);rw[(wH hl).2.2];refine⟨c,ho.trans a1,aL.mono e'.toMono ho _ _ a2,a3,λhf=>(e.good b (a4 hf)).1,λhf=>⟨(a5 hf).1,λhg=>?_⟩⟩;rcases e.new b hg with h|h
   ·exact(a5 hf).2 h
   ·omega
  ·rw[(yZ hl).1]at hb;obtain⟨c,a1,a2,a3,a4,a5⟩:=h1.blk _ k b hr hb;rw[(yZ hl).2.2];refine⟨c,a1,?_,a3,a4,λhf=>⟨hW.base b (a5 hf).1,(a5 hf).2⟩⟩;refine uG (G:=G') (G':=G'.with G) (λb h=>h) _ _ _ _ (hp _ k hr).1 ?_;rcases WV ht hr with hg|hg
   ·obtain⟨g,hg⟩:=Option.isSome_iff_exists.1 hg;have:=(h1.tags _ k g hr hg).1;rw[this]at a2 ⊢;exact nI (iM _ _) a2
   ·exact nI hg a2
 ·intro r k g hr hg;rcases key r k hr with ⟨hl,hr⟩|⟨hl,hr⟩
  ·rw[(wH hl).2.1]; exact hW.tags r k g hr hg
  ·rw[(yZ hl).2.1]; exact h1.tags _ k g hr hg
 ·intro r s k l b hr hs fk fl m1 m2;rcases key r k hr with ⟨hl,hr⟩|⟨hl,hr⟩ <;> rcases key s l hs with ⟨hl2,hs⟩|⟨hl2,hs⟩
  ·rw[(wH hl).1]at m1;rw[(wH hl2).1]at m2;exact hW.inj r s k l b hr hs fk fl m1 m2
  ·rw[(wH hl).1]at m1;rw[(yZ hl2).1]at m2;obtain⟨_,_,_,_,_,a5⟩:=h1.blk _ l b hs m2;have:=hW.o5 hr m1;have:=(a5 fl).1;omega
  ·rw[(yZ hl).1]at m1;rw[(wH hl2).1]at m2;obtain⟨_,_,_,_,_,a5⟩:=h1.blk _ k b hr m1;have:=hW.o5 hs m2;have:=(a5 fk).1;omega
  ·rw[(yZ hl).1]at m1;rw[(yZ hl2).1]at m2;have:=h1.inj _ _ k l b hr hs fk fl m1 m2;omega
 ·intro r hr;simp only[oH]at hr;have hl:H.length<=r:=Z
  rw[(yZ hl).1,(yZ hl).2.1];exact h1.top _ Z
theorem a2F {r sz v}(h:VR w' G' μ1 (.own r sz) v):VR w' G' (M5 μ μ1 H.length) (.own (H.length+r) sz) v:=by
 have e:=yZ (μ:=μ) (μ1:=μ1) (h:=H.length) (r:=H.length+r) R;rw[VR]at h ⊢;grind
def aTH(P:Program) (g:FuncId) (args:List Kd) (e:TypeId) (ty:Ty) (f:aM args->Option (List ty.den)):Prop :=
 ∀ x l,f x=some l->∀ {n0 G μ w us},aO n0 G μ [] w->VRs w G μ (mB args x) us->uM P n0 w G μ g us.toArray (.own 0 ty.size) [some ⟨aI ty l,e,true,false,some ⟨ty,l⟩⟩]
def bCQ(t:Nat)(e:TypeId)(ty:Ty)(ex:Ex)(F:Frm)(H:Heap):Option (List ty.den):=match ex with
 | .exit _=>none
 | _=>match SX [(t,.own e ty)] F H with
  | some x=>some x.1
  | none=>none
def aZI(P:Program)(E:Env)(fn:Func)(keep:Nat)(lt:Nat->Option eY)(c:Code) args (t:Nat)(e:TypeId)(ty:Ty)(x:aM args):Option (List ty.den) :=
 bif Nat.ble (mB args x).length fn.ntmps then lX P E fn.ntmps keep lt c (start keep 0 (mB args x)) [] (bCQ t e ty) else none
theorem aZQ {E} (hP:NA P) (hE:fX P E) {g:Nat} {fn} (hg:P.funcs[g]?=some fn) {c} (hc:fn.body=some c) {keep lt args} {t:Nat} (hr:fn.results.toList=[.tmp t]) {e ty f}
  (hl:∀ a∈bA c,∀ s,lt (cA a)=some s->fN P fn.ntmps a s) (hb:∀ x,aZI P E fn keep lt c args t e ty x=f x):aTH P g args e ty f:=by
 intro x l hy n0 G μ w us hW hv;rw[<- hb]at hy;unfold aZI at hy;obtain⟨hlen,hy⟩:=aJ hy;obtain⟨⟨ex,F',H'⟩,h1,h2⟩:=kY hE.callee hP.mixed c _ _ _ _ hl hy;obtain⟨y,hex,hd,hyl⟩:∃ y,(ex=.normal\/ex=.ret)/\SX [(t,.own e ty)] F' H'=some y/\y.1=l:=by
  unfold bCQ at h1;split at h1
  ·cases h1
  next hne=>
   split at h1
   ·rename_i y hy;simp only[oJ]at h1;refine⟨y,?_,hy,h1⟩;cases ex with
    | normal=>exact .inl rfl
    | ret=>exact .inr rfl
    | exit i=>exact absurd rfl (hne i)
   ·cases h1
 obtain⟨yl,⟨⟩⟩:=y;dsimp only at hyl;subst hyl;refine⟨enters hg (hP.names g fn hg) (by rw[hc]; rfl) _ _,calls_of_wp hg hc ?_⟩;have hI:I n0 w G μ fn.ntmps (start keep 0 (mB args x)) [] ⟨us.toArray++Array.replicate (fn.ntmps-us.toArray.size) undef,[]⟩ w:=⟨G,μ,Ext.refl _ _ _ _,hW,pK (by simpa using hv) (oL hlen)⟩;refine wp_mono (h2 n0 w G μ _ w (λr=>hW.top r (Nat.zero_le _)) hI) ?_;rintro e0 a' w' ⟨rfl,hI'⟩
 obtain⟨G',μ',e',hW',hF'⟩:=FM hd (λr=>hW.top r (Nat.zero_le _)) hI';have hvs:qT P (CY [(t,.own e ty)] (yl,()) 0) (ON [(t,.own e ty)] (yl,())) fn.results.toList=some [.own 0 ty.size]:=by
  rw[hr];simp[qT,aJ4,CY,CK,bM]
 obtain⟨ws,h3,h4⟩:=mQ (P:=P) hW' hF' hvs;have hres:(results fn a'.tmps).run P w'=.ok (if hh:ws.toArray.size=1 then ws.toArray[0] else .tuple ws.toArray) w':=by
  rw[yD,Array.mapM_eq_mapM_toList];simp only[Sem.run_bind,Sem.run_map,h3,Result.andThen_ok,Sem.run_pure]
 have hpost:a'.defers=[]/\∃ v,(results fn a'.tmps).run P w'=.ok v w'/\(∃ v' G'' μ'',Ending.returned v=.returned v'/\Ext n0 w G μ w' G'' μ''/\aO n0 G'' μ'' (ON [(t,.own e ty)] (yl,())) w'/\VR w' G'' μ'' (.own 0 ty.size) v') :=
  ⟨hF'.defers,_,hres,_,G',μ',rfl,e',hW',pC h4⟩
 rcases hex with rfl|rfl
 ·exact hpost
 ·exact hpost
def a57(args:List Kd) (e:TypeId) (ty:Ty) (f:aM args->Option (List ty.den)) (qs:List PV) (H:Heap):Option aEL :=
 bif dW.noRefs qs&&(dZ.noRows qs&&ty.plain) then match aJI args qs with
  | some x=>some ⟨List ty.den,f x,λl=>(.own H.length ty.size,H++[some ⟨aI ty l,e,true,false,some ⟨ty,l⟩⟩])⟩
  | none=>none
 else none
def a8J(args:List Kd) (e:TypeId) (ty:Ty) (f:aM args->Option (List ty.den)) (qs:List PV) (H:Heap):Option aEL :=
 match aUK (A0 H (aR8 qs)) qs with
 | some ps=>a57 args e ty f ps (A0 H (aR8 qs))
 | none=>none
theorem a6G {g args e ty f}(hf:aTH P g args e ty f):qU P (g,a57 args e ty f):=by
 intro qs H r h y hy n0 G μ w vs hW hv;dsimp only at h;unfold a57 at h;obtain⟨hn,h⟩:=KI h;split at h
 next x hx=>
  have h:=oB h;subst h;simp only[oA]at hn;obtain⟨hn,hnr,hpl⟩:=hn;have hW0:aO (tM w) G.bare aG [] w:=⟨λr k b h=>by simp at h,λr k g h=>by simp at h,λr s k l b h=>by simp at h,hW.lt,λ_ _=>⟨rfl,rfl⟩,λ_ h=>h,rA.none _ _ (λ_=>rfl) _ _ (λr k h=>by simp at h)⟩;obtain⟨h1,h2⟩:=hf x y hy hW0 (DI args hx (uI (G:=G) (G':=G.bare) (λb h=>h) _ _ _ hnr (cX _ _ hn hv)));refine⟨h1,h2.mono ?_⟩;rintro e' w' ⟨v',G',μ1,rfl,e1,e2,e3⟩
  refine⟨v',G'.with G,M5 μ μ1 H.length,rfl,aT9 hW e1,a1Q hW e1 e2 rfl (λr k hr=>?_),?_⟩
  ·cases r with
   | zero =>
    simp only[List.getElem?_cons_zero,oJ]at hr;subst hr;exact⟨wW _ hpl _,λt l h=>by obtain⟨rfl,_⟩:=h; cases hpl⟩
   | succ r=>simp at hr
  have:=a2F (H:=H) (μ:=μ) e3;rw[VR]at this ⊢;simpa using this
 ·cases h
theorem aY4 {g args e ty f}(hf:aTH P g args e ty f):qU P (g,a8J args e ty f):=by
 intro qs H r h y hy n0 G μ w vs hW hv;dsimp only at h;unfold a8J at h;split at h
 next ps hps=>obtain⟨G1,e1,hW1⟩:=BM (aR8 qs) H G hW;obtain⟨h1,h2⟩:=a6G hf ps _ r h y hy hW1 (aRF hW1 hps (VRs.mono e1.toMono _ _ hv)).aU;refine⟨h1,h2.mono ?_⟩;rintro e' w' ⟨v',G',μ1,rfl,q1,q2,q3⟩;exact⟨v',G',μ1,rfl,e1.trans q1,q2,q3⟩
 grind
end
section
variable {P:Program} {n0:Nat->Prop} {w w':World} {G G':Gd} {μ μ1:Mp} {H H1:Heap}
theorem aT4(hW:aO n0 G μ H w) {r:Nat} (hr:H[r]?=some none) (k:Blk) (hf:k.frozen=false) (hg:k.grown=true)
  (hblk:∀ b,μ.loc r=some b->(∃ c,w.heap[b]?=some (.cells c k.ty (0,0))/\aL w G μ b (μ.sh r) k.cells)/\n0 b/\¬ G b/\(∀ s k1,H[s]?=some (some k1)->k1.frozen=false->μ.loc s≠some b)/\∀ j,G.row j≠some b)
  (htag:∀ g,k.tag=some g->k.cells=aI g.t g.l/\μ.len r=some g.l.length):aO n0 G μ (H.set r (some k)) w:=by
 have hlt:r<H.length:=(oO.1 hr).1;have key:∀ s k1,(H.set r (some k))[s]?=some (some k1)->(s=r/\k1=k)\/(s≠r/\H[s]?=some (some k1)):=by
  intro s k1 hs
  by_cases e:r=s
  ·subst e;rw[List.getElem?_set_self hlt]at hs;exact .inl ⟨rfl,(oB (oB hs)).symm⟩
  ·rw[List.getElem?_set_ne e]at hs;exact .inr ⟨Ne.symm e,hs⟩
 refine⟨?_,?_,?_,hW.lt,λs hs=>hW.top s (by simpa using hs),hW.base,?_⟩
 ·intro s k1 b hs hb;rcases key s k1 hs with ⟨rfl,rfl⟩|⟨_,hs⟩
  ·obtain⟨⟨c,h1,h2⟩,h3,h4,_⟩:=hblk b hb;exact⟨c,h1,h2,λh=>(by rw[hg]at h; cases h),λh=>(by rw[hf]at h; cases h),λ_=>⟨h3,h4⟩⟩
  ·exact hW.blk s k1 b hs hb
 ·intro s k1 g hs h1;rcases key s k1 hs with ⟨rfl,rfl⟩|⟨_,hs⟩
  ·exact htag g h1
  ·exact hW.tags s k1 g hs h1
 ·intro s1 s2 k1 k2 b h1 h2 f1 f2 m1 m2;rcases key s1 k1 h1 with ⟨rfl,rfl⟩|⟨_,h3⟩
  ·rcases key s2 k2 h2 with ⟨rfl,rfl⟩|⟨_,h4⟩
   ·rfl
   ·exact absurd m2 ((hblk b m1).2.2.2.1 s2 k2 h4 f2)
  ·rcases key s2 k2 h2 with ⟨rfl,rfl⟩|⟨_,h4⟩
   ·exact absurd m1 ((hblk b m2).2.2.2.1 s1 k1 h3 f1)
   ·exact hW.inj s1 s2 k1 k2 b h3 h4 f1 f2 m1 m2
 ·refine⟨hW.rows.inj,?_,hW.rows.cel,?_,?_⟩
  ·intro j b hj;obtain⟨a1,a2,a3,a4⟩:=hW.rows.sep j b hj;refine⟨a1,a2,a3,λs k1 hs f1 m1=>?_⟩;rcases key s k1 hs with ⟨rfl,rfl⟩|⟨_,hs⟩
   ·exact(hblk b m1).2.2.2.2 j hj
   ·exact a4 s k1 hs f1 m1
  ·intro s k1 t l hs h1 h2;rcases key s k1 hs with ⟨rfl,rfl⟩|⟨_,hs⟩
   ·rw[hg]at h1; cases h1
   ·exact hW.rows.arn s k1 t l hs h1 h2
  ·intro s1 s2 k1 k2 t l t' l' h1 g1 t1 h2 g2 t2;rcases key s1 k1 h1 with ⟨rfl,rfl⟩|⟨_,h1⟩
   ·rw[hg]at g1; cases g1
   ·rcases key s2 k2 h2 with ⟨rfl,rfl⟩|⟨_,h2⟩
    ·rw[hg]at g2; cases g2
    ·exact hW.rows.one s1 s2 k1 k2 t l t' l' h1 g1 t1 h2 g2 t2
def aY8(P:Program) (g:FuncId) (e:TypeId) (t:Ty) (args:List Kd) (f:List t.den->aM args->Option (List t.den)):Prop :=
 ∀ l x l',f l x=some l'->∀ {n0 G μ H w us r},aO n0 G μ H w->H[r]?=some (some (owB e t l))->VRs w G μ (.own r t.size::mB args x) us->dZ.noRows (mB args x)=true->uM P n0 w G μ g us.toArray (.tuple []) (H.set r (some (owB e t l')))
def aBP {t:Ty} {args:List Kd} (f:Unit->aM (.hnd t.size::args)->List (List t.den)->Option (aM []×List (List t.den))) (l:List t.den) (x:aM args):Option (List t.den):=match f () ((0,0,l.length),x) [l]with
 | some ((),[l'])=>bif Nat.beq l'.length l.length then some l' else none
 | _=>none
def aXU(P:Program) (g:FuncId) (e:TypeId) (t:Ty) (args rets:List Kd) (f:List t.den->aM args->Option (aM rets×List t.den)):Prop :=
 ∀ l x y l',f l x=some (y,l')->∀ {n0 G μ H w us r},aO n0 G μ H w->H[r]?=some (some (owB e t l))->VRs w G μ (.own r t.size::mB args x) us->dZ.noRows (mB args x)=true->uM P n0 w G μ g us.toArray (VN rets y) (H.set r (some (owB e t l')))
def aB1 {t:Ty} {args rets:List Kd} (f:Unit->aM (.hnd t.size::args)->List (List t.den)->Option (aM rets×List (List t.den))) (l:List t.den) (x:aM args):Option (aM rets×List t.den):=match f () ((0,0,l.length),x) [l]with
 | some (y,[l'])=>bif Nat.beq l'.length l.length then some (y,l') else none
 | _=>none
def a4K:List Kd->Bool
 | []=>true
 | [.bool]=>true
 | [.int _]=>true
 | _=>false
theorem a3K {rets}(h:a4K rets=true) y {w G G' μ μ' v}(hv:VR w G μ (VN rets y) v):VR w G' μ' (VN rets y) v:=by
 unfold a4K at h;split at h
 ·change VR w G μ (.tuple []) v at hv;change VR w G' μ' (.tuple []) v;obtain⟨vs,h1,h2⟩:=hv;exact⟨vs,h1,h2⟩
 ·obtain⟨b,⟨⟩⟩:=y;change VR w G μ (.lit (.bool b)) v at hv;change VR w G' μ' (.lit (.bool b)) v;exact hv
 next k=>obtain⟨b,⟨⟩⟩:=y;change VR w G μ (.lit (.int k b)) v at hv;change VR w G' μ' (.lit (.int k b)) v;exact hv
 grind
theorem aKK {g:FuncId} {e:TypeId} {t:Ty} {args rets:List Kd} {f:Unit->aM (.hnd t.size::args)->List (List t.den)->Option (aM rets×List (List t.den))} (hf:N2 P g e t .none (.hnd t.size::args) (.data rets) f) (hd:aB3 args=true) (hpl:t.plain=true) (hlr:a4K rets=true) (he:e≠QY:=by decide):aXU P g e t args rets (aB1 f):=by
 intro l x yy l' hy n0 G μ H w us r hW hk hv hnr;unfold aB1 at hy;split at hy
 next y1 l1 hfl=>
  obtain⟨hlen,hy⟩:=aJ hy;obtain⟨rfl,rfl⟩:=Prod.mk.inj (oB hy);have hlen:=oE hlen;have ht2:=(hW.tags r _ _ hk rfl).2;have hlt:r<H.length:=(oO.1 hk).1;obtain⟨rb,hrb⟩:∃ rb:Option Nat,rb=if l=[] then none else μ.loc r:=⟨_,rfl⟩
  have hrbl:∀ b,rb=some b->μ.loc r=some b/\l≠[]:=λb hb=>by
   rw[hrb]at hb;split at hb
   ·cases hb
   next hne=> exact⟨hb,hne⟩
  have hmine:∀ b,μ.loc r=some b->n0 b/\¬ G b:=λb hb=>by
   obtain⟨_,_,_,_,_,h6⟩:=hW.blk r _ b hk hb;exact h6 rfl
  have hrow:∀ j b,G.row j=some b->μ.loc r≠some b:=λj b hj=>(hW.rows.sep j b hj).2.2.2 r _ hk rfl
  obtain⟨u,us',rfl,q1,q2⟩:∃ u us',us=u::us'/\VR w G μ (.own r t.size) u/\VRs w G μ (mB args x) us':=by rw[VRs]at hv; exact hv
  have at0:∀ (s:Nat) (k1:Blk),([some (arB e t [l])]:Heap)[s]?=some (some k1)->s=0/\k1=arB e t [l]:=by
   intro s k1 hs;cases s with
   | zero=>simp only[List.getElem?_cons_zero,oJ]at hs; exact⟨rfl,hs.symm⟩
   | succ s=>simp at hs
  have hG0:∃ G0:Gd,G0=⟨G.ok,λj=>if j=0 then rb else none⟩:=⟨_,rfl⟩;obtain⟨G0,hG0⟩:=hG0;have hok:G0.ok=G.ok:=by rw[hG0]
  have hr0:∀ j b,G0.row j=some b->j=0/\rb=some b:=λj b hj=>by
   rw[hG0]at hj;dsimp only at hj;split at hj
   ·exact⟨‹_›,hj⟩
   ·cases hj
  have hW1:aO (λb=>w.heap.size<=b\/rb=some b) G0 ⟨λ_=>none,λs=>if s=0 then some 1 else none,λ_=>0⟩ [some (arB e t [l])] w:=by
   refine⟨λs k1 b hs hb=>(by cases hb),?_,λs1 s2 k1 k2 b _ _ _ _ m=>(by cases m),by rw[hok]; exact hW.lt,?_,λb hb=>.inl hb,?_⟩
   ·intro s k1 gg hs hg;obtain⟨rfl,rfl⟩:=at0 s k1 hs;cases hg;exact⟨rfl,rfl⟩
   ·intro s hs;have:s≠0:=by rintro rfl; simp at hs
    exact⟨rfl,by simp[this]⟩
   ·refine⟨λi j b h1 h2=>(hr0 i b h1).1.trans (hr0 j b h2).1.symm,λj b hj=>?_,λj b hj=>?_,λs k1 t1 l1 hs h1 h2=>?_,λs1 s2 k1 k2 t1 l1 t2 l2 h1 _ _ h2 _ _=>((at0 s1 k1 h1).1.trans (at0 s2 k2 h2).1.symm)⟩
    ·obtain⟨_,h2⟩:=hr0 j b hj;exact⟨hW.o5 hk (hrbl b h2).1,.inr h2,by rw[hok]; exact(hmine b (hrbl b h2).1).2,λ_ _ _ _ h=>by cases h⟩
    ·obtain⟨_,h2⟩:=hr0 j b hj;obtain⟨c,h3,_⟩:=hW.blk r _ b hk (hrbl b h2).1;exact .inl ⟨c,_,_,h3⟩
    ·obtain⟨rfl,rfl⟩:=at0 s k1 hs;cases h2;refine⟨rfl,λj hj=>?_,λj row hj=>?_⟩
     ·rw[hG0];have:j≠0:=by rintro rfl; simp at hj
      simp[this]
     ·cases j with
      | zero =>
       simp only[List.getElem?_cons_zero,oJ]at hj;subst hj
       by_cases hl:l=[]
       ·exact .inl ⟨hl,he⟩
       ·right;rw[VR]at q1;obtain⟨n,z1,z2⟩:=q1;rw[ht2]at z1;obtain rfl:=oB z1;rcases z2 with ⟨z2,_⟩|⟨b,c,z2,_,_,_,z5⟩
        ·exact absurd (List.eq_nil_of_length_eq_zero z2) hl
        ·obtain⟨cc,a1,a2,_⟩:=hW.blk r _ b hk z2;rw[z5]at a2;refine⟨b,by rw[hG0,hrb]; simp[hl,z2],.inl ⟨he,cc,a1,?_⟩⟩;exact uG (G:=G) (G':=G0) (λb h=>by rw[hok]; exact h) _ _ _ _ (wW t hpl l) (nI (iM _ _) a2)
      | succ j=>simp at hj
  have hsh:l≠[]->μ.sh r=0:=λhl=>by
   rw[VR]at q1;obtain⟨n,z1,z2⟩:=q1;rw[ht2]at z1;obtain rfl:=oB z1;rcases z2 with ⟨z2,_⟩|⟨_,_,_,_,_,_,z5⟩
   ·exact absurd (List.eq_nil_of_length_eq_zero z2) hl
   ·exact z5
  have hv1:VRs w G0 ⟨λ_=>none,λs=>if s=0 then some 1 else none,λ_=>0⟩ (Tk.none.pv 0++mB (.hnd t.size::args) ((0,0,l.length),x)) (u::us'):=by
   change VRs w G0 _ (.row 0 0 l.length t.size::mB args x) (u::us');rw[VRs];refine⟨u,us',rfl,?_,VRs.aU (uI (G:=G) (G':=G0) (λb h=>by rw[hok]; exact h) _ _ _ hnr (cX _ _ (O8 args x hd) q2))⟩;rw[VR]at q1;rw[VR];obtain⟨n,z1,z2⟩:=q1;rw[ht2]at z1;obtain rfl:=oB z1;rcases z2 with ⟨z2,ao,rfl⟩|⟨b,c,z2,rfl,z3,z4⟩
   ·exact⟨ao,0,by rw[show l.length=0 from z2],by rw[show l.length=0 from z2]; exact oM _,.inl z2⟩
   ·obtain⟨z4,z5⟩:=z4;rw[z5];rw[z5]at z4;refine⟨_,c,rfl,z3,?_⟩
    by_cases hl:l=[]
    ·exact .inl (by rw[hl]; rfl)
    ·exact .inr ⟨b,by rw[hG0,hrb]; simp[hl,z2],by simp,by simpa using z4⟩
  obtain⟨c1,c2⟩:=hf () ((0,0,l.length),x) [l] y1 [l1] hfl (ra:=0) (r:=0) hW1 rfl ⟨λ_ _ h=>by cases h⟩ hv1;refine⟨c1,c2.mono ?_⟩;rintro e' w' ⟨v',G1,μ1,rfl,ee,hW',hvv⟩;have hb1:∀ b,rb=some b->G1.row 0=some b:=λb hb=>ee.row 0 b (by rw[hG0]; simp[hb])
  have hH1:(((SR (Tk.none.ow () 0) [some (arB e t [l])]).set 0 none)++(some (arB e t [l1])::(An.data rets).hp y1):Heap)[1]?=some (some (arB e t [l1])):=rfl;have hn0:∀ b,b<w.heap.size->¬ n0 b->w'.heap[b]?=w.heap[b]?:=λb hb hn=>ee.old b hb (by
   rintro(h|h)
   ·exact Nat.not_le.2 hb h
   ·exact hn (hmine b (hrbl b h).1).1)
  have hgg:∀ b,G b->G0 b:=λb hb=>by rw[hok]; exact hb
  have e2:Ext n0 w G μ w' (G1.with G) μ:={
   good:=λb hb=>⟨(ee.good b (hgg b hb)).1,(ee.good b (hgg b hb)).2⟩
   map:=λ_ _ h=>h
   len:=λ_ _ h=>h
   room:=ee.room
   row:=λ_ _ h=>h
   os:=ee.os
   tape:=ee.tape
   output:=ee.output
   size:=ee.size
   old:=hn0
   new:=λb hb=>by
    rcases ee.new b hb with h|h|h
    ·rw[hok]at h; exact .inl h
    ·exact .inr (hW.base b h)
    ·exact .inr (hmine b (hrbl b h).1).1 }
  have hold:∀ b,b<w.heap.size->rb≠some b->w'.heap[b]?=w.heap[b]?/\(G1 b->G b):=λb hb hne =>
   ⟨ee.old b hb (by rintro(h|h); exact Nat.not_le.2 hb h; exact hne h),λhg=>by
    rcases ee.new b hg with h|h|h
    ·rw[hok]at h; exact h
    ·exact absurd hb (Nat.not_lt.2 h)
    ·exact absurd h hne⟩
  have hk2:aO n0 (G1.with G) μ (H.set r none) w':=by
   refine(q9 hW r).keep e2 ⟨λ_=>rfl,λj b hj=>hold b (hW.rows.sep j b hj).1 λh=>hrow j b hj (hrbl b h).1⟩ ?_ (λb hb=>hW'.lt b hb);intro s k1 b hs hb;obtain⟨hs,hsr⟩:=rY hs;refine hold b (hW.o5 hs hb) λh=>?_
   have hrb:=(hrbl b h).1;cases hf:k1.frozen with
   | false=>exact hsr (hW.inj s r k1 _ b hs hk hf rfl hb hrb)
   | true =>
    obtain⟨_,_,_,_,h5,_⟩:=hW.blk s k1 b hs hb;exact(hmine b hrb).2 (h5 hf)
  have hfin:aO n0 (G1.with G) μ (H.set r (some (owB e t l1))) w':=by
   have:=aT4 hk2 (r:=r) (List.getElem?_set_self hlt) (owB e t l1) rfl rfl ?_ ?_
   ·rwa[List.set_set]at this
   ·intro b hb;have hcells:(∃ c,w'.heap[b]?=some (.cells c e (0,0))/\aL w' (G1.with G) μ b (μ.sh r) (aI t l1))/\¬ G1 b:=by
     by_cases hl:l=[]
     ·have hl1:l1=[]:=List.eq_nil_of_length_eq_zero (by rw[hlen,hl]; rfl);have hne:rb≠some b:=λh=>(hrbl b h).2 hl
      obtain⟨o1,o2⟩:=hold b (hW.o5 hk hb) hne;obtain⟨c,h3,_⟩:=hW.blk r _ b hk hb;refine⟨⟨c,o1.trans h3,?_⟩,λh=>(hmine b hb).2 (o2 h)⟩;rw[hl1]; simp[aI,aL]
     ·have hbb:rb=some b:=by rw[hrb,if_neg hl]; exact hb
      have hrow1:=hb1 b hbb;obtain⟨_,_,a3⟩:=hW'.rows.arn 1 _ t [l1] hH1 rfl rfl;rcases a3 0 l1 rfl with h|⟨b',z1,z2⟩
      ·exact absurd (List.eq_nil_of_length_eq_zero (by rw[<- hlen,h.1]; rfl)) hl
      ·rw[hrow1]at z1;obtain rfl:=oB z1;obtain⟨c0,y1,_⟩:=hW.blk r _ b hk hb;obtain⟨c,z2,z3⟩:=z2.cells (.inr (e2.room b 0 ⟨c0,_,_,y1,Nat.zero_le _⟩));refine⟨⟨c,z2,?_⟩,(hW'.rows.sep 0 b hrow1).2.2.1⟩;rw[hsh hl];exact uG (G:=G1) (G':=G1.with G) (λb h=>h) _ _ _ _ (wW t hpl l1) (nI (iM _ _) z3)
    refine⟨hcells.1,(hmine b hb).1,hcells.2,λs k1 hs hf hsb=>?_,λj hj=>hrow j b hj hb⟩;obtain⟨hs,hsr⟩:=rY hs;exact hsr (hW.inj s r k1 _ b hs hk hf rfl hsb hb)
   ·intro g hg;cases hg;exact⟨rfl,by rw[ht2,hlen]⟩
  refine⟨v',G1.with G,μ,rfl,e2,hfin,?_⟩;exact a3K hlr y1 hvv
 ·cases hy
theorem aPL {g:FuncId}{e:TypeId}{t:Ty}{args:List Kd}{f:Unit->aM (.hnd t.size::args)->List (List t.den)->Option (aM []×List (List t.den))}(hf:N2 P g e t .none (.hnd t.size::args) (.data []) f)(hd:aB3 args=true)(hpl:t.plain=true)(he:e≠QY:=by decide):aY8 P g e t args (aBP f):=by
 intro l x l' hy n0 G μ H w us r hW hk hv hnr;refine aKK hf hd hpl rfl he l x () l' ?_ hW hk hv hnr;unfold aBP at hy;unfold aB1;split at hy
 next l1 hfl=>obtain⟨hlen,hy⟩:=aJ hy;obtain rfl:=oB hy;rw[hfl];show (bif Nat.beq l1.length l.length then some ((),l1) else none)=_;rw[hlen];rfl
 ·cases hy
def aY7(e:TypeId) (t:Ty) (args rets:List Kd) (f:List t.den->aM args->Option (aM rets×List t.den)) (qs:List PV) (H:Heap):Option aEL:=match aSZ e t H qs with
 | some (l,r,ps)=>match aJI args ps with
  | some x=>bif dW.noRefs ps&&dZ.noRows (mB args x) then some ⟨aM rets×List t.den,f l x,λz=>(VN rets z.1,H.set r (some (owB e t z.2)))⟩ else none
  | none=>none
 | none=>none
theorem a4F {g e t args rets f}(hf:aXU P g e t args rets f):qU P (g,aY7 e t args rets f):=by
 intro qs H rh h y hy n0 G μ w vs hW hv;change aY7 e t args rets f qs H=some rh at h;unfold aY7 at h;split at h
 next l r ps hl=>
  split at h
  next x hx=>obtain⟨hb,h⟩:=KI h;simp only[oJ]at h;subst h;simp only[oA]at hb;obtain⟨h0,rfl⟩:=YN hW hl;obtain⟨u,us,rfl,q1,q2⟩:=hv;exact hf l x y.1 y.2 hy hW h0 (⟨u,us,rfl,q1,(DI args hx (cX _ _ hb.1 q2)).aU⟩) hb.2
  grind
 grind
def a5K(e:TypeId) (t:Ty) (args:List Kd) (f:List t.den->aM args->Option (List t.den)) (qs:List PV) (H:Heap):Option aEL:=match aSZ e t H qs with
 | some (l,r,ps)=>match aJI args ps with
  | some x=>bif dW.noRefs ps&&dZ.noRows (mB args x) then some ⟨List t.den,f l x,λl'=>(.tuple [],H.set r (some (owB e t l')))⟩ else none
  | none=>none
 | none=>none
theorem aYJ {g e t args f}(hf:aY8 P g e t args f):qU P (g,a5K e t args f):=by
 intro qs H rh h y hy n0 G μ w vs hW hv;change a5K e t args f qs H=some rh at h;unfold a5K at h;split at h
 next l r ps hl=>
  split at h
  next x hx=>obtain⟨hb,h⟩:=KI h;simp only[oJ]at h;subst h;simp only[oA]at hb;obtain⟨h0,rfl⟩:=YN hW hl;obtain⟨u,us,rfl,q1,q2⟩:=hv;exact hf l x y hy hW h0 (⟨u,us,rfl,q1,(DI args hx (cX _ _ hb.1 q2)).aU⟩) hb.2
  grind
 grind
end
def aX3(P:Program)(E:Env)(fn:Func)(keep:Nat)(lt rt:Nat->Option eY)(c:Code)(ae:TypeId)(t:Ty)(tk:Tk) args (an:An)(l:tk.den)(x:aM args)(A:List (List t.den)):Option (an.den×List (List t.den)) :=
 bif Nat.ble (tk.pv 0++mB args x).length fn.ntmps then ID P E fn.ntmps keep lt rt false [] c (start keep 0 (tk.pv 0++mB args x)) (MR (tk.ow l 0)++[some (arB ae t A)]) (a8M P fn.results.toList ae t an) else none
section
variable {P:Program} {n0:Nat->Prop} {w w':World} {G G1 G2:Gd} {μ μ2:Mp} {H H':Heap} {ae:TypeId} {t:Ty} {A B:List (List t.den)}
theorem a9C {E:Env} (hP:NA P) (hE:fX P E) {g:Nat} {fn:Func} (hg:P.funcs[g]?=some fn) {c:Code} (hc:fn.body=some c) {keep:Nat} {lt rt:Nat->Option eY} {ae:TypeId} {t:Ty} {tk:Tk} {args:List Kd} {an:An} {f:tk.den->aM args->List (List t.den)->Option (an.den×List (List t.den))}
  (hd:aB3 args=true) (hl:∀ a∈pX c,VP P fn.ntmps lt rt false [] a) (hb:∀ l x A,aX3 P E fn keep lt rt c ae t tk args an l x A=f l x A):N2 P g ae t tk args an f:=by
 intro l x A y B hy n0 G μ H w us ra r hW har ho hv;rw[<- hb]at hy;unfold aX3 at hy;obtain⟨hlen,hy⟩:=aJ hy;obtain⟨⟨ex,F',H'⟩,h1,h2⟩:=qA hE.callee hP.mixed c _ _ _ _ hl hy;obtain⟨vs,B',hex,hvs,hB,hq,rfl⟩:∃ vs B',(ex=.normal\/ex=.ret)/\qT P F' H' fn.results.toList=some vs/\a1I ae t H'=some B'/\aXQ an (jY vs) H'=some y/\B'.2=B:=by
  unfold a8M at h1;split at h1
  ·cases h1
  next hne=>
   split at h1
   ·rename_i vs hvs;split at h1
    ·rename_i B' hB;split at h1
     ·rename_i y' hy';simp only[oJ,oP]at h1;obtain⟨rfl,h1⟩:=h1;refine⟨vs,B',?_,hvs,hB,hy',h1⟩;cases ex with
      | normal=>exact .inl rfl
      | ret=>exact .inr rfl
      | exit i=>exact absurd rfl (hne i)
     ·cases h1
    ·cases h1
   ·cases h1
 have hargs:VRs w G (mpA μ (tk.ow l r) A.length) (tk.pv 0++mB args x) us:=by
  have hn:=O8 args x hd;cases tk with
  | none=>exact VRs.aU (cX _ _ hn hv)
  | own e u =>
   change VRs w G μ (.own r u.size::mB args x) us at hv;change VRs w G _ (.own 0 u.size::mB args x) us;rw[VRs]at hv ⊢;obtain⟨v,us',rfl,q1,q2⟩:=hv;refine⟨v,us',rfl,?_,VRs.aU (cX _ _ hn q2)⟩;rw[VR]at q1 ⊢;exact q1
 have howb:MR (tk.ow l 0)=MR (tk.ow l r):=by cases tk <;> rfl
 have hW1:=aEA hW ho har;rw[<- howb]at hW1;have e0:Ext (wrA w G μ (tk.ow l r)) w G aG w G (mpA μ (tk.ow l r) A.length) :=
  ⟨⟨λb hb=>⟨hb,rfl⟩,λ_ _ h=>(by cases h),λ_ _ h=>(by cases h),λ_ _ h=>h,λ_ _ h=>h,λ_ _ h=>(by cases h)⟩,rfl,rfl,rfl,oM _,λ_ _ _=>rfl,λ_ h=>.inl h⟩
 refine⟨enters hg (hP.names g fn hg) (by rw[hc]; rfl) _ _,(callsIn_wide (n:=0)).1 (callsIn_of_wp_marks hg hc trivial ?_)⟩;have hI:I (wrA w G μ (tk.ow l r)) w G aG fn.ntmps (start keep 0 (tk.pv 0++mB args x)) (MR (tk.ow l 0)++[some (arB ae t A)]) ⟨us.toArray++Array.replicate (fn.ntmps-us.toArray.size) undef,[]⟩ w :=
  ⟨G,_,e0,hW1,pK (by simpa using hargs) (oL hlen)⟩
 refine wpIn_mono (h2 none 0 _ w G aG _ w (λ_=>rfl) (λr _=>⟨rfl,rfl⟩) hI.bBD) ?_;rintro e1 ⟨tm,ds⟩ w' ⟨rfl,hI',_⟩;have hend:∀ w',IM (wrA w G μ (tk.ow l r)) w G aG fn.ntmps F' H' { tmps:=tm,defers:=[] } w'->LeavesIn Fence.wide 0 P fn tm (λen w'=>∃ v' G'' μ'',en=.returned v'/\Ext n0 w G μ w' G'' μ''/\aO n0 G'' μ'' (((SR (tk.ow l r) H).set ra none)++(some (arB ae t B'.2)::an.hp y)) w'/\VR w' G'' μ'' (an.pv y (H.length+1)) v') [] .returning w':=by
  rintro w' ⟨G1,μ1,ee,hW',hF',_⟩;obtain⟨ws,h3,h4⟩:=mQ (P:=P) hW' hF' hvs;have hres:(results fn tm).run P w'=.ok (if hh:ws.toArray.size=1 then ws.toArray[0] else .tuple ws.toArray) w':=by
   rw[yD,Array.mapM_eq_mapM_toList];simp only[Sem.run_bind,Sem.run_map,h3,Result.andThen_ok,Sem.run_pure]
  have hrb:=aDQ hW' hB;obtain⟨G2,μ3,b1,b2,b3⟩:∃ G2 μ3,Ext n0 w G μ w' G2 μ3/\aO n0 G2 μ3 (((SR (tk.ow l r) H).set ra none)++(some (arB ae t B'.2)::an.hp y)) w'/\VR w' G2 μ3 (an.pv y (H.length+1)) (if hh:ws.toArray.size=1 then ws.toArray[0] else .tuple ws.toArray):=by
   have hvr:=pC h4;cases an with
   | data rets =>
    simp only[aXQ]at hq;split at hq
    ·rename_i q hq';have hb:=aJY (G2:=⟨λb=>G1 b\/∃ s k,H'[s]?=some (some k)/\k.frozen=false/\μ1.loc s=some b,G1.row⟩) hW ho har ee hW' hrb (os:=none) ⟨λ_ _ _ h=>by cases h⟩ (λ_=>rfl) (λb hb=>.inl hb) (λb hb=>by
      rcases hb with h|⟨s,k,z1,z2,z3⟩
      ·exact .inl h
      ·exact .inr ⟨s,k,z1,z2,z3,λ_ _ _ h=>by cases h⟩)
     refine⟨_,_,hb.1,hb.2,?_⟩;have:=KN (G':=⟨λb=>G1 b\/∃ s k,H'[s]?=some (some k)/\k.frozen=false/\μ1.loc s=some b,G1.row⟩) hW' (λ_ _ h=>h) (λb hb=>.inl hb) (λs k1 b hs _ hb=>by
      obtain⟨_,_,_,_,g5,_⟩:=hW'.blk s k1 b hs hb;cases hf:k1.frozen with
      | true=>exact .inl (g5 hf)
      | false=>exact .inr ⟨s,k1,hs,hf,hb⟩) depth _ q _ hq' hvr
     exact(SE hq this).aU
    ·cases hq
   | own e u =>
    simp only[aXQ]at hq;obtain⟨r1,l0,hos,hvv⟩:=aM1 hW' hq hvr;have hb:=aJY (G2:=G1) hW ho har ee hW' hrb hos (λ_=>rfl) (λb hb=>hb) (λb hb=>.inl hb);refine⟨_,_,hb.1,hb.2,hvv _ _ _ ?_ ?_ ?_⟩
    ·have h1:¬ H.length+1<H.length:=Z
     simp[sD,h1,a68]
    ·have h1:¬ H.length+1<H.length:=Z
     simp[sD,h1,a6P]
    ·have h1:¬ H.length+1<H.length:=Z
     simp[sD,h1,shS]
  exact⟨_,hres,_,G2,μ3,rfl,b1,b2,b3⟩
 rcases hex with rfl|rfl
 ·exact IZ (λb hb=>(aEA hW ho har).base b hb) hend ds w' hI'
 ·exact IZ (λb hb=>(aEA hW ho har).base b hb) hend ds w' hI'
end
open Go Go.RowKit Go.Proofs Tryz
set_option maxHeartbeats 4000000
def cP(x:aM [.str]):oK [.bool,.str]:=match x with
 | (v0,()) =>
  bif ltI 0 (v0.size:Int) then
   bif aF 0 v0.size then bif eqI (aND v0 0) 45 then
    bif Nat.ble 1 v0.size then bif Nat.ble v0.size v0.size then some (true,(v0.extract 1 v0.size),()) else none else none
   else some (false,v0,()) else none
  else some (false,v0,())
abbrev aRC:Ent:=⟨99,_,_,cP⟩
theorem wI:Ent.OK tP aRC:=oI (aP oW) func99 Y (by rintro⟨v0,⟨⟩⟩; kernel_rfl)
def aA(x:aM [.bool,.str]):oK [.str]:=match x with
 | (v0,v1,()) =>
  bif v0 then
   bif !(eqS v1 (ByteArray.mk #[48])) then
    bif Nat.ble ((ByteArray.mk #[45]).size+v1.size) 9223372036854775807 then some (((ByteArray.mk #[45])++v1),()) else none
   else some (v1,())
  else some (v1,())
abbrev aVT:Ent:=⟨100,_,_,aA⟩
theorem JG:Ent.OK tP aVT:=oI (aP oW) func100 Y (by rintro⟨v0,v1,⟨⟩⟩; kernel_rfl)
def rL(x:aM [.str,.int .i64]):oK [.int .i64,.bool]:=match x with
 | (v0,v1,()) =>
  bif ltI v1 (v0.size:Int) then
   some (0,false,())
  else aC (F8 (v0,())) λy1 =>
  some (y1.1,true,())
abbrev aN3:Ent:=⟨98,_,_,rL⟩
theorem KE:Ent.OK tP aN3:=oI (aP (oV aHI oW)) func98 Y (by rintro⟨v0,v1,⟨⟩⟩; kernel_rfl)
def kO(x:aM [.int .i64]):oK [.str]:=match x with
 | (v0,()) =>
  aC (FY (v0,())) λy1 =>
  some (y1.1,())
abbrev aG2:Ent:=⟨69,_,_,kO⟩
theorem IJ:Ent.OK tP aG2:=oI (aP (oV aHO oW)) func69 Y (by rintro⟨v0,⟨⟩⟩; kernel_rfl)
def D5(x:aM [.str]):oK [.int .i64]:=match x with
 | (v0,()) =>
  bif eqS v0 (ByteArray.mk #[48]) then
   some (0,())
  else bif aF 0 v0.size then bif eqI (aND v0 0) 45 then
   some ((-1),())
  else some (1,()) else none
abbrev aI0:Ent:=⟨121,_,_,D5⟩
theorem ZT:Ent.OK tP aI0:=oI (aP oW) func121 Y (by rintro⟨v0,⟨⟩⟩; kernel_rfl)
def uH(x:aM [.int .u64]):oK [.str]:=match x with
 | (v0,()) =>
  aC (tH (v0,10,())) λy1 =>
  some (y1.1,())
abbrev L6:Ent:=⟨135,_,_,uH⟩
theorem IP:Ent.OK tP L6:=oI (aP (oV W2 oW)) func135 Y (by rintro⟨v0,⟨⟩⟩; kernel_rfl)
def D2(x:aM [.str]):oK [.int .u64,.bool]:=match x with
 | (v0,()) =>
  aC (uX (v0,10,64,())) λy1 =>
  some (y1.1,true,())
abbrev aL6:Ent:=⟨163,_,_,D2⟩
theorem aE6:Ent.OK tP aL6:=oI (aP (oV XY oW)) func163 Y (by rintro⟨v0,⟨⟩⟩; kernel_rfl)
def rS(x:aM [.str,.str]):oK [.int .u64,.int .u64,.bool]:=match x with
 | (v0,v1,()) =>
  bif ltI 18 (v0.size:Int) then
   some (0,0,false,())
  else bif ltI 18 (v1.size:Int) then
   some (0,0,false,())
  else aC (D2 (v0,())) λy1 =>
  aC (D2 (v1,())) λy2 =>
  some (y1.1,y2.1,true,())
abbrev FU:Ent:=⟨134,_,_,rS⟩
theorem EI:Ent.OK tP FU:=oI (aP (oV aE6 oW)) func134 Y (by rintro⟨v0,v1,⟨⟩⟩; kernel_rfl)
def fR(x:aM [.str,.str]):oK [.int .i64]:=match x with
 | (v0,v1,()) =>
  bif !(eqI (v0.size:Int) (v1.size:Int)) then
   some ((if (if (-1)<(aB .i64 ((v0.size:Int)-(v1.size:Int))) then (aB .i64 ((v0.size:Int)-(v1.size:Int))) else (-1))<1 then (if (-1)<(aB .i64 ((v0.size:Int)-(v1.size:Int))) then (aB .i64 ((v0.size:Int)-(v1.size:Int))) else (-1)) else 1),())
  else bif ltS v0 v1 then
   some ((-1),())
  else bif !(ltS v0 v1||eqS v0 v1) then
   some (1,())
  else some (0,())
abbrev U0:Ent:=⟨102,_,_,fR⟩
theorem FD:Ent.OK tP U0:=oI (aP oW) func102 Y (by rintro⟨v0,v1,⟨⟩⟩; kernel_rfl)
def IC(x:aM [.str,.str]):oK [.int .i64]:=match x with
 | (v0,v1,()) =>
  aC (D5 (v0,())) λy1 =>
  aC (D5 (v1,())) λy2 =>
  bif !(eqI y1.1 y2.1) then
   bif ltI y1.1 y2.1 then
    some ((-1),())
   else some (1,())
  else aC (cP (v0,())) λy3 =>
  aC (cP (v1,())) λy4 =>
  bif y3.1 then
   aC (fR (y4.2.1,y3.2.1,())) λy5 =>
   some (y5.1,())
  else aC (fR (y3.2.1,y4.2.1,())) λy6 =>
  some (y6.1,())
abbrev Y3:Ent:=⟨117,_,_,IC⟩
theorem aFZ:Ent.OK tP Y3:=oI (aP (oV FD (oV ZT (oV wI oW)))) func117 Y (by rintro⟨v0,v1,⟨⟩⟩; kernel_rfl)
def P8(x:aM [.str]):oK [.str]:=match x with
 | (v0,()) =>
  aC (cP (v0,())) λy1 =>
  bif y1.1 then
   aC (aA (false,y1.2.1,())) λy2 =>
   some (y2.1,())
  else aC (aA (true,y1.2.1,())) λy3 =>
  some (y3.1,())
abbrev aLI:Ent:=⟨156,_,_,P8⟩
theorem aCD:Ent.OK tP aLI:=oI (aP (oV JG (oV wI oW))) func156 Y (by rintro⟨v0,⟨⟩⟩; kernel_rfl)
def RE(x:aM [.str]):oK [.str]:=match x with
 | (v0,()) =>
  aC (cP (v0,())) λy1 =>
  some (y1.2.1,())
abbrev aLE:Ent:=⟨118,_,_,RE⟩
theorem aNF:Ent.OK tP aLE:=oI (aP (oV wI oW)) func118 Y (by rintro⟨v0,⟨⟩⟩; kernel_rfl)
abbrev eU:List (Nat×Kd):=[(0,.hnd 1),(2,.int .i64),(3,.int .i64),(100000,.ar 5 (.int .u8))]
abbrev hX:List (Ex×List (Nat×Kd)):=[(.exit 0,[(100000,.ar 5 (.int .u8))])]
def fW(x:Shape.den eU):oS eU hX:=match x with
 | (v0,v2,v3,u00,()) =>
  bif ltI v2 v3 then
   bif aF v3 v0.2.2 then bif Nat.blt ((v0.2.1+v3.toNat)*1) (dE u00 v0.1) then bif aF v2 v0.2.2 then bif Nat.blt ((v0.2.1+v2.toNat)*1) (dE u00 v0.1) then bif aF v2 v0.2.2 then bif Nat.blt ((v0.2.1+v2.toNat)*1) (dE u00 v0.1) then bif aF v3 v0.2.2 then bif Nat.blt ((v0.2.1+v3.toNat)*1) (dE (xM u00 v0.1 ((v0.2.1+v2.toNat)*1) (dU u00 v0.1 ((v0.2.1+v3.toNat)*1) 0)) v0.1) then some (.inl ((v0.1,v0.2.1,v0.2.2),(aB .i64 (v2+1)),(aB .i64 (v3-1)),(xM (xM u00 v0.1 ((v0.2.1+v2.toNat)*1) (dU u00 v0.1 ((v0.2.1+v3.toNat)*1) 0)) v0.1 ((v0.2.1+v3.toNat)*1) (dU u00 v0.1 ((v0.2.1+v2.toNat)*1) 0)),())) else none else none else none else none else none else none else none else none
  else some (.inr ((u00,())))
def kB(x:Shape.den eU):oX hX:=aX fW (2^64) x
def eQ(u0:Unit)(x:aM [.hnd 1])(A:List (List Int)):Option ((aM [])×List (List Int)):=match x with
 | (v0,()) =>
  aC (kB ((v0.1,v0.2.1,v0.2.2),0,(aB .i64 (((v0.2.2:Nat):Int)-1)),A,())) λz1 =>
  some ((()),z1.1)
def nX:Code:=dN f165
abbrev uE:Env:=FN []
theorem yV:fX tP uE:=aP trivial
def sH:Code:=j7 nX 0
def tE(id:Nat):Option eY:=bif Nat.beq id 1 then some ⟨eU,hX,kB⟩ else none
theorem H6:∀ x,lV tP uE 28 (aQ f165) tE sH eU hX x=fW x:=by
 rintro⟨v0,v2,v3,u00,⟨⟩⟩
 kernel_rfl
theorem I1:fN tP 28 sH ⟨eU,hX,kB⟩:=gT yV.callee bH.mixed _ (aT (l:=[]) Y trivial) H6
theorem JL:bA nX=[sH]:=Y
theorem KO:∀ l x A,HG tP uE f165 (aQ f165) tE nX 5 (.int .u8) .none [.hnd 1] (.data []) l x A=eQ l x A:=by
 rintro u0 ⟨v0,⟨⟩⟩ A
 kernel_rfl
theorem N3:N2 tP 165 5 (.int .u8) .none [.hnd 1] (.data []) eQ:=AK bH yV func165 (c:=nX) Y (keep:=aQ f165) (lt:=tE) (by rfl) (aT JL ⟨gR (i:=1) Y rfl I1,trivial⟩) KO
theorem LS:aY8 tP 165 5 (.int .u8) [] (aBP eQ):=aPL N3 (by rfl) (by rfl)
abbrev BW:Shr:=(165,TD 1 (a5K 5 (.int .u8) [] (aBP eQ)))
theorem JN:qU tP BW:=sR (aYJ LS)
abbrev xV:List (Nat×Kd):=[(0,.list (.int .u64))]
abbrev FR:List (Ex×List (Nat×Kd)):=[(.exit 0,[(0,.list (.int .u64))])]
def u7(x:Shape.den xV):oS xV FR:=match x with
 | (v0,()) =>
  bif ltI 0 (v0.length:Int) then
   bif aF (aB .i64 ((v0.length:Int)-1)) v0.length then bif eqI (v0.getD ((aB .i64 ((v0.length:Int)-1)).toNat) 0) 0 then
    bif !(ltI (aB .i64 ((v0.length:Int)-1)) 0) then bif Nat.ble 0 ((aB .i64 ((v0.length:Int)-1)).toNat) then bif Nat.ble ((aB .i64 ((v0.length:Int)-1)).toNat) v0.length then some (.inl (((v0.drop 0).take ((aB .i64 ((v0.length:Int)-1)).toNat-0)),())) else none else none else none
   else some (.inr ((v0,()))) else none
  else some (.inr ((v0,())))
def D9(x:Shape.den xV):oX FR:=aX u7 (2^64) x
def vO(x:aM [.list (.int .u64)]):oK [.list (.int .u64)]:=match x with
 | (v0,()) =>
  aC (D9 (v0,())) λz1 =>
  some (z1.1,())
abbrev JW:Ent:=⟨138,_,_,vO⟩
theorem T1:Ent.OK tP JW:=oU (aP oW) func138 1 (lp:=D9) rfl Y (by rintro⟨v0,⟨⟩⟩; kernel_rfl) (by rintro⟨v0,⟨⟩⟩; kernel_rfl)
abbrev gF:List (Nat×Kd):=[(0,.own 172 (.int .u64)),(100000,.ar 172 (.int .u64))]
abbrev kL:List (Ex×List (Nat×Kd)):=[(.exit 0,[(0,.own 172 (.int .u64)),(100000,.ar 172 (.int .u64))])]
def iU(x:Shape.den gF):oS gF kL:=match x with
 | (v0,u00,()) =>
  bif ltI 0 (v0.length:Int) then
   bif aF (aB .i64 ((v0.length:Int)-1)) v0.length then bif Nat.blt ((aB .i64 ((v0.length:Int)-1)).toNat) v0.length then bif eqI (v0.getD ((aB .i64 ((v0.length:Int)-1)).toNat) 0) 0 then
    bif !(ltI (aB .i64 ((v0.length:Int)-1)) 0) then bif Nat.ble 0 ((aB .i64 ((v0.length:Int)-1)).toNat) then bif Nat.ble ((aB .i64 ((v0.length:Int)-1)).toNat) v0.length then bif Nat.blt 0 v0.length then some (.inl ((v0.take ((aB .i64 ((v0.length:Int)-1)).toNat-0)),u00,())) else none else none else none else none
   else some (.inr ((v0,u00,()))) else none else none
  else some (.inr ((v0,u00,())))
def sI(x:Shape.den gF):oX kL:=aX iU (2^64) x
def bD(v0:List Int)(x:aM [])(A:List (List Int)):Option ((List Int)×List (List Int)):=match x with
 | (()) =>
  aC (sI (v0,A,())) λz1 =>
  some (z1.1,z1.2.1)
def rV:Code:=dN f138
abbrev xG:Env:=FN []
theorem CS:fX tP xG:=aP trivial
def vB:Code:=j7 rV 0
def wA(id:Nat):Option eY:=bif Nat.beq id 1 then some ⟨gF,kL,sI⟩ else none
theorem LC:∀ x,lV tP xG 21 (aQ f138) wA vB gF kL x=iU x:=by
 rintro⟨v0,u00,⟨⟩⟩
 kernel_rfl
theorem LR:fN tP 21 vB ⟨gF,kL,sI⟩:=gT CS.callee bH.mixed _ (aT (l:=[]) Y trivial) LC
theorem NG:bA rV=[vB]:=Y
theorem PE:∀ l x A,HG tP xG f138 (aQ f138) wA rV 172 (.int .u64) (.own 172 (.int .u64)) [] (.own 172 (.int .u64)) l x A=bD l x A:=by
 rintro u0 ⟨⟨⟩⟩ A
 kernel_rfl
theorem RV:N2 tP 138 172 (.int .u64) (.own 172 (.int .u64)) [] (.own 172 (.int .u64)) bD:=AK bH CS func138 (c:=rV) Y (keep:=aQ f138) (lt:=wA) (by rfl) (aT NG ⟨gR (i:=1) Y rfl LR,trivial⟩) PE
abbrev fZ:Shr:=(138,TD 1 (arH 172 (.int .u64) (.own 172 (.int .u64)) [] (.own 172 (.int .u64)) bD))
theorem gM:qU tP fZ:=sR (g:=138) (f:=arH 172 (.int .u64) (.own 172 (.int .u64)) [] (.own 172 (.int .u64)) bD) (C5 RV)
abbrev rE:List (Nat×Kd):=[(0,.str),(3,.own 172 (.int .u64)),(4,.int .i64),(5,.int .u64),(25,.list (.int .u8)),(26,.int .i64),(27,.int .i64),(100000,.ar 172 (.int .u64))]
abbrev u9:List (Ex×List (Nat×Kd)):=[(.exit 2,[(0,.str),(3,.own 172 (.int .u64)),(4,.int .i64),(5,.int .u64),(100000,.ar 172 (.int .u64))])]
def r7(x:Shape.den rE):oS rE u9:=match x with
 | (v0,v3,v4,v5,v25,v26,v27,u00,()) =>
  bif ltI v27 v26 then
   bif aF v27 v25.length then some (.inl (v0,v3,v4,(aB .u64 ((aB .u64 (10*v5))+(IntKind.wrap .u64 (aB .u8 ((v25.getD v27.toNat 0)-48))))),v25,v26,(aB .i64 (v27+1)),u00,())) else none
  else some (.inr ((v0,v3,v4,v5,u00,())))
def wK(x:Shape.den rE):oX u9:=aX r7 (2^64) x
abbrev rB:List (Nat×Kd):=[(0,.str),(3,.own 172 (.int .u64)),(4,.int .i64),(100000,.ar 172 (.int .u64))]
abbrev uR:List (Ex×List (Nat×Kd)):=[(.exit 0,[(3,.own 172 (.int .u64)),(100000,.ar 172 (.int .u64))])]
def sK(x:Shape.den rB):oS rB uR:=match x with
 | (v0,v3,v4,u00,()) =>
  bif ltI 0 v4 then
   bif !(ltI (if 0<(aB .i64 (v4-9)) then (aB .i64 (v4-9)) else 0) 0) then bif !(ltI v4 0) then bif Nat.ble ((if 0<(aB .i64 (v4-9)) then (aB .i64 (v4-9)) else 0).toNat) v4.toNat then bif Nat.ble v4.toNat v0.size then aC (wK (v0,v3,v4,0,(TU (v0.extract ((if 0<(aB .i64 (v4-9)) then (aB .i64 (v4-9)) else 0).toNat) v4.toNat)),((TU (v0.extract ((if 0<(aB .i64 (v4-9)) then (aB .i64 (v4-9)) else 0).toNat) v4.toNat)).length:Int),0,u00,())) λz2 =>
   bif Nat.ble [z2.2.2.2.1].length 1048576 then bif Nat.ble z2.2.1.length 1048576 then some (.inl (z2.1,(z2.2.1++[z2.2.2.2.1]),(aB .i64 (z2.2.2.1-9)),z2.2.2.2.2.1,())) else none else none else none else none else none else none
  else some (.inr ((v3,u00,())))
def wU(x:Shape.den rB):oX uR:=aX sK (2^64) x
def eD(u0:Unit)(x:aM [.str])(A:List (List Int)):Option ((List Int)×List (List Int)):=match x with
 | (v0,()) =>
  bif !(ltI (aB .i64 ((aB .i64 ((v0.size:Int).tdiv 9))+1)) 0) then bif !(ltI 1048576 (aB .i64 ((aB .i64 ((v0.size:Int).tdiv 9))+1))) then aC (wU (v0,(List.replicate 0 (0:Ty.den (.int .u64))),(v0.size:Int),A,())) λz3 =>
  aC (bD z3.1 (()) z3.2.1) λy4 =>
  some y4 else none else none
def GC:Code:=dN f136
abbrev GD:Env:=PI [] [fZ]
theorem GL:fX tP GD:=pN trivial ⟨gM,trivial⟩
def wS:Code:=j7 GC 0
def JB:Code:=j7 wS 0
def EP(id:Nat):Option eY:=bif Nat.beq id 7 then some ⟨rE,u9,wK⟩ else bif Nat.beq id 3 then some ⟨rB,uR,wU⟩ else none
theorem XX:∀ x,lV tP GD 44 (aQ f136) EP JB rE u9 x=r7 x:=by
 rintro⟨v0,v3,v4,v5,v25,v26,v27,u00,⟨⟩⟩
 kernel_rfl
theorem Z9:fN tP 44 JB ⟨rE,u9,wK⟩:=gT GL.callee bH.mixed _ (aT (l:=[]) Y trivial) XX
theorem YI:∀ x,lV tP GD 44 (aQ f136) EP wS rB uR x=sK x:=by
 rintro⟨v0,v3,v4,u00,⟨⟩⟩
 kernel_rfl
theorem aDI:bA wS=[JB]:=Y
theorem Y5:fN tP 44 wS ⟨rB,uR,wU⟩:=gT GL.callee bH.mixed _ (aT aDI ⟨gR (i:=7) Y rfl Z9,trivial⟩) YI
theorem aBI:bA GC=[wS]:=Y
theorem aD3:∀ l x A,HG tP GD f136 (aQ f136) EP GC 172 (.int .u64) .none [.str] (.own 172 (.int .u64)) l x A=eD l x A:=by
 rintro u0 ⟨v0,⟨⟩⟩ A
 kernel_rfl
theorem aHH:N2 tP 136 172 (.int .u64) .none [.str] (.own 172 (.int .u64)) eD:=AK bH GL func136 (c:=GC) Y (keep:=aQ f136) (lt:=EP) (by rfl) (aT aBI ⟨gR (i:=3) Y rfl Y5,trivial⟩) aD3
abbrev BR:Shr:=(136,TD 0 (arH 172 (.int .u64) .none [.str] (.own 172 (.int .u64)) eD))
theorem AM:qU tP BR:=sR (g:=136) (f:=arH 172 (.int .u64) .none [.str] (.own 172 (.int .u64)) eD) (C5 aHH)
abbrev uS:List (Nat×Kd):=[(0,.list (.int .u64)),(1,.list (.int .u64)),(5,.int .i64)]
abbrev DN:List (Ex×List (Nat×Kd)):=[(.ret,[(4,.int .i64)]),(.exit 0,[])]
def nF(x:Shape.den uS):oS uS DN:=match x with
 | (v0,v1,v5,()) =>
  bif !(ltI v5 0) then
   bif aF v5 v0.length then bif aF v5 v1.length then bif ltI (v0.getD v5.toNat 0) (v1.getD v5.toNat 0) then
    some (.inr (.inl ((-1),())))
   else bif aF v5 v0.length then bif aF v5 v1.length then bif ltI (v1.getD v5.toNat 0) (v0.getD v5.toNat 0) then
    some (.inr (.inl (1,())))
   else some (.inl (v0,v1,(aB .i64 (v5-1)),())) else none else none else none else none
  else some (.inr (.inr ((()))))
def BP(x:Shape.den uS):oX DN:=aX nF (2^64) x
def sP(x:aM [.list (.int .u64),.list (.int .u64)]):oK [.int .i64]:=match x with
 | (v0,v1,()) =>
  bif !(eqI (v0.length:Int) (v1.length:Int)) then
   some ((if (if (-1)<(aB .i64 ((v0.length:Int)-(v1.length:Int))) then (aB .i64 ((v0.length:Int)-(v1.length:Int))) else (-1))<1 then (if (-1)<(aB .i64 ((v0.length:Int)-(v1.length:Int))) then (aB .i64 ((v0.length:Int)-(v1.length:Int))) else (-1)) else 1),())
  else aC (BP (v0,v1,(aB .i64 ((v0.length:Int)-1)),())) λz1 =>
  mH z1 (λa2=>some (a2.1,())) λb3 =>
  some (0,())
abbrev HB:Ent:=⟨175,_,_,sP⟩
theorem QB:Ent.OK tP HB:=oU (aP oW) func175 4 (lp:=BP) rfl Y (by rintro⟨v0,v1,v5,⟨⟩⟩; kernel_rfl) (by rintro⟨v0,v1,⟨⟩⟩; kernel_rfl)
abbrev gH:List (Nat×Kd):=[(1,.list (.int .u64)),(5,.own 172 (.int .u64)),(6,.int .i64),(7,.int .u64),(8,.int .u64),(17,.list (.int .u64)),(18,.int .i64),(19,.int .i64),(24,.list (.int .u64)),(25,.int .i64),(26,.int .i64),(100000,.ar 172 (.int .u64))]
abbrev j8:List (Ex×List (Nat×Kd)):=[(.exit 2,[(1,.list (.int .u64)),(5,.own 172 (.int .u64)),(6,.int .i64),(8,.int .u64),(17,.list (.int .u64)),(18,.int .i64),(19,.int .i64),(100000,.ar 172 (.int .u64))])]
def iQ(x:Shape.den gH):oS gH j8:=match x with
 | (v1,v5,v6,v7,v8,v17,v18,v19,v24,v25,v26,u00,()) =>
  bif ltI v26 v25 then
   bif aF v26 v24.length then bif aF (aB .i64 (v6+v26)) v5.length then bif Nat.blt ((aB .i64 (v6+v26)).toNat) v5.length then bif aF (aB .i64 (v6+v26)) v5.length then bif Nat.blt ((aB .i64 (v6+v26)).toNat) v5.length then some (.inl (v1,(v5.set ((aB .i64 (v6+v26)).toNat) ((aB .u64 (v8+(aB .u64 ((v5.getD ((aB .i64 (v6+v26)).toNat) 0)+(aB .u64 (v7*(v24.getD v26.toNat 0))))))).tmod 1000000000)),v6,v7,(aB .u64 ((aB .u64 (v8+(aB .u64 ((v5.getD ((aB .i64 (v6+v26)).toNat) 0)+(aB .u64 (v7*(v24.getD v26.toNat 0))))))).tdiv 1000000000)),v17,v18,v19,v24,v25,(aB .i64 (v26+1)),u00,())) else none else none else none else none else none
  else some (.inr ((v1,v5,v6,v8,v17,v18,v19,u00,())))
def mL(x:Shape.den gH):oX j8:=aX iQ (2^64) x
abbrev gL:List (Nat×Kd):=[(1,.list (.int .u64)),(5,.own 172 (.int .u64)),(17,.list (.int .u64)),(18,.int .i64),(19,.int .i64),(100000,.ar 172 (.int .u64))]
abbrev kG:List (Ex×List (Nat×Kd)):=[(.exit 0,[(5,.own 172 (.int .u64)),(100000,.ar 172 (.int .u64))])]
def iW(x:Shape.den gL):oS gL kG:=match x with
 | (v1,v5,v17,v18,v19,u00,()) =>
  bif ltI v19 v18 then
   bif aF v19 v17.length then aC (mL (v1,v5,v19,(v17.getD v19.toNat 0),0,v17,v18,v19,v1,(v1.length:Int),0,u00,())) λz2 =>
   bif aF (aB .i64 (z2.2.2.1+(z2.1.length:Int))) z2.2.1.length then bif Nat.blt ((aB .i64 (z2.2.2.1+(z2.1.length:Int))).toNat) z2.2.1.length then some (.inl (z2.1,(z2.2.1.set ((aB .i64 (z2.2.2.1+(z2.1.length:Int))).toNat) z2.2.2.2.1),z2.2.2.2.2.1,z2.2.2.2.2.2.1,(aB .i64 (z2.2.2.2.2.2.2.1+1)),z2.2.2.2.2.2.2.2.1,())) else none else none else none
  else some (.inr ((v5,u00,())))
def mJ(x:Shape.den gL):oX kG:=aX iW (2^64) x
def eS(u0:Unit)(x:aM [.list (.int .u64),.list (.int .u64)])(A:List (List Int)):Option ((List Int)×List (List Int)):=match x with
 | (v0,v1,()) =>
  bif !(ltI (aB .i64 ((v0.length:Int)+(v1.length:Int))) 0) then bif !(ltI (aB .i64 ((v0.length:Int)+(v1.length:Int))) (aB .i64 ((v0.length:Int)+(v1.length:Int)))) then bif !(ltI 1048576 (aB .i64 ((v0.length:Int)+(v1.length:Int)))) then aC (mJ (v1,(List.replicate ((aB .i64 ((v0.length:Int)+(v1.length:Int))).toNat) (0:Ty.den (.int .u64))),v0,(v0.length:Int),0,A,())) λz3 =>
  aC (bD z3.1 (()) z3.2.1) λy4 =>
  some y4 else none else none else none
def rN:Code:=dN f141
abbrev rQ:Env:=PI [] [fZ]
theorem uD:fX tP rQ:=pN trivial ⟨gM,trivial⟩
def lF:Code:=j7 rN 0
def uN:Code:=j7 lF 0
def qI(id:Nat):Option eY:=bif Nat.beq id 7 then some ⟨gH,j8,mL⟩ else bif Nat.beq id 3 then some ⟨gL,kG,mJ⟩ else none
theorem KT:∀ x,lV tP rQ 63 (aQ f141) qI uN gH j8 x=iQ x:=by
 rintro⟨v1,v5,v6,v7,v8,v17,v18,v19,v24,v25,v26,u00,⟨⟩⟩
 kernel_rfl
theorem LN:fN tP 63 uN ⟨gH,j8,mL⟩:=gT uD.callee bH.mixed _ (aT (l:=[]) Y trivial) KT
theorem KY:∀ x,lV tP rQ 63 (aQ f141) qI lF gL kG x=iW x:=by
 rintro⟨v1,v5,v17,v18,v19,u00,⟨⟩⟩
 kernel_rfl
theorem PK:bA lF=[uN]:=Y
theorem MY:fN tP 63 lF ⟨gL,kG,mJ⟩:=gT uD.callee bH.mixed _ (aT PK ⟨gR (i:=7) Y rfl LN,trivial⟩) KY
theorem NN:bA rN=[lF]:=Y
theorem PC:∀ l x A,HG tP rQ f141 (aQ f141) qI rN 172 (.int .u64) .none [.list (.int .u64),.list (.int .u64)] (.own 172 (.int .u64)) l x A=eS l x A:=by
 rintro u0 ⟨v0,v1,⟨⟩⟩ A
 kernel_rfl
theorem R1:N2 tP 141 172 (.int .u64) .none [.list (.int .u64),.list (.int .u64)] (.own 172 (.int .u64)) eS:=AK bH uD func141 (c:=rN) Y (keep:=aQ f141) (lt:=qI) (by rfl) (aT NN ⟨gR (i:=3) Y rfl MY,trivial⟩) PC
abbrev yH:Shr:=(141,TD 0 (arH 172 (.int .u64) .none [.list (.int .u64),.list (.int .u64)] (.own 172 (.int .u64)) eS))
theorem CT:qU tP yH:=sR (g:=141) (f:=arH 172 (.int .u64) .none [.list (.int .u64),.list (.int .u64)] (.own 172 (.int .u64)) eS) (C5 R1)
def fL(u0:Unit) (x:aM [.list (.int .u64),.int .u64]) (A:List (List Int)):Option ((List Int)×List (List Int)):=match x with
 | (v0,v1,()) =>
  aC (vO ([v1],())) λy1 =>
  aC (eS () (v0,y1.1,()) A) λy2 =>
  some y2
def vY:Code:=dN f185
abbrev E3:Env:=PI [JW] [yH]
theorem N1:fX tP E3:=pN ⟨T1,trivial⟩ ⟨CT,trivial⟩
def DL(id:Nat):Option eY:=none
theorem LP:bA vY=[]:=Y
theorem NC:∀ l x A,HG tP E3 f185 (aQ f185) DL vY 172 (.int .u64) .none [.list (.int .u64),.int .u64] (.own 172 (.int .u64)) l x A=fL l x A:=by
 rintro u0 ⟨v0,v1,⟨⟩⟩ A
 kernel_rfl
theorem QH:N2 tP 185 172 (.int .u64) .none [.list (.int .u64),.int .u64] (.own 172 (.int .u64)) fL:=AK bH N1 func185 (c:=vY) Y (keep:=aQ f185) (lt:=DL) (by rfl) (aT LP trivial) NC
abbrev EW:Shr:=(185,TD 0 (arH 172 (.int .u64) .none [.list (.int .u64),.int .u64] (.own 172 (.int .u64)) fL))
theorem M4:qU tP EW:=sR (g:=185) (f:=arH 172 (.int .u64) .none [.list (.int .u64),.int .u64] (.own 172 (.int .u64)) fL) (C5 QH)
abbrev gW:List (Nat×Kd):=[(0,.list (.int .u64)),(1,.int .u64),(6,.own 172 (.int .u64)),(7,.int .u64),(8,.int .i64),(100000,.ar 172 (.int .u64))]
abbrev lB:List (Ex×List (Nat×Kd)):=[(.exit 0,[(6,.own 172 (.int .u64)),(7,.int .u64),(100000,.ar 172 (.int .u64))])]
def jL(x:Shape.den gW):oS gW lB:=match x with
 | (v0,v1,v6,v7,v8,u00,()) =>
  bif !(ltI v8 0) then
   bif aF v8 v0.length then bif eqI v1 0 then none else bif aF v8 v6.length then bif Nat.blt v8.toNat v6.length then bif eqI v1 0 then none else some (.inl (v0,v1,(v6.set v8.toNat (aB .u64 ((aB .u64 ((aB .u64 (v7*1000000000))+(v0.getD v8.toNat 0))).tdiv v1))),((aB .u64 ((aB .u64 (v7*1000000000))+(v0.getD v8.toNat 0))).tmod v1),(aB .i64 (v8-1)),u00,())) else none else none else none
  else some (.inr ((v6,v7,u00,())))
def nJ(x:Shape.den gW):oX lB:=aX jL (2^64) x
def fE(u0:Unit)(x:aM [.list (.int .u64),.int .u64])(A:List (List Int)):Option ((aM [.list (.int .u64),.int .u64])×List (List Int)):=match x with
 | (v0,v1,()) =>
  bif !(ltI (v0.length:Int) 0) then bif !(ltI (v0.length:Int) (v0.length:Int)) then bif !(ltI 1048576 (v0.length:Int)) then aC (nJ (v0,v1,(List.replicate ((v0.length:Int).toNat) (0:Ty.den (.int .u64))),0,(aB .i64 ((v0.length:Int)-1)),A,())) λz1 =>
  aC (bD z1.1 (()) z1.2.2.1) λy2 =>
  some ((y2.1,z1.2.1,()),y2.2) else none else none else none
def s8:Code:=dN f176
abbrev zV:Env:=PI [] [fZ]
theorem C1:fX tP zV:=pN trivial ⟨gM,trivial⟩
def vU:Code:=j7 s8 0
def xH(id:Nat):Option eY:=bif Nat.beq id 4 then some ⟨gW,lB,nJ⟩ else none
theorem ML:∀ x,lV tP zV 38 (aQ f176) xH vU gW lB x=jL x:=by
 rintro⟨v0,v1,v6,v7,v8,u00,⟨⟩⟩
 kernel_rfl
theorem NV:fN tP 38 vU ⟨gW,lB,nJ⟩:=gT C1.callee bH.mixed _ (aT (l:=[]) Y trivial) ML
theorem OU:bA s8=[vU]:=Y
theorem QM:∀ l x A,HG tP zV f176 (aQ f176) xH s8 172 (.int .u64) .none [.list (.int .u64),.int .u64] (.data [.list (.int .u64),.int .u64]) l x A=fE l x A:=by
 rintro u0 ⟨v0,v1,⟨⟩⟩ A
 kernel_rfl
theorem TT:N2 tP 176 172 (.int .u64) .none [.list (.int .u64),.int .u64] (.data [.list (.int .u64),.int .u64]) fE:=AK bH C1 func176 (c:=s8) Y (keep:=aQ f176) (lt:=xH) (by rfl) (aT OU ⟨gR (i:=4) Y rfl NV,trivial⟩) QM
abbrev zJ:Shr:=(176,TD 0 (arH 172 (.int .u64) .none [.list (.int .u64),.int .u64] (.data [.list (.int .u64),.int .u64]) fE))
theorem DR:qU tP zJ:=sR (g:=176) (f:=arH 172 (.int .u64) .none [.list (.int .u64),.int .u64] (.data [.list (.int .u64),.int .u64]) fE) (C5 TT)
abbrev fP:List (Nat×Kd):=[(0,.hnd 1),(1,.list (.int .u64)),(2,.int .u64),(3,.int .i64),(9,.int .i64),(10,.int .u64),(11,.int .i64),(100000,.ar 172 (.int .u64))]
abbrev jC:List (Ex×List (Nat×Kd)):=[(.exit 0,[(9,.int .i64),(100000,.ar 172 (.int .u64))])]
def eP(x:Shape.den fP):oS fP jC:=match x with
 | (v0,v1,v2,v3,v9,v10,v11,u00,()) =>
  bif !(ltI (v1.length:Int) v11) then
   bif ltI v11 (v1.length:Int) then
    bif aF v11 v1.length then bif aF (aB .i64 (v3+v11)) v0.2.2 then bif Nat.blt ((v0.2.1+(aB .i64 (v3+v11)).toNat)*1) (dE u00 v0.1) then bif ltI (aB .i64 ((aB .i64 ((IntKind.wrap .i64 (dU u00 v0.1 ((v0.2.1+(aB .i64 (v3+v11)).toNat)*1) 0))-(IntKind.wrap .i64 ((aB .u64 (v10+(aB .u64 (v2*(v1.getD v11.toNat 0))))).tmod 1000000000))))-v9)) 0 then
     bif aF (aB .i64 (v3+v11)) v0.2.2 then bif Nat.blt ((v0.2.1+(aB .i64 (v3+v11)).toNat)*1) (dE u00 v0.1) then some (.inl ((v0.1,v0.2.1,v0.2.2),v1,v2,v3,1,(aB .u64 ((aB .u64 (v10+(aB .u64 (v2*(v1.getD v11.toNat 0))))).tdiv 1000000000)),(aB .i64 (v11+1)),(xM u00 v0.1 ((v0.2.1+(aB .i64 (v3+v11)).toNat)*1) (IntKind.wrap .u64 (aB .i64 ((aB .i64 ((aB .i64 ((IntKind.wrap .i64 (dU u00 v0.1 ((v0.2.1+(aB .i64 (v3+v11)).toNat)*1) 0))-(IntKind.wrap .i64 ((aB .u64 (v10+(aB .u64 (v2*(v1.getD v11.toNat 0))))).tmod 1000000000))))-v9))+1000000000)))),())) else none else none
    else bif aF (aB .i64 (v3+v11)) v0.2.2 then bif Nat.blt ((v0.2.1+(aB .i64 (v3+v11)).toNat)*1) (dE u00 v0.1) then some (.inl ((v0.1,v0.2.1,v0.2.2),v1,v2,v3,0,(aB .u64 ((aB .u64 (v10+(aB .u64 (v2*(v1.getD v11.toNat 0))))).tdiv 1000000000)),(aB .i64 (v11+1)),(xM u00 v0.1 ((v0.2.1+(aB .i64 (v3+v11)).toNat)*1) (IntKind.wrap .u64 (aB .i64 ((aB .i64 ((IntKind.wrap .i64 (dU u00 v0.1 ((v0.2.1+(aB .i64 (v3+v11)).toNat)*1) 0))-(IntKind.wrap .i64 ((aB .u64 (v10+(aB .u64 (v2*(v1.getD v11.toNat 0))))).tmod 1000000000))))-v9)))),())) else none else none else none else none else none
   else bif aF (aB .i64 (v3+v11)) v0.2.2 then bif Nat.blt ((v0.2.1+(aB .i64 (v3+v11)).toNat)*1) (dE u00 v0.1) then bif ltI (aB .i64 ((aB .i64 ((IntKind.wrap .i64 (dU u00 v0.1 ((v0.2.1+(aB .i64 (v3+v11)).toNat)*1) 0))-(IntKind.wrap .i64 (v10.tmod 1000000000))))-v9)) 0 then
    bif aF (aB .i64 (v3+v11)) v0.2.2 then bif Nat.blt ((v0.2.1+(aB .i64 (v3+v11)).toNat)*1) (dE u00 v0.1) then some (.inl ((v0.1,v0.2.1,v0.2.2),v1,v2,v3,1,(aB .u64 (v10.tdiv 1000000000)),(aB .i64 (v11+1)),(xM u00 v0.1 ((v0.2.1+(aB .i64 (v3+v11)).toNat)*1) (IntKind.wrap .u64 (aB .i64 ((aB .i64 ((aB .i64 ((IntKind.wrap .i64 (dU u00 v0.1 ((v0.2.1+(aB .i64 (v3+v11)).toNat)*1) 0))-(IntKind.wrap .i64 (v10.tmod 1000000000))))-v9))+1000000000)))),())) else none else none
   else bif aF (aB .i64 (v3+v11)) v0.2.2 then bif Nat.blt ((v0.2.1+(aB .i64 (v3+v11)).toNat)*1) (dE u00 v0.1) then some (.inl ((v0.1,v0.2.1,v0.2.2),v1,v2,v3,0,(aB .u64 (v10.tdiv 1000000000)),(aB .i64 (v11+1)),(xM u00 v0.1 ((v0.2.1+(aB .i64 (v3+v11)).toNat)*1) (IntKind.wrap .u64 (aB .i64 ((aB .i64 ((IntKind.wrap .i64 (dU u00 v0.1 ((v0.2.1+(aB .i64 (v3+v11)).toNat)*1) 0))-(IntKind.wrap .i64 (v10.tmod 1000000000))))-v9)))),())) else none else none else none else none
  else some (.inr ((v9,u00,())))
def n8(x:Shape.den fP):oX jC:=aX eP (2^64) x
def eM(u0:Unit)(x:aM [.hnd 1,.list (.int .u64),.int .u64,.int .i64])(A:List (List Int)):Option ((aM [.bool])×List (List Int)):=match x with
 | (v0,v1,v2,v3,()) =>
  aC (n8 ((v0.1,v0.2.1,v0.2.2),v1,v2,v3,0,0,0,A,())) λz1 =>
  some ((ltI 0 z1.1,()),z1.2.1)
def uC:Code:=dN f140
abbrev AR:Env:=FN []
theorem E4:fX tP AR:=aP trivial
def xF:Code:=j7 uC 0
def zZ(id:Nat):Option eY:=bif Nat.beq id 4 then some ⟨fP,jC,n8⟩ else none
theorem NK:∀ x,lV tP AR 59 (aQ f140) zZ xF fP jC x=eP x:=by
 rintro⟨v0,v1,v2,v3,v9,v10,v11,u00,⟨⟩⟩
 kernel_rfl
theorem O6:fN tP 59 xF ⟨fP,jC,n8⟩:=gT E4.callee bH.mixed _ (aT (l:=[]) Y trivial) NK
theorem QX:bA uC=[xF]:=Y
theorem RY:∀ l x A,HG tP AR f140 (aQ f140) zZ uC 172 (.int .u64) .none [.hnd 1,.list (.int .u64),.int .u64,.int .i64] (.data [.bool]) l x A=eM l x A:=by
 rintro u0 ⟨v0,v1,v2,v3,⟨⟩⟩ A
 kernel_rfl
theorem UC:N2 tP 140 172 (.int .u64) .none [.hnd 1,.list (.int .u64),.int .u64,.int .i64] (.data [.bool]) eM:=AK bH E4 func140 (c:=uC) Y (keep:=aQ f140) (lt:=zZ) (by rfl) (aT QX ⟨gR (i:=4) Y rfl O6,trivial⟩) RY
theorem TZ:aXU tP 140 172 (.int .u64) [.list (.int .u64),.int .u64,.int .i64] [.bool] (aB1 eM):=aKK UC (by rfl) (by rfl) (by rfl)
abbrev zY:Shr:=(140,TD 1 (aY7 172 (.int .u64) [.list (.int .u64),.int .u64,.int .i64] [.bool] (aB1 eM)))
theorem D8:qU tP zY:=sR (a4F TZ)
abbrev jF:List (Nat×Kd):=[(0,.hnd 1),(1,.list (.int .u64)),(2,.int .i64),(6,.int .u64),(7,.int .i64),(100000,.ar 172 (.int .u64))]
abbrev l9:List (Ex×List (Nat×Kd)):=[(.exit 0,[(100000,.ar 172 (.int .u64))])]
def eL(x:Shape.den jF):oS jF l9:=match x with
 | (v0,v1,v2,v6,v7,u00,()) =>
  bif !(ltI (v1.length:Int) v7) then
   bif aF (aB .i64 (v2+v7)) v0.2.2 then bif Nat.blt ((v0.2.1+(aB .i64 (v2+v7)).toNat)*1) (dE u00 v0.1) then bif ltI v7 (v1.length:Int) then
    bif aF v7 v1.length then bif aF (aB .i64 (v2+v7)) v0.2.2 then bif Nat.blt ((v0.2.1+(aB .i64 (v2+v7)).toNat)*1) (dE u00 v0.1) then some (.inl ((v0.1,v0.2.1,v0.2.2),v1,v2,(aB .u64 ((aB .u64 ((aB .u64 (v6+(dU u00 v0.1 ((v0.2.1+(aB .i64 (v2+v7)).toNat)*1) 0)))+(v1.getD v7.toNat 0))).tdiv 1000000000)),(aB .i64 (v7+1)),(xM u00 v0.1 ((v0.2.1+(aB .i64 (v2+v7)).toNat)*1) ((aB .u64 ((aB .u64 (v6+(dU u00 v0.1 ((v0.2.1+(aB .i64 (v2+v7)).toNat)*1) 0)))+(v1.getD v7.toNat 0))).tmod 1000000000)),())) else none else none else none
   else bif aF (aB .i64 (v2+v7)) v0.2.2 then bif Nat.blt ((v0.2.1+(aB .i64 (v2+v7)).toNat)*1) (dE u00 v0.1) then some (.inl ((v0.1,v0.2.1,v0.2.2),v1,v2,(aB .u64 ((aB .u64 (v6+(dU u00 v0.1 ((v0.2.1+(aB .i64 (v2+v7)).toNat)*1) 0))).tdiv 1000000000)),(aB .i64 (v7+1)),(xM u00 v0.1 ((v0.2.1+(aB .i64 (v2+v7)).toNat)*1) ((aB .u64 (v6+(dU u00 v0.1 ((v0.2.1+(aB .i64 (v2+v7)).toNat)*1) 0))).tmod 1000000000)),())) else none else none else none else none
  else some (.inr ((u00,())))
def nZ(x:Shape.den jF):oX l9:=aX eL (2^64) x
def dD(u0:Unit)(x:aM [.hnd 1,.list (.int .u64),.int .i64])(A:List (List Int)):Option ((aM [])×List (List Int)):=match x with
 | (v0,v1,v2,()) =>
  aC (nZ ((v0.1,v0.2.1,v0.2.2),v1,v2,0,0,A,())) λz1 =>
  some ((()),z1.1)
def tX:Code:=dN f137
abbrev AL:Env:=FN []
theorem EX:fX tP AL:=aP trivial
def xQ:Code:=j7 tX 0
def zT(id:Nat):Option eY:=bif Nat.beq id 2 then some ⟨jF,l9,nZ⟩ else none
theorem NM:∀ x,lV tP AL 41 (aQ f137) zT xQ jF l9 x=eL x:=by
 rintro⟨v0,v1,v2,v6,v7,u00,⟨⟩⟩
 kernel_rfl
theorem PO:fN tP 41 xQ ⟨jF,l9,nZ⟩:=gT EX.callee bH.mixed _ (aT (l:=[]) Y trivial) NM
theorem RB:bA tX=[xQ]:=Y
theorem RS:∀ l x A,HG tP AL f137 (aQ f137) zT tX 172 (.int .u64) .none [.hnd 1,.list (.int .u64),.int .i64] (.data []) l x A=dD l x A:=by
 rintro u0 ⟨v0,v1,v2,⟨⟩⟩ A
 kernel_rfl
theorem UD:N2 tP 137 172 (.int .u64) .none [.hnd 1,.list (.int .u64),.int .i64] (.data []) dD:=AK bH EX func137 (c:=tX) Y (keep:=aQ f137) (lt:=zT) (by rfl) (aT RB ⟨gR (i:=2) Y rfl PO,trivial⟩) RS
theorem TS:aY8 tP 137 172 (.int .u64) [.list (.int .u64),.int .i64] (aBP dD):=aPL UD (by rfl) (by rfl)
abbrev zR:Shr:=(137,TD 1 (a5K 172 (.int .u64) [.list (.int .u64),.int .i64] (aBP dD)))
theorem DD:qU tP zR:=sR (aYJ TS)
abbrev kQ:List (Nat×Kd):=[(0,.list (.int .u64)),(3,.own 5 (.int .u8)),(4,.int .i64),(5,.int .u64),(6,.int .i64),(14,.list (.int .u64)),(15,.int .i64),(16,.int .i64)]
abbrev nW:List (Ex×List (Nat×Kd)):=[(.exit 2,[(0,.list (.int .u64)),(3,.own 5 (.int .u8)),(14,.list (.int .u64)),(15,.int .i64),(16,.int .i64)])]
def eH(x:Shape.den kQ):oS kQ nW:=match x with
 | (v0,v3,v4,v5,v6,v14,v15,v16,()) =>
  bif ltI v6 9 then
   bif ltI (aB .i64 (v4+1)) (v0.length:Int) then
    bif Nat.ble [(IntKind.wrap .u8 (aB .u64 (48+(v5.tmod 10))))].length 1048576 then bif Nat.ble v3.length 1048576 then some (.inl (v0,(v3++[(IntKind.wrap .u8 (aB .u64 (48+(v5.tmod 10))))]),v4,(aB .u64 (v5.tdiv 10)),(aB .i64 (v6+1)),v14,v15,v16,())) else none else none
   else bif ltI 0 v5 then
    bif Nat.ble [(IntKind.wrap .u8 (aB .u64 (48+(v5.tmod 10))))].length 1048576 then bif Nat.ble v3.length 1048576 then some (.inl (v0,(v3++[(IntKind.wrap .u8 (aB .u64 (48+(v5.tmod 10))))]),v4,(aB .u64 (v5.tdiv 10)),(aB .i64 (v6+1)),v14,v15,v16,())) else none else none
   else some (.inr ((v0,v3,v14,v15,v16,())))
  else some (.inr ((v0,v3,v14,v15,v16,())))
def l6(x:Shape.den kQ):oX nW:=aX eH (2^64) x
abbrev kP:List (Nat×Kd):=[(0,.list (.int .u64)),(3,.own 5 (.int .u8)),(14,.list (.int .u64)),(15,.int .i64),(16,.int .i64)]
abbrev nM:List (Ex×List (Nat×Kd)):=[(.exit 0,[(3,.own 5 (.int .u8))])]
def jE(x:Shape.den kP):oS kP nM:=match x with
 | (v0,v3,v14,v15,v16,()) =>
  bif ltI v16 v15 then
   bif aF v16 v14.length then aC (l6 (v0,v3,v16,(v14.getD v16.toNat 0),0,v14,v15,v16,())) λz2 =>
   some (.inl (z2.1,z2.2.1,z2.2.2.1,z2.2.2.2.1,(aB .i64 (z2.2.2.2.2.1+1)),())) else none
  else some (.inr ((v3,())))
def qG(x:Shape.den kP):oX nM:=aX jE (2^64) x
def cV(x:aM [.list (.int .u64)]):oK [.str]:=match x with
 | (v0,()) =>
  bif eqI (v0.length:Int) 0 then
   some ((ByteArray.mk #[48]),())
  else bif !(ltI (aB .i64 (9*(v0.length:Int))) 0) then bif !(ltI 1048576 (aB .i64 (9*(v0.length:Int)))) then aC (qG (v0,(List.replicate 0 (0:Ty.den (.int .u8))),v0,(v0.length:Int),0,())) λz3 =>
  aC (aBP (t:=(.int .u8)) eQ z3.1 (())) λy4 =>
  some ((aKT y4),()) else none else none
def LW:Code:=dN f139
abbrev DS:Env:=PI [] [BW]
theorem zG:fX tP DS:=pN trivial ⟨JN,trivial⟩
def pT:Code:=j7 LW 0
def BC:Code:=j7 pT 0
def CA(id:Nat):Option eY:=bif Nat.beq id 8 then some ⟨kQ,nW,l6⟩ else bif Nat.beq id 5 then some ⟨kP,nM,qG⟩ else none
theorem QV:∀ x,lV tP DS 50 (aQ f139) CA BC kQ nW x=eH x:=by
 rintro⟨v0,v3,v4,v5,v6,v14,v15,v16,⟨⟩⟩
 kernel_rfl
theorem RP:fN tP 50 BC ⟨kQ,nW,l6⟩:=gT zG.callee bH.mixed _ (aT (l:=[]) Y trivial) QV
theorem Q5:∀ x,lV tP DS 50 (aQ f139) CA pT kP nM x=jE x:=by
 rintro⟨v0,v3,v14,v15,v16,⟨⟩⟩
 kernel_rfl
theorem VD:bA pT=[BC]:=Y
theorem R5:fN tP 50 pT ⟨kP,nM,qG⟩:=gT zG.callee bH.mixed _ (aT VD ⟨gR (i:=8) Y rfl RP,trivial⟩) Q5
abbrev sA:Ent:=⟨139,_,_,cV⟩
theorem sW:Ent.OK tP sA:=aK0 bH zG func139 (c:=LW) Y (keep:=aQ f139) (lt:=CA) (aT (l:=[pT]) Y ⟨gR (i:=5) Y rfl R5,trivial⟩) (by rintro⟨v0,⟨⟩⟩; kernel_rfl)
abbrev gN:List (Nat×Kd):=[(0,.list (.int .u64)),(6,.int .u64),(7,.own 172 (.int .u64)),(8,.list (.int .u64)),(9,.int .i64),(100000,.ar 172 (.int .u64))]
abbrev kK:List (Ex×List (Nat×Kd)):=[(.exit 0,[(6,.int .u64),(7,.own 172 (.int .u64)),(8,.list (.int .u64)),(9,.int .i64),(100000,.ar 172 (.int .u64))])]
def mK(x:Shape.den gN):oS gN kK:=match x with
 | (v0,v6,v7,v8,v9,u00,()) =>
  bif !(ltI (v0.length:Int) (v7.length:Int)) then
   bif Nat.ble [0].length 1048576 then bif Nat.ble v7.length 1048576 then some (.inl (v0,v6,(v7++[0]),v8,v9,u00,())) else none else none
  else some (.inr ((v6,v7,v8,v9,u00,())))
def mG(x:Shape.den gN):oX kK:=aX mK (2^64) x
abbrev gE:List (Nat×Kd):=[(6,.int .u64),(7,.own 172 (.int .u64)),(8,.list (.int .u64)),(9,.int .i64),(10,.own 172 (.int .u64)),(11,.int .i64),(13,.int .u64),(14,.int .u64),(100000,.ar 172 (.int .u64))]
abbrev kC:List (Ex×List (Nat×Kd)):=[(.exit 4,[(6,.int .u64),(7,.own 172 (.int .u64)),(8,.list (.int .u64)),(9,.int .i64),(10,.own 172 (.int .u64)),(11,.int .i64),(13,.int .u64),(100000,.ar 172 (.int .u64))])]
def iX(x:Shape.den gE):oS gE kC:=match x with
 | (v6,v7,v8,v9,v10,v11,v13,v14,u00,()) =>
  bif !(ltI v13 1000000000) then
   bif aF (aB .i64 (v9-1)) v8.length then some (.inl (v6,v7,v8,v9,v10,v11,(aB .u64 (v13-1)),(aB .u64 (v14+(v8.getD ((aB .i64 (v9-1)).toNat) 0))),u00,())) else none
  else bif ltI v14 1000000000 then
   bif aF (aB .i64 (v9-2)) v8.length then bif aF (aB .i64 ((aB .i64 (v11+v9))-2)) v7.length then bif Nat.blt ((aB .i64 ((aB .i64 (v11+v9))-2)).toNat) v7.length then bif ltI (aB .u64 ((aB .u64 (v14*1000000000))+(v7.getD ((aB .i64 ((aB .i64 (v11+v9))-2)).toNat) 0))) (aB .u64 (v13*(v8.getD ((aB .i64 (v9-2)).toNat) 0))) then
    bif aF (aB .i64 (v9-1)) v8.length then some (.inl (v6,v7,v8,v9,v10,v11,(aB .u64 (v13-1)),(aB .u64 (v14+(v8.getD ((aB .i64 (v9-1)).toNat) 0))),u00,())) else none
   else some (.inr ((v6,v7,v8,v9,v10,v11,v13,u00,()))) else none else none else none
  else some (.inr ((v6,v7,v8,v9,v10,v11,v13,u00,())))
def mF(x:Shape.den gE):oX kC:=aX iX (2^64) x
abbrev gG:List (Nat×Kd):=[(6,.int .u64),(7,.own 172 (.int .u64)),(8,.list (.int .u64)),(9,.int .i64),(10,.own 172 (.int .u64)),(11,.int .i64),(100000,.ar 172 (.int .u64))]
abbrev j9:List (Ex×List (Nat×Kd)):=[(.exit 2,[(6,.int .u64),(7,.own 172 (.int .u64)),(10,.own 172 (.int .u64)),(100000,.ar 172 (.int .u64))])]
def dX(x:Shape.den gG):oS gG j9:=match x with
 | (v6,v7,v8,v9,v10,v11,u00,()) =>
  bif !(ltI v11 0) then
   bif aF (aB .i64 (v11+v9)) v7.length then bif Nat.blt ((aB .i64 (v11+v9)).toNat) v7.length then bif aF (aB .i64 ((aB .i64 (v11+v9))-1)) v7.length then bif Nat.blt ((aB .i64 ((aB .i64 (v11+v9))-1)).toNat) v7.length then bif aF (aB .i64 (v9-1)) v8.length then bif eqI (v8.getD ((aB .i64 (v9-1)).toNat) 0) 0 then none else bif aF (aB .i64 (v9-1)) v8.length then bif eqI (v8.getD ((aB .i64 (v9-1)).toNat) 0) 0 then none else aC (mF (v6,v7,v8,v9,v10,v11,(aB .u64 ((aB .u64 ((aB .u64 ((v7.getD ((aB .i64 (v11+v9)).toNat) 0)*1000000000))+(v7.getD ((aB .i64 ((aB .i64 (v11+v9))-1)).toNat) 0))).tdiv (v8.getD ((aB .i64 (v9-1)).toNat) 0))),((aB .u64 ((aB .u64 ((v7.getD ((aB .i64 (v11+v9)).toNat) 0)*1000000000))+(v7.getD ((aB .i64 ((aB .i64 (v11+v9))-1)).toNat) 0))).tmod (v8.getD ((aB .i64 (v9-1)).toNat) 0)),u00,())) λz7 =>
   aC (aB1 (t:=(.int .u64)) (rets:=[.bool]) eM z7.2.1 (z7.2.2.1,z7.2.2.2.2.2.2.1,z7.2.2.2.2.2.1,())) λy8 =>
   bif y8.1.1 then
    aC (aBP (t:=(.int .u64)) dD y8.2 (z7.2.2.1,z7.2.2.2.2.2.1,())) λy9 =>
    bif aF z7.2.2.2.2.2.1 z7.2.2.2.2.1.length then bif Nat.blt z7.2.2.2.2.2.1.toNat z7.2.2.2.2.1.length then some (.inl (z7.1,y9,z7.2.2.1,z7.2.2.2.1,(z7.2.2.2.2.1.set z7.2.2.2.2.2.1.toNat (aB .u64 (z7.2.2.2.2.2.2.1-1))),(aB .i64 (z7.2.2.2.2.2.1-1)),z7.2.2.2.2.2.2.2.1,())) else none else none
   else bif aF z7.2.2.2.2.2.1 z7.2.2.2.2.1.length then bif Nat.blt z7.2.2.2.2.2.1.toNat z7.2.2.2.2.1.length then some (.inl (z7.1,y8.2,z7.2.2.1,z7.2.2.2.1,(z7.2.2.2.2.1.set z7.2.2.2.2.2.1.toNat z7.2.2.2.2.2.2.1),(aB .i64 (z7.2.2.2.2.2.1-1)),z7.2.2.2.2.2.2.2.1,())) else none else none else none else none else none else none else none else none
  else some (.inr ((v6,v7,v10,u00,())))
def mI(x:Shape.den gG):oX j9:=aX dX (2^64) x
def gB(u0:Unit)(x:aM [.list (.int .u64),.list (.int .u64)])(A:List (List Int)):Option ((aM [.list (.int .u64),.list (.int .u64)])×List (List Int)):=match x with
 | (v0,v1,()) =>
  bif aF (aB .i64 ((v1.length:Int)-1)) v1.length then bif eqI (aB .u64 ((v1.getD ((aB .i64 ((v1.length:Int)-1)).toNat) 0)+1)) 0 then none else aC (fL () (v0,(aB .u64 ((1000000000:Int).tdiv (aB .u64 ((v1.getD ((aB .i64 ((v1.length:Int)-1)).toNat) 0)+1)))),()) A) λy1 =>
  bif Nat.ble [0].length 1048576 then bif Nat.ble y1.1.length 1048576 then aC (fL () (v1,(aB .u64 ((1000000000:Int).tdiv (aB .u64 ((v1.getD ((aB .i64 ((v1.length:Int)-1)).toNat) 0)+1)))),()) y1.2) λy2 =>
  aC (mG (v0,(aB .u64 ((1000000000:Int).tdiv (aB .u64 ((v1.getD ((aB .i64 ((v1.length:Int)-1)).toNat) 0)+1)))),(y1.1++[0]),y2.1,(y2.1.length:Int),y2.2,())) λz3 =>
  bif !(ltI (aB .i64 ((z3.2.1.length:Int)-z3.2.2.2.1)) 0) then bif !(ltI (aB .i64 ((z3.2.1.length:Int)-z3.2.2.2.1)) (aB .i64 ((z3.2.1.length:Int)-z3.2.2.2.1))) then bif !(ltI 1048576 (aB .i64 ((z3.2.1.length:Int)-z3.2.2.2.1))) then aC (mI (z3.1,z3.2.1,z3.2.2.1,z3.2.2.2.1,(List.replicate ((aB .i64 ((z3.2.1.length:Int)-z3.2.2.2.1)).toNat) (0:Ty.den (.int .u64))),(aB .i64 ((aB .i64 ((z3.2.1.length:Int)-z3.2.2.2.1))-1)),z3.2.2.2.2.1,())) λz10 =>
  aC (bD z10.2.1 (()) z10.2.2.2.1) λy11 =>
  aC (fE () (y11.1,z10.1,()) y11.2) λy12 =>
  aC (bD z10.2.2.1 (()) y12.2) λy13 =>
  some ((y13.1,y12.1.1,()),y13.2) else none else none else none else none else none else none
def mR:Code:=dN f177
abbrev mN:Env:=PI [] [zR,EW,zJ,zY,fZ]
theorem n9:fX tP mN:=pN trivial ⟨DD,M4,DR,D8,gM,trivial⟩
def vD:Code:=j7 mR 0
def lA:Code:=j7 mR 1
def vI:Code:=j7 lA 0
def mA(id:Nat):Option eY:=bif Nat.beq id 4 then some ⟨gN,kK,mG⟩ else bif Nat.beq id 12 then some ⟨gE,kC,mF⟩ else bif Nat.beq id 8 then some ⟨gG,j9,mI⟩ else none
theorem LD:∀ x,lV tP mN 146 (aQ f177) mA vD gN kK x=mK x:=by
 rintro⟨v0,v6,v7,v8,v9,u00,⟨⟩⟩
 kernel_rfl
theorem MS:fN tP 146 vD ⟨gN,kK,mG⟩:=gT n9.callee bH.mixed _ (aT (l:=[]) Y trivial) LD
theorem KS:∀ x,lV tP mN 146 (aQ f177) mA vI gE kC x=iX x:=by
 rintro⟨v6,v7,v8,v9,v10,v11,v13,v14,u00,⟨⟩⟩
 kernel_rfl
theorem MJ:fN tP 146 vI ⟨gE,kC,mF⟩:=gT n9.callee bH.mixed _ (aT (l:=[]) Y trivial) KS
theorem K9:∀ x,lV tP mN 146 (aQ f177) mA lA gG j9 x=dX x:=by
 rintro⟨v6,v7,v8,v9,v10,v11,u00,⟨⟩⟩
 kernel_rfl
theorem OS:bA lA=[vI]:=Y
theorem MX:fN tP 146 lA ⟨gG,j9,mI⟩:=gT n9.callee bH.mixed _ (aT OS ⟨gR (i:=12) Y rfl MJ,trivial⟩) K9
theorem NR:bA mR=[vD,lA]:=Y
theorem PF:∀ l x A,HG tP mN f177 (aQ f177) mA mR 172 (.int .u64) .none [.list (.int .u64),.list (.int .u64)] (.data [.list (.int .u64),.list (.int .u64)]) l x A=gB l x A:=by
 rintro u0 ⟨v0,v1,⟨⟩⟩ A
 kernel_rfl
theorem RW:N2 tP 177 172 (.int .u64) .none [.list (.int .u64),.list (.int .u64)] (.data [.list (.int .u64),.list (.int .u64)]) gB:=AK bH n9 func177 (c:=mR) Y (keep:=aQ f177) (lt:=mA) (by rfl) (aT NR ⟨gR (i:=4) Y rfl MS,gR (i:=8) Y rfl MX,trivial⟩) PF
abbrev F7:Shr:=(177,TD 0 (arH 172 (.int .u64) .none [.list (.int .u64),.list (.int .u64)] (.data [.list (.int .u64),.list (.int .u64)]) gB))
theorem OP:qU tP F7:=sR (g:=177) (f:=arH 172 (.int .u64) .none [.list (.int .u64),.list (.int .u64)] (.data [.list (.int .u64),.list (.int .u64)]) gB) (C5 RW)
def fB(x:aM [.str,.str]):oK [.str]:=match x with
 | (v0,v1,()) =>
  aC (rS (v0,v1,())) λy1 =>
  bif y1.2.2.1 then
   aC (uH ((aB .u64 (y1.1+y1.2.1)),())) λy2 =>
   some (y2.1,())
  else aC (eD () (v0,()) []) λy3 =>
  aC (eD () (v1,()) y3.2) λy4 =>
  bif ltI (y3.1.length:Int) (y4.1.length:Int) then
   bif Nat.ble [0].length 1048576 then bif Nat.ble y4.1.length 1048576 then bif !(ltI (aB .i64 ((aB .i64 (((y4.1++[0]).length:Int)-1))-(y3.1.length:Int))) 0) then bif !(ltI 1048576 (aB .i64 ((aB .i64 (((y4.1++[0]).length:Int)-1))-(y3.1.length:Int)))) then bif Nat.ble y3.1.length 1048576 then aC (aBP (t:=(.int .u64)) dD (y4.1++[0]) ((y3.1++List.replicate (aB .i64 ((aB .i64 (((y4.1++[0]).length:Int)-1))-(y3.1.length:Int))).toNat (0:Ty.den (.int .u64))),0,())) λy5 =>
   aC (bD y5 (()) y4.2) λy6 =>
   aC (cV (y6.1,())) λy7 =>
   some (y7.1,()) else none else none else none else none else none
  else bif Nat.ble [0].length 1048576 then bif Nat.ble y3.1.length 1048576 then bif !(ltI (aB .i64 ((aB .i64 (((y3.1++[0]).length:Int)-1))-(y4.1.length:Int))) 0) then bif !(ltI 1048576 (aB .i64 ((aB .i64 (((y3.1++[0]).length:Int)-1))-(y4.1.length:Int)))) then bif Nat.ble y4.1.length 1048576 then aC (aBP (t:=(.int .u64)) dD (y3.1++[0]) ((y4.1++List.replicate (aB .i64 ((aB .i64 (((y3.1++[0]).length:Int)-1))-(y4.1.length:Int))).toNat (0:Ty.den (.int .u64))),0,())) λy8 =>
  aC (bD y8 (()) y4.2) λy9 =>
  aC (cV (y9.1,())) λy10 =>
  some (y10.1,()) else none else none else none else none else none
def WK:Code:=dN f101
abbrev aFA:Env:=PI [L6,FU,sA] [BR,zR,fZ]
theorem aI6:fX tP aFA:=pN ⟨IP,EI,sW,trivial⟩ ⟨AM,DD,gM,trivial⟩
def aCC(id:Nat):Option eY:=none
theorem aGS:bA WK=[]:=Y
theorem aI7:∀ x,aH9 tP aFA f101 (aQ f101) aCC WK 172 (.int .u64) _ _ x=fB x:=by
 rintro⟨v0,v1,⟨⟩⟩
 kernel_rfl
abbrev aQW:Ent:=⟨101,_,_,fB⟩
theorem XM:Ent.OK tP aQW:=aMX bH aI6 func101 (c:=WK) Y (keep:=aQ f101) (lt:=aCC) (aT aGS trivial) aI7
def cW(x:aM [.str,.str]):oK [.str,.int .i64]:=match x with
 | (v0,v1,()) =>
  aC (fR (v0,v1,())) λy1 =>
  bif ltI y1.1 0 then
   some ((ByteArray.mk #[]),3,())
  else aC (rS (v0,v1,())) λy2 =>
  bif y2.2.2.1 then
   aC (uH ((aB .u64 (y2.1-y2.2.1)),())) λy3 =>
   some (y3.1,0,())
  else aC (eD () (v0,()) []) λy4 =>
  bif Nat.ble [0].length 1048576 then bif Nat.ble y4.1.length 1048576 then aC (eD () (v1,()) y4.2) λy5 =>
  aC (eD () (v1,()) y5.2) λy6 =>
  bif !(ltI (aB .i64 ((aB .i64 (((y4.1++[0]).length:Int)-1))-(y6.1.length:Int))) 0) then bif !(ltI 1048576 (aB .i64 ((aB .i64 (((y4.1++[0]).length:Int)-1))-(y6.1.length:Int)))) then bif Nat.ble y5.1.length 1048576 then aC (aB1 (t:=(.int .u64)) (rets:=[.bool]) eM (y4.1++[0]) ((y5.1++List.replicate (aB .i64 ((aB .i64 (((y4.1++[0]).length:Int)-1))-(y6.1.length:Int))).toNat (0:Ty.den (.int .u64))),1,0,())) λy7 =>
  aC (bD y7.2 (()) y6.2) λy8 =>
  aC (cV (y8.1,())) λy9 =>
  some (y9.1,0,()) else none else none else none else none else none
def WX:Code:=dN f103
abbrev aET:Env:=PI [U0,L6,FU,sA] [BR,zY,fZ]
theorem aJQ:fX tP aET:=pN ⟨FD,IP,EI,sW,trivial⟩ ⟨AM,D8,gM,trivial⟩
def aCL(id:Nat):Option eY:=none
theorem aG1:bA WX=[]:=Y
theorem aJM:∀ x,aH9 tP aET f103 (aQ f103) aCL WX 172 (.int .u64) _ _ x=cW x:=by
 rintro⟨v0,v1,⟨⟩⟩
 kernel_rfl
abbrev aRD:Ent:=⟨103,_,_,cW⟩
theorem XR:Ent.OK tP aRD:=aMX bH aJQ func103 (c:=WX) Y (keep:=aQ f103) (lt:=aCL) (aT aG1 trivial) aJM
def fC(x:aM [.str,.str]):oK [.str]:=match x with
 | (v0,v1,()) =>
  bif !(ltI 18 (aB .i64 ((v0.size:Int)+(v1.size:Int)))) then
   aC (rS (v0,v1,())) λy1 =>
   aC (uH ((aB .u64 (y1.1*y1.2.1)),())) λy2 =>
   some (y2.1,())
  else aC (eD () (v0,()) []) λy3 =>
  aC (eD () (v1,()) y3.2) λy4 =>
  aC (eS () (y3.1,y4.1,()) y4.2) λy5 =>
  aC (cV (y5.1,())) λy6 =>
  some (y6.1,())
def V0:Code:=dN f104
abbrev aFP:Env:=PI [L6,FU,sA] [BR,yH]
theorem aI3:fX tP aFP:=pN ⟨IP,EI,sW,trivial⟩ ⟨AM,CT,trivial⟩
def aCE(id:Nat):Option eY:=none
theorem aHJ:bA V0=[]:=Y
theorem aJJ:∀ x,aH9 tP aFP f104 (aQ f104) aCE V0 172 (.int .u64) _ _ x=fC x:=by
 rintro⟨v0,v1,⟨⟩⟩
 kernel_rfl
abbrev aRO:Ent:=⟨104,_,_,fC⟩
theorem aJD:Ent.OK tP aRO:=aMX bH aI3 func104 (c:=V0) Y (keep:=aQ f104) (lt:=aCE) (aT aHJ trivial) aJJ
def nH(x:aM [.str,.str]):oK [.str,.str,.int .i64]:=match x with
 | (v0,v1,()) =>
  bif eqS v1 (ByteArray.mk #[48]) then
   some ((ByteArray.mk #[]),(ByteArray.mk #[]),17,())
  else aC (rS (v0,v1,())) λy1 =>
  bif y1.2.2.1 then
   bif eqI y1.2.1 0 then none else aC (uH ((aB .u64 (y1.1.tdiv y1.2.1)),())) λy2 =>
   bif eqI y1.2.1 0 then none else aC (uH ((y1.1.tmod y1.2.1),())) λy3 =>
   some (y2.1,y3.1,0,())
  else aC (eD () (v0,()) []) λy4 =>
  aC (eD () (v1,()) y4.2) λy5 =>
  aC (sP (y4.1,y5.1,())) λy6 =>
  bif ltI y6.1 0 then
   some ((ByteArray.mk #[48]),v0,0,())
  else bif eqI (y5.1.length:Int) 1 then
   bif aF 0 y5.1.length then bif Nat.blt 0 y5.1.length then aC (fE () (y4.1,(y5.1.getD 0 0),()) y5.2) λy7 =>
   aC (cV (y7.1.1,())) λy8 =>
   aC (uH (y7.1.2.1,())) λy9 =>
   some (y8.1,y9.1,0,()) else none else none
  else aC (gB () (y4.1,y5.1,()) y5.2) λy10 =>
  aC (cV (y10.1.1,())) λy11 =>
  aC (cV (y10.1.2.1,())) λy12 =>
  some (y11.1,y12.1,0,())
def NY:Code:=dN f154
abbrev XO:Env:=PI [L6,FU,HB,sA] [BR,F7,zJ]
theorem aDE:fX tP XO:=pN ⟨IP,EI,QB,sW,trivial⟩ ⟨AM,OP,DR,trivial⟩
def VK(id:Nat):Option eY:=none
theorem aBV:bA NY=[]:=Y
theorem aC5:∀ x,aH9 tP XO f154 (aQ f154) VK NY 172 (.int .u64) _ _ x=nH x:=by
 rintro⟨v0,v1,⟨⟩⟩
 kernel_rfl
abbrev aJP:Ent:=⟨154,_,_,nH⟩
theorem aC3:Ent.OK tP aJP:=aMX bH aDE func154 (c:=NY) Y (keep:=aQ f154) (lt:=VK) (aT aBV trivial) aC5
def RD(x:aM [.str,.str]):oK [.str]:=match x with
 | (v0,v1,()) =>
  aC (rL (v0,18,())) λy1 =>
  bif y1.2.1 then
   aC (rL (v1,18,())) λy2 =>
   bif y2.2.1 then
    aC (kO ((aB .i64 (y1.1+y2.1)),())) λy3 =>
    some (y3.1,())
   else aC (cP (v0,())) λy4 =>
   aC (cP (v1,())) λy5 =>
   bif y4.1 then
    bif y5.1 then
     aC (fB (y4.2.1,y5.2.1,())) λy6 =>
     aC (aA (y4.1,y6.1,())) λy7 =>
     some (y7.1,())
    else aC (fR (y4.2.1,y5.2.1,())) λy8 =>
    bif ltI y8.1 0 then
     aC (cW (y5.2.1,y4.2.1,())) λy9 =>
     aC (aA (y5.1,y9.1,())) λy10 =>
     some (y10.1,())
    else aC (cW (y4.2.1,y5.2.1,())) λy11 =>
    aC (aA (y4.1,y11.1,())) λy12 =>
    some (y12.1,())
   else bif y5.1 then
    aC (fR (y4.2.1,y5.2.1,())) λy13 =>
    bif ltI y13.1 0 then
     aC (cW (y5.2.1,y4.2.1,())) λy14 =>
     aC (aA (y5.1,y14.1,())) λy15 =>
     some (y15.1,())
    else aC (cW (y4.2.1,y5.2.1,())) λy16 =>
    aC (aA (y4.1,y16.1,())) λy17 =>
    some (y17.1,())
   else aC (fB (y4.2.1,y5.2.1,())) λy18 =>
   aC (aA (y4.1,y18.1,())) λy19 =>
   some (y19.1,())
  else aC (cP (v0,())) λy20 =>
  aC (cP (v1,())) λy21 =>
  bif y20.1 then
   bif y21.1 then
    aC (fB (y20.2.1,y21.2.1,())) λy22 =>
    aC (aA (y20.1,y22.1,())) λy23 =>
    some (y23.1,())
   else aC (fR (y20.2.1,y21.2.1,())) λy24 =>
   bif ltI y24.1 0 then
    aC (cW (y21.2.1,y20.2.1,())) λy25 =>
    aC (aA (y21.1,y25.1,())) λy26 =>
    some (y26.1,())
   else aC (cW (y20.2.1,y21.2.1,())) λy27 =>
   aC (aA (y20.1,y27.1,())) λy28 =>
   some (y28.1,())
  else bif y21.1 then
   aC (fR (y20.2.1,y21.2.1,())) λy29 =>
   bif ltI y29.1 0 then
    aC (cW (y21.2.1,y20.2.1,())) λy30 =>
    aC (aA (y21.1,y30.1,())) λy31 =>
    some (y31.1,())
   else aC (cW (y20.2.1,y21.2.1,())) λy32 =>
   aC (aA (y20.1,y32.1,())) λy33 =>
   some (y33.1,())
  else aC (fB (y20.2.1,y21.2.1,())) λy34 =>
  aC (aA (y20.1,y34.1,())) λy35 =>
  some (y35.1,())
abbrev aMG:Ent:=⟨67,_,_,RD⟩
theorem aB5:Ent.OK tP aMG:=oI (aP (oV XM (oV FD (oV XR (oV IJ (oV JG (oV KE (oV wI oW)))))))) func67 Y (by rintro⟨v0,v1,⟨⟩⟩; kernel_rfl)
def WB(x:aM [.str,.str]):oK [.str]:=match x with
 | (v0,v1,()) =>
  aC (P8 (v1,())) λy1 =>
  aC (RD (v0,y1.1,())) λy2 =>
  some (y2.1,())
abbrev aMB:Ent:=⟨155,_,_,WB⟩
theorem aNL:Ent.OK tP aMB:=oI (aP (oV aB5 (oV aCD oW))) func155 Y (by rintro⟨v0,v1,⟨⟩⟩; kernel_rfl)
def QC(x:aM [.str,.str]):oK [.str]:=match x with
 | (v0,v1,()) =>
  aC (rL (v0,9,())) λy1 =>
  bif y1.2.1 then
   aC (rL (v1,9,())) λy2 =>
   bif y2.2.1 then
    aC (kO ((aB .i64 (y1.1*y2.1)),())) λy3 =>
    some (y3.1,())
   else aC (cP (v0,())) λy4 =>
   aC (cP (v1,())) λy5 =>
   bif y4.1 then
    bif y5.1 then
     aC (fC (y4.2.1,y5.2.1,())) λy6 =>
     aC (aA (false,y6.1,())) λy7 =>
     some (y7.1,())
    else aC (fC (y4.2.1,y5.2.1,())) λy8 =>
    aC (aA (true,y8.1,())) λy9 =>
    some (y9.1,())
   else bif y5.1 then
    aC (fC (y4.2.1,y5.2.1,())) λy10 =>
    aC (aA (true,y10.1,())) λy11 =>
    some (y11.1,())
   else aC (fC (y4.2.1,y5.2.1,())) λy12 =>
   aC (aA (false,y12.1,())) λy13 =>
   some (y13.1,())
  else aC (cP (v0,())) λy14 =>
  aC (cP (v1,())) λy15 =>
  bif y14.1 then
   bif y15.1 then
    aC (fC (y14.2.1,y15.2.1,())) λy16 =>
    aC (aA (false,y16.1,())) λy17 =>
    some (y17.1,())
   else aC (fC (y14.2.1,y15.2.1,())) λy18 =>
   aC (aA (true,y18.1,())) λy19 =>
   some (y19.1,())
  else bif y15.1 then
   aC (fC (y14.2.1,y15.2.1,())) λy20 =>
   aC (aA (true,y20.1,())) λy21 =>
   some (y21.1,())
  else aC (fC (y14.2.1,y15.2.1,())) λy22 =>
  aC (aA (false,y22.1,())) λy23 =>
  some (y23.1,())
abbrev aDM:Ent:=⟨68,_,_,QC⟩
theorem aCA:Ent.OK tP aDM:=oI (aP (oV aJD (oV IJ (oV JG (oV KE (oV wI oW)))))) func68 Y (by rintro⟨v0,v1,⟨⟩⟩; kernel_rfl)
def GA(x:aM [.str,.str]):oK [.str,.str,.int .i64]:=match x with
 | (v0,v1,()) =>
  bif eqS v1 (ByteArray.mk #[48]) then
   some ((ByteArray.mk #[]),(ByteArray.mk #[]),17,())
  else aC (rL (v0,18,())) λy1 =>
  bif y1.2.1 then
   aC (rL (v1,18,())) λy2 =>
   bif y2.2.1 then
    bif eqI y2.1 0 then none else bif eqI y2.1 0 then none else bif !(eqI (y1.1.tmod y2.1) 0) then
     bif ltI (y1.1.tmod y2.1) 0 then
      bif ltI y2.1 0 then
       aC (kO ((aB .i64 (y1.1.tdiv y2.1)),())) λy3 =>
       aC (kO ((y1.1.tmod y2.1),())) λy4 =>
       some (y3.1,y4.1,0,())
      else aC (kO ((aB .i64 ((aB .i64 (y1.1.tdiv y2.1))-1)),())) λy5 =>
      aC (kO ((aB .i64 ((y1.1.tmod y2.1)+y2.1)),())) λy6 =>
      some (y5.1,y6.1,0,())
     else bif ltI y2.1 0 then
      aC (kO ((aB .i64 ((aB .i64 (y1.1.tdiv y2.1))-1)),())) λy7 =>
      aC (kO ((aB .i64 ((y1.1.tmod y2.1)+y2.1)),())) λy8 =>
      some (y7.1,y8.1,0,())
     else aC (kO ((aB .i64 (y1.1.tdiv y2.1)),())) λy9 =>
     aC (kO ((y1.1.tmod y2.1),())) λy10 =>
     some (y9.1,y10.1,0,())
    else aC (kO ((aB .i64 (y1.1.tdiv y2.1)),())) λy11 =>
    aC (kO ((y1.1.tmod y2.1),())) λy12 =>
    some (y11.1,y12.1,0,())
   else aC (cP (v0,())) λy13 =>
   aC (cP (v1,())) λy14 =>
   aC (nH (y13.2.1,y14.2.1,())) λy15 =>
   bif !(eqI y15.2.2.1 0) then
    some ((ByteArray.mk #[]),(ByteArray.mk #[]),y15.2.2.1,())
   else bif y13.1 then
    bif y14.1 then
     bif y13.1 then
      bif y14.1 then
       aC (aA (false,y15.1,())) λy16 =>
       aC (aA (y14.1,y15.2.1,())) λy17 =>
       some (y16.1,y17.1,0,())
      else aC (aA (true,y15.1,())) λy18 =>
      aC (aA (y14.1,y15.2.1,())) λy19 =>
      some (y18.1,y19.1,0,())
     else bif y14.1 then
      aC (aA (true,y15.1,())) λy20 =>
      aC (aA (y14.1,y15.2.1,())) λy21 =>
      some (y20.1,y21.1,0,())
     else aC (aA (false,y15.1,())) λy22 =>
     aC (aA (y14.1,y15.2.1,())) λy23 =>
     some (y22.1,y23.1,0,())
    else bif !(eqS y15.2.1 (ByteArray.mk #[48])) then
     aC (fB (y15.1,(ByteArray.mk #[49]),())) λy24 =>
     aC (cW (y14.2.1,y15.2.1,())) λy25 =>
     bif y13.1 then
      bif y14.1 then
       aC (aA (false,y24.1,())) λy26 =>
       aC (aA (y14.1,y25.1,())) λy27 =>
       some (y26.1,y27.1,0,())
      else aC (aA (true,y24.1,())) λy28 =>
      aC (aA (y14.1,y25.1,())) λy29 =>
      some (y28.1,y29.1,0,())
     else bif y14.1 then
      aC (aA (true,y24.1,())) λy30 =>
      aC (aA (y14.1,y25.1,())) λy31 =>
      some (y30.1,y31.1,0,())
     else aC (aA (false,y24.1,())) λy32 =>
     aC (aA (y14.1,y25.1,())) λy33 =>
     some (y32.1,y33.1,0,())
    else bif y13.1 then
     bif y14.1 then
      aC (aA (false,y15.1,())) λy34 =>
      aC (aA (y14.1,y15.2.1,())) λy35 =>
      some (y34.1,y35.1,0,())
     else aC (aA (true,y15.1,())) λy36 =>
     aC (aA (y14.1,y15.2.1,())) λy37 =>
     some (y36.1,y37.1,0,())
    else bif y14.1 then
     aC (aA (true,y15.1,())) λy38 =>
     aC (aA (y14.1,y15.2.1,())) λy39 =>
     some (y38.1,y39.1,0,())
    else aC (aA (false,y15.1,())) λy40 =>
    aC (aA (y14.1,y15.2.1,())) λy41 =>
    some (y40.1,y41.1,0,())
   else bif y14.1 then
    bif !(eqS y15.2.1 (ByteArray.mk #[48])) then
     aC (fB (y15.1,(ByteArray.mk #[49]),())) λy42 =>
     aC (cW (y14.2.1,y15.2.1,())) λy43 =>
     bif y13.1 then
      bif y14.1 then
       aC (aA (false,y42.1,())) λy44 =>
       aC (aA (y14.1,y43.1,())) λy45 =>
       some (y44.1,y45.1,0,())
      else aC (aA (true,y42.1,())) λy46 =>
      aC (aA (y14.1,y43.1,())) λy47 =>
      some (y46.1,y47.1,0,())
     else bif y14.1 then
      aC (aA (true,y42.1,())) λy48 =>
      aC (aA (y14.1,y43.1,())) λy49 =>
      some (y48.1,y49.1,0,())
     else aC (aA (false,y42.1,())) λy50 =>
     aC (aA (y14.1,y43.1,())) λy51 =>
     some (y50.1,y51.1,0,())
    else bif y13.1 then
     bif y14.1 then
      aC (aA (false,y15.1,())) λy52 =>
      aC (aA (y14.1,y15.2.1,())) λy53 =>
      some (y52.1,y53.1,0,())
     else aC (aA (true,y15.1,())) λy54 =>
     aC (aA (y14.1,y15.2.1,())) λy55 =>
     some (y54.1,y55.1,0,())
    else bif y14.1 then
     aC (aA (true,y15.1,())) λy56 =>
     aC (aA (y14.1,y15.2.1,())) λy57 =>
     some (y56.1,y57.1,0,())
    else aC (aA (false,y15.1,())) λy58 =>
    aC (aA (y14.1,y15.2.1,())) λy59 =>
    some (y58.1,y59.1,0,())
   else bif y13.1 then
    bif y14.1 then
     aC (aA (false,y15.1,())) λy60 =>
     aC (aA (y14.1,y15.2.1,())) λy61 =>
     some (y60.1,y61.1,0,())
    else aC (aA (true,y15.1,())) λy62 =>
    aC (aA (y14.1,y15.2.1,())) λy63 =>
    some (y62.1,y63.1,0,())
   else bif y14.1 then
    aC (aA (true,y15.1,())) λy64 =>
    aC (aA (y14.1,y15.2.1,())) λy65 =>
    some (y64.1,y65.1,0,())
   else aC (aA (false,y15.1,())) λy66 =>
   aC (aA (y14.1,y15.2.1,())) λy67 =>
   some (y66.1,y67.1,0,())
  else aC (cP (v0,())) λy68 =>
  aC (cP (v1,())) λy69 =>
  aC (nH (y68.2.1,y69.2.1,())) λy70 =>
  bif !(eqI y70.2.2.1 0) then
   some ((ByteArray.mk #[]),(ByteArray.mk #[]),y70.2.2.1,())
  else bif y68.1 then
   bif y69.1 then
    bif y68.1 then
     bif y69.1 then
      aC (aA (false,y70.1,())) λy71 =>
      aC (aA (y69.1,y70.2.1,())) λy72 =>
      some (y71.1,y72.1,0,())
     else aC (aA (true,y70.1,())) λy73 =>
     aC (aA (y69.1,y70.2.1,())) λy74 =>
     some (y73.1,y74.1,0,())
    else bif y69.1 then
     aC (aA (true,y70.1,())) λy75 =>
     aC (aA (y69.1,y70.2.1,())) λy76 =>
     some (y75.1,y76.1,0,())
    else aC (aA (false,y70.1,())) λy77 =>
    aC (aA (y69.1,y70.2.1,())) λy78 =>
    some (y77.1,y78.1,0,())
   else bif !(eqS y70.2.1 (ByteArray.mk #[48])) then
    aC (fB (y70.1,(ByteArray.mk #[49]),())) λy79 =>
    aC (cW (y69.2.1,y70.2.1,())) λy80 =>
    bif y68.1 then
     bif y69.1 then
      aC (aA (false,y79.1,())) λy81 =>
      aC (aA (y69.1,y80.1,())) λy82 =>
      some (y81.1,y82.1,0,())
     else aC (aA (true,y79.1,())) λy83 =>
     aC (aA (y69.1,y80.1,())) λy84 =>
     some (y83.1,y84.1,0,())
    else bif y69.1 then
     aC (aA (true,y79.1,())) λy85 =>
     aC (aA (y69.1,y80.1,())) λy86 =>
     some (y85.1,y86.1,0,())
    else aC (aA (false,y79.1,())) λy87 =>
    aC (aA (y69.1,y80.1,())) λy88 =>
    some (y87.1,y88.1,0,())
   else bif y68.1 then
    bif y69.1 then
     aC (aA (false,y70.1,())) λy89 =>
     aC (aA (y69.1,y70.2.1,())) λy90 =>
     some (y89.1,y90.1,0,())
    else aC (aA (true,y70.1,())) λy91 =>
    aC (aA (y69.1,y70.2.1,())) λy92 =>
    some (y91.1,y92.1,0,())
   else bif y69.1 then
    aC (aA (true,y70.1,())) λy93 =>
    aC (aA (y69.1,y70.2.1,())) λy94 =>
    some (y93.1,y94.1,0,())
   else aC (aA (false,y70.1,())) λy95 =>
   aC (aA (y69.1,y70.2.1,())) λy96 =>
   some (y95.1,y96.1,0,())
  else bif y69.1 then
   bif !(eqS y70.2.1 (ByteArray.mk #[48])) then
    aC (fB (y70.1,(ByteArray.mk #[49]),())) λy97 =>
    aC (cW (y69.2.1,y70.2.1,())) λy98 =>
    bif y68.1 then
     bif y69.1 then
      aC (aA (false,y97.1,())) λy99 =>
      aC (aA (y69.1,y98.1,())) λy100 =>
      some (y99.1,y100.1,0,())
     else aC (aA (true,y97.1,())) λy101 =>
     aC (aA (y69.1,y98.1,())) λy102 =>
     some (y101.1,y102.1,0,())
    else bif y69.1 then
     aC (aA (true,y97.1,())) λy103 =>
     aC (aA (y69.1,y98.1,())) λy104 =>
     some (y103.1,y104.1,0,())
    else aC (aA (false,y97.1,())) λy105 =>
    aC (aA (y69.1,y98.1,())) λy106 =>
    some (y105.1,y106.1,0,())
   else bif y68.1 then
    bif y69.1 then
     aC (aA (false,y70.1,())) λy107 =>
     aC (aA (y69.1,y70.2.1,())) λy108 =>
     some (y107.1,y108.1,0,())
    else aC (aA (true,y70.1,())) λy109 =>
    aC (aA (y69.1,y70.2.1,())) λy110 =>
    some (y109.1,y110.1,0,())
   else bif y69.1 then
    aC (aA (true,y70.1,())) λy111 =>
    aC (aA (y69.1,y70.2.1,())) λy112 =>
    some (y111.1,y112.1,0,())
   else aC (aA (false,y70.1,())) λy113 =>
   aC (aA (y69.1,y70.2.1,())) λy114 =>
   some (y113.1,y114.1,0,())
  else bif y68.1 then
   bif y69.1 then
    aC (aA (false,y70.1,())) λy115 =>
    aC (aA (y69.1,y70.2.1,())) λy116 =>
    some (y115.1,y116.1,0,())
   else aC (aA (true,y70.1,())) λy117 =>
   aC (aA (y69.1,y70.2.1,())) λy118 =>
   some (y117.1,y118.1,0,())
  else bif y69.1 then
   aC (aA (true,y70.1,())) λy119 =>
   aC (aA (y69.1,y70.2.1,())) λy120 =>
   some (y119.1,y120.1,0,())
  else aC (aA (false,y70.1,())) λy121 =>
  aC (aA (y69.1,y70.2.1,())) λy122 =>
  some (y121.1,y122.1,0,())
abbrev aB2:Ent:=⟨119,_,_,GA⟩
theorem aHQ:Ent.OK tP aB2:=oI (aP (oV XM (oV aC3 (oV XR (oV IJ (oV JG (oV KE (oV wI oW)))))))) func119 Y (by rintro⟨v0,v1,⟨⟩⟩; kernel_rfl)
end Go.PM
namespace Go.PM
open Go Go.RowKit Go.Proofs Tryz
set_option maxHeartbeats 4000000
abbrev p7:List (Nat×Kd):=[(3,.own 74 .str),(9,.list TyE),(10,.int .i64),(11,.int .i64)]
abbrev tO:List (Ex×List (Nat×Kd)):=[(.exit 0,[(3,.own 74 .str)])]
def qM(x:Shape.den p7):oS p7 tO:=match x with
 | (v3,v9,v10,v11,()) =>
  bif ltI v11 v10 then
   bif aF v11 v9.length then aC (kO ((v9.getD v11.toNat 0),())) λy2 =>
   bif Nat.ble [y2.1].length 1048576 then bif Nat.ble v3.length 1048576 then some (.inl ((v3++[y2.1]),v9,v10,(aB .i64 (v11+1)),())) else none else none else none
  else some (.inr ((v3,())))
def vK(x:Shape.den p7):oX tO:=aX qM (2^64) x
def rD(x:aM [.list TyE]):Option (List ByteArray):=match x with
 | (v0,()) =>
  bif !(ltI (v0.length:Int) 0) then bif !(ltI 1048576 (v0.length:Int)) then aC (vK ((List.replicate 0 (ByteArray.empty:Ty.den .str)),v0,(v0.length:Int),0,())) λz3 =>
  some z3.1 else none else none
def EE:Code:=dN f113
abbrev KC:Env:=FN [aG2]
theorem N7:fX tP KC:=aP ⟨IJ,trivial⟩
def GN:Code:=j7 EE 0
def IY(id:Nat):Option eY:=bif Nat.beq id 3 then some ⟨p7,tO,vK⟩ else none
theorem W5:∀ x,lV tP KC 22 (aQ f113) IY GN p7 tO x=qM x:=by
 rintro⟨v3,v9,v10,v11,⟨⟩⟩
 kernel_rfl
theorem YB:fN tP 22 GN ⟨p7,tO,vK⟩:=gT N7.callee bH.mixed _ (aT (l:=[]) Y trivial) W5
theorem aAB:bA EE=[GN]:=Y
theorem aBW:∀ x,aZI tP KC f113 (aQ f113) IY EE [.list TyE] 2 74 .str x=rD x:=by
 rintro⟨v0,⟨⟩⟩
 kernel_rfl
theorem aFO:aTH tP 113 [.list TyE] 74 .str rD:=aZQ bH N7 func113 (c:=EE) Y (keep:=aQ f113) (lt:=IY) (t:=2) Y (aT aAB ⟨gR (i:=3) Y rfl YB,trivial⟩) aBW
abbrev K7:Shr:=(113,a8J [.list TyE] 74 .str rD)
theorem N8:qU tP K7:=aY4 aFO
abbrev kR:List (Nat×Kd):=[(0,.hnd 1),(1,.str),(10,.hnd 1),(11,.int .i64),(12,.int .i64),(100000,.ar 74 .str)]
abbrev nU:List (Ex×List (Nat×Kd)):=[(.exit 0,[(100000,.ar 74 .str)])]
def l8(x:Shape.den kR):oS kR nU:=match x with
 | (v0,v1,v10,v11,v12,u00,()) =>
  bif ltI v12 v11 then
   bif aF v12 v10.2.2 then bif Nat.blt ((v10.2.1+v12.toNat)*1) (dE u00 v10.1) then bif aF v12 v0.2.2 then bif Nat.blt ((v0.2.1+v12.toNat)*1) (dE u00 v0.1) then aC (QC (v1,(dU u00 v10.1 ((v10.2.1+v12.toNat)*1) ByteArray.empty),())) λy3 =>
   aC (WB ((dU u00 v0.1 ((v0.2.1+v12.toNat)*1) ByteArray.empty),y3.1,())) λy4 =>
   bif aF v12 v0.2.2 then bif Nat.blt ((v0.2.1+v12.toNat)*1) (dE u00 v0.1) then some (.inl ((v0.1,v0.2.1,v0.2.2),v1,(v10.1,v10.2.1,v10.2.2),v11,(aB .i64 (v12+1)),(xM u00 v0.1 ((v0.2.1+v12.toNat)*1) y4.1),())) else none else none else none else none else none else none
  else some (.inr ((u00,())))
def qH(x:Shape.den kR):oX nU:=aX l8 (2^64) x
def fV(u0:Unit)(x:aM [.hnd 1,.str,.hnd 1])(A:List (List ByteArray)):Option ((aM [])×List (List ByteArray)):=match x with
 | (v0,v1,v2,()) =>
  bif eqS v1 (ByteArray.mk #[48]) then
   some ((()),A)
  else aC (qH ((v0.1,v0.2.1,v0.2.2),v1,(v2.1,v2.2.1,v2.2.2),((v2.2.2:Nat):Int),0,A,())) λz5 =>
  some ((()),z5.1)
def wV:Code:=dN f120
abbrev DP:Env:=FN [aDM,aMB]
theorem GY:fX tP DP:=aP ⟨aCA,aNL,trivial⟩
def BD:Code:=j7 wV 0
def CC(id:Nat):Option eY:=bif Nat.beq id 2 then some ⟨kR,nU,qH⟩ else none
theorem P6:∀ x,lV tP DP 29 (aQ f120) CC BD kR nU x=l8 x:=by
 rintro⟨v0,v1,v10,v11,v12,u00,⟨⟩⟩
 kernel_rfl
theorem RH:fN tP 29 BD ⟨kR,nU,qH⟩:=gT GY.callee bH.mixed _ (aT (l:=[]) Y trivial) P6
theorem TG:bA wV=[BD]:=Y
theorem U5:∀ l x A,HG tP DP f120 (aQ f120) CC wV 74 .str .none [.hnd 1,.str,.hnd 1] (.data []) l x A=fV l x A:=by
 rintro u0 ⟨v0,v1,v2,⟨⟩⟩ A
 kernel_rfl
theorem YA:N2 tP 120 74 .str .none [.hnd 1,.str,.hnd 1] (.data []) fV:=AK bH GY func120 (c:=wV) Y (keep:=aQ f120) (lt:=CC) (by rfl) (aT TG ⟨gR (i:=2) Y rfl RH,trivial⟩) U5
abbrev MB:Shr:=(120,TD 0 (arH 74 .str .none [.hnd 1,.str,.hnd 1] (.data []) fV))
theorem VH:qU tP MB:=sR (g:=120) (f:=arH 74 .str .none [.hnd 1,.str,.hnd 1] (.data []) fV) (C5 YA)
abbrev jD:List (Nat×Kd):=[(0,.hnd 1),(4,.hnd 1),(5,.int .i64),(6,.int .i64),(100000,.ar 74 .str)]
abbrev l4:List (Ex×List (Nat×Kd)):=[(.exit 0,[(100000,.ar 74 .str)])]
def kE(x:Shape.den jD):oS jD l4:=match x with
 | (v0,v4,v5,v6,u00,()) =>
  bif ltI v6 v5 then
   bif aF v6 v4.2.2 then bif Nat.blt ((v4.2.1+v6.toNat)*1) (dE u00 v4.1) then aC (P8 ((dU u00 v4.1 ((v4.2.1+v6.toNat)*1) ByteArray.empty),())) λy2 =>
   bif aF v6 v0.2.2 then bif Nat.blt ((v0.2.1+v6.toNat)*1) (dE u00 v0.1) then some (.inl ((v0.1,v0.2.1,v0.2.2),(v4.1,v4.2.1,v4.2.2),v5,(aB .i64 (v6+1)),(xM u00 v0.1 ((v0.2.1+v6.toNat)*1) y2.1),())) else none else none else none else none
  else some (.inr ((u00,())))
def o4(x:Shape.den jD):oX l4:=aX kE (2^64) x
def eK(u0:Unit)(x:aM [.hnd 1])(A:List (List ByteArray)):Option ((aM [])×List (List ByteArray)):=match x with
 | (v0,()) =>
  aC (o4 ((v0.1,v0.2.1,v0.2.2),(v0.1,v0.2.1,v0.2.2),((v0.2.2:Nat):Int),0,A,())) λz3 =>
  some ((()),z3.1)
def uB:Code:=dN f122
abbrev BJ:Env:=FN [aLI]
theorem E5:fX tP BJ:=aP ⟨aCD,trivial⟩
def xK:Code:=j7 uB 0
def zC(id:Nat):Option eY:=bif Nat.beq id 1 then some ⟨jD,l4,o4⟩ else none
theorem NF:∀ x,lV tP BJ 17 (aQ f122) zC xK jD l4 x=kE x:=by
 rintro⟨v0,v4,v5,v6,u00,⟨⟩⟩
 kernel_rfl
theorem PD:fN tP 17 xK ⟨jD,l4,o4⟩:=gT E5.callee bH.mixed _ (aT (l:=[]) Y trivial) NF
theorem P1:bA uB=[xK]:=Y
theorem RU:∀ l x A,HG tP BJ f122 (aQ f122) zC uB 74 .str .none [.hnd 1] (.data []) l x A=eK l x A:=by
 rintro u0 ⟨v0,⟨⟩⟩ A
 kernel_rfl
theorem UQ:N2 tP 122 74 .str .none [.hnd 1] (.data []) eK:=AK bH E5 func122 (c:=uB) Y (keep:=aQ f122) (lt:=zC) (by rfl) (aT P1 ⟨gR (i:=1) Y rfl PD,trivial⟩) RU
abbrev IK:Shr:=(122,TD 0 (arH 74 .str .none [.hnd 1] (.data []) eK))
theorem R3:qU tP IK:=sR (g:=122) (f:=arH 74 .str .none [.hnd 1] (.data []) eK) (C5 UQ)
def C9(x:aM [.str]):oK [.bool]:=match x with
 | (v0,()) =>
  some (!(eqS v0 (ByteArray.mk #[48])),())
abbrev LZ:Ent:=⟨174,_,_,C9⟩
theorem UX:Ent.OK tP LZ:=oI (aP oW) func174 Y (by rintro⟨v0,⟨⟩⟩; kernel_rfl)
abbrev b8:List (Nat×Kd):=[(0,.hnd 1),(1,.fn 174),(7,.int .i64),(8,.int .i64),(100000,.ar 74 .str)]
abbrev c8:List (Ex×List (Nat×Kd)):=[(.ret,[(4,.int .i64),(100000,.ar 74 .str)]),(.exit 0,[(100000,.ar 74 .str)])]
def bE(x:Shape.den b8):oS b8 c8:=match x with
 | (v0,v1,v7,v8,u00,()) =>
  bif ltI v8 v7 then
   bif aF v8 v0.2.2 then bif Nat.blt ((v0.2.1+v8.toNat)*1) (dE u00 v0.1) then aC (C9 ((dU u00 v0.1 ((v0.2.1+v8.toNat)*1) ByteArray.empty),())) λy2 =>
   bif y2.1 then
    some (.inr (.inl (v8,u00,())))
   else some (.inl ((v0.1,v0.2.1,v0.2.2),(),v7,(aB .i64 (v8+1)),u00,())) else none else none
  else some (.inr (.inr ((u00,()))))
def cQ(x:Shape.den b8):oX c8:=aX bE (2^64) x
def bP(u0:Unit)(x:aM [.hnd 1,.fn 174])(A:List (List ByteArray)):Option ((aM [.int .i64])×List (List ByteArray)):=match x with
 | (v0,v1,()) =>
  aC (cQ ((v0.1,v0.2.1,v0.2.2),(),((v0.2.2:Nat):Int),0,A,())) λz3 =>
  mH z3 (λa4=>some ((a4.1,()),a4.2.1)) λb5 =>
  some (((-1),()),b5.1)
def fA:Code:=dN f173
abbrev j6:Env:=FN [LZ]
theorem pB:fX tP j6:=aP ⟨UX,trivial⟩
def jH:Code:=j7 fA 0
def jN(id:Nat):Option eY:=bif Nat.beq id 2 then some ⟨b8,c8,cQ⟩ else none
theorem yB:∀ x,lV tP j6 19 (aQ f173) jN jH b8 c8 x=bE x:=by
 rintro⟨v0,v1,v7,v8,u00,⟨⟩⟩
 kernel_rfl
theorem yL:fN tP 19 jH ⟨b8,c8,cQ⟩:=gT pB.callee bH.mixed _ (aT (l:=[]) Y trivial) yB
theorem zS:bA fA=[jH]:=Y
theorem AB:∀ l x A,HG tP j6 f173 (aQ f173) jN fA 74 .str .none [.hnd 1,.fn 174] (.data [.int .i64]) l x A=bP l x A:=by
 rintro u0 ⟨v0,v1,⟨⟩⟩ A
 kernel_rfl
theorem BV:N2 tP 173 74 .str .none [.hnd 1,.fn 174] (.data [.int .i64]) bP:=AK bH pB func173 (c:=fA) Y (keep:=aQ f173) (lt:=jN) (by rfl) (aT zS ⟨gR (i:=2) Y rfl yL,trivial⟩) AB
abbrev qS:Shr:=(173,TD 0 (arH 74 .str .none [.hnd 1,.fn 174] (.data [.int .i64]) bP))
theorem AE:qU tP qS:=sR (g:=173) (f:=arH 74 .str .none [.hnd 1,.fn 174] (.data [.int .i64]) bP) (C5 BV)
def iV(u0:Unit) (x:aM [.hnd 1]) (A:List (List ByteArray)):Option ((aM [.int .i64])×List (List ByteArray)):=match x with
 | (v0,()) =>
  aC (bP () ((v0.1,v0.2.1,v0.2.2),(),()) A) λy1 =>
  some ((y1.1.1,()),y1.2)
def C2:Code:=dN f153
abbrev MW:Env:=PI [] [qS]
theorem UE:fX tP MW:=pN trivial ⟨AE,trivial⟩
def J6(id:Nat):Option eY:=none
theorem TC:bA C2=[]:=Y
theorem VG:∀ l x A,HG tP MW f153 (aQ f153) J6 C2 74 .str .none [.hnd 1] (.data [.int .i64]) l x A=iV l x A:=by
 rintro u0 ⟨v0,⟨⟩⟩ A
 kernel_rfl
theorem X0:N2 tP 153 74 .str .none [.hnd 1] (.data [.int .i64]) iV:=AK bH UE func153 (c:=C2) Y (keep:=aQ f153) (lt:=J6) (by rfl) (aT TC trivial) VG
abbrev L4:Shr:=(153,TD 0 (arH 74 .str .none [.hnd 1] (.data [.int .i64]) iV))
theorem VM:qU tP L4:=sR (g:=153) (f:=arH 74 .str .none [.hnd 1] (.data [.int .i64]) iV) (C5 X0)
abbrev jT:List (Nat×Kd):=[(4,.own 3 TyE),(12,.hnd 1),(13,.int .i64),(14,.int .i64),(100000,.ar 74 .str)]
abbrev mP:List (Ex×List (Nat×Kd)):=[(.ret,[(2,.list TyE),(3,.int .i64),(100000,.ar 74 .str)]),(.exit 0,[(4,.own 3 TyE),(100000,.ar 74 .str)])]
def gZ(x:Shape.den jT):oS jT mP:=match x with
 | (v4,v12,v13,v14,u00,()) =>
  bif ltI v14 v13 then
   bif aF v14 v12.2.2 then bif Nat.blt ((v12.2.1+v14.toNat)*1) (dE u00 v12.1) then aC (nC ((dU u00 v12.1 ((v12.2.1+v14.toNat)*1) ByteArray.empty),())) λy2 =>
   bif y2.2.1 then
    bif ltI 1000000000 y2.1 then
     some (.inr (.inl ([],4,u00,())))
    else bif ltI y2.1 (-1000000000) then
     some (.inr (.inl ([],4,u00,())))
    else bif Nat.ble [y2.1].length 1048576 then bif Nat.ble v4.length 1048576 then some (.inl ((v4++[y2.1]),(v12.1,v12.2.1,v12.2.2),v13,(aB .i64 (v14+1)),u00,())) else none else none
   else some (.inr (.inl ([],4,u00,()))) else none else none
  else some (.inr (.inr ((v4,u00,()))))
def pS(x:Shape.den jT):oX mP:=aX gZ (2^64) x
def j5(u0:Unit)(x:aM [.hnd 1])(A:List (List ByteArray)):Option ((aM [.list TyE,.int .i64])×List (List ByteArray)):=match x with
 | (v0,()) =>
  bif !(ltI ((v0.2.2:Nat):Int) 0) then bif !(ltI 1048576 ((v0.2.2:Nat):Int)) then aC (pS ((List.replicate 0 (0:Ty.den TyE)),(v0.1,v0.2.1,v0.2.2),((v0.2.2:Nat):Int),0,A,())) λz3 =>
  mH z3 (λa4=>some ((a4.1,a4.2.1,()),a4.2.2.1)) λb5 =>
  some ((b5.1,0,()),b5.2.1) else none else none
def vL:Code:=dN f116
abbrev CI:Env:=FN [aGA]
theorem FK:fX tP CI:=aP ⟨XS,trivial⟩
def zI:Code:=j7 vL 0
def AO(id:Nat):Option eY:=bif Nat.beq id 3 then some ⟨jT,mP,pS⟩ else none
theorem O0:∀ x,lV tP CI 39 (aQ f116) AO zI jT mP x=gZ x:=by
 rintro⟨v4,v12,v13,v14,u00,⟨⟩⟩
 kernel_rfl
theorem RC:fN tP 39 zI ⟨jT,mP,pS⟩:=gT FK.callee bH.mixed _ (aT (l:=[]) Y trivial) O0
theorem RK:bA vL=[zI]:=Y
theorem TO:∀ l x A,HG tP CI f116 (aQ f116) AO vL 74 .str .none [.hnd 1] (.data [.list TyE,.int .i64]) l x A=j5 l x A:=by
 rintro u0 ⟨v0,⟨⟩⟩ A
 kernel_rfl
theorem VV:N2 tP 116 74 .str .none [.hnd 1] (.data [.list TyE,.int .i64]) j5:=AK bH FK func116 (c:=vL) Y (keep:=aQ f116) (lt:=AO) (by rfl) (aT RK ⟨gR (i:=3) Y rfl RC,trivial⟩) TO
abbrev JT:Shr:=(116,TD 0 (arH 74 .str .none [.hnd 1] (.data [.list TyE,.int .i64]) j5))
theorem T9:qU tP JT:=sR (g:=116) (f:=arH 74 .str .none [.hnd 1] (.data [.list TyE,.int .i64]) j5) (C5 VV)
abbrev lU:List (Nat×Kd):=[(3,.own 152 (.hnd 1)),(6,.list TyD),(7,.int .i64),(8,.int .i64),(100000,.ar 74 .str)]
abbrev pV:List (Ex×List (Nat×Kd)):=[(.exit 0,[(3,.own 152 (.hnd 1)),(100000,.ar 74 .str)])]
def jW(x:Shape.den lU):oS lU pV:=match x with
 | (v3,v6,v7,v8,u00,()) =>
  bif ltI v8 v7 then
   bif aF v8 v6.length then aC (rD ((v6.getD v8.toNat []),())) λy2 =>
   bif Nat.ble [(u00.length,0,y2.length)].length 1048576 then bif Nat.ble v3.length 1048576 then some (.inl ((v3++[(u00.length,0,y2.length)]),v6,v7,(aB .i64 (v8+1)),(u00++[y2]),())) else none else none else none
  else some (.inr ((v3,u00,())))
def rU(x:Shape.den lU):oX pV:=aX jW (2^64) x
def fH(u0:Unit)(x:aM [.list TyD])(A:List (List ByteArray)):Option ((List (Nat×Nat×Nat))×List (List ByteArray)):=match x with
 | (v0,()) =>
  aC (rU ([],v0,(v0.length:Int),0,A,())) λz3 =>
  some (z3.1,z3.2.1)
def yP:Code:=dN f84
abbrev E7:Env:=PI [] [K7]
theorem JC:fX tP E7:=pN trivial ⟨N8,trivial⟩
def B5:Code:=j7 yP 0
def DQ(id:Nat):Option eY:=bif Nat.beq id 3 then some ⟨lU,pV,rU⟩ else none
theorem R6:∀ x,lV tP E7 19 (aQ f84) DQ B5 lU pV x=jW x:=by
 rintro⟨v3,v6,v7,v8,u00,⟨⟩⟩
 kernel_rfl
theorem TK:fN tP 19 B5 ⟨lU,pV,rU⟩:=gT JC.callee bH.mixed _ (aT (l:=[]) Y trivial) R6
theorem UH:bA yP=[B5]:=Y
theorem W8:∀ l x A,HG tP E7 f84 (aQ f84) DQ yP 74 .str .none [.list TyD] (.own 152 (.hnd 1)) l x A=fH l x A:=by
 rintro u0 ⟨v0,⟨⟩⟩ A
 kernel_rfl
theorem ZA:N2 tP 84 74 .str .none [.list TyD] (.own 152 (.hnd 1)) fH:=AK bH JC func84 (c:=yP) Y (keep:=aQ f84) (lt:=DQ) (by rfl) (aT UH ⟨gR (i:=3) Y rfl TK,trivial⟩) W8
abbrev yO:Shr:=(84,TD 0 (arH 74 .str .none [.list TyD] (.own 152 (.hnd 1)) fH))
theorem BH:qU tP yO:=sR (g:=84) (f:=arH 74 .str .none [.list TyD] (.own 152 (.hnd 1)) fH) (C5 ZA)
abbrev gY:List (Nat×Kd):=[(0,.own 152 (.hnd 1)),(1,.int .i64),(5,.int .i64),(6,.int .i64),(7,.int .i64),(8,.int .i64),(100000,.ar 74 .str)]
abbrev lG:List (Ex×List (Nat×Kd)):=[(.exit 4,[(0,.own 152 (.hnd 1)),(1,.int .i64),(5,.int .i64),(6,.int .i64),(7,.int .i64),(100000,.ar 74 .str)])]
def dI(x:Shape.den gY):oS gY lG:=match x with
 | (v0,v1,v5,v6,v7,v8,u00,()) =>
  bif ltI v8 (v0.length:Int) then
   bif aF v8 v0.length then bif Nat.blt v8.toNat v0.length then bif aF v6 ((v0.getD v8.toNat (0,0,0)).2.2) then bif Nat.blt (((v0.getD v8.toNat (0,0,0)).2.1+v6.toNat)*1) (dE u00 ((v0.getD v8.toNat (0,0,0)).1)) then bif !(eqS (dU u00 ((v0.getD v8.toNat (0,0,0)).1) (((v0.getD v8.toNat (0,0,0)).2.1+v6.toNat)*1) ByteArray.empty) (ByteArray.mk #[48])) then
    bif ltI v7 0 then
     some (.inl (v0,v1,v5,v6,v8,(aB .i64 (v8+1)),u00,()))
    else bif aF v8 v0.length then bif Nat.blt v8.toNat v0.length then bif aF v6 ((v0.getD v8.toNat (0,0,0)).2.2) then bif Nat.blt (((v0.getD v8.toNat (0,0,0)).2.1+v6.toNat)*1) (dE u00 ((v0.getD v8.toNat (0,0,0)).1)) then aC (RE ((dU u00 ((v0.getD v8.toNat (0,0,0)).1) (((v0.getD v8.toNat (0,0,0)).2.1+v6.toNat)*1) ByteArray.empty),())) λy4 =>
    bif aF v7 v0.length then bif Nat.blt v7.toNat v0.length then bif aF v6 ((v0.getD v7.toNat (0,0,0)).2.2) then bif Nat.blt (((v0.getD v7.toNat (0,0,0)).2.1+v6.toNat)*1) (dE u00 ((v0.getD v7.toNat (0,0,0)).1)) then aC (RE ((dU u00 ((v0.getD v7.toNat (0,0,0)).1) (((v0.getD v7.toNat (0,0,0)).2.1+v6.toNat)*1) ByteArray.empty),())) λy5 =>
    aC (IC (y4.1,y5.1,())) λy6 =>
    bif ltI y6.1 0 then
     some (.inl (v0,v1,v5,v6,v8,(aB .i64 (v8+1)),u00,()))
    else some (.inl (v0,v1,v5,v6,v7,(aB .i64 (v8+1)),u00,())) else none else none else none else none else none else none else none else none
   else some (.inl (v0,v1,v5,v6,v7,(aB .i64 (v8+1)),u00,())) else none else none else none else none
  else some (.inr ((v0,v1,v5,v6,v7,u00,())))
def jO(x:Shape.den gY):oX lG:=aX dI (2^64) x
abbrev iF:List (Nat×Kd):=[(0,.own 152 (.hnd 1)),(1,.int .i64),(5,.int .i64),(6,.int .i64),(9,.bool),(10,.int .i64),(100000,.ar 74 .str)]
abbrev lC:List (Ex×List (Nat×Kd)):=[(.exit 6,[(0,.own 152 (.hnd 1)),(1,.int .i64),(5,.int .i64),(6,.int .i64),(9,.bool),(100000,.ar 74 .str)])]
def eE(x:Shape.den iF):oS iF lC:=match x with
 | (v0,v1,v5,v6,v9,v10,u00,()) =>
  bif ltI v10 (v0.length:Int) then
   bif aF v10 v0.length then bif Nat.blt v10.toNat v0.length then bif aF v6 ((v0.getD v10.toNat (0,0,0)).2.2) then bif Nat.blt (((v0.getD v10.toNat (0,0,0)).2.1+v6.toNat)*1) (dE u00 ((v0.getD v10.toNat (0,0,0)).1)) then bif aF v5 v0.length then bif Nat.blt v5.toNat v0.length then bif aF v6 ((v0.getD v5.toNat (0,0,0)).2.2) then bif Nat.blt (((v0.getD v5.toNat (0,0,0)).2.1+v6.toNat)*1) (dE u00 ((v0.getD v5.toNat (0,0,0)).1)) then aC (GA ((dU u00 ((v0.getD v10.toNat (0,0,0)).1) (((v0.getD v10.toNat (0,0,0)).2.1+v6.toNat)*1) ByteArray.empty),(dU u00 ((v0.getD v5.toNat (0,0,0)).1) (((v0.getD v5.toNat (0,0,0)).2.1+v6.toNat)*1) ByteArray.empty),())) λy10 =>
   bif aF v10 v0.length then bif Nat.blt v10.toNat v0.length then bif aF v5 v0.length then bif Nat.blt v5.toNat v0.length then aC (fV () (((v0.getD v10.toNat (0,0,0)).1,(v0.getD v10.toNat (0,0,0)).2.1,(v0.getD v10.toNat (0,0,0)).2.2),y10.1,((v0.getD v5.toNat (0,0,0)).1,(v0.getD v5.toNat (0,0,0)).2.1,(v0.getD v5.toNat (0,0,0)).2.2),()) u00) λy11 =>
   bif v9 then
    some (.inl (v0,v1,v5,v6,true,(aB .i64 (v10+1)),y11.2,()))
   else some (.inl (v0,v1,v5,v6,!(eqS y10.2.1 (ByteArray.mk #[48])),(aB .i64 (v10+1)),y11.2,())) else none else none else none else none else none else none else none else none else none else none else none else none
  else some (.inr ((v0,v1,v5,v6,v9,u00,())))
def mZ(x:Shape.den iF):oX lC:=aX eE (2^64) x
abbrev gX:List (Nat×Kd):=[(0,.own 152 (.hnd 1)),(1,.int .i64),(5,.int .i64),(6,.int .i64),(142,.int .i64),(143,.int .i64),(100000,.ar 74 .str)]
abbrev kW:List (Ex×List (Nat×Kd)):=[(.exit 8,[(0,.own 152 (.hnd 1)),(1,.int .i64),(5,.int .i64),(6,.int .i64),(100000,.ar 74 .str)])]
def jK(x:Shape.den gX):oS gX kW:=match x with
 | (v0,v1,v5,v6,v142,v143,u00,()) =>
  bif ltI v143 v142 then
   bif aF v143 v0.length then bif Nat.blt v143.toNat v0.length then bif aF v6 ((v0.getD v143.toNat (0,0,0)).2.2) then bif Nat.blt (((v0.getD v143.toNat (0,0,0)).2.1+v6.toNat)*1) (dE u00 ((v0.getD v143.toNat (0,0,0)).1)) then bif aF v5 v0.length then bif Nat.blt v5.toNat v0.length then bif aF v6 ((v0.getD v5.toNat (0,0,0)).2.2) then bif Nat.blt (((v0.getD v5.toNat (0,0,0)).2.1+v6.toNat)*1) (dE u00 ((v0.getD v5.toNat (0,0,0)).1)) then aC (GA ((dU u00 ((v0.getD v143.toNat (0,0,0)).1) (((v0.getD v143.toNat (0,0,0)).2.1+v6.toNat)*1) ByteArray.empty),(dU u00 ((v0.getD v5.toNat (0,0,0)).1) (((v0.getD v5.toNat (0,0,0)).2.1+v6.toNat)*1) ByteArray.empty),())) λy17 =>
   bif aF v143 v0.length then bif Nat.blt v143.toNat v0.length then bif aF v5 v0.length then bif Nat.blt v5.toNat v0.length then aC (fV () (((v0.getD v143.toNat (0,0,0)).1,(v0.getD v143.toNat (0,0,0)).2.1,(v0.getD v143.toNat (0,0,0)).2.2),y17.1,((v0.getD v5.toNat (0,0,0)).1,(v0.getD v5.toNat (0,0,0)).2.1,(v0.getD v5.toNat (0,0,0)).2.2),()) u00) λy18 =>
   some (.inl (v0,v1,v5,v6,v142,(aB .i64 (v143+1)),y18.2,())) else none else none else none else none else none else none else none else none else none else none else none else none
  else some (.inr ((v0,v1,v5,v6,u00,())))
def dG(x:Shape.den gX):oX kW:=aX jK (2^64) x
abbrev hU:List (Nat×Kd):=[(0,.own 152 (.hnd 1)),(1,.int .i64),(5,.int .i64),(6,.int .i64),(100000,.ar 74 .str)]
abbrev lI:List (Ex×List (Nat×Kd)):=[(.exit 2,[(0,.own 152 (.hnd 1)),(1,.int .i64),(5,.int .i64),(6,.int .i64),(100000,.ar 74 .str)])]
def dJ(x:Shape.den hU):oS hU lI:=match x with
 | (v0,v1,v5,v6,u00,()) =>
  aC (jO (v0,v1,v5,v6,(-1),v5,u00,())) λz21 =>
  bif ltI z21.2.2.2.2.1 0 then
   some (.inr ((z21.1,z21.2.1,z21.2.2.1,z21.2.2.2.1,z21.2.2.2.2.2.1,())))
  else bif aF z21.2.2.2.2.1 z21.1.length then bif Nat.blt z21.2.2.2.2.1.toNat z21.1.length then bif aF z21.2.2.1 z21.1.length then bif Nat.blt z21.2.2.1.toNat z21.1.length then bif aF z21.2.2.1 z21.1.length then bif Nat.blt z21.2.2.1.toNat z21.1.length then bif aF z21.2.2.2.2.1 (z21.1.set z21.2.2.1.toNat ((z21.1.getD z21.2.2.2.2.1.toNat (0,0,0)).1,(z21.1.getD z21.2.2.2.2.1.toNat (0,0,0)).2.1,(z21.1.getD z21.2.2.2.2.1.toNat (0,0,0)).2.2)).length then bif Nat.blt z21.2.2.2.2.1.toNat (z21.1.set z21.2.2.1.toNat ((z21.1.getD z21.2.2.2.2.1.toNat (0,0,0)).1,(z21.1.getD z21.2.2.2.2.1.toNat (0,0,0)).2.1,(z21.1.getD z21.2.2.2.2.1.toNat (0,0,0)).2.2)).length then aC (mZ (((z21.1.set z21.2.2.1.toNat ((z21.1.getD z21.2.2.2.2.1.toNat (0,0,0)).1,(z21.1.getD z21.2.2.2.2.1.toNat (0,0,0)).2.1,(z21.1.getD z21.2.2.2.2.1.toNat (0,0,0)).2.2)).set z21.2.2.2.2.1.toNat ((z21.1.getD z21.2.2.1.toNat (0,0,0)).1,(z21.1.getD z21.2.2.1.toNat (0,0,0)).2.1,(z21.1.getD z21.2.2.1.toNat (0,0,0)).2.2)),z21.2.1,z21.2.2.1,z21.2.2.2.1,false,(aB .i64 (z21.2.2.1+1)),z21.2.2.2.2.2.1,())) λz22 =>
  bif z22.2.2.2.2.1 then
   some (.inl (z22.1,z22.2.1,z22.2.2.1,z22.2.2.2.1,z22.2.2.2.2.2.1,()))
  else bif aF z22.2.2.1 z22.1.length then bif Nat.blt z22.2.2.1.toNat z22.1.length then bif aF z22.2.2.2.1 ((z22.1.getD z22.2.2.1.toNat (0,0,0)).2.2) then bif Nat.blt (((z22.1.getD z22.2.2.1.toNat (0,0,0)).2.1+z22.2.2.2.1.toNat)*1) (dE z22.2.2.2.2.2.1 ((z22.1.getD z22.2.2.1.toNat (0,0,0)).1)) then aC (D5 ((dU z22.2.2.2.2.2.1 ((z22.1.getD z22.2.2.1.toNat (0,0,0)).1) (((z22.1.getD z22.2.2.1.toNat (0,0,0)).2.1+z22.2.2.2.1.toNat)*1) ByteArray.empty),())) λy23 =>
  bif ltI y23.1 0 then
   bif aF z22.2.2.1 z22.1.length then bif Nat.blt z22.2.2.1.toNat z22.1.length then aC (eK () (((z22.1.getD z22.2.2.1.toNat (0,0,0)).1,(z22.1.getD z22.2.2.1.toNat (0,0,0)).2.1,(z22.1.getD z22.2.2.1.toNat (0,0,0)).2.2),()) z22.2.2.2.2.2.1) λy24 =>
   aC (dG (z22.1,z22.2.1,z22.2.2.1,z22.2.2.2.1,z22.2.2.1,0,y24.2,())) λz25 =>
   some (.inr ((z25.1,z25.2.1,(aB .i64 (z25.2.2.1+1)),z25.2.2.2.1,z25.2.2.2.2.1,()))) else none else none
  else aC (dG (z22.1,z22.2.1,z22.2.2.1,z22.2.2.2.1,z22.2.2.1,0,z22.2.2.2.2.2.1,())) λz26 =>
  some (.inr ((z26.1,z26.2.1,(aB .i64 (z26.2.2.1+1)),z26.2.2.2.1,z26.2.2.2.2.1,()))) else none else none else none else none else none else none else none else none else none else none else none else none
def jJ(x:Shape.den hU):oX lI:=aX dJ (2^64) x
abbrev iB:List (Nat×Kd):=[(0,.own 152 (.hnd 1)),(1,.int .i64),(5,.int .i64),(6,.int .i64),(100000,.ar 74 .str)]
abbrev lL:List (Ex×List (Nat×Kd)):=[(.exit 0,[(0,.own 152 (.hnd 1)),(5,.int .i64),(100000,.ar 74 .str)])]
def eF(x:Shape.den iB):oS iB lL:=match x with
 | (v0,v1,v5,v6,u00,()) =>
  bif ltI v6 v1 then
   bif ltI v5 (v0.length:Int) then
    aC (jJ (v0,v1,v5,v6,u00,())) λz28 =>
    some (.inl (z28.1,z28.2.1,z28.2.2.1,(aB .i64 (z28.2.2.2.1+1)),z28.2.2.2.2.1,()))
   else some (.inr ((v0,v5,u00,())))
  else some (.inr ((v0,v5,u00,())))
def nA(x:Shape.den iB):oX lL:=aX eF (2^64) x
def eA(v0:List (Nat×Nat×Nat))(x:aM [.int .i64])(A:List (List ByteArray)):Option ((List (Nat×Nat×Nat))×List (List ByteArray)):=match x with
 | (v1,()) =>
  aC (nA (v0,v1,0,0,A,())) λz29 =>
  bif Nat.beq z29.1.length 0 then
   bif !(ltI z29.2.1 0) then bif Nat.beq z29.2.1.toNat 0 then some (z29.1,z29.2.2.1) else none else none
  else bif !(ltI z29.2.1 0) then bif Nat.ble 0 z29.2.1.toNat then bif Nat.ble z29.2.1.toNat z29.1.length then bif Nat.blt 0 z29.1.length then some (z29.1.take (z29.2.1.toNat-0),z29.2.2.1) else none else none else none else none
def sZ:Code:=dN f94
abbrev hZ:Env:=PI [aLE,Y3,aB2,aI0] [MB,IK]
theorem iI:fX tP hZ:=pN ⟨aNF,aFZ,aHQ,ZT,trivial⟩ ⟨VH,R3,trivial⟩
def lY:Code:=j7 sZ 0
def fK:Code:=j7 lY 0
def wC:Code:=j7 fK 0
def wE:Code:=j7 fK 1
def vW:Code:=j7 fK 2
def fY(id:Nat):Option eY:=bif Nat.beq id 7 then some ⟨gY,lG,jO⟩ else bif Nat.beq id 15 then some ⟨iF,lC,mZ⟩ else bif Nat.beq id 24 then some ⟨gX,kW,dG⟩ else bif Nat.beq id 5 then some ⟨hU,lI,jJ⟩ else bif Nat.beq id 3 then some ⟨iB,lL,nA⟩ else none
theorem LU:∀ x,lV tP hZ 181 (aQ f94) fY wC gY lG x=dI x:=by
 rintro⟨v0,v1,v5,v6,v7,v8,u00,⟨⟩⟩
 kernel_rfl
theorem NQ:fN tP 181 wC ⟨gY,lG,jO⟩:=gT iI.callee bH.mixed _ (aT (l:=[]) Y trivial) LU
theorem L9:∀ x,lV tP hZ 181 (aQ f94) fY wE iF lC x=eE x:=by
 rintro⟨v0,v1,v5,v6,v9,v10,u00,⟨⟩⟩
 kernel_rfl
theorem NB:fN tP 181 wE ⟨iF,lC,mZ⟩:=gT iI.callee bH.mixed _ (aT (l:=[]) Y trivial) L9
theorem MI:∀ x,lV tP hZ 181 (aQ f94) fY vW gX kW x=jK x:=by
 rintro⟨v0,v1,v5,v6,v142,v143,u00,⟨⟩⟩
 kernel_rfl
theorem N4:fN tP 181 vW ⟨gX,kW,dG⟩:=gT iI.callee bH.mixed _ (aT (l:=[]) Y trivial) MI
theorem MG:∀ x,lV tP hZ 181 (aQ f94) fY fK hU lI x=dJ x:=by
 rintro⟨v0,v1,v5,v6,u00,⟨⟩⟩
 kernel_rfl
theorem QW:bA fK=[wC,wE,vW]:=Y
theorem M8:fN tP 181 fK ⟨hU,lI,jJ⟩:=gT iI.callee bH.mixed _ (aT QW ⟨gR (i:=7) Y rfl NQ,gR (i:=15) Y rfl NB,gR (i:=24) Y rfl N4,trivial⟩) MG
theorem MU:∀ x,lV tP hZ 181 (aQ f94) fY lY iB lL x=eF x:=by
 rintro⟨v0,v1,v5,v6,u00,⟨⟩⟩
 kernel_rfl
theorem QL:bA lY=[fK]:=Y
theorem NL:fN tP 181 lY ⟨iB,lL,nA⟩:=gT iI.callee bH.mixed _ (aT QL ⟨gR (i:=5) Y rfl M8,trivial⟩) MU
theorem OT:bA sZ=[lY]:=Y
theorem P5:∀ l x A,HG tP hZ f94 (aQ f94) fY sZ 74 .str (.own 152 (.hnd 1)) [.int .i64] (.own 152 (.hnd 1)) l x A=eA l x A:=by
 rintro u0 ⟨v1,⟨⟩⟩ A
 kernel_rfl
theorem TX:N2 tP 94 74 .str (.own 152 (.hnd 1)) [.int .i64] (.own 152 (.hnd 1)) eA:=AK bH iI func94 (c:=sZ) Y (keep:=aQ f94) (lt:=fY) (by rfl) (aT OT ⟨gR (i:=3) Y rfl NL,trivial⟩) P5
abbrev sU:Shr:=(94,TD 1 (arH 74 .str (.own 152 (.hnd 1)) [.int .i64] (.own 152 (.hnd 1)) eA))
theorem vF:qU tP sU:=sR (g:=94) (f:=arH 74 .str (.own 152 (.hnd 1)) [.int .i64] (.own 152 (.hnd 1)) eA) (C5 TX)
end Go.PM
