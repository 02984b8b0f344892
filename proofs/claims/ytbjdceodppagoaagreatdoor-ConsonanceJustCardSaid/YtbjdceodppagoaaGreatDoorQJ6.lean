/- Texts of one proof, joined (6). -/
import Derived.Test.YtbjdceodppagoaaGreatDoorQJ5
set_option linter.unusedSimpArgs false
set_option linter.unusedVariables false
set_option maxRecDepth 100000
noncomputable section
namespace Go.PM
open Go Go.RowKit
theorem aH8:∀ ts x,dR.noRefs (ZX ts x)=true
 | [],_=>rfl
 | t::r,(x,xs)=>by simp only[ZX,dR.noRefs,dR,aH8 r xs,Bool.and_self]
theorem aW4:∀ k x r,aDW (k::r)=true->dR (B8 k x 0)=true/\aDW r=true
 | .int _,_,_,h=>⟨rfl,h⟩
 | .bool,_,_,h=>⟨rfl,h⟩
 | .str,_,_,h=>⟨rfl,h⟩
 | .list _,_,_,h=>⟨rfl,h⟩
 | .agg t,x,_,h=>⟨RD t x,h⟩
 | .own _ _,_,_,h=>by cases h
 | .box _ _,_,_,h=>by cases h
 | .win _ _,_,_,h=>by cases h
 | .bown _ _ _,_,_,h=>by cases h
 | .bque _ _ _,_,_,h=>by cases h
 | .bag _ _ _ _ _,_,_,h=>by cases h
 | .bag2 _ _ _ _ _ _,_,_,h=>by simp only[aDW]at h; grind
 | .ar _ _,_,_,h=>by cases h
 | .hnd _,_,_,h=>⟨rfl,h⟩
 | .mpk _,_,_,h=>⟨rfl,h⟩
 | .ptr t,x,_,h=>⟨rfl,h⟩
 | .fn _,_,_,h=>⟨rfl,h⟩
 | .nil0,_,_,h=>⟨rfl,h⟩
 | .val,_,_,h=>⟨rfl,h⟩
 | .nilI,_,_,h=>⟨rfl,h⟩
 | .clo _ ts,x,_,h=>⟨by simp only[B8,dR,dR.noRefs,aH8 ts x,Bool.and_self],h⟩
theorem QS:∀ l x,aDW l=true->dR.noRefs (kX l x)=true
 | [],_,_=>rfl
 | k::r,(x,xs),h=>by
  obtain⟨h1,h2⟩:=aW4 k x r h;simp only[kX,dR.noRefs,h1,QS r xs h2,Bool.and_self]
inductive Tk where
 | none
 | own (e:TypeId) (t:Ty)
@[reducible] def Tk.den:Tk->Type
 | .none=>Unit
 | .own _ t=>List t.den
def Tk.pv:Tk->Nat->List PV
 | .none,_=>[]
 | .own _ t,r=>[.own r t.size]
def Tk.ow:(k:Tk)->k.den->Nat->OwA
 | .none,_,_=>Option.none
 | .own e t,l,r=>some (r,owB e t l)
inductive An where
 | data (l:List Kd)
 | own (e:TypeId) (t:Ty)
@[reducible] def An.den:An->Type
 | .data l=>aM l
 | .own _ t=>List t.den
def An.pv:(a:An)->a.den->Nat->PV
 | .data l,y,_=>XH l y
 | .own _ t,_,n=>.own n t.size
def An.hp:(a:An)->a.den->Heap
 | .data _,_=>[]
 | .own e t,l=>[some (owB e t l)]
def PO(P:Program) (g:FuncId) (ae:TypeId) (t:Ty) (tk:Tk) (args:List Kd) (an:An) (f:tk.den->aM args->List (List t.den)->Option (an.den×List (List t.den))):Prop :=
 ∀ l x A y B,f l x A=some (y,B)->∀ {n0 G μ H w us ra r},aO n0 G μ H w->H[ra]?=some (some (arB ae t A))->a2Y H (tk.ow l r)->VRs w G μ (tk.pv r++kX args x) us ->
  vG P n0 w G μ g us.toArray (an.pv y (H.length+1)) (((UH (tk.ow l r) H).set ra none)++(some (arB ae t B)::an.hp y))
def a4M(ae:TypeId) (t:Ty) (H:Heap):Option (Nat×List (List t.den)):=match aC4 0 H with
 | some (r,k)=>match k.tag with
  | some g=>match AY g.t (.rows t) g.l with
   | some l=>bif Nat.beq k.ty ae&&!k.frozen then some (r,l) else none
   | none=>none
  | none=>none
 | none=>none
def bEW(e:TypeId)(t:Ty)(H:Heap):PV->Option (List t.den)
 | .own r sz=>EY e t (.own r sz) H r
 | .win r lo n sz=>bif Nat.beq lo 0 then match EY e t (.own r sz) H r with
  | some l=>some (l.take n)
  | none=>none
  else none
 | _=>none
def aZ5:(an:An)->PV->Heap->Option an.den
 | .data l,q,H=>match inl false H depth q with
  | some q'=>aLD l q'
  | none=>none
 | .own e t,q,H=>bEW e t H q
def bBV(P:Program)(rs:List ResultVar)(ae:TypeId)(t:Ty)(an:An)(ex:Ex)(F:Frm)(H:Heap):Option (an.den×List (List t.den)):=match ex with
 | .exit _=>none
 | _=>match o9 P F H rs with
  | some vs=>match a4M ae t H with
   | some B=>match aZ5 an (j6 vs) H with
    | some y=>some (y,B.2)
    | none=>none
   | none=>none
  | none=>none
def I0(P:Program)(E:Env)(fn:Func)(keep:Nat)(lt:Nat->Option eE)(c:Code)(ae:TypeId)(t:Ty)(tk:Tk) args (an:An)(l:tk.den)(x:aM args)(A:List (List t.den)):Option (an.den×List (List t.den)) :=
 bif Nat.ble (tk.pv 0++kX args x).length fn.ntmps then l4 P E fn.ntmps keep lt c (start keep 0 (tk.pv 0++kX args x)) (OE (tk.ow l 0)++[some (arB ae t A)]) (bBV P fn.results.toList ae t an) else none
section
variable {P:Program} {n0:Nat->Prop} {w w':World} {G G1 G2:Gd} {μ μ2:Mp} {H H':Heap} {ae:TypeId} {t:Ty} {A B:List (List t.den)}
theorem aFI(hW:aO n0 G μ H w){p}(h:a4M ae t H=some p):H[p.1]?=some (some (arB ae t p.2)):=by
 unfold a4M at h;split at h
 next r k hk=>
  obtain⟨h1,h2⟩:=aBN hk;split at h
  next g hg=>
   split at h
   next l hc=>obtain⟨hb,h⟩:=aJ h;simp only[oA]at hb;simp only[oJ]at h;subst h;have hb3:=oE hb.1;have ht:=(hW.tags r k g h1 hg).1;have hge:=aW3 hc;obtain⟨k1,k2,k3,k4,k5⟩:=k;grind
   grind
  grind
 grind
theorem aO9(hW:aO n0 G μ H w) {e:TypeId} {u:Ty} {p:PV} {l:List u.den} {v:Value} (h:bEW e u H p=some l) (hv:VR w G μ p v) :
  ∃ r l0,bDQ H (some (r,owB e u l0,owB e u l))/\∀ G2 μ3 n,μ3.loc n=μ.loc r->μ3.len n=some l.length->μ3.sh n=μ.sh r->VR w G2 μ3 (.own n u.size) v:=by
 have key:∀ (l0:List u.den) (r m:Nat),H[r]?=some (some (owB e u l0))->bDQ H (some (r,owB e u l0,owB e u (l0.take m))):=λl0 r m h0=>⟨λr' k k' he=>by
  cases he;exact⟨h0,rfl,rfl,rfl,rfl,⟨u,l0.take m⟩,m*u.size,rfl,rfl,(qQ u m l0).symm⟩⟩
 unfold bEW at h;split at h
 next r sz=>obtain⟨h1,h2⟩:=nP hW h;cases h1;refine⟨r,l,by have:=key l r l.length h2; rwa[List.take_length]at this,λG2 μ3 n q1 q2 q3=>?_⟩;obtain⟨m,a1,a2⟩:=hv;have:=(hW.tags r _ _ h2 rfl).2;rw[this]at a1;cases a1;refine⟨_,q2,?_⟩;grind
 next r lo n sz=>
  obtain⟨hb,h⟩:=aJ h;have hb:=oE hb;subst hb;split at h
  next l0 hl0=>obtain rfl:=oB h;obtain⟨h1,h2⟩:=nP hW hl0;cases h1;refine⟨r,l0,key l0 r n h2,λG2 μ3 m q1 q2 q3=>?_⟩;obtain⟨b,c,m',a1,a2,a3,a4,a5,a6,a7⟩:=hv;have:=(hW.tags r _ _ h2 rfl).2;rw[this]at a5;cases a5;refine⟨n,by rw[q2,List.length_take]; change 0+n<=l0.length at a6; congr 1; omega,.inr ⟨b,c,by rw[q1]; exact a1,by rw[a2,q3,Nat.zero_mul]; rfl,a3,?_,by rw[q3]; exact a7.2⟩⟩;grind
  ·cases h
 ·cases h
theorem a3J {α:Type 1}{b x}{y:α}(h:(bif b then x else none)=some y):b=true/\x=some y:=zf
theorem BB {E:Env} (hP:LW P) (hE:eS P E) {g:Nat} {fn:Func} (hg:P.funcs[g]?=some fn) {c:Code} (hc:fn.body=some c) {keep:Nat} {lt:Nat->Option eE} {ae:TypeId} {t:Ty} {tk:Tk} {args:List Kd} {an:An} {f:tk.den->aM args->List (List t.den)->Option (an.den×List (List t.den))}
  (hd:aDW args=true) (hl:∀ a∈bB c,∀ s,lt (cA a)=some s->eJ P fn.ntmps a s) (hb:∀ l x A,I0 P E fn keep lt c ae t tk args an l x A=f l x A):PO P g ae t tk args an f:=by
 intro l x A y B hy n0 G μ H w us ra r hW har ho hv;rw[<- hb]at hy;obtain⟨hlen,hy⟩:=aJ hy;obtain⟨⟨ex,F',H'⟩,h1,h2⟩:=k8 hE.callee hP.mixed c _ _ _ _ hl hy;obtain⟨vs,B',hex,hvs,hB,hq,rfl⟩:∃ vs B',(ex=.normal\/ex=.ret)/\o9 P F' H' fn.results.toList=some vs/\a4M ae t H'=some B'/\aZ5 an (j6 vs) H'=some y/\B'.2=B:=by
  unfold bBV at h1;split at h1
  ·cases h1
  next hne=>
   split at h1
   ·rename_i vs hvs;split at h1
    ·rename_i B' hB;split at h1
     ·rename_i y' hy';simp only[oJ,oP]at h1;obtain⟨rfl,h1⟩:=h1;refine⟨vs,B',?_,hvs,hB,hy',h1⟩;cases ex with
      | normal=>exact .inl rfl
      | ret=>exact .inr rfl
      | exit i=>exact absurd rfl (hne i)
     ·cases h1
    ·cases h1
   ·cases h1
 have hargs:VRs w G (mpA μ (tk.ow l r) A.length) (tk.pv 0++kX args x) us:=by
  have hn:=QS args x hd;cases tk with
  | none=>exact VRs.aV (cU _ _ hn hv)
  | own e u =>
   change VRs w G μ (.own r u.size::kX args x) us at hv;change VRs w G _ (.own 0 u.size::kX args x) us;rw[VRs]at hv ⊢;obtain⟨v,us',rfl,q1,q2⟩:=hv;refine⟨v,us',rfl,?_,VRs.aV (cU _ _ hn q2)⟩;rw[VR]at q1 ⊢;exact q1
 have howb:OE (tk.ow l 0)=OE (tk.ow l r):=by cases tk <;> rfl
 have hW1:=aF2 hW ho har;rw[<- howb]at hW1;have e0:Ext (wrA w G μ (tk.ow l r)) w G aG w G (mpA μ (tk.ow l r) A.length) :=
  ⟨⟨λb hb=>⟨hb,rfl⟩,λ_ _ h=>(by cases h),λ_ _ h=>(by cases h),λ_ _ h=>h,λ_ _ h=>h,λ_ _ h=>(by cases h)⟩,rfl,rfl,rfl,oM _,λ_ _ _=>rfl,λ_ h=>.inl h⟩
 refine⟨enters hg (hP.names g fn hg) (by rw[hc]; rfl) _ _,calls_of_wp hg hc ?_⟩;have hI:I (wrA w G μ (tk.ow l r)) w G aG fn.ntmps (start keep 0 (tk.pv 0++kX args x)) (OE (tk.ow l 0)++[some (arB ae t A)]) ⟨us.toArray++Array.replicate (fn.ntmps-us.toArray.size) undef,[]⟩ w :=
  ⟨G,_,e0,hW1,mE (by simpa using hargs) (oL hlen)⟩
 refine wp_mono (h2 _ w G aG _ w (λr=>⟨rfl,rfl⟩) hI) ?_;rintro e1 a' w' ⟨rfl,G1,μ1,ee,hW',hF'⟩;obtain⟨ws,h3,h4⟩:=lK (P:=P) hW' hF' hvs;have hres:(results fn a'.tmps).run P w'=.ok (if hh:ws.toArray.size=1 then ws.toArray[0] else .tuple ws.toArray) w':=by
  rw[wA,Array.mapM_eq_mapM_toList];simp only[Sem.run_bind,Sem.run_map,h3,Result.andThen_ok,Sem.run_pure]
 have hrb:=aFI hW' hB;obtain⟨G2,μ3,b1,b2,b3⟩:∃ G2 μ3,Ext n0 w G μ w' G2 μ3/\aO n0 G2 μ3 (((UH (tk.ow l r) H).set ra none)++(some (arB ae t B'.2)::an.hp y)) w'/\VR w' G2 μ3 (an.pv y (H.length+1)) (if hh:ws.toArray.size=1 then ws.toArray[0] else .tuple ws.toArray):=by
  have hvr:=mT h4;cases an with
  | data rets =>
   simp only[aZ5]at hq;split at hq
   ·rename_i q hq';have hb:=aLX (G2:=⟨λb=>G1 b\/∃ s k,H'[s]?=some (some k)/\k.frozen=false/\μ1.loc s=some b,G1.row⟩) hW ho har ee hW' hrb (os:=none) ⟨λ_ _ _ h=>by cases h⟩ (λ_=>rfl) (λb hb=>.inl hb) (λb hb=>by
     rcases hb with h|⟨s,k,z1,z2,z3⟩
     ·exact .inl h
     ·exact .inr ⟨s,k,z1,z2,z3,λ_ _ _ h=>by cases h⟩)
    refine⟨_,_,hb.1,hb.2,?_⟩;have:=L9 (G':=⟨λb=>G1 b\/∃ s k,H'[s]?=some (some k)/\k.frozen=false/\μ1.loc s=some b,G1.row⟩) hW' (λ_ _ h=>h) (λb hb=>.inl hb) (λs k1 b hs _ hb=>by
     obtain⟨_,_,_,_,g5,_⟩:=hW'.blk s k1 b hs hb;cases hf:k1.frozen with
     | true=>exact .inl (g5 hf)
     | false=>exact .inr ⟨s,k1,hs,hf,hb⟩) depth _ q _ hq' hvr
    exact(T4 hq this).aV
   ·cases hq
  | own e u =>
   simp only[aZ5]at hq;obtain⟨r1,l0,hos,hvv⟩:=aO9 hW' hq hvr;have hb:=aLX (G2:=G1) hW ho har ee hW' hrb hos (λ_=>rfl) (λb hb=>hb) (λb hb=>.inl hb);refine⟨_,_,hb.1,hb.2,hvv _ _ _ ?_ ?_ ?_⟩
   ·have h1:¬ H.length+1<H.length:=Z
    simp[sR,h1,bAH]
   ·have h1:¬ H.length+1<H.length:=Z
    simp[sR,h1,a9Z]
   ·have h1:¬ H.length+1<H.length:=Z
    simp[sR,h1,shS]
 have hpost:a'.defers=[]/\∃ v,(results fn a'.tmps).run P w'=.ok v w'/\(∃ v' G'' μ'',Ending.returned v=.returned v'/\Ext n0 w G μ w' G'' μ''/\aO n0 G'' μ'' (((UH (tk.ow l r) H).set ra none)++(some (arB ae t B'.2)::an.hp y)) w'/\VR w' G'' μ'' (an.pv y (H.length+1)) v') :=
  ⟨hF'.defers,_,hres,_,G2,μ3,rfl,b1,b2,b3⟩
 rcases hex with rfl|rfl
 ·exact hpost
 ·exact hpost
def aJ1(P:Program) (E:Env) (fn:Func) (keep:Nat) (lt:Nat->Option eE) (c:Code) (ae:TypeId) (t:Ty) (args rets:List Kd) (x:aM args):Option (aM rets) :=
 bif Nat.ble (kX args x).length fn.ntmps then l4 P E fn.ntmps keep lt c (start keep 0 (kX args x)) [some (arB ae t [])] (aXT P fn.results.toList rets) else none
theorem aO5 {E} (hP:LW P) (hE:eS P E) {g:Nat} {fn} (hg:P.funcs[g]?=some fn) {c} (hc:fn.body=some c) {keep lt ae t args rets f}
  (hl:∀ a∈bB c,∀ s,lt (cA a)=some s->eJ P fn.ntmps a s) (hb:∀ x,aJ1 P E fn keep lt c ae t args rets x=f x):ZR P g args rets f:=by
 intro x y hy;rw[<- hb]at hy;obtain⟨hlen,hy⟩:=aJ hy;obtain⟨⟨ex,F',H'⟩,h1,h2⟩:=k8 hE.callee hP.mixed c _ _ _ _ hl hy;obtain⟨vs,q,hex,hvs,hq,hd⟩:∃ vs q,(ex=.normal\/ex=.ret)/\o9 P F' H' fn.results.toList=some vs/\aTG H' (j6 vs)=some q/\aLD rets q=some y:=by
  unfold aXT at h1;split at h1
  ·cases h1
  next hne=>
   split at h1
   ·rename_i vs hvs;split at h1
    ·rename_i q hq;refine⟨vs,q,?_,hvs,hq,h1⟩;cases ex with
     | normal=>exact .inl rfl
     | ret=>exact .inr rfl
     | exit i=>exact absurd rfl (hne i)
    ·cases h1
   ·cases h1
 obtain⟨hq1,hq2⟩:=CR hq;intro w G us hlt hv;have at0:∀ (s:Nat) (k1:Blk),([some (arB ae t [])]:Heap)[s]?=some (some k1)->s=0/\k1=arB ae t []:=zf
 have hW:aO (uF w) (Gd.of G) ⟨λ_=>none,λr=>if r=0 then some 0 else none,λ_=>0⟩ [some (arB ae t [])] w:=by
  refine⟨(λr k b h hb=>by cases hb),(λr k g h hg=>?_),(λr s k l b h _ _ _ hb=>by cases hb),hlt,(λr hr=>⟨rfl,?_⟩),λ_ h=>h,⟨(λ_ _ _ h=>by cases h),(λ_ _ h=>by cases h),(λ_ _ h=>by cases h),(λr k u l h hgr ht=>?_),(λr s k k' u l u' l' h1 g1 t1 h2 g2 t2=>by rw[(at0 r k h1).1,(at0 s k' h2).1])⟩⟩
  ·obtain⟨rfl,rfl⟩:=at0 r k h;cases hg;grind
  ·grind
  ·obtain⟨rfl,rfl⟩:=at0 r k h;cases ht;exact⟨rfl,λ_ _=>rfl,λj row hj=>by simp at hj⟩
 have e0:Ext (uF w) w (Gd.of G) aG w (Gd.of G) ⟨λ_=>none,λr=>if r=0 then some 0 else none,λ_=>0⟩ :=
  ⟨⟨λb hb=>⟨hb,rfl⟩,λ_ _ h=>(by cases h),λ_ _ h=>(by cases h),λ_ _ h=>h,λ_ _ h=>h,λ_ _ h=>(by cases h)⟩,rfl,rfl,rfl,oM _,λ_ _ _=>rfl,λ_ h=>.inl h⟩
 refine⟨enters hg (hP.names g fn hg) (by rw[hc]; rfl) _ _,calls_of_wp hg hc ?_⟩;have hI:I (uF w) w (Gd.of G) aG fn.ntmps (start keep 0 (kX args x)) [some (arB ae t [])] ⟨us++Array.replicate (fn.ntmps-us.size) undef,[]⟩ w:=⟨Gd.of G,_,e0,hW,mE hv.aV (oL hlen)⟩;refine wp_mono (h2 _ w (Gd.of G) aG _ w (λr=>⟨rfl,rfl⟩) hI) ?_;rintro e a' w' ⟨rfl,G1,μ1,e1,e2,hF'⟩;obtain⟨ws,h3,h4⟩:=lK (P:=P) e2 hF' hvs;have hres:(results fn a'.tmps).run P w'=.ok (if hh:ws.toArray.size=1 then ws.toArray[0] else .tuple ws.toArray) w':=by
  rw[wA,Array.mapM_eq_mapM_toList];simp only[Sem.run_bind,Sem.run_map,h3,Result.andThen_ok,Sem.run_pure]
 have hval:=EX (G:=⟨λb=>G1 b\/∃ r k,H'[r]?=some (some k)/\μ1.loc r=some b,G1.row⟩) (G':=Gd.of λb=>G1 b\/∃ r k,H'[r]?=some (some k)/\μ1.loc r=some b) (λb h=>h) _ _ _ hq2
   (L9 (G':=⟨λb=>G1 b\/∃ r k,H'[r]?=some (some k)/\μ1.loc r=some b,G1.row⟩) e2 (λ_ _ h=>h) (λb hb=>.inl hb) (λr k b hr _ hb=>.inr ⟨r,k,hr,hb⟩) depth _ q _ hq1 (mT h4))
 have hext:Ext (uF w) w (Gd.of G) aG w' (Gd.of λb=>G1 b\/∃ r k,H'[r]?=some (some k)/\μ1.loc r=some b) aG:={
  good:=λb hb=>⟨.inl (e1.good b hb).1,(e1.good b hb).2⟩
  map:=λ_ _ h=>h
  len:=λ_ _ h=>h
  room:=e1.room
  row:=λ_ _ h=>h
  os:=e1.os
  tape:=e1.tape
  output:=e1.output
  size:=e1.size
  old:=e1.old
  new:=λb hb=>by
   rcases hb with hb|⟨r,k,hr,hb⟩
   ·exact e1.new b hb
   ·obtain⟨c,_,_,_,g5,g6⟩:=e2.blk r k b hr hb;cases hf:k.frozen with
    | true=>exact e1.new b (g5 hf)
    | false=>exact .inr (g6 hf).1 }
 have hlt':∀ b,(G1 b\/∃ r k,H'[r]?=some (some k)/\μ1.loc r=some b)->b<w'.heap.size:=by
  rintro b (hb|⟨r,k,hr,hb⟩)
  ·exact e2.lt b hb
  ·exact e2.pK hr hb
 have hpost:a'.defers=[]/\∃ v,(results fn a'.tmps).run P w'=.ok v w'/\(∃ v' G',Ending.returned v=.returned v'/\Ext (uF w) w (Gd.of G) aG w' (Gd.of G') aG/\(∀ b,G' b->b<w'.heap.size)/\VR w' (Gd.of G') aG (XH rets y) v') :=
  ⟨hF'.defers,_,hres,_,_,rfl,hext,hlt',T4 hd hval⟩
 rcases hex with rfl|rfl
 ·exact hpost
 ·exact hpost
def aVF(e:TypeId)(t:Ty)(H:Heap):List PV->Option (List t.den×Nat×List PV)
 | .own r sz::ps=>match EY e t (.own r sz) H r with
  | some l=>some (l,r,ps)
  | none=>none
 | _=>none
def Tk.dec:(tk:Tk)->List PV->Heap->Option (tk.den×Nat×List PV)
 | .none,qs,_=>some ((),0,qs)
 | .own e t,qs,H=>aVF e t H qs
theorem aAD(hW:aO n0 G μ H w){e u qs l r ps}(h:aVF e u H qs=some (l,r,ps)):H[r]?=some (some (owB e u l))/\qs=.own r u.size::ps:=by
 unfold aVF at h;split at h
 ·split at h
  next l1 hl1=>obtain⟨g1,g2⟩:=nP hW hl1;grind
  grind
 grind
theorem Tk.a2W (hW:aO n0 G μ H w){tk:Tk}{qs l r ps}(h:tk.dec qs H=some (l,r,ps)):a2Y H (tk.ow l r)/\qs=tk.pv r++ps:=by
 cases tk with
 | none =>
  obtain⟨_,_,rfl⟩:=h;exact⟨⟨λ_ _ h=>by cases h⟩,rfl⟩
 | own e u =>
  obtain⟨h1,h2⟩:=aAD hW h;refine⟨⟨λr' k he=>?_⟩,h2⟩;cases he;grind
def arH(ae:TypeId) (t:Ty) (tk:Tk) (args:List Kd) (an:An) (f:tk.den->aM args->List (List t.den)->Option (an.den×List (List t.den))) (qs:List PV) (H:Heap):Option aGC:=match tk.dec qs H with
 | some (l,r,ps)=>match a4M ae t H with
  | some (ra,A)=>match aLF args ps with
   | some x=>bif dR.noRefs ps then some ⟨an.den×List (List t.den),f l x A,λy=>(an.pv y.1 (H.length+1),((UH (tk.ow l r) H).set ra none)++(some (arB ae t y.2)::an.hp y.1))⟩ else none
   | none=>none
  | none=>none
 | none=>none
theorem DZ {g tk args an f}(hf:PO P g ae t tk args an f) :
  ∀ qs H r,arH ae t tk args an f qs H=some r->∀ y,r.val=some y->∀ {n0 G μ w vs},aO n0 G μ H w->VRs w G μ qs vs->vG P n0 w G μ g vs.toArray (r.out y).1 (r.out y).2:=by
 intro qs H rh h y hy n0 G μ w vs hW hv;unfold arH at h;split at h
 next l r ps hl=>
  split at h
  next ra A hA=>
   split at h
   ·rename_i x hx;obtain⟨hb,h⟩:=a3J h;simp only[oJ]at h;subst h;obtain⟨ho,rfl⟩:=Tk.a2W hW hl;have hv':VRs w G μ (tk.pv r++kX args x) vs:=by
     cases tk with
     | none=>exact(EF args hx (cU _ _ hb hv)).aV
     | own e u =>
      obtain⟨v,us,rfl,q1,q2⟩:=hv;exact⟨v,us,rfl,q1,(EF args hx (cU _ _ hb q2)).aV⟩
    obtain⟨y1,y2⟩:=y;exact hf l x A y1 y2 hy hW (aFI hW hA) ho hv'
   grind
  grind
 grind
end
def forced(ops:Array Oper) (s:Nat):Bool:=(List.range ops.size).all λj=>Nat.blt j s||Nat.beq (Nat.land ((kW ops).getD j 0) (2^j-1)) (2^j-1)
def aNX(l:List Oper):Bool:=(List.range l.length).all λi=>match l[i]? with
 | some o=>match o.guard with
  | some (g,_)=>Nat.blt g i
  | none=>true
 | none=>true
def QK(ops:Array Oper)(s:Nat):Bool:=RX (kW ops) 0 ops.toList&&forced ops s&&aNX ops.toList&&aHY ops&&Nat.ble s ops.size
section
variable {P:Program} {ops:Array Oper} {s:Nat}
theorem aMS(h:forced ops s=true){j b}(hj:j<ops.size)(hs:s<=j)(hb:b<j):((kW ops).getD j 0).testBit b=true:=by
 have:=List.all_eq_true.1 h j (List.mem_range.2 hj);rw[Bool.or_eq_true]at this;rcases this with h1|h1
 ·have:=fX h1; omega
 ·have h2:=oE h1;have h3:(Nat.land ((kW ops).getD j 0) (2^j-1)).testBit b=(2^j-1).testBit b:=zf
  have h4:(2^j-1).testBit b=true:=zf
  rw[h4]at h3;have h5:((kW ops).getD j 0 &&& (2^j-1)).testBit b=true:=h3;grind
theorem aCF(hm:RX (kW ops) 0 ops.toList=true){i o}(ho:ops[i]?=some o):(kW ops).getD i 0=aGR (kW ops) o.after.toList/\∀ e∈o.after,Region.binds .any e=true->e.on<i:=by
 have:=aI5 hm (by simpa using ho);grind
theorem aKS(hm:RX (kW ops) 0 ops.toList=true) {listed:Array Bool} (hc:V0 (kW ops) (λi=>listed.getD i false)) {i:Nat} (hi:i∈Region.ready .any ops listed) :
  i<ops.size/\listed.getD i true=false/\∀ b,((kW ops).getD i 0).testBit b=true->listed.getD b false=true:=by
 obtain⟨h1,o,ho,h2⟩:=mem_ready.1 hi;refine⟨(Array.getElem?_eq_some_iff.1 ho).1,by simpa using h1,λb hb=>?_⟩;rw[(aCF hm ho).1]at hb;rcases QQ _ _ hb with h3|⟨e,h3,h4,h5⟩
 ·grind
 ·have h6:=h2 e (Array.mem_toList_iff.1 h3) h4;rcases h5 with rfl|h5
  ·exact h6
  ·exact hc e.on h6 b h5
theorem bBX(hm:RX (kW ops) 0 ops.toList=true):∀ i b,i<ops.size->((kW ops).getD i 0).testBit b=true->b<i:=by
 intro i
 induction i using Nat.strongRecOn with
 | _ i ih =>
  intro b hi hb;obtain⟨o,ho⟩:∃ o,ops[i]?=some o:=⟨ops[i],Array.getElem?_eq_getElem hi⟩;have hma:=aCF hm ho;rw[hma.1]at hb;rcases QQ _ _ hb with h3|⟨e,h3,h4,h5⟩
  ·grind
  grind
variable {ro:Option Nat} {n:Nat} {Q:Exit->Act->World->Prop}
theorem aV1(hm:RX (kW ops) 0 ops.toList=true) (hf:forced ops s=true):∀ (k j:Nat) (L:Array Bool) (a:Act) (w:World),j+k=ops.size->s<=j->L.size=ops.size->(∀ i,i<ops.size->L.getD i false=decide (i<j)) ->
  wpListIn (Fr ro) n P ops Q (ops.toList.drop j) a w->wpAnyIn (Fr ro) n P .any ops Q k L a w
 | 0,j,L,a,w,hk,hs,hsz,hL,h=>by
  have hd:ops.toList.drop j=[]:=List.drop_of_length_le (by simp; omega);rw[hd]at h;refine⟨?_,h⟩
  by_cases hr:Region.ready .any ops L=[]
  ·exact hr
  ·obtain⟨i,hi⟩:=List.exists_mem_of_ne_nil _ hr;obtain⟨h1,o,ho,_⟩:=mem_ready.1 hi;grind
 | k+1,j,L,a,w,hk,hs,hsz,hL,h=>by
  have hj:j<ops.size:=Z
  have hcl:V0 (kW ops) (λi=>L.getD i false):=by
   intro i hi b hb;replace hi:L.getD i false=true:=hi;have hilt:i<ops.size:=zf
   have h1:=hL i hilt;rw[hi]at h1;have h2:=of_decide_eq_true h1.symm;have h3:=bBX hm i b hilt hb;grind
  have hready:∀ i∈Region.ready .any ops L,i=j:=by
   intro i hi;obtain⟨h1,h2,h3⟩:=aKS hm hcl hi;have h4:¬ i<j:=λhij=>zf
   rcases oG j i with hji|hji
   ·exfalso;have h5:=h3 j (aMS hf h1 Z hji);grind
   ·omega
  obtain⟨o,ho⟩:∃ o,ops[j]?=some o:=⟨ops[j],Array.getElem?_eq_getElem hj⟩;have hd:ops.toList.drop j=o::ops.toList.drop (j+1):=by
   rw[List.drop_eq_getElem_cons (by simpa using hj)];grind
  rw[hd]at h;unfold wpListIn at h;have ih:∀ a w,wpListIn (Fr ro) n P ops Q (ops.toList.drop (j+1)) a w->wpAnyIn (Fr ro) n P .any ops Q k (L.setIfInBounds j true) a w:=λa w h=>by
   refine aV1 hm hf k (j+1) _ a w Z Z (by simpa using hsz) (λi hi=>?_) h
   by_cases hij:j=i
   ·simp_all
   ·rw[getD_set_ne false hij,hL i hi]
    by_cases h2:i<j
    ·rw[oT h2,oT Z]
    ·rw[oF h2,oF Z]
  refine⟨λhr=>?_,λi hi=>?_⟩
  ·exfalso;have:j∈Region.ready .any ops L:=mem_ready.2 ⟨by
    have:=hL j hj;rw[oF Z]at this;have hlt:j<L.size:=Z
    simpa[Array.getD,hlt]using this,o,ho,λe he hb=>by
     have:=(aCF hm ho).2 e he hb;rw[hL e.on Z];exact oT this⟩
   rw[hr]at this;cases this
  ·have:=hready i hi;subst this;unfold wpOpIn;rw[ho];simp only
   by_cases hw:Region.wanted o (yielded ops a.tmps)=true
   ·rw[if_pos hw]at h ⊢;exact Oper.wpIn_mono ih h
   ·rw[if_neg hw]at h ⊢;exact⟨h.1,ih _ _ h.2⟩
theorem aYM {o y y'}(h:∀ g b,o.guard=some (g,b)->y g=y' g):Region.wanted o y=Region.wanted o y':=by
 unfold Region.wanted;grind
theorem aS7 {l}(h:aNX l=true){i:Nat}{o}(ho:l[i]?=some o){g b}(hg:o.guard=some (g,b)):g<i:=by
 have:=List.all_eq_true.1 h i (List.mem_range.2 (oO.1 ho).1)
 simp_all
theorem a8Z {ds:List Deferred} {Q1:Exit->Act->World->Prop} (hm:RX (kW ops) 0 ops.toList=true) (hf:forced ops s=true) (hg:aNX ops.toList=true) (hnd:aHY ops=true) (hs:s<=ops.size)
  (hno:∀ e a w,Q1 e a w->e=.normal) (hQ:∀ a w,Q1 .normal a w->wpListIn (Fr ro) n P ops Q (ops.toList.drop s) (zP ds a) w) :
  ∀ (k:Nat) (L1 L:Array Bool) (a:Act) (w:World),L1.size=s->L.size=ops.size->(∀ i,i<s->L1.getD i false=L.getD i false)->(∀ i,s<=i->L.getD i false=false)->V0 (kW ops) (λi=>L.getD i false)->(List.range s).countP (λi=>!L.getD i false)=k ->
   wpAny P .any (ops.toList.take s).toArray Q1 k L1 a w->wpAnyIn (Fr ro) n P .any ops Q (k+(ops.size-s)) L (zP ds a) w
 | 0,L1,L,a,w,h1,h2,h3,h4,hc,hk,h=>by
  rw[Nat.zero_add];refine aV1 hm hf (ops.size-s) s L _ w Z (oM _) h2 (λi hi=>?_) (hQ a w h.2)
  by_cases his:i<s
  ·rw[oT his];rw[List.countP_eq_zero]at hk;grind
  ·grind
 | k+1,L1,L,a,w,h1,h2,h3,h4,hc,hk,h=>by
  have hun:∃ i,i<s/\L.getD i false=false:=by
   have:0<(List.range s).countP (λi=>!L.getD i false):=Z
   obtain⟨i,hi,hp⟩:=List.countP_pos_iff.1 this;grind
  obtain⟨i0,hi0,hu0⟩:=hun;rw[show k+1+(ops.size-s)=(k+(ops.size-s))+1 by omega];refine⟨λhr=>?_,λi hi=>?_⟩
  ·exfalso;have all:∀ i,i<ops.size->L.getD i false=true:=by
    intro i
    induction i using Nat.strongRecOn with
    | _ i ih =>
     intro hi;cases hli:L.getD i false with
     | true=>rfl
     | false =>
      obtain⟨o,ho⟩:∃ o,ops[i]?=some o:=⟨ops[i],Array.getElem?_eq_getElem hi⟩;have:i∈Region.ready .any ops L:=mem_ready.2 ⟨by
       have hlt:i<L.size:=Z
       simpa[Array.getD,hlt]using hli,o,ho,λe he hb=>ih e.on ((aCF hm ho).2 e he hb) (by have:=(aCF hm ho).2 e he hb; omega)⟩
      grind
   grind
  ·obtain⟨hi1,hi2,hi3⟩:=aKS hm hc hi;have his:i<s:=by
    rcases oG i s with h|h
    ·exact h
    ·have:=hi3 i0 (aMS hf hi1 h Z);rw[hu0]at this; cases this
   obtain⟨_,o,ho,hdeps⟩:=mem_ready.1 hi;have hLi:L.getD i false=false:=by
    have hlt:i<L.size:=Z
    simp only[Array.getD,hlt,dif_pos]at hi2 ⊢;exact hi2
   have hpre:∀ j,j<s->(ops.toList.take s).toArray[j]?=ops[j]?:=by
    intro j hj;simp only[List.getElem?_toArray,List.getElem?_take,hj,if_true,Array.getElem?_toList]
   have hready:i∈Region.ready .any (ops.toList.take s).toArray L1:=mem_ready.2 ⟨by
    have:=h3 i his;rw[hLi]at this;have hlt:i<L1.size:=Z
    simpa[Array.getD,hlt]using this,o,by rw[hpre i his]; exact ho,λe he hb=>by
     have h5:=(aCF hm ho).2 e he hb;rw[h3 e.on Z];exact hdeps e he hb⟩
   have hop:=h.2 i hready;have hw:Region.wanted o (yielded (ops.toList.take s).toArray a.tmps)=Region.wanted o (yielded ops (zP ds a).tmps):=aYM λg b hgu=>by
    have hgi:=aS7 hg (i:=i) (o:=o) (by simpa using ho) hgu;unfold yielded;rw[hpre g Z];rfl
   have hset:∀ a w,wpAny P .any (ops.toList.take s).toArray Q1 k (L1.setIfInBounds i true) a w->wpAnyIn (Fr ro) n P .any ops Q (k+(ops.size-s)) (L.setIfInBounds i true) (zP ds a) w:=by
    intro a w h;have hLs:∀ j,j≠i->(L.setIfInBounds i true).getD j false=L.getD j false:=λj hj=>getD_set_ne false (λe=>hj e.symm)
    have hL1s:∀ j,j≠i->(L1.setIfInBounds i true).getD j false=L1.getD j false:=λj hj=>getD_set_ne false (λe=>hj e.symm)
    have hSi:(L.setIfInBounds i true).getD i false=true:=by
     have hlt:i<L.size:=Z
     simp[Array.getD,hlt]
    have hS1i:(L1.setIfInBounds i true).getD i false=true:=by
     have hlt:i<L1.size:=Z
     simp[Array.getD,hlt]
    refine a8Z hm hf hg hnd hs hno hQ k _ _ a w (by simpa using h1) (by simpa using h2) ?_ ?_ ?_ ?_ h
    ·intro j hj
     by_cases hji:j=i
     ·subst hji; rw[hSi,hS1i]
     ·rw[hLs j hji,hL1s j hji,h3 j hj]
    ·intro j hj;rw[hLs j Z]; exact h4 j hj
    ·intro j hj b hb;show (L.setIfInBounds i true).getD b false=true
     by_cases hbi:b=i
     ·subst hbi; exact hSi
     ·rw[hLs b hbi]
      by_cases hji:j=i
      ·subst hji; exact hi3 b hb
      ·have hj':L.getD j false=true:=by rw[<- hLs j hji]; exact hj
       exact hc j hj' b hb
    ·have:=aJK (p:=λi=>!L.getD i false) (p':=λj=>!(L.setIfInBounds i true).getD j false) (i:=i) (by simp only[hLi,Bool.not_false]) (by simp only[hSi,Bool.not_true]) (λj hj=>by simp only[hLs j hj]) s his;omega
   unfold wpOp at hop;rw[hpre i his,ho]at hop;simp only at hop;unfold wpOpIn;rw[ho];simp only;rw[hw]at hop
   by_cases hww:Region.wanted o (yielded ops (zP ds a).tmps)=true
   ·rw[if_pos hww]at hop ⊢;rcases hop with hop|⟨_,a0,w0,h0⟩
    ·exact aS3 (UB hnd (by rw[<- Array.getElem?_toList]at ho; exact List.mem_of_getElem? ho)) hset (λch a w h=>by cases hno _ a w h) (λa w h=>by cases hno _ a w h) hop
    ·cases hno _ a0 w0 h0
   ·rw[if_neg hww]at hop ⊢;refine⟨λ_ _=>trivial,?_⟩;rw[RY];exact hset _ _ hop
theorem AW {F Q1 l2}(hno:∀ e a w,Q1 e a w->e=.normal)(hQ:∀ a w,Q1 .normal a w->wpListIn F n P ops Q l2 a w):∀ {l1 a w},wpListIn F n P ops Q1 l1 a w->wpListIn F n P ops Q (l1++l2) a w
 | [],a,w,h=>hQ a w h
 | o::l1,a,w,h=>by
  rw[List.cons_append];unfold wpListIn at h ⊢;split at h
  next hw=>
   rw[if_pos hw];refine⟨h.1,?_⟩;have h2:=h.2;generalize (o.semAt F.round a.eval).run P w=r at h2 ⊢;cases r with
   | ok x w' =>
    cases x with
    | value v=>exact AW hno hQ h2
    | skip=>exact AW hno hQ h2
    | defer d=>exact AW hno hQ h2
    | enter f args =>
     refine⟨h2.1,CallsIn.mono h2.2 ?_⟩;rintro e w'' he;cases e with
     | returned v=>exact AW hno hQ he
     | panicked ch=>cases hno _ _ _ he
     | outgrown=>obtain⟨a0,w0,h0⟩:=he; cases hno _ _ _ h0
    | row row args=>exact⟨h2.1,RowsIn.mono h2.2 λv w'' he=>AW hno hQ he⟩
    | round l f t as1 b =>
     refine⟨h2.1,RoundIn.mono h2.2 ?_⟩;rintro e w'' he;cases e with
     | returned v=>exact AW hno hQ he
     | panicked ch=>cases hno _ _ _ he
     | outgrown=>obtain⟨a0,w0,h0⟩:=he; cases hno _ _ _ h0
    | _=>exact h2.elim
   | halt x w' =>
    cases x <;> first|(cases hno _ _ _ h2; done)|exact h2.elim
  next hw=>rw[if_neg hw];exact⟨h.1,AW hno hQ h.2⟩
end
section
variable {P:Program} {E:Env} {nt:Nat} {F F':Frm} {H H':Heap} {ops:Array Oper} {s:Nat}
theorem aS1(hcl:dA P (eY P E)) (hP:P.follows .mixedOrders=true) {id:Nat} {draw:Bool} (hsp:QK ops s=true)
  (hrun:(bif draw then UR P (eY P E) nt (ops.toList.take s).toArray F H else PL P (eY P E) nt ops.toList (ops.toList.take s) F H)=some (F',H'))
  {ro:Option Nat} {n:Nat} {n0:Nat->Prop} {wi:World} {Gi:Gd} {μi:Mp} {a:Act} {w:World} {ds:List Deferred} {Q:Exit->Act->World->Prop} (hI:I n0 wi Gi μi nt F H a w)
  (hQ:∀ a' w',I n0 wi Gi μi nt F' H' a' w'->wpListIn (Fr ro) n P ops Q (ops.toList.drop s) (zP ds a') w'):(Code.region id ops draw).wpIn (Fr ro) n P Q (zP ds a) w:=by
 simp only[QK,oA]at hsp;obtain⟨⟨⟨⟨hm,hf⟩,hg⟩,hnd⟩,hs⟩:=hsp;have hs:=oL hs;cases draw with
 | true =>
  have h1:=aAW (Q:=λe a' w'=>e=.normal/\I n0 wi Gi μi nt F' H' a' w') hcl hrun hI (λa' w' h=>⟨rfl,h⟩);refine wpIn_region_any hP ?_;have hsz:(ops.toList.take s).toArray.size=s:=by simp[List.length_take]; omega
  rw[hsz]at h1;have hfalse:∀ m j,(Array.replicate m false).getD j false=false:=λm j=>by
   simp only[Array.getD]
   simp_all
  have:=a8Z (n:=n) (ro:=ro) (ds:=ds) (Q:=Q) hm hf hg hnd hs (λe a w h=>h.1) (λa w h=>hQ a w h.2) s (Array.replicate s false) (Array.replicate ops.size false) a _ R R (λi _=>by rw[hfalse,hfalse]) (λi _=>hfalse _ i) (λj hj b hb=>by
   have:(Array.replicate ops.size false).getD j false=true:=hj;rw[hfalse]at this; cases this) (by
   rw[List.countP_eq_length.2]
   ·simp
   ·intro i _;rw[hfalse]; rfl) h1
  grind
 | false =>
  refine wpIn_region_list ?_;rw[<- List.take_append_drop s ops.toList];have h1:=CA (Q:=λe a' w'=>e=.normal/\I n0 wi Gi μi nt F' H' a' w') hcl (ops.toList.take s) F H a w hrun hI (λa' w' h=>⟨rfl,h⟩);have h2:=aGF (ro:=ro) (n:=n) (ds:=ds) (Q':=λe a' w'=>e=.normal/\wpListIn (Fr ro) n P ops Q (ops.toList.drop s) a' w') (λa w h=>by cases h.1) (λe a w h=>⟨h.1,hQ a w h.2⟩) (λo ho=>UB hnd (List.mem_of_mem_take ho)) h1
  exact AW (λe a w h=>h.1) (λa w h=>h.2) h2
end
def Sg(Φ:(Nat->Prop)->(Nat->Prop)->World->Prop) (G0 G:Gd) (μ:Mp) (H:Heap) (A:World):Prop :=
 ∃ (T X:Nat->Prop) (B:World) (GB:Gd) (μB:Mp),Φ T X B/\(∀ b,X b->T b)/\(∀ b,T b->b<B.heap.size)/\(∀ b,GB b->G0 b\/T b)/\(∀ b,G0 b->GB b) /\
  Ext (λb=>X b\/B.heap.size<=b) B GB μB A G μ/\aO (λb=>X b\/B.heap.size<=b) G μ H A
def qG(sl:List Nat) (F:Frm):Frm:=sl.map λt=>(t,bM F t)
def aES:Code->List (Nat×Array Oper)
 | .seq a b=>aES a++aES b
 | .cond _ a b=>aES a++aES b
 | .block _ a=>aES a
 | .loop a=>aES a
 | .region id ops _=>[(id,ops)]
 | _=>[]
def bC4:List (Nat×Array Oper)->Nat->Array Oper
 | [],_=>#[]
 | (j,o)::r,i=>bif Nat.beq j i then o else bC4 r i
def dT(c:Code)(i:Nat):Array Oper:=bC4 (aES c) i
def pR(c:Code)(i j:Nat):Oper:=(dT c i).toList.getD j default
def OY(o:Oper):Call:=match o.op with
 | .call c=>c
 | _=>{ callee:=.value (.const undef),args:=#[],argTypes:=#[] }
section
variable {P:Program} {Φ:(Nat->Prop)->(Nat->Prop)->World->Prop} {G0 G G':Gd} {μ μ':Mp} {H H':Heap} {A A' W:World} {F F':Frm} {nt n:Nat} {a:Act}
theorem Sg.start {J g0}(hlt:Lt W g0)(h:J (λ_=>False) (λ_=>False) W):Sg J (Gd.of g0) (Gd.of g0) aG [] W :=
 ⟨_,_,W,Gd.of g0,aG,h,λb h=>h,λb h=>h.elim,λb h=>.inl h,λb h=>h,Ext.refl _ _ _ _,λr k b h=>by grind,λr k g h=>by grind,λr s k l b h=>by simp,hlt,λ_ _=>⟨rfl,rfl⟩,λb hb=>.inr hb,rQ.none _ _ (λ_=>rfl) _ _ (λr k h=>by grind)⟩
theorem Sg.open_ (h:Sg Φ G0 G μ H A):∃ n0,aO n0 G μ H A/\(∀ b,G0 b->G b)/\∀ A' G' μ' H',Ext n0 A G μ A' G' μ'->aO n0 G' μ' H' A'->Sg Φ G0 G' μ' H' A':=by
 obtain⟨T,X,B,GB,μB,h1,h2,h3,h4,h5,h6,h7⟩:=h;exact⟨_,h7,λb hb=>(h6.good b (h5 b hb)).1,λA' G' μ' H' e w=>⟨T,X,B,GB,μB,h1,h2,h3,h4,h5,h6.trans e,w⟩⟩
theorem Sg.renamed (h:Sg Φ G0 G μ H A) (hs:∀ n0,aO n0 G μ H A->aO n0 G μ' H' A):Sg Φ G0 G μ' H' A:=by
 obtain⟨T,X,B,GB,μB,h1,h2,h3,h4,h5,h6,h7⟩:=h;refine⟨T,X,B,GB,aG,h1,h2,h3,h4,h5,?_,hs _ h7⟩;exact { good:=h6.good,map:=λ_ _ h=>(by cases h),len:=λ_ _ h=>(by cases h),room:=h6.room,row:=h6.row,os:=h6.os,tape:=h6.tape,output:=h6.output,size:=h6.size,old:=h6.old,new:=h6.new }
theorem Sg.stp (h:Sg Φ G0 G μ H A):∃ T X B,Stp X B A/\Φ T X B:=by
 obtain⟨T,X,B,GB,μB,h1,h2,h3,h4,h5,h6,h7⟩:=h;exact⟨T,X,B,⟨λb hb hx=>h6.old b hb zf,h6.room,h6.os,h6.tape,h6.output,h6.size⟩,h1⟩
theorem Sg.freeze (h:Sg Φ G0 G μ H A) {r:Nat} {k:Blk} (hr:H[r]?=some (some k)) (hf:k.frozen=false):Sg Φ G0 (G.or λx=>μ.loc r=some x) μ (H.set r (some { k with frozen:=true })) A/\Mono A G μ A (G.or λx=>μ.loc r=some x) μ:=by
 obtain⟨n0,hW,_,hS⟩:=h.open_;obtain⟨e,w⟩:=xI hW hr hf;exact⟨hS _ _ _ _ e w,e.toMono⟩
theorem Sg.bGN {k:Blk} {H:Heap} (h:Sg Φ G0 G μ (some k::H) A) (ht:k.tag.isSome=true):Sg Φ G0 G (RO μ [0]) [some k] A:=by
 refine h.renamed λn0 hW=>aQ6 hW rfl ?_
 simp only[aNY,gS,List.getElem?_cons_zero,ht,oC]
theorem aZD {B GB μB}(hm:Mono A G μ B GB μB)(htop:∀ r,1<=r->μ.loc r=none/\μ.len r=none):Mono A G μ B GB (RO μB [0]):=by
 refine⟨hm.good,?_,?_,hm.room,hm.row,?_⟩
 ·intro r b hr;cases r with
  | zero=>exact hm.map 0 b hr
  | succ r=>grind
 ·intro r b hr;cases r with
  | zero=>exact hm.len 0 b hr
  | succ r=>grind
 ·intro r b hr;cases r with
  | zero=>exact hm.sh 0 b hr
  | succ r=>grind
theorem aSB t:∀ sl ,bM (qG sl F) t=bM F t\/bM (qG sl F) t=.junk
 | []=>.inr rfl
 | s::sl=>by
  show bM ((s,bM F s)::qG sl F) t=bM F t\/bM ((s,bM F s)::qG sl F) t=.junk;rw[bT]
  by_cases hs:t=s
  ·grind
  ·rw[if_neg hs]; exact aSB t sl
theorem cZ.pick (h:cZ A G μ nt F a) sl:cZ A G μ nt (qG sl F) a:=⟨h.size,λt=>by
 rcases aSB t sl with h1|h1
 ·rw[h1]; exact h.slot t
 ·rw[h1,VR]; simp,h.defers⟩
theorem o7 {E:Env} (hcl:dA P (eY P E)) (hP:P.follows .mixedOrders=true) {id:Nat} {ops:Array Oper} {draw:Bool} {sl:List Nat} (h:lP P E nt ops draw F H (λF H=>some (qG sl F,H))=some (F',H'))
  {Q:Exit->Act->World->Prop} (hS:Sg Φ G0 G μ H A) (hF:cZ A G μ nt F a) (hQ:∀ G' μ' a' A',Sg Φ G0 G' μ' H' A'->Mono A G μ A' G' μ'->cZ A' G' μ' nt F' a'->Q .normal a' A') :
  (Code.region id ops draw).wpIn Fence.wide n P Q a A:=by
 obtain⟨F1,H1,h1,h2⟩:=aD0 (id:=id) hcl hP h;obtain⟨rfl,rfl⟩:=h1;obtain⟨n0,hW,_,hS2⟩:=hS.open_;refine wpIn_wide.2 (h2 (n0:=n0) (wi:=A) (Gi:=G) (μi:=μ) ⟨G,μ,Ext.refl _ _ _ _,hW,hF⟩ ?_);rintro a' A' ⟨G',μ',e,hW',hF'⟩;exact hQ G' μ' a' A' (hS2 _ _ _ _ e hW') e.toMono (hF'.pick sl)
theorem aVZ {E:Env} (hcl:dA P (eY P E)) (hP:P.follows .mixedOrders=true) {id s:Nat} {ops:Array Oper} {draw:Bool} {sl:List Nat} (hsp:QK ops s=true)
  (h:(bif draw then lP P E nt (ops.toList.take s).toArray true F H (λF H=>some (qG sl F,H)) else FN P E nt ops.toList (ops.toList.take s) F H (λF H=>some (qG sl F,H)))=some (F',H'))
  {Q:Exit->Act->World->Prop} (hS:Sg Φ G0 G μ H A) (hF:cZ A G μ nt F a) (hQ:∀ G' μ' a' A',Sg Φ G0 G' μ' H' A'->Mono A G μ A' G' μ'->cZ A' G' μ' nt F' a'->wpListIn Fence.wide n P ops Q (ops.toList.drop s) a' A') :
  (Code.region id ops draw).wpIn Fence.wide n P Q a A:=by
 obtain⟨F1,hrun,hF1⟩:∃ F1,(bif draw then UR P (eY P E) nt (ops.toList.take s).toArray F H else PL P (eY P E) nt ops.toList (ops.toList.take s) F H)=some (F1,H')/\qG sl F1=F':=by
  cases draw with
  | true =>
   obtain⟨F1,H1,h2,h3⟩:=XU h;grind
  | false =>
   obtain⟨F1,H1,h2,h3⟩:=KO h;grind
 obtain⟨n0,hW,_,hS2⟩:=hS.open_;have:=aS1 (ro:=none) (n:=n) (ds:=[]) (Q:=Q) hcl hP (id:=id) hsp hrun (n0:=n0) (wi:=A) (Gi:=G) (μi:=μ) (a:=a) (w:=A) ⟨G,μ,Ext.refl _ _ _ _,hW,hF⟩ (λa' w' h=>by
  obtain⟨G',μ',e,hW',hF'⟩:=h;have e1:zP [] a'=a':=by simp[zP]
  rw[e1];rw[<- hF1]at hQ;exact hQ G' μ' a' w' (hS2 _ _ _ _ e hW') e.toMono (hF'.pick sl))
 have e1:zP [] a=a:=by simp[zP]
 rw[e1]at this;exact this
theorem a29 {E} (hcl:dA P (eY P E)) (hP:P.follows .mixedOrders=true) {id s ops sl} (hsp:QK ops s=true)
  (h:FN P E nt ops.toList (ops.toList.take s) F H (λF H=>some (qG sl F,H))=some (F',H'))
  {Q} (hS:Sg Φ G0 G μ H A) (hF:cZ A G μ nt F a) (hQ:∀ G' μ' a' A',Sg Φ G0 G' μ' H' A'->Mono A G μ A' G' μ'->cZ A' G' μ' nt F' a'->wpListIn Fence.wide n P ops Q (ops.toList.drop s) a' A') :
  (Code.region id ops false).wpIn Fence.wide n P Q a A:=aVZ (draw:=false) hcl hP hsp h hS hF hQ
theorem WN {E} (hcl:dA P (eY P E)) (hP:P.follows .mixedOrders=true) {id s ops sl} (hsp:QK ops s=true)
  (h:lP P E nt (ops.toList.take s).toArray true F H (λF H=>some (qG sl F,H))=some (F',H'))
  {Q} (hS:Sg Φ G0 G μ H A) (hF:cZ A G μ nt F a) (hQ:∀ G' μ' a' A',Sg Φ G0 G' μ' H' A'->Mono A G μ A' G' μ'->cZ A' G' μ' nt F' a'->wpListIn Fence.wide n P ops Q (ops.toList.drop s) a' A') :
  (Code.region id ops true).wpIn Fence.wide n P Q a A:=aVZ (draw:=true) hcl hP hsp h hS hF hQ
theorem Sg.yield {ks:List Kd} {l:Nat} {all:List (aM ks)} {J Jx:List (aM ks)->(Nat->Prop)->(Nat->Prop)->World->Prop}
  (hY:∀ pre e post T X B T' X' A us Gx m',all=pre++e::post->J pre T X B->Stp X B A->(∀ b,T' b->(T b\/B.heap.size<=b)/\b<A.heap.size)->(∀ b,X' b->T' b/\(X b\/B.heap.size<=b)) ->
   (∀ b,Gx b->(G0 b\/T' b)/\¬ X' b)->VRs A (Gd.of Gx) aG (kX ks e) us ->
   YieldAt Fence.wide m' P l us.toArray A λen C =>
    ((∀ b,b<A.heap.size->G0 b\/T' b->C.heap[b]?=A.heap[b]?)/\(∀ b n,Room A b n->Room C b n)/\A.heap.size<=C.heap.size)/\((en=.returned (.bool true)/\J (pre++[e]) T' X' C)\/(en=.returned (.bool false)/\Jx (pre++[e]) T' X' C)))
  {pre post:List (aM ks)} {e:aM ks} (hall:all=pre++e::post) {us:List Value} (h:Sg (J pre) G0 G μ H A) (hus:VRs A G aG (kX ks e) us) (hpl:dV.noRows (kX ks e)=true) (m':Nat) :
  YieldAt Fence.wide m' P l us.toArray A λen C=>Mono A G μ C G μ/\((en=.returned (.bool true)/\Sg (J (pre++[e])) G0 G μ H C)\/(en=.returned (.bool false)/\Sg (Jx (pre++[e])) G0 G μ H C)):=by
 obtain⟨T,X,B,GB,μB,h1,h2,h3,h4,h5,h6,h7⟩:=h;obtain⟨T',hT'⟩:∃ T':Nat->Prop,T'=λb=>T b\/(B.heap.size<=b/\b<A.heap.size):=⟨_,rfl⟩
 obtain⟨X',hX'⟩:∃ X':Nat->Prop,X'=λb=>(∃ r k,H[r]?=some (some k)/\k.frozen=false/\μ.loc r=some b)\/∃ j,G.row j=some b:=⟨_,rfl⟩
 have hGT:∀ b,G b->G0 b\/T' b:=by
  intro b hb;have hlt:=h7.lt b hb;rw[hT'];rcases h6.new b hb with h|h|h
  ·grind
  ·grind
  ·grind
 have hXT:∀ b,X' b->T' b/\(X b\/B.heap.size<=b)/\¬ G b:=by
  intro b hb;rw[hX']at hb;rcases hb with ⟨r,k,g1,g2,g3⟩|⟨j,hj⟩
  case inr =>
   obtain⟨s1,s2,s3,_⟩:=h7.rows.sep j b hj;grind
  obtain⟨c,q1,_,_,_,q5⟩:=h7.blk r k b g1 g3;grind
 have hst:Stp X B A:=⟨λb hb hx=>h6.old b hb (by rintro(h|h); exact hx h; omega),h6.room,h6.os,h6.tape,h6.output,h6.size⟩;obtain⟨fn,tmps,as1,body,y1,y2⟩:=hY pre e post T X B T' X' A us G.ok m' hall h1 hst (λb hb=>by
  rw[hT']at hb;rcases hb with hb|hb
  ·exact⟨.inl hb,Nat.lt_of_lt_of_le (h3 b hb) h6.size⟩
  ·exact⟨.inr hb.1,hb.2⟩) (λb hb=>⟨(hXT b hb).1,(hXT b hb).2.1⟩) (λb hb=>⟨hGT b hb,λhx=>(hXT b hx).2.2 hb⟩) (vA (G:=G) (G':=Gd.of G.ok) (λb h=>h) _ _ _ hpl hus)
 refine⟨fn,tmps,as1,body,y1,y2.mono ?_⟩;rintro en C ⟨⟨k1,k2,k3⟩,hout⟩;have hgood:∀ b,G b->C.heap[b]?=A.heap[b]?:=λb hb=>k1 b (h7.lt b hb) (hGT b hb)
 have hmono:Mono A G μ C G μ:=⟨λb hb=>⟨hb,hgood b hb⟩,λ_ _ h=>h,λ_ _ h=>h,k2,λ_ _ h=>h,λ_ _ _=>rfl⟩;have hTs:∀ b,T' b->b<C.heap.size:=by
  intro b hb;rw[hT']at hb;rcases hb with hb|hb
  ·have:=h3 b hb; have:=h6.size; omega
  ·omega
 have hwinv:aO (λb=>X' b\/C.heap.size<=b) G μ H C:=by
  refine⟨?_,h7.tags,h7.inj,h7.lt.step (λb hb=>⟨hb,hgood b hb⟩) λb hb=>Nat.lt_of_lt_of_le (h7.lt b hb) k3,h7.top,λb hb=>.inr hb,(h7.rows.aK0 (n1:=λb=>X' b\/C.heap.size<=b) λj b hj _=>.inl (by rw[hX']; exact .inr ⟨j,hj⟩)).step hmono.aG k3 (λ_=>rfl) (λj b hj=>⟨?_,id,λr k h1 h2 h3=>⟨r,k,h1,h2,h3⟩⟩) (λr k _ _ h1 _ _=>⟨k,h1,rfl,rfl,rfl,rfl⟩)⟩
  case refine_2 =>
   exact k1 b (h7.rows.sep j b hj).1 (.inr (hXT b (by rw[hX']; exact .inr ⟨j,hj⟩)).1)
  intro r k b hr hb;obtain⟨c,q1,q2,q3,q4,q5⟩:=h7.blk r k b hr hb;have hx:k.frozen=false->X' b:=λhf=>by rw[hX']; exact .inl ⟨r,k,hr,hf,hb⟩
  have heq:C.heap[b]?=A.heap[b]?:=by
   cases hf:k.frozen with
   | true=>exact hgood b (q4 hf)
   | false=>exact k1 b (h7.pK hr hb) (.inr (hXT b (hx hf)).1)
  exact⟨c,heq.trans q1,aL.mono hmono heq _ _ q2,q3,q4,λhf=>⟨.inl (hx hf),(q5 hf).2⟩⟩
 have key:∀ {Ψ:(Nat->Prop)->(Nat->Prop)->World->Prop},Ψ T' X' C->Sg Ψ G0 G μ H C:=λhψ =>
  ⟨T',X',C,G,μ,hψ,λb hb=>(hXT b hb).1,hTs,hGT,λb hb=>(h6.good b (h5 b hb)).1,Ext.refl _ _ _ _,hwinv⟩
 refine⟨hmono,?_⟩;rcases hout with ⟨rfl,hj⟩|⟨rfl,hj⟩
 ·exact .inl ⟨rfl,key hj⟩
 ·exact .inr ⟨rfl,key hj⟩
variable {ops:Array Oper} {Q:Exit->Act->World->Prop}
theorem aX8 {o:Oper} {c:Call} {f:Operand} {rest:List Oper} {l:Nat} {us:Array Value} {R:Ending->World->Prop} (ho:o.op=.call c) (hc:c.callee=.value f) (hw:Region.wanted o (yielded ops a.tmps)=true) (hf:a.eval f=.func (.yield l) #[] #[]) (hargs:c.args.map a.eval=us)
  (hy:∀ m',YieldAt Fence.wide m' P l us A R) (hR:∀ en C,R en C->∃ v,en=.returned v/\wpListIn Fence.wide n P ops Q rest (a.put o.dst v) C):wpListIn Fence.wide n P ops Q (o::rest) a A:=by
 obtain⟨fn,tmps,as1,body,y1,y2⟩:=hy (n-1);unfold wpListIn;rw[if_pos hw];refine⟨λ_ _=>trivial,?_⟩;have hs:(o.semAt none a.eval).run P A=.ok (.round l fn tmps as1 body) A:=by
  rw[Oper.semAt_none];simp[execOp,ho,resolve,hc,hf,hargs,Deferred.ofValue,Sem.run_bind,Sem.run_pure,Result.andThen_ok,invoke,y1]
 show Oper.uponIn Fence.wide n P o a _ Q ((o.semAt none a.eval).run P A);rw[hs];refine⟨λh=>(by cases h),y2.mono ?_⟩;grind
theorem aV0 {o:Oper} {c:Call} {f:Operand} {rest:List Oper} {g:FuncId} {caps us:Array Value} {R:Ending->World->Prop} (ho:o.op=.call c) (hc:c.callee=.value f) (hw:Region.wanted o (yielded ops a.tmps)=true) (hf:a.eval f=.func (.func g) #[] caps) (hargs:c.args.map a.eval++caps=us)
  (hen:(callFunc g us).run P A=.ok (.enter g us) A) (hy:∀ m',CallsIn Fence.wide m' P g us A R) (hR:∀ en C,R en C->∃ v,en=.returned v/\wpListIn Fence.wide n P ops Q rest (a.put o.dst v) C):wpListIn Fence.wide n P ops Q (o::rest) a A:=by
 unfold wpListIn;rw[if_pos hw];refine⟨λ_ _=>trivial,?_⟩;have hs:(o.semAt none a.eval).run P A=.ok (.enter g us) A:=by
  rw[Oper.semAt_none];simp[execOp,ho,resolve,hc,hf,hargs,Deferred.ofValue,Sem.run_bind,Sem.run_pure,Result.andThen_ok,invoke,hen]
 show Oper.uponIn Fence.wide n P o a _ Q ((o.semAt none a.eval).run P A);rw[hs];refine⟨λh=>(by cases h),(hy (n-1)).mono ?_⟩;grind
theorem a1K {o:Oper} {rest:List Oper} (hw:Region.wanted o (yielded ops a.tmps)=false) (h:wpListIn Fence.wide n P ops Q rest (a.put o.dst undef) A):wpListIn Fence.wide n P ops Q (o::rest) a A:=by
 unfold wpListIn;rw[if_neg (by rw[hw]; decide)];exact⟨λ_ _=>trivial,h⟩
theorem X7 {E:Env} (hcl:dA P (eY P E)) {l:List Oper} {sl:List Nat} (h:FN P E nt ops.toList l F H (λF H=>some (qG sl F,H))=some (F',H')) (hnd:(l.all λo=>!aHG o.op)=true)
  (hS:Sg Φ G0 G μ H A) (hF:cZ A G μ nt F a) (hQ:∀ G' μ' a' A',Sg Φ G0 G' μ' H' A'->Mono A G μ A' G' μ'->cZ A' G' μ' nt F' a'->Q .normal a' A'):wpListIn Fence.wide n P ops Q l a A:=by
 obtain⟨F1,H1,hrun,h3⟩:=KO h;simp only[oJ,oP]at h3;obtain⟨hF1,rfl⟩:=h3;obtain⟨n0,hW,_,hS2⟩:=hS.open_;have h1:=CA (Q:=λe a' w'=>e=.normal/\I n0 A G μ nt F1 H1 a' w') hcl l F H a A hrun ⟨G,μ,Ext.refl _ _ _ _,hW,hF⟩ (λa' w' h=>⟨rfl,h⟩);have h2:=aGF (ro:=none) (n:=n) (ds:=[]) (Q':=Q) (λa w h=>by cases h.1) (λe a' w' h=>by
  obtain⟨rfl,G',μ',e,hW',hF'⟩:=h;have e1:zP [] a'=a':=by simp[zP]
  rw[e1];rw[<- hF1]at hQ;exact hQ G' μ' a' w' (hS2 _ _ _ _ e hW') e.toMono (hF'.pick sl)) (λo ho c hc=>by
  have:=List.all_eq_true.1 hnd o ho;rw[hc]at this;cases this) h1
 have e1:zP [] a=a:=by simp[zP]
 rw[e1]at h2;exact h2
theorem u7 {t b}(hF:cZ A G μ nt F a)(h:bM F t=.lit (.bool b)):a.eval (.tmp t)=.bool b:=by
 have:=hF.slot t;rw[h,VR]at this;exact this
theorem aGT {t v}(hF:cZ A G μ nt F a)(h:bM F t=.lit v):a.eval (.tmp t)=v:=by
 have:=hF.slot t;rw[h,VR]at this;exact this
theorem aCK(a:Act)(t:Nat):(#[Operand.tmp t]).map a.eval=#[a.tmps.getD t undef]:=by
 simp only[List.map_toArray];rfl
theorem aAF {o y}(h:o.guard=none):Region.wanted o y=true:=by
 unfold Region.wanted;grind
end
structure a8N (Y:Type) where
 sh:List (Nat×Kd)
 exits:List (Ex×List (Nat×Kd))
 run:Shape.den sh->Option (List Y×cD exits)
section
variable {α:Type} (P:Program) (E:Env) (nt keep:Nat) (lt:Nat->Option eE) (ks:List Kd) (li:Nat->Option (a8N (Value×aM ks)))
end
section
variable {P:Program} {E:Env} {nt keep:Nat} {lt:Nat->Option eE} {ks:List Kd} {li:Nat->Option (a8N (Value×aM ks))}
variable {Φ:(Nat->Prop)->(Nat->Prop)->World->Prop} {G0 G G':Gd} {μ μ':Mp} {H H':Heap} {A A' W:World} {F F':Frm} {n:Nat} {a:Act}
end
end Go.PM
namespace Go.PM
open Go
theorem aK i n:aF i n=decide (0<=i/\i<n):=by
 cases i with
 | ofNat m =>
  show Nat.blt m n=_;rw[bW];simp
 | negSucc m =>
  rfl
theorem cT(m n:Nat):Nat.ble m n=decide (m<=n):=by
 cases h:Nat.ble m n with
 | true=>simp_all
 | false =>
  refine(oF λhl=>?_).symm;rw[Nat.ble_eq_true_of_le hl]at h;grind
theorem wrap64 {x}(h1 : -9223372036854775808<=x)(h2:x<9223372036854775808):aB .i64 x=x:=by
 cases x with
 | ofNat m =>
  have:m<9223372036854775808:=zf
  unfold aB;simp only[bW,oT this,oC]
 | negSucc m =>
  have:m<9223372036854775808:=Z
  unfold aB;simp only[bW,oT this,oC]
theorem bC(i:Nat)(h:i<9223372036854775807):aB .i64 (i+1)=((i+1:Nat)):=by rw[wrap64 Z Z]; rfl
theorem TZ {x}(h1 : -9223372036854775808<=x)(h2:x<9223372036854775808):IntKind.wrap .i64 x=x:=by rw[<- SD]; exact wrap64 h1 h2
theorem aS {α:Type} p [Decidable p](a b:α):(bif decide p then a else b)=if p then a else b:=R
theorem aD {τ α} x (k:τ->Option α):aC (some x) k=k x:=rfl
theorem pG p [Decidable p]:(!decide p)=decide (¬ p):=R
theorem I3 {β γ α}(z:β) f (g:γ->Option α):mY (.inl z) f g=f z:=rfl
theorem lM {β γ α}(z:γ)(f:β->Option α) g:mY (.inr z) f g=g z:=rfl
section
variable {σ τ:Type} {step:σ->Option (σ⊕τ)}
theorem bV n x:aW step (n+1) x=match step x with
  | some (.inl y)=>aW step n y
  | some (.inr z)=>some z
  | none=>none:=rfl
theorem T7(F:Nat->σ) k:∀ m j,(∀ i,j<=i->i<j+m->step (F i)=some (.inl (F (i+1))))->aW step (m+k) (F j)=aW step k (F (j+m))
 | 0,j,_=>R
 | m+1,j,h=>by
  rw[Nat.add_right_comm,bV,h j (oM _) R];show aW step (m+k) (F (j+1))=_;rw[T7 F k m (j+1) λi h1 h2=>h i Z Z];grind
theorem bH {N:Nat} (F:Nat->σ) (m:Nat) (z:τ) (hN:m<N) (h:∀ i,i<m->step (F i)=some (.inl (F (i+1)))) (he:step (F m)=some (.inr z)):aW step N (F 0)=some z:=by
 obtain⟨k,rfl⟩:∃ k,N=m+(k+1):=⟨N-m-1,by omega⟩;rw[T7 F (k+1) m 0 (λi _ h2=>h i Z),Nat.zero_add,bV,he]
theorem aB5(F:Nat->σ) (stop:Nat->Option τ) (z:τ) (k:Nat):∀ (m j:Nat),(∀ i,j<=i->i<j+m->step (F i)=some (match stop i with|some y=>.inr y|none=>.inl (F (i+1))))->step (F (j+m))=some (.inr z) ->
   aW step (m+(k+1)) (F j)=some (((List.range' j m).findSome? stop).getD z)
 | 0,j,_,he=>by rw[Nat.zero_add,bV,show F j=F (j+0) from rfl,he]; rfl
 | m+1,j,h,he=>by
  rw[Nat.add_right_comm,bV,h j (oM _) Z,List.range'_succ,List.findSome?_cons];cases hs:stop j with
  | some y=>rfl
  | none =>
   show aW step (m+(k+1)) (F (j+1))=_;exact aB5 F stop z k m (j+1) (λi h1 h2=>h i Z Z) (by rw[<- he]; congr 2; omega)
theorem qI {N}(F:Nat->σ) stop m z (hN:m<N)(h:∀ i,i<m->step (F i)=some (match stop i with|some y=>.inr y|none=>.inl (F (i+1))))(he:step (F m)=some (.inr z)) :
  aW step N (F 0)=some (((List.range m).findSome? stop).getD z):=by
 obtain⟨k,rfl⟩:∃ k,N=m+(k+1):=⟨N-m-1,by omega⟩;rw[List.range_eq_range'];exact aB5 F stop z k m 0 (λi _ h2=>h i Z) zf
end
open Go Go.RowKit
section
variable {P:Program} {n0:Nat->Prop} {w w':World} {G G':Gd} {μ μ1:Mp} {H H1:Heap}
def OT(μ μ1:Mp)(h:Nat):Mp:=⟨λr=>if r<h then μ.loc r else μ1.loc (r-h),λr=>if r<h then μ.len r else μ1.len (r-h),λr=>if r<h then μ.sh r else μ1.sh (r-h)⟩
theorem xB {h r}(hr:r<h):(OT μ μ1 h).loc r=μ.loc r/\(OT μ μ1 h).len r=μ.len r/\(OT μ μ1 h).sh r=μ.sh r:=by simp[OT,hr]
theorem zO {h r}(hr:h<=r):(OT μ μ1 h).loc r=μ1.loc (r-h)/\(OT μ μ1 h).len r=μ1.len (r-h)/\(OT μ μ1 h).sh r=μ1.sh (r-h):=by
 have:¬ r<h:=Z
 simp[OT,this]
theorem aWM(hW:aO n0 G μ H w)(e:Ext (uF w) w G.bare aG w' G' μ1):Ext n0 w G μ w' (G'.with G) (OT μ μ1 H.length):={
 good:=e.good
 map:=λr b hr=>by
  rcases oG r H.length with hl|hl
  ·rw[(xB hl).1]; omega
  ·rw[(hW.top r hl).1]at hr; grind
 len:=λr b hr=>by
  rcases oG r H.length with hl|hl
  ·rw[(xB hl).2.1]; omega
  ·rw[(hW.top r hl).2]at hr; grind
 sh:=λr b hr=>by
  rcases oG r H.length with hl|hl
  ·exact(xB hl).2.2
  ·rw[(hW.top r hl).1]at hr; cases hr
 room:=e.room
 row:=λ_ _ h=>h
 os:=e.os
 tape:=e.tape
 output:=e.output
 size:=e.size
 old:=λb hb _=>e.old b hb (Nat.not_le.2 hb)
 new:=λb hb=>by
  rcases e.new b hb with h|h
  ·exact .inl h
  ·exact .inr (hW.base b h) }
theorem a4T(hW:aO n0 G μ H w)(e:Ext (uF w) w G.bare aG w' G' μ1)(h1:aO (uF w) G' μ1 H1 w')(ht:XR H1=true)(hp:∀ (r:Nat) k,H1[r]?=some (some k)->dV.noRows k.cells=true/\∀ t l,k.tag≠some ⟨.rows t,l⟩):aO n0 (G'.with G) (OT μ μ1 H.length) (H++H1) w':=by
 have e':=aWM hW e;have key:∀ (r:Nat) (k:Blk),(H++H1)[r]?=some (some k)->(r<H.length/\H[r]?=some (some k))\/(H.length<=r/\H1[r-H.length]?=some (some k)):=by
  intro r k hr;rcases oG r H.length with hl|hl
  ·rw[List.getElem?_append_left hl]at hr; exact .inl ⟨hl,hr⟩
  ·rw[List.getElem?_append_right hl]at hr; exact .inr ⟨hl,hr⟩
 refine⟨?_,?_,?_,h1.lt,?_,λb hb=>hW.base b (oR e.size hb),hW.rows.step e'.toMono.aG e.size (λ_=>rfl) (λj b hj=>?_) (λr k t l hr hg htg=>?_)⟩
 case refine_5 =>
  have hlt:=(hW.rows.sep j b hj).1;refine⟨e.old b hlt (Nat.not_le.2 hlt),λhg=>?_,λr k hr hf hl=>?_⟩
  ·rcases e.new b hg with h|h
   ·exact h
   ·exact absurd hlt (Nat.not_lt.2 h)
  ·rcases key r k hr with ⟨hl2,hr⟩|⟨hl2,hr⟩
   ·rw[(xB hl2).1]at hl; exact⟨r,k,hr,hf,hl⟩
   ·rw[(zO hl2).1]at hl;obtain⟨_,_,_,_,_,a5⟩:=h1.blk _ k b hr hl;exact absurd hlt (Nat.not_lt.2 (a5 hf).1)
 case refine_6 =>
  rcases key r k hr with ⟨hl2,hr⟩|⟨hl2,hr⟩
  ·exact⟨k,hr,rfl,rfl,rfl,(xB hl2).1⟩
  ·exact absurd htg ((hp _ k hr).2 t l)
 ·intro r k b hr hb;rcases key r k hr with ⟨hl,hr⟩|⟨hl,hr⟩
  ·rw[(xB hl).1]at hb;obtain⟨c,a1,a2,a3,a4,a5⟩:=hW.blk r k b hr hb;have hlt:=hW.pK hr hb;have ho:=e.old b hlt (Nat.not_le.2 hlt);rw[(xB hl).2.2];refine⟨c,ho.trans a1,aL.mono e'.toMono ho _ _ a2,a3,λhf=>(e.good b (a4 hf)).1,λhf=>⟨(a5 hf).1,λhg=>?_⟩⟩;rcases e.new b hg with h|h
   ·exact(a5 hf).2 h
   ·omega
  ·rw[(zO hl).1]at hb;obtain⟨c,a1,a2,a3,a4,a5⟩:=h1.blk _ k b hr hb;rw[(zO hl).2.2];refine⟨c,a1,?_,a3,a4,λhf=>⟨hW.base b (a5 hf).1,(a5 hf).2⟩⟩;refine uY (G:=G') (G':=G'.with G) (λb h=>h) _ _ _ _ (hp _ k hr).1 ?_;rcases YN ht hr with hg|hg
   ·obtain⟨g,hg⟩:=Option.isSome_iff_exists.1 hg;have:=(h1.tags _ k g hr hg).1;rw[this]at a2 ⊢;exact nR (iM _ _) a2
   ·exact nR hg a2
 ·intro r k g hr hg;rcases key r k hr with ⟨hl,hr⟩|⟨hl,hr⟩
  ·rw[(xB hl).2.1]; exact hW.tags r k g hr hg
  ·rw[(zO hl).2.1]; exact h1.tags _ k g hr hg
 ·intro r s k l b hr hs fk fl m1 m2;rcases key r k hr with ⟨hl,hr⟩|⟨hl,hr⟩ <;> rcases key s l hs with ⟨hl2,hs⟩|⟨hl2,hs⟩
  ·rw[(xB hl).1]at m1;rw[(xB hl2).1]at m2;exact hW.inj r s k l b hr hs fk fl m1 m2
  ·rw[(xB hl).1]at m1;rw[(zO hl2).1]at m2;obtain⟨_,_,_,_,_,a5⟩:=h1.blk _ l b hs m2;have:=hW.pK hr m1;have:=(a5 fl).1;omega
  ·rw[(zO hl).1]at m1;rw[(xB hl2).1]at m2;obtain⟨_,_,_,_,_,a5⟩:=h1.blk _ k b hr m1;have:=hW.pK hs m2;have:=(a5 fk).1;omega
  ·rw[(zO hl).1]at m1;rw[(zO hl2).1]at m2;have:=h1.inj _ _ k l b hr hs fk fl m1 m2;omega
 ·intro r hr;simp only[oH]at hr;have hl:H.length<=r:=Z
  rw[(zO hl).1,(zO hl).2.1];exact h1.top _ Z
theorem a5L {r sz v}(h:VR w' G' μ1 (.own r sz) v):VR w' G' (OT μ μ1 H.length) (.own (H.length+r) sz) v:=by
 have e:=zO (μ:=μ) (μ1:=μ1) (h:=H.length) (r:=H.length+r) R;rw[VR]at h ⊢;grind
def aGM(P:Program) (g:FuncId) (args:List Kd) (e:TypeId) (ty:Ty) (f:aM args->Option (List ty.den)):Prop :=
 ∀ x l,f x=some l->∀ {n0 G μ w us},aO n0 G μ [] w->VRs w G μ (kX args x) us->vG P n0 w G μ g us.toArray (.own 0 ty.size) [some ⟨aI ty l,e,true,false,some ⟨ty,l⟩⟩]
def bB1(t:Nat)(e:TypeId)(ty:Ty)(ex:Ex)(F:Frm)(H:Heap):Option (List ty.den):=match ex with
 | .exit _=>none
 | _=>match QR [(t,.own e ty)] F H with
  | some x=>some x.1
  | none=>none
def aR4(P:Program)(E:Env)(fn:Func)(keep:Nat)(lt:Nat->Option eE)(c:Code) args (t:Nat)(e:TypeId)(ty:Ty)(x:aM args):Option (List ty.den) :=
 bif Nat.ble (kX args x).length fn.ntmps then l4 P E fn.ntmps keep lt c (start keep 0 (kX args x)) [] (bB1 t e ty) else none
theorem aL9 {E} (hP:LW P) (hE:eS P E) {g:Nat} {fn} (hg:P.funcs[g]?=some fn) {c} (hc:fn.body=some c) {keep lt args} {t:Nat} (hr:fn.results.toList=[.tmp t]) {e ty f}
  (hl:∀ a∈bB c,∀ s,lt (cA a)=some s->eJ P fn.ntmps a s) (hb:∀ x,aR4 P E fn keep lt c args t e ty x=f x):aGM P g args e ty f:=by
 intro x l hy n0 G μ w us hW hv;rw[<- hb]at hy;unfold aR4 at hy;obtain⟨hlen,hy⟩:=aJ hy;obtain⟨⟨ex,F',H'⟩,h1,h2⟩:=k8 hE.callee hP.mixed c _ _ _ _ hl hy;obtain⟨y,hex,hd,hyl⟩:∃ y,(ex=.normal\/ex=.ret)/\QR [(t,.own e ty)] F' H'=some y/\y.1=l:=by
  unfold bB1 at h1;split at h1
  ·cases h1
  next hne=>
   split at h1
   ·rename_i y hy;simp only[oJ]at h1;refine⟨y,?_,hy,h1⟩;cases ex with
    | normal=>exact .inl rfl
    | ret=>exact .inr rfl
    | exit i=>exact absurd rfl (hne i)
   ·cases h1
 obtain⟨yl,⟨⟩⟩:=y;dsimp only at hyl;subst hyl;refine⟨enters hg (hP.names g fn hg) (by rw[hc]; rfl) _ _,calls_of_wp hg hc ?_⟩;have hI:I n0 w G μ fn.ntmps (start keep 0 (kX args x)) [] ⟨us.toArray++Array.replicate (fn.ntmps-us.toArray.size) undef,[]⟩ w:=⟨G,μ,Ext.refl _ _ _ _,hW,mE (by simpa using hv) (oL hlen)⟩;refine wp_mono (h2 n0 w G μ _ w (λr=>hW.top r (Nat.zero_le _)) hI) ?_;rintro e0 a' w' ⟨rfl,hI'⟩
 obtain⟨G',μ',e',hW',hF'⟩:=CQ hd (λr=>hW.top r (Nat.zero_le _)) hI';have hvs:o9 P (CD [(t,.own e ty)] (yl,()) 0) (NC [(t,.own e ty)] (yl,())) fn.results.toList=some [.own 0 ty.size]:=by
  rw[hr];simp[o9,aG8,CD,B8,bM]
 obtain⟨ws,h3,h4⟩:=lK (P:=P) hW' hF' hvs;have hres:(results fn a'.tmps).run P w'=.ok (if hh:ws.toArray.size=1 then ws.toArray[0] else .tuple ws.toArray) w':=by
  rw[wA,Array.mapM_eq_mapM_toList];simp only[Sem.run_bind,Sem.run_map,h3,Result.andThen_ok,Sem.run_pure]
 have hpost:a'.defers=[]/\∃ v,(results fn a'.tmps).run P w'=.ok v w'/\(∃ v' G'' μ'',Ending.returned v=.returned v'/\Ext n0 w G μ w' G'' μ''/\aO n0 G'' μ'' (NC [(t,.own e ty)] (yl,())) w'/\VR w' G'' μ'' (.own 0 ty.size) v') :=
  ⟨hF'.defers,_,hres,_,G',μ',rfl,e',hW',mT h4⟩
 rcases hex with rfl|rfl
 ·exact hpost
 ·exact hpost
def a9H(args:List Kd) (e:TypeId) (ty:Ty) (f:aM args->Option (List ty.den)) (qs:List PV) (H:Heap):Option aGC :=
 bif dR.noRefs qs&&(dV.noRows qs&&ty.plain) then match aLF args qs with
  | some x=>some ⟨List ty.den,f x,λl=>(.own H.length ty.size,H++[some ⟨aI ty l,e,true,false,some ⟨ty,l⟩⟩])⟩
  | none=>none
 else none
def aZI(args:List Kd) (e:TypeId) (ty:Ty) (f:aM args->Option (List ty.den)) (qs:List PV) (H:Heap):Option aGC :=
 match aWW (BU H (aUQ qs)) qs with
 | some ps=>a9H args e ty f ps (BU H (aUQ qs))
 | none=>none
theorem a9Q {g args e ty f}(hf:aGM P g args e ty f):pV P (g,a9H args e ty f):=by
 intro qs H r h y hy n0 G μ w vs hW hv;dsimp only at h;unfold a9H at h;obtain⟨hn,h⟩:=L4 h;split at h
 next x hx=>
  have h:=oB h;subst h;simp only[oA]at hn;obtain⟨hn,hnr,hpl⟩:=hn;have hW0:aO (uF w) G.bare aG [] w:=⟨λr k b h=>by simp at h,λr k g h=>by simp at h,λr s k l b h=>by simp at h,hW.lt,λ_ _=>⟨rfl,rfl⟩,λ_ h=>h,rQ.none _ _ (λ_=>rfl) _ _ (λr k h=>by simp at h)⟩;obtain⟨h1,h2⟩:=hf x y hy hW0 (EF args hx (vA (G:=G) (G':=G.bare) (λb h=>h) _ _ _ hnr (cU _ _ hn hv)));refine⟨h1,h2.mono ?_⟩;rintro e' w' ⟨v',G',μ1,rfl,e1,e2,e3⟩
  refine⟨v',G'.with G,OT μ μ1 H.length,rfl,aWM hW e1,a4T hW e1 e2 rfl (λr k hr=>?_),?_⟩
  ·cases r with
   | zero =>
    simp only[List.getElem?_cons_zero,oJ]at hr;subst hr;exact⟨xN _ hpl _,λt l h=>by obtain⟨rfl,_⟩:=h; cases hpl⟩
   | succ r=>simp at hr
  have:=a5L (H:=H) (μ:=μ) e3;rw[VR]at this ⊢;simpa using this
 ·cases h
theorem aG1 {g args e ty f}(hf:aGM P g args e ty f):pV P (g,aZI args e ty f):=by
 intro qs H r h y hy n0 G μ w vs hW hv;dsimp only at h;unfold aZI at h;split at h
 next ps hps=>obtain⟨G1,e1,hW1⟩:=CE (aUQ qs) H G hW;obtain⟨h1,h2⟩:=a9Q hf ps _ r h y hy hW1 (aTZ hW1 hps (VRs.mono e1.toMono _ _ hv)).aV;refine⟨h1,h2.mono ?_⟩;rintro e' w' ⟨v',G',μ1,rfl,q1,q2,q3⟩;exact⟨v',G',μ1,rfl,e1.trans q1,q2,q3⟩
 grind
end
section
variable {P:Program}
def a0T(P:Program)(E:Env)(fn:Func)(keep:Nat)(lt rt:Nat->Option eE)(c:Code) args (t:Nat)(e:TypeId)(ty:Ty)(x:aM args):Option (List ty.den) :=
 bif Nat.ble (kX args x).length fn.ntmps then IJ P E fn.ntmps keep lt rt false [] c (start keep 0 (kX args x)) [] (bB1 t e ty) else none
theorem a7J {E} (hP:LW P) (hE:eS P E) {g:Nat} {fn} (hg:P.funcs[g]?=some fn) {c} (hc:fn.body=some c) {keep lt rt args} {t:Nat} (hr:fn.results.toList=[.tmp t]) {e ty f}
  (hl:∀ a∈pS c,UW P fn.ntmps lt rt false [] a) (hb:∀ x,a0T P E fn keep lt rt c args t e ty x=f x):aGM P g args e ty f:=by
 intro x l hy n0 G μ w us hW hv;rw[<- hb]at hy;unfold a0T at hy;obtain⟨hlen,hy⟩:=aJ hy;obtain⟨⟨ex,F',H'⟩,h1,h2⟩:=nX hE.callee hP.mixed c _ _ _ _ hl hy;obtain⟨y,hex,hd,hyl⟩:∃ y,(ex=.normal\/ex=.ret)/\QR [(t,.own e ty)] F' H'=some y/\y.1=l:=by
  unfold bB1 at h1;split at h1
  ·cases h1
  next hne=>
   split at h1
   ·rename_i y hy;simp only[oJ]at h1;refine⟨y,?_,hy,h1⟩;cases ex with
    | normal=>exact .inl rfl
    | ret=>exact .inr rfl
    | exit i=>exact absurd rfl (hne i)
   ·cases h1
 obtain⟨yl,⟨⟩⟩:=y;dsimp only at hyl;subst hyl;refine⟨enters hg (hP.names g fn hg) (by rw[hc]; rfl) _ _,(callsIn_wide (n:=0)).1 (callsIn_of_wp_marks hg hc trivial ?_)⟩;have hI:I n0 w G μ fn.ntmps (start keep 0 (kX args x)) [] ⟨us.toArray++Array.replicate (fn.ntmps-us.toArray.size) undef,[]⟩ w:=⟨G,μ,Ext.refl _ _ _ _,hW,mE (by simpa using hv) (oL hlen)⟩;refine wpIn_mono (h2 none 0 n0 w G μ _ w (λ_=>rfl) (λr _=>hW.top r (Nat.zero_le _)) hI.bCA) ?_
 rintro e0 ⟨tm,ds⟩ w' ⟨rfl,hI',_⟩;have hend:∀ w',IM n0 w G μ fn.ntmps F' H' { tmps:=tm,defers:=[] } w'->LeavesIn Fence.wide 0 P fn tm (λen w'=>∃ v' G'' μ'',en=.returned v'/\Ext n0 w G μ w' G'' μ''/\aO n0 G'' μ'' (NC [(t,.own e ty)] (yl,())) w'/\VR w' G'' μ'' (.own 0 ty.size) v') [] .returning w':=by
  rintro w' ⟨G0,μ0,e0',hW0,hF0,_⟩;obtain⟨G',μ',e',hW',hF'⟩:=CQ hd (λr=>hW.top r (Nat.zero_le _)) ⟨G0,μ0,e0',hW0,hF0⟩;have hvs:o9 P (CD [(t,.own e ty)] (yl,()) 0) (NC [(t,.own e ty)] (yl,())) fn.results.toList=some [.own 0 ty.size]:=by
   rw[hr];simp[o9,aG8,CD,B8,bM]
  obtain⟨ws,h3,h4⟩:=lK (P:=P) hW' hF' hvs;have hres:(results fn tm).run P w'=.ok (if hh:ws.toArray.size=1 then ws.toArray[0] else .tuple ws.toArray) w':=by
   rw[wA,Array.mapM_eq_mapM_toList];simp only[Sem.run_bind,Sem.run_map,h3,Result.andThen_ok,Sem.run_pure]
  exact⟨_,hres,_,G',μ',rfl,e',hW',mT h4⟩
 rcases hex with rfl|rfl
 ·exact BJ (λb hb=>hW.base b hb) hend ds w' hI'
 ·exact BJ (λb hb=>hW.base b hb) hend ds w' hI'
end
section
variable {P:Program} {n0:Nat->Prop} {w w':World} {G G':Gd} {μ μ1:Mp} {H H1:Heap}
theorem aWH(hW:aO n0 G μ H w) {r:Nat} (hr:H[r]?=some none) (k:Blk) (hf:k.frozen=false) (hg:k.grown=true)
  (hblk:∀ b,μ.loc r=some b->(∃ c,w.heap[b]?=some (.cells c k.ty (0,0))/\aL w G μ b (μ.sh r) k.cells)/\n0 b/\¬ G b/\(∀ s k1,H[s]?=some (some k1)->k1.frozen=false->μ.loc s≠some b)/\∀ j,G.row j≠some b)
  (htag:∀ g,k.tag=some g->k.cells=aI g.t g.l/\μ.len r=some g.l.length):aO n0 G μ (H.set r (some k)) w:=by
 have hlt:r<H.length:=(oO.1 hr).1;have key:∀ s k1,(H.set r (some k))[s]?=some (some k1)->(s=r/\k1=k)\/(s≠r/\H[s]?=some (some k1)):=by
  intro s k1 hs
  by_cases e:r=s
  ·subst e;rw[List.getElem?_set_self hlt]at hs;exact .inl ⟨rfl,(oB (oB hs)).symm⟩
  ·rw[List.getElem?_set_ne e]at hs;exact .inr ⟨Ne.symm e,hs⟩
 refine⟨?_,?_,?_,hW.lt,λs hs=>hW.top s (by simpa using hs),hW.base,?_⟩
 ·intro s k1 b hs hb;rcases key s k1 hs with ⟨rfl,rfl⟩|⟨_,hs⟩
  ·obtain⟨⟨c,h1,h2⟩,h3,h4,_⟩:=hblk b hb;exact⟨c,h1,h2,λh=>(by rw[hg]at h; cases h),λh=>(by rw[hf]at h; cases h),λ_=>⟨h3,h4⟩⟩
  ·exact hW.blk s k1 b hs hb
 ·intro s k1 g hs h1;rcases key s k1 hs with ⟨rfl,rfl⟩|⟨_,hs⟩
  ·exact htag g h1
  ·exact hW.tags s k1 g hs h1
 ·intro s1 s2 k1 k2 b h1 h2 f1 f2 m1 m2;rcases key s1 k1 h1 with ⟨rfl,rfl⟩|⟨_,h3⟩
  ·rcases key s2 k2 h2 with ⟨rfl,rfl⟩|⟨_,h4⟩
   ·rfl
   ·exact absurd m2 ((hblk b m1).2.2.2.1 s2 k2 h4 f2)
  ·rcases key s2 k2 h2 with ⟨rfl,rfl⟩|⟨_,h4⟩
   ·exact absurd m1 ((hblk b m2).2.2.2.1 s1 k1 h3 f1)
   ·exact hW.inj s1 s2 k1 k2 b h3 h4 f1 f2 m1 m2
 ·refine⟨hW.rows.inj,?_,hW.rows.cel,?_,?_⟩
  ·intro j b hj;obtain⟨a1,a2,a3,a4⟩:=hW.rows.sep j b hj;refine⟨a1,a2,a3,λs k1 hs f1 m1=>?_⟩;rcases key s k1 hs with ⟨rfl,rfl⟩|⟨_,hs⟩
   ·exact(hblk b m1).2.2.2.2 j hj
   ·exact a4 s k1 hs f1 m1
  ·intro s k1 t l hs h1 h2;rcases key s k1 hs with ⟨rfl,rfl⟩|⟨_,hs⟩
   ·rw[hg]at h1; cases h1
   ·exact hW.rows.arn s k1 t l hs h1 h2
  ·intro s1 s2 k1 k2 t l t' l' h1 g1 t1 h2 g2 t2;rcases key s1 k1 h1 with ⟨rfl,rfl⟩|⟨_,h1⟩
   ·rw[hg]at g1; cases g1
   ·rcases key s2 k2 h2 with ⟨rfl,rfl⟩|⟨_,h2⟩
    ·rw[hg]at g2; cases g2
    ·exact hW.rows.one s1 s2 k1 k2 t l t' l' h1 g1 t1 h2 g2 t2
def a1P(P:Program) (g:FuncId) (e:TypeId) (t:Ty) (args:List Kd) (f:List t.den->aM args->Option (List t.den)):Prop :=
 ∀ l x l',f l x=some l'->∀ {n0 G μ H w us r},aO n0 G μ H w->H[r]?=some (some (owB e t l))->VRs w G μ (.own r t.size::kX args x) us->dV.noRows (kX args x)=true->vG P n0 w G μ g us.toArray (.tuple []) (H.set r (some (owB e t l')))
def aDI {t:Ty} {args:List Kd} (f:Unit->aM (.hnd t.size::args)->List (List t.den)->Option (aM []×List (List t.den))) (l:List t.den) (x:aM args):Option (List t.den):=match f () ((0,0,l.length),x) [l]with
 | some ((),[l'])=>bif Nat.beq l'.length l.length then some l' else none
 | _=>none
def a0A(P:Program) (g:FuncId) (e:TypeId) (t:Ty) (args rets:List Kd) (f:List t.den->aM args->Option (aM rets×List t.den)):Prop :=
 ∀ l x y l',f l x=some (y,l')->∀ {n0 G μ H w us r},aO n0 G μ H w->H[r]?=some (some (owB e t l))->VRs w G μ (.own r t.size::kX args x) us->dV.noRows (kX args x)=true->vG P n0 w G μ g us.toArray (XH rets y) (H.set r (some (owB e t l')))
def aDU {t:Ty} {args rets:List Kd} (f:Unit->aM (.hnd t.size::args)->List (List t.den)->Option (aM rets×List (List t.den))) (l:List t.den) (x:aM args):Option (aM rets×List t.den):=match f () ((0,0,l.length),x) [l]with
 | some (y,[l'])=>bif Nat.beq l'.length l.length then some (y,l') else none
 | _=>none
def a7U:List Kd->Bool
 | []=>true
 | [.bool]=>true
 | [.int _]=>true
 | _=>false
theorem a6U {rets}(h:a7U rets=true) y {w G G' μ μ' v}(hv:VR w G μ (XH rets y) v):VR w G' μ' (XH rets y) v:=by
 unfold a7U at h;split at h
 ·change VR w G μ (.tuple []) v at hv;change VR w G' μ' (.tuple []) v;obtain⟨vs,h1,h2⟩:=hv;exact⟨vs,h1,h2⟩
 ·obtain⟨b,⟨⟩⟩:=y;change VR w G μ (.lit (.bool b)) v at hv;change VR w G' μ' (.lit (.bool b)) v;exact hv
 next k=>obtain⟨b,⟨⟩⟩:=y;change VR w G μ (.lit (.int k b)) v at hv;change VR w G' μ' (.lit (.int k b)) v;exact hv
 grind
theorem aML {g:FuncId} {e:TypeId} {t:Ty} {args rets:List Kd} {f:Unit->aM (.hnd t.size::args)->List (List t.den)->Option (aM rets×List (List t.den))} (hf:PO P g e t .none (.hnd t.size::args) (.data rets) f) (hd:aDW args=true) (hpl:t.plain=true) (hlr:a7U rets=true) (he:e≠SH:=by decide):a0A P g e t args rets (aDU f):=by
 intro l x yy l' hy n0 G μ H w us r hW hk hv hnr;unfold aDU at hy;split at hy
 next y1 l1 hfl=>
  obtain⟨hlen,hy⟩:=aJ hy;obtain⟨rfl,rfl⟩:=Prod.mk.inj (oB hy);have hlen:=oE hlen;have ht2:=(hW.tags r _ _ hk rfl).2;have hlt:r<H.length:=(oO.1 hk).1;obtain⟨rb,hrb⟩:∃ rb:Option Nat,rb=if l=[] then none else μ.loc r:=⟨_,rfl⟩
  have hrbl:∀ b,rb=some b->μ.loc r=some b/\l≠[]:=λb hb=>by
   rw[hrb]at hb;split at hb
   ·cases hb
   next hne=> exact⟨hb,hne⟩
  have hmine:∀ b,μ.loc r=some b->n0 b/\¬ G b:=λb hb=>by
   obtain⟨_,_,_,_,_,h6⟩:=hW.blk r _ b hk hb;exact h6 rfl
  have hrow:∀ j b,G.row j=some b->μ.loc r≠some b:=λj b hj=>(hW.rows.sep j b hj).2.2.2 r _ hk rfl
  obtain⟨u,us',rfl,q1,q2⟩:∃ u us',us=u::us'/\VR w G μ (.own r t.size) u/\VRs w G μ (kX args x) us':=by rw[VRs]at hv; exact hv
  have at0:∀ (s:Nat) (k1:Blk),([some (arB e t [l])]:Heap)[s]?=some (some k1)->s=0/\k1=arB e t [l]:=by
   intro s k1 hs;cases s with
   | zero=>simp only[List.getElem?_cons_zero,oJ]at hs; exact⟨rfl,hs.symm⟩
   | succ s=>simp at hs
  have hG0:∃ G0:Gd,G0=⟨G.ok,λj=>if j=0 then rb else none⟩:=⟨_,rfl⟩;obtain⟨G0,hG0⟩:=hG0;have hok:G0.ok=G.ok:=by rw[hG0]
  have hr0:∀ j b,G0.row j=some b->j=0/\rb=some b:=λj b hj=>by
   rw[hG0]at hj;dsimp only at hj;split at hj
   ·exact⟨‹_›,hj⟩
   ·cases hj
  have hW1:aO (λb=>w.heap.size<=b\/rb=some b) G0 ⟨λ_=>none,λs=>if s=0 then some 1 else none,λ_=>0⟩ [some (arB e t [l])] w:=by
   refine⟨λs k1 b hs hb=>(by cases hb),?_,λs1 s2 k1 k2 b _ _ _ _ m=>(by cases m),by rw[hok]; exact hW.lt,?_,λb hb=>.inl hb,?_⟩
   ·intro s k1 gg hs hg;obtain⟨rfl,rfl⟩:=at0 s k1 hs;cases hg;exact⟨rfl,rfl⟩
   ·intro s hs;have:s≠0:=by rintro rfl; simp at hs
    exact⟨rfl,by simp[this]⟩
   ·refine⟨λi j b h1 h2=>(hr0 i b h1).1.trans (hr0 j b h2).1.symm,λj b hj=>?_,λj b hj=>?_,λs k1 t1 l1 hs h1 h2=>?_,λs1 s2 k1 k2 t1 l1 t2 l2 h1 _ _ h2 _ _=>((at0 s1 k1 h1).1.trans (at0 s2 k2 h2).1.symm)⟩
    ·obtain⟨_,h2⟩:=hr0 j b hj;exact⟨hW.pK hk (hrbl b h2).1,.inr h2,by rw[hok]; exact(hmine b (hrbl b h2).1).2,λ_ _ _ _ h=>by cases h⟩
    ·obtain⟨_,h2⟩:=hr0 j b hj;obtain⟨c,h3,_⟩:=hW.blk r _ b hk (hrbl b h2).1;exact .inl ⟨c,_,_,h3⟩
    ·obtain⟨rfl,rfl⟩:=at0 s k1 hs;cases h2;refine⟨rfl,λj hj=>?_,λj row hj=>?_⟩
     ·rw[hG0];have:j≠0:=by rintro rfl; simp at hj
      simp[this]
     ·cases j with
      | zero =>
       simp only[List.getElem?_cons_zero,oJ]at hj;subst hj
       by_cases hl:l=[]
       ·exact .inl ⟨hl,he⟩
       ·right;rw[VR]at q1;obtain⟨n,z1,z2⟩:=q1;rw[ht2]at z1;obtain rfl:=oB z1;rcases z2 with ⟨z2,_⟩|⟨b,c,z2,_,_,_,z5⟩
        ·exact absurd (List.eq_nil_of_length_eq_zero z2) hl
        ·obtain⟨cc,a1,a2,_⟩:=hW.blk r _ b hk z2;rw[z5]at a2;refine⟨b,by rw[hG0,hrb]; simp[hl,z2],.inl ⟨he,cc,a1,?_⟩⟩;exact uY (G:=G) (G':=G0) (λb h=>by rw[hok]; exact h) _ _ _ _ (xN t hpl l) (nR (iM _ _) a2)
      | succ j=>simp at hj
  have hsh:l≠[]->μ.sh r=0:=λhl=>by
   rw[VR]at q1;obtain⟨n,z1,z2⟩:=q1;rw[ht2]at z1;obtain rfl:=oB z1;rcases z2 with ⟨z2,_⟩|⟨_,_,_,_,_,_,z5⟩
   ·exact absurd (List.eq_nil_of_length_eq_zero z2) hl
   ·exact z5
  have hv1:VRs w G0 ⟨λ_=>none,λs=>if s=0 then some 1 else none,λ_=>0⟩ (Tk.none.pv 0++kX (.hnd t.size::args) ((0,0,l.length),x)) (u::us'):=by
   change VRs w G0 _ (.row 0 0 l.length t.size::kX args x) (u::us');rw[VRs];refine⟨u,us',rfl,?_,VRs.aV (vA (G:=G) (G':=G0) (λb h=>by rw[hok]; exact h) _ _ _ hnr (cU _ _ (QS args x hd) q2))⟩;rw[VR]at q1;rw[VR];obtain⟨n,z1,z2⟩:=q1;rw[ht2]at z1;obtain rfl:=oB z1;rcases z2 with ⟨z2,ao,rfl⟩|⟨b,c,z2,rfl,z3,z4⟩
   ·exact⟨ao,0,by rw[show l.length=0 from z2],by rw[show l.length=0 from z2]; exact oM _,.inl z2⟩
   ·obtain⟨z4,z5⟩:=z4;rw[z5];rw[z5]at z4;refine⟨_,c,rfl,z3,?_⟩
    by_cases hl:l=[]
    ·exact .inl (by rw[hl]; rfl)
    ·exact .inr ⟨b,by rw[hG0,hrb]; simp[hl,z2],by simp,by simpa using z4⟩
  obtain⟨c1,c2⟩:=hf () ((0,0,l.length),x) [l] y1 [l1] hfl (ra:=0) (r:=0) hW1 rfl ⟨λ_ _ h=>by cases h⟩ hv1;refine⟨c1,c2.mono ?_⟩;rintro e' w' ⟨v',G1,μ1,rfl,ee,hW',hvv⟩;have hb1:∀ b,rb=some b->G1.row 0=some b:=λb hb=>ee.row 0 b (by rw[hG0]; simp[hb])
  have hH1:(((UH (Tk.none.ow () 0) [some (arB e t [l])]).set 0 none)++(some (arB e t [l1])::(An.data rets).hp y1):Heap)[1]?=some (some (arB e t [l1])):=rfl;have hn0:∀ b,b<w.heap.size->¬ n0 b->w'.heap[b]?=w.heap[b]?:=λb hb hn=>ee.old b hb (by
   rintro(h|h)
   ·exact Nat.not_le.2 hb h
   ·exact hn (hmine b (hrbl b h).1).1)
  have hgg:∀ b,G b->G0 b:=λb hb=>by rw[hok]; exact hb
  have e2:Ext n0 w G μ w' (G1.with G) μ:={
   good:=λb hb=>⟨(ee.good b (hgg b hb)).1,(ee.good b (hgg b hb)).2⟩
   map:=λ_ _ h=>h
   len:=λ_ _ h=>h
   room:=ee.room
   row:=λ_ _ h=>h
   os:=ee.os
   tape:=ee.tape
   output:=ee.output
   size:=ee.size
   old:=hn0
   new:=λb hb=>by
    rcases ee.new b hb with h|h|h
    ·rw[hok]at h; exact .inl h
    ·exact .inr (hW.base b h)
    ·exact .inr (hmine b (hrbl b h).1).1 }
  have hold:∀ b,b<w.heap.size->rb≠some b->w'.heap[b]?=w.heap[b]?/\(G1 b->G b):=λb hb hne =>
   ⟨ee.old b hb (by rintro(h|h); exact Nat.not_le.2 hb h; exact hne h),λhg=>by
    rcases ee.new b hg with h|h|h
    ·rw[hok]at h; exact h
    ·exact absurd hb (Nat.not_lt.2 h)
    ·exact absurd h hne⟩
  have hk2:aO n0 (G1.with G) μ (H.set r none) w':=by
   refine(rP hW r).keep e2 ⟨λ_=>rfl,λj b hj=>hold b (hW.rows.sep j b hj).1 λh=>hrow j b hj (hrbl b h).1⟩ ?_ (λb hb=>hW'.lt b hb);intro s k1 b hs hb;obtain⟨hs,hsr⟩:=sI hs;refine hold b (hW.pK hs hb) λh=>?_
   have hrb:=(hrbl b h).1;cases hf:k1.frozen with
   | false=>exact hsr (hW.inj s r k1 _ b hs hk hf rfl hb hrb)
   | true =>
    obtain⟨_,_,_,_,h5,_⟩:=hW.blk s k1 b hs hb;exact(hmine b hrb).2 (h5 hf)
  have hfin:aO n0 (G1.with G) μ (H.set r (some (owB e t l1))) w':=by
   have:=aWH hk2 (r:=r) (List.getElem?_set_self hlt) (owB e t l1) rfl rfl ?_ ?_
   ·rwa[List.set_set]at this
   ·intro b hb;have hcells:(∃ c,w'.heap[b]?=some (.cells c e (0,0))/\aL w' (G1.with G) μ b (μ.sh r) (aI t l1))/\¬ G1 b:=by
     by_cases hl:l=[]
     ·have hl1:l1=[]:=List.eq_nil_of_length_eq_zero (by rw[hlen,hl]; rfl);have hne:rb≠some b:=λh=>(hrbl b h).2 hl
      obtain⟨o1,o2⟩:=hold b (hW.pK hk hb) hne;obtain⟨c,h3,_⟩:=hW.blk r _ b hk hb;refine⟨⟨c,o1.trans h3,?_⟩,λh=>(hmine b hb).2 (o2 h)⟩;rw[hl1]; simp[aI,aL]
     ·have hbb:rb=some b:=by rw[hrb,if_neg hl]; exact hb
      have hrow1:=hb1 b hbb;obtain⟨_,_,a3⟩:=hW'.rows.arn 1 _ t [l1] hH1 rfl rfl;rcases a3 0 l1 rfl with h|⟨b',z1,z2⟩
      ·exact absurd (List.eq_nil_of_length_eq_zero (by rw[<- hlen,h.1]; rfl)) hl
      ·rw[hrow1]at z1;obtain rfl:=oB z1;obtain⟨c0,y1,_⟩:=hW.blk r _ b hk hb;obtain⟨c,z2,z3⟩:=z2.cells (.inr (e2.room b 0 ⟨c0,_,_,y1,Nat.zero_le _⟩));refine⟨⟨c,z2,?_⟩,(hW'.rows.sep 0 b hrow1).2.2.1⟩;rw[hsh hl];exact uY (G:=G1) (G':=G1.with G) (λb h=>h) _ _ _ _ (xN t hpl l1) (nR (iM _ _) z3)
    refine⟨hcells.1,(hmine b hb).1,hcells.2,λs k1 hs hf hsb=>?_,λj hj=>hrow j b hj hb⟩;obtain⟨hs,hsr⟩:=sI hs;exact hsr (hW.inj s r k1 _ b hs hk hf rfl hsb hb)
   ·intro g hg;cases hg;exact⟨rfl,by rw[ht2,hlen]⟩
  refine⟨v',G1.with G,μ,rfl,e2,hfin,?_⟩;exact a6U hlr y1 hvv
 ·cases hy
theorem aR6 {g:FuncId}{e:TypeId}{t:Ty}{args:List Kd}{f:Unit->aM (.hnd t.size::args)->List (List t.den)->Option (aM []×List (List t.den))}(hf:PO P g e t .none (.hnd t.size::args) (.data []) f)(hd:aDW args=true)(hpl:t.plain=true)(he:e≠SH:=by decide):a1P P g e t args (aDI f):=by
 intro l x l' hy n0 G μ H w us r hW hk hv hnr;refine aML hf hd hpl rfl he l x () l' ?_ hW hk hv hnr;unfold aDI at hy;unfold aDU;split at hy
 next l1 hfl=>obtain⟨hlen,hy⟩:=aJ hy;obtain rfl:=oB hy;rw[hfl];show (bif Nat.beq l1.length l.length then some ((),l1) else none)=_;rw[hlen];rfl
 ·cases hy
def a1N(e:TypeId) (t:Ty) (args rets:List Kd) (f:List t.den->aM args->Option (aM rets×List t.den)) (qs:List PV) (H:Heap):Option aGC:=match aVF e t H qs with
 | some (l,r,ps)=>match aLF args ps with
  | some x=>bif dR.noRefs ps&&dV.noRows (kX args x) then some ⟨aM rets×List t.den,f l x,λz=>(XH rets z.1,H.set r (some (owB e t z.2)))⟩ else none
  | none=>none
 | none=>none
theorem a7O {g e t args rets f}(hf:a0A P g e t args rets f):pV P (g,a1N e t args rets f):=by
 intro qs H rh h y hy n0 G μ w vs hW hv;change a1N e t args rets f qs H=some rh at h;unfold a1N at h;split at h
 next l r ps hl=>
  split at h
  next x hx=>obtain⟨hb,h⟩:=L4 h;simp only[oJ]at h;subst h;simp only[oA]at hb;obtain⟨h0,rfl⟩:=aAD hW hl;obtain⟨u,us,rfl,q1,q2⟩:=hv;exact hf l x y.1 y.2 hy hW h0 (⟨u,us,rfl,q1,(EF args hx (cU _ _ hb.1 q2)).aV⟩) hb.2
  grind
 grind
def a8V(e:TypeId) (t:Ty) (args:List Kd) (f:List t.den->aM args->Option (List t.den)) (qs:List PV) (H:Heap):Option aGC:=match aVF e t H qs with
 | some (l,r,ps)=>match aLF args ps with
  | some x=>bif dR.noRefs ps&&dV.noRows (kX args x) then some ⟨List t.den,f l x,λl'=>(.tuple [],H.set r (some (owB e t l')))⟩ else none
  | none=>none
 | none=>none
theorem a0Z {g e t args f}(hf:a1P P g e t args f):pV P (g,a8V e t args f):=by
 intro qs H rh h y hy n0 G μ w vs hW hv;change a8V e t args f qs H=some rh at h;unfold a8V at h;split at h
 next l r ps hl=>
  split at h
  next x hx=>obtain⟨hb,h⟩:=L4 h;simp only[oJ]at h;subst h;simp only[oA]at hb;obtain⟨h0,rfl⟩:=aAD hW hl;obtain⟨u,us,rfl,q1,q2⟩:=hv;exact hf l x y hy hW h0 (⟨u,us,rfl,q1,(EF args hx (cU _ _ hb.1 q2)).aV⟩) hb.2
  grind
 grind
end
def a0J(P:Program)(E:Env)(fn:Func)(keep:Nat)(lt rt:Nat->Option eE)(c:Code)(ae:TypeId)(t:Ty)(tk:Tk) args (an:An)(l:tk.den)(x:aM args)(A:List (List t.den)):Option (an.den×List (List t.den)) :=
 bif Nat.ble (tk.pv 0++kX args x).length fn.ntmps then IJ P E fn.ntmps keep lt rt false [] c (start keep 0 (tk.pv 0++kX args x)) (OE (tk.ow l 0)++[some (arB ae t A)]) (bBV P fn.results.toList ae t an) else none
section
variable {P:Program} {n0:Nat->Prop} {w w':World} {G G1 G2:Gd} {μ μ2:Mp} {H H':Heap} {ae:TypeId} {t:Ty} {A B:List (List t.den)}
theorem bCH {E:Env} (hP:LW P) (hE:eS P E) {g:Nat} {fn:Func} (hg:P.funcs[g]?=some fn) {c:Code} (hc:fn.body=some c) {keep:Nat} {lt rt:Nat->Option eE} {ae:TypeId} {t:Ty} {tk:Tk} {args:List Kd} {an:An} {f:tk.den->aM args->List (List t.den)->Option (an.den×List (List t.den))}
  (hd:aDW args=true) (hl:∀ a∈pS c,UW P fn.ntmps lt rt false [] a) (hb:∀ l x A,a0J P E fn keep lt rt c ae t tk args an l x A=f l x A):PO P g ae t tk args an f:=by
 intro l x A y B hy n0 G μ H w us ra r hW har ho hv;rw[<- hb]at hy;unfold a0J at hy;obtain⟨hlen,hy⟩:=aJ hy;obtain⟨⟨ex,F',H'⟩,h1,h2⟩:=nX hE.callee hP.mixed c _ _ _ _ hl hy;obtain⟨vs,B',hex,hvs,hB,hq,rfl⟩:∃ vs B',(ex=.normal\/ex=.ret)/\o9 P F' H' fn.results.toList=some vs/\a4M ae t H'=some B'/\aZ5 an (j6 vs) H'=some y/\B'.2=B:=by
  unfold bBV at h1;split at h1
  ·cases h1
  next hne=>
   split at h1
   ·rename_i vs hvs;split at h1
    ·rename_i B' hB;split at h1
     ·rename_i y' hy';simp only[oJ,oP]at h1;obtain⟨rfl,h1⟩:=h1;refine⟨vs,B',?_,hvs,hB,hy',h1⟩;cases ex with
      | normal=>exact .inl rfl
      | ret=>exact .inr rfl
      | exit i=>exact absurd rfl (hne i)
     ·cases h1
    ·cases h1
   ·cases h1
 have hargs:VRs w G (mpA μ (tk.ow l r) A.length) (tk.pv 0++kX args x) us:=by
  have hn:=QS args x hd;cases tk with
  | none=>exact VRs.aV (cU _ _ hn hv)
  | own e u =>
   change VRs w G μ (.own r u.size::kX args x) us at hv;change VRs w G _ (.own 0 u.size::kX args x) us;rw[VRs]at hv ⊢;obtain⟨v,us',rfl,q1,q2⟩:=hv;refine⟨v,us',rfl,?_,VRs.aV (cU _ _ hn q2)⟩;rw[VR]at q1 ⊢;exact q1
 have howb:OE (tk.ow l 0)=OE (tk.ow l r):=by cases tk <;> rfl
 have hW1:=aF2 hW ho har;rw[<- howb]at hW1;have e0:Ext (wrA w G μ (tk.ow l r)) w G aG w G (mpA μ (tk.ow l r) A.length) :=
  ⟨⟨λb hb=>⟨hb,rfl⟩,λ_ _ h=>(by cases h),λ_ _ h=>(by cases h),λ_ _ h=>h,λ_ _ h=>h,λ_ _ h=>(by cases h)⟩,rfl,rfl,rfl,oM _,λ_ _ _=>rfl,λ_ h=>.inl h⟩
 refine⟨enters hg (hP.names g fn hg) (by rw[hc]; rfl) _ _,(callsIn_wide (n:=0)).1 (callsIn_of_wp_marks hg hc trivial ?_)⟩;have hI:I (wrA w G μ (tk.ow l r)) w G aG fn.ntmps (start keep 0 (tk.pv 0++kX args x)) (OE (tk.ow l 0)++[some (arB ae t A)]) ⟨us.toArray++Array.replicate (fn.ntmps-us.toArray.size) undef,[]⟩ w :=
  ⟨G,_,e0,hW1,mE (by simpa using hargs) (oL hlen)⟩
 refine wpIn_mono (h2 none 0 _ w G aG _ w (λ_=>rfl) (λr _=>⟨rfl,rfl⟩) hI.bCA) ?_;rintro e1 ⟨tm,ds⟩ w' ⟨rfl,hI',_⟩;have hend:∀ w',IM (wrA w G μ (tk.ow l r)) w G aG fn.ntmps F' H' { tmps:=tm,defers:=[] } w'->LeavesIn Fence.wide 0 P fn tm (λen w'=>∃ v' G'' μ'',en=.returned v'/\Ext n0 w G μ w' G'' μ''/\aO n0 G'' μ'' (((UH (tk.ow l r) H).set ra none)++(some (arB ae t B'.2)::an.hp y)) w'/\VR w' G'' μ'' (an.pv y (H.length+1)) v') [] .returning w':=by
  rintro w' ⟨G1,μ1,ee,hW',hF',_⟩;obtain⟨ws,h3,h4⟩:=lK (P:=P) hW' hF' hvs;have hres:(results fn tm).run P w'=.ok (if hh:ws.toArray.size=1 then ws.toArray[0] else .tuple ws.toArray) w':=by
   rw[wA,Array.mapM_eq_mapM_toList];simp only[Sem.run_bind,Sem.run_map,h3,Result.andThen_ok,Sem.run_pure]
  have hrb:=aFI hW' hB;obtain⟨G2,μ3,b1,b2,b3⟩:∃ G2 μ3,Ext n0 w G μ w' G2 μ3/\aO n0 G2 μ3 (((UH (tk.ow l r) H).set ra none)++(some (arB ae t B'.2)::an.hp y)) w'/\VR w' G2 μ3 (an.pv y (H.length+1)) (if hh:ws.toArray.size=1 then ws.toArray[0] else .tuple ws.toArray):=by
   have hvr:=mT h4;cases an with
   | data rets =>
    simp only[aZ5]at hq;split at hq
    ·rename_i q hq';have hb:=aLX (G2:=⟨λb=>G1 b\/∃ s k,H'[s]?=some (some k)/\k.frozen=false/\μ1.loc s=some b,G1.row⟩) hW ho har ee hW' hrb (os:=none) ⟨λ_ _ _ h=>by cases h⟩ (λ_=>rfl) (λb hb=>.inl hb) (λb hb=>by
      rcases hb with h|⟨s,k,z1,z2,z3⟩
      ·exact .inl h
      ·exact .inr ⟨s,k,z1,z2,z3,λ_ _ _ h=>by cases h⟩)
     refine⟨_,_,hb.1,hb.2,?_⟩;have:=L9 (G':=⟨λb=>G1 b\/∃ s k,H'[s]?=some (some k)/\k.frozen=false/\μ1.loc s=some b,G1.row⟩) hW' (λ_ _ h=>h) (λb hb=>.inl hb) (λs k1 b hs _ hb=>by
      obtain⟨_,_,_,_,g5,_⟩:=hW'.blk s k1 b hs hb;cases hf:k1.frozen with
      | true=>exact .inl (g5 hf)
      | false=>exact .inr ⟨s,k1,hs,hf,hb⟩) depth _ q _ hq' hvr
     exact(T4 hq this).aV
    ·cases hq
   | own e u =>
    simp only[aZ5]at hq;obtain⟨r1,l0,hos,hvv⟩:=aO9 hW' hq hvr;have hb:=aLX (G2:=G1) hW ho har ee hW' hrb hos (λ_=>rfl) (λb hb=>hb) (λb hb=>.inl hb);refine⟨_,_,hb.1,hb.2,hvv _ _ _ ?_ ?_ ?_⟩
    ·have h1:¬ H.length+1<H.length:=Z
     simp[sR,h1,bAH]
    ·have h1:¬ H.length+1<H.length:=Z
     simp[sR,h1,a9Z]
    ·have h1:¬ H.length+1<H.length:=Z
     simp[sR,h1,shS]
  exact⟨_,hres,_,G2,μ3,rfl,b1,b2,b3⟩
 rcases hex with rfl|rfl
 ·exact BJ (λb hb=>(aF2 hW ho har).base b hb) hend ds w' hI'
 ·exact BJ (λb hb=>(aF2 hW ho har).base b hb) hend ds w' hI'
end
open Go Go.RowKit Go.Proofs Tryz
set_option maxHeartbeats 4000000
def cL(x:aM [.str]):oK [.bool,.str]:=match x with
 | (v0,()) =>
  bif ltI 0 (v0.size:Int) then
   bif aF 0 v0.size then bif eqI (aPL v0 0) 45 then
    bif Nat.ble 1 v0.size then bif Nat.ble v0.size v0.size then some (true,(v0.extract 1 v0.size),()) else none else none
   else some (false,v0,()) else none
  else some (false,v0,())
abbrev aTW:Ent:=⟨99,_,_,cL⟩
theorem xC:Ent.OK tP aTW:=oI (aR oW) func99 Y (by rintro⟨v0,⟨⟩⟩; kernel_rfl)
def aA(x:aM [.bool,.str]):oK [.str]:=match x with
 | (v0,v1,()) =>
  bif v0 then
   bif !(eqS v1 (ByteArray.mk #[48])) then
    bif Nat.ble ((ByteArray.mk #[45]).size+v1.size) 9223372036854775807 then some (((ByteArray.mk #[45])++v1),()) else none
   else some (v1,())
  else some (v1,())
abbrev aX7:Ent:=⟨100,_,_,aA⟩
theorem KS:Ent.OK tP aX7:=oI (aR oW) func100 Y (by rintro⟨v0,v1,⟨⟩⟩; kernel_rfl)
def r6(x:aM [.str,.int .i64]):oK [.int .i64,.bool]:=match x with
 | (v0,v1,()) =>
  bif ltI v1 (v0.size:Int) then
   some (0,false,())
  else aC (HQ (v0,())) λy1 =>
  some (y1.1,true,())
abbrev aQF:Ent:=⟨98,_,_,r6⟩
theorem LX:Ent.OK tP aQF:=oI (aR (oV aJD oW)) func98 Y (by rintro⟨v0,v1,⟨⟩⟩; kernel_rfl)
def kR(x:aM [.int .i64]):oK [.str]:=match x with
 | (v0,()) =>
  aC (HH (v0,())) λy1 =>
  some (y1.1,())
abbrev aIZ:Ent:=⟨69,_,_,kR⟩
theorem JY:Ent.OK tP aIZ:=oI (aR (oV aJH oW)) func69 Y (by rintro⟨v0,⟨⟩⟩; kernel_rfl)
def E6(x:aM [.str]):oK [.int .i64]:=match x with
 | (v0,()) =>
  bif eqS v0 (ByteArray.mk #[48]) then
   some (0,())
  else bif aF 0 v0.size then bif eqI (aPL v0 0) 45 then
   some ((-1),())
  else some (1,()) else none
abbrev aKW:Ent:=⟨121,_,_,E6⟩
theorem aBG:Ent.OK tP aKW:=oI (aR oW) func121 Y (by rintro⟨v0,⟨⟩⟩; kernel_rfl)
def uZ(x:aM [.int .u64]):oK [.str]:=match x with
 | (v0,()) =>
  aC (uA (v0,10,())) λy1 =>
  some (y1.1,())
abbrev NW:Ent:=⟨135,_,_,uZ⟩
theorem J3:Ent.OK tP NW:=oI (aR (oV YR oW)) func135 Y (by rintro⟨v0,⟨⟩⟩; kernel_rfl)
def E4(x:aM [.str]):oK [.int .u64,.bool]:=match x with
 | (v0,()) =>
  aC (vR (v0,10,64,())) λy1 =>
  some (y1.1,true,())
abbrev aOC:Ent:=⟨163,_,_,E4⟩
theorem aGZ:Ent.OK tP aOC:=oI (aR (oV ZL oW)) func163 Y (by rintro⟨v0,⟨⟩⟩; kernel_rfl)
def sC(x:aM [.str,.str]):oK [.int .u64,.int .u64,.bool]:=match x with
 | (v0,v1,()) =>
  bif ltI 18 (v0.size:Int) then
   some (0,0,false,())
  else bif ltI 18 (v1.size:Int) then
   some (0,0,false,())
  else aC (E4 (v0,())) λy1 =>
  aC (E4 (v1,())) λy2 =>
  some (y1.1,y2.1,true,())
abbrev HF:Ent:=⟨134,_,_,sC⟩
theorem FM:Ent.OK tP HF:=oI (aR (oV aGZ oW)) func134 Y (by rintro⟨v0,v1,⟨⟩⟩; kernel_rfl)
def fU(x:aM [.str,.str]):oK [.int .i64]:=match x with
 | (v0,v1,()) =>
  bif !(eqI (v0.size:Int) (v1.size:Int)) then
   some ((if (if (-1)<(aB .i64 ((v0.size:Int)-(v1.size:Int))) then (aB .i64 ((v0.size:Int)-(v1.size:Int))) else (-1))<1 then (if (-1)<(aB .i64 ((v0.size:Int)-(v1.size:Int))) then (aB .i64 ((v0.size:Int)-(v1.size:Int))) else (-1)) else 1),())
  else bif ltS v0 v1 then
   some ((-1),())
  else bif !(ltS v0 v1||eqS v0 v1) then
   some (1,())
  else some (0,())
abbrev WT:Ent:=⟨102,_,_,fU⟩
theorem GM:Ent.OK tP WT:=oI (aR oW) func102 Y (by rintro⟨v0,v1,⟨⟩⟩; kernel_rfl)
def JS(x:aM [.str,.str]):oK [.int .i64]:=match x with
 | (v0,v1,()) =>
  aC (E6 (v0,())) λy1 =>
  aC (E6 (v1,())) λy2 =>
  bif !(eqI y1.1 y2.1) then
   bif ltI y1.1 y2.1 then
    some ((-1),())
   else some (1,())
  else aC (cL (v0,())) λy3 =>
  aC (cL (v1,())) λy4 =>
  bif y3.1 then
   aC (fU (y4.2.1,y3.2.1,())) λy5 =>
   some (y5.1,())
  else aC (fU (y3.2.1,y4.2.1,())) λy6 =>
  some (y6.1,())
abbrev aAP:Ent:=⟨117,_,_,JS⟩
theorem aHV:Ent.OK tP aAP:=oI (aR (oV GM (oV aBG (oV xC oW)))) func117 Y (by rintro⟨v0,v1,⟨⟩⟩; kernel_rfl)
def RP(x:aM [.str]):oK [.str]:=match x with
 | (v0,()) =>
  aC (cL (v0,())) λy1 =>
  bif y1.1 then
   aC (aA (false,y1.2.1,())) λy2 =>
   some (y2.1,())
  else aC (aA (true,y1.2.1,())) λy3 =>
  some (y3.1,())
abbrev aNL:Ent:=⟨156,_,_,RP⟩
theorem aD6:Ent.OK tP aNL:=oI (aR (oV KS (oV xC oW))) func156 Y (by rintro⟨v0,⟨⟩⟩; kernel_rfl)
def S0(x:aM [.str]):oK [.str]:=match x with
 | (v0,()) =>
  aC (cL (v0,())) λy1 =>
  some (y1.2.1,())
abbrev aNH:Ent:=⟨118,_,_,S0⟩
theorem aPN:Ent.OK tP aNH:=oI (aR (oV xC oW)) func118 Y (by rintro⟨v0,⟨⟩⟩; kernel_rfl)
abbrev eX:List (Nat×Kd):=[(0,.hnd 1),(2,.int .i64),(3,.int .i64),(100000,.ar 5 (.int .u8))]
abbrev hX:List (Ex×List (Nat×Kd)):=[(.exit 0,[(100000,.ar 5 (.int .u8))])]
def fZ(x:Shape.den eX):oS eX hX:=match x with
 | (v0,v2,v3,u00,()) =>
  bif ltI v2 v3 then
   bif aF v3 v0.2.2 then bif Nat.blt ((v0.2.1+v3.toNat)*1) (dE u00 v0.1) then bif aF v2 v0.2.2 then bif Nat.blt ((v0.2.1+v2.toNat)*1) (dE u00 v0.1) then bif aF v2 v0.2.2 then bif Nat.blt ((v0.2.1+v2.toNat)*1) (dE u00 v0.1) then bif aF v3 v0.2.2 then bif Nat.blt ((v0.2.1+v3.toNat)*1) (dE (yE u00 v0.1 ((v0.2.1+v2.toNat)*1) (dQ u00 v0.1 ((v0.2.1+v3.toNat)*1) 0)) v0.1) then some (.inl ((v0.1,v0.2.1,v0.2.2),(aB .i64 (v2+1)),(aB .i64 (v3-1)),(yE (yE u00 v0.1 ((v0.2.1+v2.toNat)*1) (dQ u00 v0.1 ((v0.2.1+v3.toNat)*1) 0)) v0.1 ((v0.2.1+v3.toNat)*1) (dQ u00 v0.1 ((v0.2.1+v2.toNat)*1) 0)),())) else none else none else none else none else none else none else none else none
  else some (.inr ((u00,())))
def kD(x:Shape.den eX):oX hX:=aW fZ (2^64) x
def eQ(u0:Unit)(x:aM [.hnd 1])(A:List (List Int)):Option ((aM [])×List (List Int)):=match x with
 | (v0,()) =>
  aC (kD ((v0.1,v0.2.1,v0.2.2),0,(aB .i64 (((v0.2.2:Nat):Int)-1)),A,())) λz1 =>
  some ((()),z1.1)
def pB:Code:=cQ f165
abbrev uW:Env:=DW []
theorem zJ:eS tP uW:=aR trivial
def sV:Code:=iH pB 0
def tW(id:Nat):Option eE:=bif Nat.beq id 1 then some ⟨eX,hX,kD⟩ else none
theorem JL:∀ x,jQ tP uW 28 (aP f165) tW sV eX hX x=fZ x:=by
 rintro⟨v0,v2,v3,u00,⟨⟩⟩
 kernel_rfl
theorem KB:eJ tP 28 sV ⟨eX,hX,kD⟩:=fG zJ.callee aZ.mixed _ (aQ (l:=[]) Y trivial) JL
theorem KY:bB pB=[sV]:=Y
theorem MA:∀ l x A,I0 tP uW f165 (aP f165) tW pB 5 (.int .u8) .none [.hnd 1] (.data []) l x A=eQ l x A:=by
 rintro u0 ⟨v0,⟨⟩⟩ A
 kernel_rfl
theorem PQ:PO tP 165 5 (.int .u8) .none [.hnd 1] (.data []) eQ:=BB aZ zJ func165 (c:=pB) Y (keep:=aP f165) (lt:=tW) (by rfl) (aQ KY ⟨fB (i:=1) Y rfl KB,trivial⟩) MA
theorem NJ:a1P tP 165 5 (.int .u8) [] (aDI eQ):=aR6 PQ (by rfl) (by rfl)
abbrev CO:Shr:=(165,U4 1 (a8V 5 (.int .u8) [] (aDI eQ)))
theorem K1:pV tP CO:=tF (a0Z NJ)
abbrev yL:List (Nat×Kd):=[(0,.list (.int .u64))]
abbrev HD:List (Ex×List (Nat×Kd)):=[(.exit 0,[(0,.list (.int .u64))])]
def vT(x:Shape.den yL):oS yL HD:=match x with
 | (v0,()) =>
  bif ltI 0 (v0.length:Int) then
   bif aF (aB .i64 ((v0.length:Int)-1)) v0.length then bif eqI (v0.getD ((aB .i64 ((v0.length:Int)-1)).toNat) 0) 0 then
    bif !(ltI (aB .i64 ((v0.length:Int)-1)) 0) then bif Nat.ble 0 ((aB .i64 ((v0.length:Int)-1)).toNat) then bif Nat.ble ((aB .i64 ((v0.length:Int)-1)).toNat) v0.length then some (.inl (((v0.drop 0).take ((aB .i64 ((v0.length:Int)-1)).toNat-0)),())) else none else none else none
   else some (.inr ((v0,()))) else none
  else some (.inr ((v0,())))
def FB(x:Shape.den yL):oX HD:=aW vT (2^64) x
def wI(x:aM [.list (.int .u64)]):oK [.list (.int .u64)]:=match x with
 | (v0,()) =>
  aC (FB (v0,())) λz1 =>
  some (z1.1,())
abbrev LG:Ent:=⟨138,_,_,wI⟩
theorem VW:Ent.OK tP LG:=oU (aR oW) func138 1 (lp:=FB) rfl Y (by rintro⟨v0,⟨⟩⟩; kernel_rfl) (by rintro⟨v0,⟨⟩⟩; kernel_rfl)
abbrev gH:List (Nat×Kd):=[(0,.own 172 (.int .u64)),(100000,.ar 172 (.int .u64))]
abbrev kO:List (Ex×List (Nat×Kd)):=[(.exit 0,[(0,.own 172 (.int .u64)),(100000,.ar 172 (.int .u64))])]
def iT(x:Shape.den gH):oS gH kO:=match x with
 | (v0,u00,()) =>
  bif ltI 0 (v0.length:Int) then
   bif aF (aB .i64 ((v0.length:Int)-1)) v0.length then bif Nat.blt ((aB .i64 ((v0.length:Int)-1)).toNat) v0.length then bif eqI (v0.getD ((aB .i64 ((v0.length:Int)-1)).toNat) 0) 0 then
    bif !(ltI (aB .i64 ((v0.length:Int)-1)) 0) then bif Nat.ble 0 ((aB .i64 ((v0.length:Int)-1)).toNat) then bif Nat.ble ((aB .i64 ((v0.length:Int)-1)).toNat) v0.length then bif Nat.blt 0 v0.length then some (.inl ((v0.take ((aB .i64 ((v0.length:Int)-1)).toNat-0)),u00,())) else none else none else none else none
   else some (.inr ((v0,u00,()))) else none else none
  else some (.inr ((v0,u00,())))
def sW(x:Shape.den gH):oX kO:=aW iT (2^64) x
def bF(v0:List Int)(x:aM [])(A:List (List Int)):Option ((List Int)×List (List Int)):=match x with
 | (()) =>
  aC (sW (v0,A,())) λz1 =>
  some (z1.1,z1.2.1)
def sG:Code:=cQ f138
abbrev xY:Env:=DW []
theorem DN:eS tP xY:=aR trivial
def vW:Code:=iH sG 0
def wU(id:Nat):Option eE:=bif Nat.beq id 1 then some ⟨gH,kO,sW⟩ else none
theorem MZ:∀ x,jQ tP xY 21 (aP f138) wU vW gH kO x=iT x:=by
 rintro⟨v0,u00,⟨⟩⟩
 kernel_rfl
theorem NI:eJ tP 21 vW ⟨gH,kO,sW⟩:=fG DN.callee aZ.mixed _ (aQ (l:=[]) Y trivial) MZ
theorem O3:bB sG=[vW]:=Y
theorem QY:∀ l x A,I0 tP xY f138 (aP f138) wU sG 172 (.int .u64) (.own 172 (.int .u64)) [] (.own 172 (.int .u64)) l x A=bF l x A:=by
 rintro u0 ⟨⟨⟩⟩ A
 kernel_rfl
theorem TF:PO tP 138 172 (.int .u64) (.own 172 (.int .u64)) [] (.own 172 (.int .u64)) bF:=BB aZ DN func138 (c:=sG) Y (keep:=aP f138) (lt:=wU) (by rfl) (aQ O3 ⟨fB (i:=1) Y rfl NI,trivial⟩) QY
abbrev gB:Shr:=(138,U4 1 (arH 172 (.int .u64) (.own 172 (.int .u64)) [] (.own 172 (.int .u64)) bF))
theorem gO:pV tP gB:=tF (g:=138) (f:=arH 172 (.int .u64) (.own 172 (.int .u64)) [] (.own 172 (.int .u64)) bF) (DZ TF)
abbrev rV:List (Nat×Kd):=[(0,.str),(3,.own 172 (.int .u64)),(4,.int .i64),(5,.int .u64),(25,.list (.int .u8)),(26,.int .i64),(27,.int .i64),(100000,.ar 172 (.int .u64))]
abbrev vU:List (Ex×List (Nat×Kd)):=[(.exit 2,[(0,.str),(3,.own 172 (.int .u64)),(4,.int .i64),(5,.int .u64),(100000,.ar 172 (.int .u64))])]
def sK(x:Shape.den rV):oS rV vU:=match x with
 | (v0,v3,v4,v5,v25,v26,v27,u00,()) =>
  bif ltI v27 v26 then
   bif aF v27 v25.length then some (.inl (v0,v3,v4,(aB .u64 ((aB .u64 (10*v5))+(IntKind.wrap .u64 (aB .u8 ((v25.getD v27.toNat 0)-48))))),v25,v26,(aB .i64 (v27+1)),u00,())) else none
  else some (.inr ((v0,v3,v4,v5,u00,())))
def xE(x:Shape.den rV):oX vU:=aW sK (2^64) x
abbrev rR:List (Nat×Kd):=[(0,.str),(3,.own 172 (.int .u64)),(4,.int .i64),(100000,.ar 172 (.int .u64))]
abbrev vL:List (Ex×List (Nat×Kd)):=[(.exit 0,[(3,.own 172 (.int .u64)),(100000,.ar 172 (.int .u64))])]
def sY(x:Shape.den rR):oS rR vL:=match x with
 | (v0,v3,v4,u00,()) =>
  bif ltI 0 v4 then
   bif !(ltI (if 0<(aB .i64 (v4-9)) then (aB .i64 (v4-9)) else 0) 0) then bif !(ltI v4 0) then bif Nat.ble ((if 0<(aB .i64 (v4-9)) then (aB .i64 (v4-9)) else 0).toNat) v4.toNat then bif Nat.ble v4.toNat v0.size then aC (xE (v0,v3,v4,0,(VN (v0.extract ((if 0<(aB .i64 (v4-9)) then (aB .i64 (v4-9)) else 0).toNat) v4.toNat)),((VN (v0.extract ((if 0<(aB .i64 (v4-9)) then (aB .i64 (v4-9)) else 0).toNat) v4.toNat)).length:Int),0,u00,())) λz2 =>
   bif Nat.ble [z2.2.2.2.1].length 1048576 then bif Nat.ble z2.2.1.length 1048576 then some (.inl (z2.1,(z2.2.1++[z2.2.2.2.1]),(aB .i64 (z2.2.2.1-9)),z2.2.2.2.2.1,())) else none else none else none else none else none else none
  else some (.inr ((v3,u00,())))
def xL(x:Shape.den rR):oX vL:=aW sY (2^64) x
def dZ(u0:Unit)(x:aM [.str])(A:List (List Int)):Option ((List Int)×List (List Int)):=match x with
 | (v0,()) =>
  bif !(ltI (aB .i64 ((aB .i64 ((v0.size:Int).tdiv 9))+1)) 0) then bif !(ltI 1048576 (aB .i64 ((aB .i64 ((v0.size:Int).tdiv 9))+1))) then aC (xL (v0,(List.replicate 0 (0:Ty.den (.int .u64))),(v0.size:Int),A,())) λz3 =>
  aC (bF z3.1 (()) z3.2.1) λy4 =>
  some y4 else none else none
def HT:Code:=cQ f136
abbrev HU:Env:=MT [] [gB]
theorem H7:eS tP HU:=mM trivial ⟨gO,trivial⟩
def xJ:Code:=iH HT 0
def KM:Code:=iH xJ 0
def FR(id:Nat):Option eE:=bif Nat.beq id 7 then some ⟨rV,vU,xE⟩ else bif Nat.beq id 3 then some ⟨rR,vL,xL⟩ else none
theorem ZK:∀ x,jQ tP HU 44 (aP f136) FR KM rV vU x=sK x:=by
 rintro⟨v0,v3,v4,v5,v25,v26,v27,u00,⟨⟩⟩
 kernel_rfl
theorem aBY:eJ tP 44 KM ⟨rV,vU,xE⟩:=fG H7.callee aZ.mixed _ (aQ (l:=[]) Y trivial) ZK
theorem Z8:∀ x,jQ tP HU 44 (aP f136) FR xJ rR vL x=sY x:=by
 rintro⟨v0,v3,v4,u00,⟨⟩⟩
 kernel_rfl
theorem aFA:bB xJ=[KM]:=Y
theorem aAS:eJ tP 44 xJ ⟨rR,vL,xL⟩:=fG H7.callee aZ.mixed _ (aQ aFA ⟨fB (i:=7) Y rfl aBY,trivial⟩) Z8
theorem aDB:bB HT=[xJ]:=Y
theorem aFV:∀ l x A,I0 tP HU f136 (aP f136) FR HT 172 (.int .u64) .none [.str] (.own 172 (.int .u64)) l x A=dZ l x A:=by
 rintro u0 ⟨v0,⟨⟩⟩ A
 kernel_rfl
theorem aJC:PO tP 136 172 (.int .u64) .none [.str] (.own 172 (.int .u64)) dZ:=BB aZ H7 func136 (c:=HT) Y (keep:=aP f136) (lt:=FR) (by rfl) (aQ aDB ⟨fB (i:=3) Y rfl aAS,trivial⟩) aFV
abbrev CJ:Shr:=(136,U4 0 (arH 172 (.int .u64) .none [.str] (.own 172 (.int .u64)) dZ))
theorem BD:pV tP CJ:=tF (g:=136) (f:=arH 172 (.int .u64) .none [.str] (.own 172 (.int .u64)) dZ) (DZ aJC)
abbrev vM:List (Nat×Kd):=[(0,.list (.int .u64)),(1,.list (.int .u64)),(5,.int .i64)]
abbrev EM:List (Ex×List (Nat×Kd)):=[(.ret,[(4,.int .i64)]),(.exit 0,[])]
def nO(x:Shape.den vM):oS vM EM:=match x with
 | (v0,v1,v5,()) =>
  bif !(ltI v5 0) then
   bif aF v5 v0.length then bif aF v5 v1.length then bif ltI (v0.getD v5.toNat 0) (v1.getD v5.toNat 0) then
    some (.inr (.inl ((-1),())))
   else bif aF v5 v0.length then bif aF v5 v1.length then bif ltI (v1.getD v5.toNat 0) (v0.getD v5.toNat 0) then
    some (.inr (.inl (1,())))
   else some (.inl (v0,v1,(aB .i64 (v5-1)),())) else none else none else none else none
  else some (.inr (.inr ((()))))
def CH(x:Shape.den vM):oX EM:=aW nO (2^64) x
def tD(x:aM [.list (.int .u64),.list (.int .u64)]):oK [.int .i64]:=match x with
 | (v0,v1,()) =>
  bif !(eqI (v0.length:Int) (v1.length:Int)) then
   some ((if (if (-1)<(aB .i64 ((v0.length:Int)-(v1.length:Int))) then (aB .i64 ((v0.length:Int)-(v1.length:Int))) else (-1))<1 then (if (-1)<(aB .i64 ((v0.length:Int)-(v1.length:Int))) then (aB .i64 ((v0.length:Int)-(v1.length:Int))) else (-1)) else 1),())
  else aC (CH (v0,v1,(aB .i64 ((v0.length:Int)-1)),())) λz1 =>
  mY z1 (λa2=>some (a2.1,())) λb3 =>
  some (0,())
abbrev IW:Ent:=⟨175,_,_,tD⟩
theorem RU:Ent.OK tP IW:=oU (aR oW) func175 4 (lp:=CH) rfl Y (by rintro⟨v0,v1,v5,⟨⟩⟩; kernel_rfl) (by rintro⟨v0,v1,⟨⟩⟩; kernel_rfl)
abbrev gK:List (Nat×Kd):=[(1,.list (.int .u64)),(5,.own 172 (.int .u64)),(6,.int .i64),(7,.int .u64),(8,.int .u64),(17,.list (.int .u64)),(18,.int .i64),(19,.int .i64),(24,.list (.int .u64)),(25,.int .i64),(26,.int .i64),(100000,.ar 172 (.int .u64))]
abbrev kA:List (Ex×List (Nat×Kd)):=[(.exit 2,[(1,.list (.int .u64)),(5,.own 172 (.int .u64)),(6,.int .i64),(8,.int .u64),(17,.list (.int .u64)),(18,.int .i64),(19,.int .i64),(100000,.ar 172 (.int .u64))])]
def iP(x:Shape.den gK):oS gK kA:=match x with
 | (v1,v5,v6,v7,v8,v17,v18,v19,v24,v25,v26,u00,()) =>
  bif ltI v26 v25 then
   bif aF v26 v24.length then bif aF (aB .i64 (v6+v26)) v5.length then bif Nat.blt ((aB .i64 (v6+v26)).toNat) v5.length then bif aF (aB .i64 (v6+v26)) v5.length then bif Nat.blt ((aB .i64 (v6+v26)).toNat) v5.length then some (.inl (v1,(v5.set ((aB .i64 (v6+v26)).toNat) ((aB .u64 (v8+(aB .u64 ((v5.getD ((aB .i64 (v6+v26)).toNat) 0)+(aB .u64 (v7*(v24.getD v26.toNat 0))))))).tmod 1000000000)),v6,v7,(aB .u64 ((aB .u64 (v8+(aB .u64 ((v5.getD ((aB .i64 (v6+v26)).toNat) 0)+(aB .u64 (v7*(v24.getD v26.toNat 0))))))).tdiv 1000000000)),v17,v18,v19,v24,v25,(aB .i64 (v26+1)),u00,())) else none else none else none else none else none
  else some (.inr ((v1,v5,v6,v8,v17,v18,v19,u00,())))
def mQ(x:Shape.den gK):oX kA:=aW iP (2^64) x
abbrev gN:List (Nat×Kd):=[(1,.list (.int .u64)),(5,.own 172 (.int .u64)),(17,.list (.int .u64)),(18,.int .i64),(19,.int .i64),(100000,.ar 172 (.int .u64))]
abbrev kK:List (Ex×List (Nat×Kd)):=[(.exit 0,[(5,.own 172 (.int .u64)),(100000,.ar 172 (.int .u64))])]
def iV(x:Shape.den gN):oS gN kK:=match x with
 | (v1,v5,v17,v18,v19,u00,()) =>
  bif ltI v19 v18 then
   bif aF v19 v17.length then aC (mQ (v1,v5,v19,(v17.getD v19.toNat 0),0,v17,v18,v19,v1,(v1.length:Int),0,u00,())) λz2 =>
   bif aF (aB .i64 (z2.2.2.1+(z2.1.length:Int))) z2.2.1.length then bif Nat.blt ((aB .i64 (z2.2.2.1+(z2.1.length:Int))).toNat) z2.2.1.length then some (.inl (z2.1,(z2.2.1.set ((aB .i64 (z2.2.2.1+(z2.1.length:Int))).toNat) z2.2.2.2.1),z2.2.2.2.2.1,z2.2.2.2.2.2.1,(aB .i64 (z2.2.2.2.2.2.2.1+1)),z2.2.2.2.2.2.2.2.1,())) else none else none else none
  else some (.inr ((v5,u00,())))
def mO(x:Shape.den gN):oX kK:=aW iV (2^64) x
def eT(u0:Unit)(x:aM [.list (.int .u64),.list (.int .u64)])(A:List (List Int)):Option ((List Int)×List (List Int)):=match x with
 | (v0,v1,()) =>
  bif !(ltI (aB .i64 ((v0.length:Int)+(v1.length:Int))) 0) then bif !(ltI (aB .i64 ((v0.length:Int)+(v1.length:Int))) (aB .i64 ((v0.length:Int)+(v1.length:Int)))) then bif !(ltI 1048576 (aB .i64 ((v0.length:Int)+(v1.length:Int)))) then aC (mO (v1,(List.replicate ((aB .i64 ((v0.length:Int)+(v1.length:Int))).toNat) (0:Ty.den (.int .u64))),v0,(v0.length:Int),0,A,())) λz3 =>
  aC (bF z3.1 (()) z3.2.1) λy4 =>
  some y4 else none else none else none
def r8:Code:=cQ f141
abbrev sA:Env:=MT [] [gB]
theorem uV:eS tP sA:=mM trivial ⟨gO,trivial⟩
def lD:Code:=iH r8 0
def vH:Code:=iH lD 0
def qW(id:Nat):Option eE:=bif Nat.beq id 7 then some ⟨gK,kA,mQ⟩ else bif Nat.beq id 3 then some ⟨gN,kK,mO⟩ else none
theorem MF:∀ x,jQ tP sA 63 (aP f141) qW vH gK kA x=iP x:=by
 rintro⟨v1,v5,v6,v7,v8,v17,v18,v19,v24,v25,v26,u00,⟨⟩⟩
 kernel_rfl
theorem NF:eJ tP 63 vH ⟨gK,kA,mQ⟩:=fG uV.callee aZ.mixed _ (aQ (l:=[]) Y trivial) MF
theorem MM:∀ x,jQ tP sA 63 (aP f141) qW lD gN kK x=iV x:=by
 rintro⟨v1,v5,v17,v18,v19,u00,⟨⟩⟩
 kernel_rfl
theorem Q3:bB lD=[vH]:=Y
theorem OO:eJ tP 63 lD ⟨gN,kK,mO⟩:=fG uV.callee aZ.mixed _ (aQ Q3 ⟨fB (i:=7) Y rfl NF,trivial⟩) MM
theorem PA:bB r8=[lD]:=Y
theorem QW:∀ l x A,I0 tP sA f141 (aP f141) qW r8 172 (.int .u64) .none [.list (.int .u64),.list (.int .u64)] (.own 172 (.int .u64)) l x A=eT l x A:=by
 rintro u0 ⟨v0,v1,⟨⟩⟩ A
 kernel_rfl
theorem TL:PO tP 141 172 (.int .u64) .none [.list (.int .u64),.list (.int .u64)] (.own 172 (.int .u64)) eT:=BB aZ uV func141 (c:=r8) Y (keep:=aP f141) (lt:=qW) (by rfl) (aQ PA ⟨fB (i:=3) Y rfl OO,trivial⟩) QW
abbrev yW:Shr:=(141,U4 0 (arH 172 (.int .u64) .none [.list (.int .u64),.list (.int .u64)] (.own 172 (.int .u64)) eT))
theorem DO:pV tP yW:=tF (g:=141) (f:=arH 172 (.int .u64) .none [.list (.int .u64),.list (.int .u64)] (.own 172 (.int .u64)) eT) (DZ TL)
def fQ(u0:Unit) (x:aM [.list (.int .u64),.int .u64]) (A:List (List Int)):Option ((List Int)×List (List Int)):=match x with
 | (v0,v1,()) =>
  aC (wI ([v1],())) λy1 =>
  aC (eT () (v0,y1.1,()) A) λy2 =>
  some y2
def wS:Code:=cQ f185
abbrev F6:Env:=MT [LG] [yW]
theorem PN:eS tP F6:=mM ⟨VW,trivial⟩ ⟨DO,trivial⟩
def EI(id:Nat):Option eE:=none
theorem NH:bB wS=[]:=Y
theorem O0:∀ l x A,I0 tP F6 f185 (aP f185) EI wS 172 (.int .u64) .none [.list (.int .u64),.int .u64] (.own 172 (.int .u64)) l x A=fQ l x A:=by
 rintro u0 ⟨v0,v1,⟨⟩⟩ A
 kernel_rfl
theorem R0:PO tP 185 172 (.int .u64) .none [.list (.int .u64),.int .u64] (.own 172 (.int .u64)) fQ:=BB aZ PN func185 (c:=wS) Y (keep:=aP f185) (lt:=EI) (by rfl) (aQ NH trivial) O0
abbrev FY:Shr:=(185,U4 0 (arH 172 (.int .u64) .none [.list (.int .u64),.int .u64] (.own 172 (.int .u64)) fQ))
theorem OS:pV tP FY:=tF (g:=185) (f:=arH 172 (.int .u64) .none [.list (.int .u64),.int .u64] (.own 172 (.int .u64)) fQ) (DZ R0)
abbrev gW:List (Nat×Kd):=[(0,.list (.int .u64)),(1,.int .u64),(6,.own 172 (.int .u64)),(7,.int .u64),(8,.int .i64),(100000,.ar 172 (.int .u64))]
abbrev lB:List (Ex×List (Nat×Kd)):=[(.exit 0,[(6,.own 172 (.int .u64)),(7,.int .u64),(100000,.ar 172 (.int .u64))])]
def jL(x:Shape.den gW):oS gW lB:=match x with
 | (v0,v1,v6,v7,v8,u00,()) =>
  bif !(ltI v8 0) then
   bif aF v8 v0.length then bif eqI v1 0 then none else bif aF v8 v6.length then bif Nat.blt v8.toNat v6.length then bif eqI v1 0 then none else some (.inl (v0,v1,(v6.set v8.toNat (aB .u64 ((aB .u64 ((aB .u64 (v7*1000000000))+(v0.getD v8.toNat 0))).tdiv v1))),((aB .u64 ((aB .u64 (v7*1000000000))+(v0.getD v8.toNat 0))).tmod v1),(aB .i64 (v8-1)),u00,())) else none else none else none
  else some (.inr ((v6,v7,u00,())))
def nU(x:Shape.den gW):oX lB:=aW jL (2^64) x
def fJ(u0:Unit)(x:aM [.list (.int .u64),.int .u64])(A:List (List Int)):Option ((aM [.list (.int .u64),.int .u64])×List (List Int)):=match x with
 | (v0,v1,()) =>
  bif !(ltI (v0.length:Int) 0) then bif !(ltI (v0.length:Int) (v0.length:Int)) then bif !(ltI 1048576 (v0.length:Int)) then aC (nU (v0,v1,(List.replicate ((v0.length:Int).toNat) (0:Ty.den (.int .u64))),0,(aB .i64 ((v0.length:Int)-1)),A,())) λz1 =>
  aC (bF z1.1 (()) z1.2.2.1) λy2 =>
  some ((y2.1,z1.2.1,()),y2.2) else none else none else none
def tO:Code:=cQ f176
abbrev AL:Env:=MT [] [gB]
theorem DU:eS tP AL:=mM trivial ⟨gO,trivial⟩
def wO:Code:=iH tO 0
def xZ(id:Nat):Option eE:=bif Nat.beq id 4 then some ⟨gW,lB,nU⟩ else none
theorem OB:∀ x,jQ tP AL 38 (aP f176) xZ wO gW lB x=jL x:=by
 rintro⟨v0,v1,v6,v7,v8,u00,⟨⟩⟩
 kernel_rfl
theorem PG:eJ tP 38 wO ⟨gW,lB,nU⟩:=fG DU.callee aZ.mixed _ (aQ (l:=[]) Y trivial) OB
theorem QG:bB tO=[wO]:=Y
theorem R6:∀ l x A,I0 tP AL f176 (aP f176) xZ tO 172 (.int .u64) .none [.list (.int .u64),.int .u64] (.data [.list (.int .u64),.int .u64]) l x A=fJ l x A:=by
 rintro u0 ⟨v0,v1,⟨⟩⟩ A
 kernel_rfl
theorem VM:PO tP 176 172 (.int .u64) .none [.list (.int .u64),.int .u64] (.data [.list (.int .u64),.int .u64]) fJ:=BB aZ DU func176 (c:=tO) Y (keep:=aP f176) (lt:=xZ) (by rfl) (aQ QG ⟨fB (i:=4) Y rfl PG,trivial⟩) R6
abbrev AA:Shr:=(176,U4 0 (arH 172 (.int .u64) .none [.list (.int .u64),.int .u64] (.data [.list (.int .u64),.int .u64]) fJ))
theorem ES:pV tP AA:=tF (g:=176) (f:=arH 172 (.int .u64) .none [.list (.int .u64),.int .u64] (.data [.list (.int .u64),.int .u64]) fJ) (DZ VM)
abbrev fT:List (Nat×Kd):=[(0,.hnd 1),(1,.list (.int .u64)),(2,.int .u64),(3,.int .i64),(9,.int .i64),(10,.int .u64),(11,.int .i64),(100000,.ar 172 (.int .u64))]
abbrev jC:List (Ex×List (Nat×Kd)):=[(.exit 0,[(9,.int .i64),(100000,.ar 172 (.int .u64))])]
def eP(x:Shape.den fT):oS fT jC:=match x with
 | (v0,v1,v2,v3,v9,v10,v11,u00,()) =>
  bif !(ltI (v1.length:Int) v11) then
   bif ltI v11 (v1.length:Int) then
    bif aF v11 v1.length then bif aF (aB .i64 (v3+v11)) v0.2.2 then bif Nat.blt ((v0.2.1+(aB .i64 (v3+v11)).toNat)*1) (dE u00 v0.1) then bif ltI (aB .i64 ((aB .i64 ((IntKind.wrap .i64 (dQ u00 v0.1 ((v0.2.1+(aB .i64 (v3+v11)).toNat)*1) 0))-(IntKind.wrap .i64 ((aB .u64 (v10+(aB .u64 (v2*(v1.getD v11.toNat 0))))).tmod 1000000000))))-v9)) 0 then
     bif aF (aB .i64 (v3+v11)) v0.2.2 then bif Nat.blt ((v0.2.1+(aB .i64 (v3+v11)).toNat)*1) (dE u00 v0.1) then some (.inl ((v0.1,v0.2.1,v0.2.2),v1,v2,v3,1,(aB .u64 ((aB .u64 (v10+(aB .u64 (v2*(v1.getD v11.toNat 0))))).tdiv 1000000000)),(aB .i64 (v11+1)),(yE u00 v0.1 ((v0.2.1+(aB .i64 (v3+v11)).toNat)*1) (IntKind.wrap .u64 (aB .i64 ((aB .i64 ((aB .i64 ((IntKind.wrap .i64 (dQ u00 v0.1 ((v0.2.1+(aB .i64 (v3+v11)).toNat)*1) 0))-(IntKind.wrap .i64 ((aB .u64 (v10+(aB .u64 (v2*(v1.getD v11.toNat 0))))).tmod 1000000000))))-v9))+1000000000)))),())) else none else none
    else bif aF (aB .i64 (v3+v11)) v0.2.2 then bif Nat.blt ((v0.2.1+(aB .i64 (v3+v11)).toNat)*1) (dE u00 v0.1) then some (.inl ((v0.1,v0.2.1,v0.2.2),v1,v2,v3,0,(aB .u64 ((aB .u64 (v10+(aB .u64 (v2*(v1.getD v11.toNat 0))))).tdiv 1000000000)),(aB .i64 (v11+1)),(yE u00 v0.1 ((v0.2.1+(aB .i64 (v3+v11)).toNat)*1) (IntKind.wrap .u64 (aB .i64 ((aB .i64 ((IntKind.wrap .i64 (dQ u00 v0.1 ((v0.2.1+(aB .i64 (v3+v11)).toNat)*1) 0))-(IntKind.wrap .i64 ((aB .u64 (v10+(aB .u64 (v2*(v1.getD v11.toNat 0))))).tmod 1000000000))))-v9)))),())) else none else none else none else none else none
   else bif aF (aB .i64 (v3+v11)) v0.2.2 then bif Nat.blt ((v0.2.1+(aB .i64 (v3+v11)).toNat)*1) (dE u00 v0.1) then bif ltI (aB .i64 ((aB .i64 ((IntKind.wrap .i64 (dQ u00 v0.1 ((v0.2.1+(aB .i64 (v3+v11)).toNat)*1) 0))-(IntKind.wrap .i64 (v10.tmod 1000000000))))-v9)) 0 then
    bif aF (aB .i64 (v3+v11)) v0.2.2 then bif Nat.blt ((v0.2.1+(aB .i64 (v3+v11)).toNat)*1) (dE u00 v0.1) then some (.inl ((v0.1,v0.2.1,v0.2.2),v1,v2,v3,1,(aB .u64 (v10.tdiv 1000000000)),(aB .i64 (v11+1)),(yE u00 v0.1 ((v0.2.1+(aB .i64 (v3+v11)).toNat)*1) (IntKind.wrap .u64 (aB .i64 ((aB .i64 ((aB .i64 ((IntKind.wrap .i64 (dQ u00 v0.1 ((v0.2.1+(aB .i64 (v3+v11)).toNat)*1) 0))-(IntKind.wrap .i64 (v10.tmod 1000000000))))-v9))+1000000000)))),())) else none else none
   else bif aF (aB .i64 (v3+v11)) v0.2.2 then bif Nat.blt ((v0.2.1+(aB .i64 (v3+v11)).toNat)*1) (dE u00 v0.1) then some (.inl ((v0.1,v0.2.1,v0.2.2),v1,v2,v3,0,(aB .u64 (v10.tdiv 1000000000)),(aB .i64 (v11+1)),(yE u00 v0.1 ((v0.2.1+(aB .i64 (v3+v11)).toNat)*1) (IntKind.wrap .u64 (aB .i64 ((aB .i64 ((IntKind.wrap .i64 (dQ u00 v0.1 ((v0.2.1+(aB .i64 (v3+v11)).toNat)*1) 0))-(IntKind.wrap .i64 (v10.tmod 1000000000))))-v9)))),())) else none else none else none else none
  else some (.inr ((v9,u00,())))
def pE(x:Shape.den fT):oX jC:=aW eP (2^64) x
def eM(u0:Unit)(x:aM [.hnd 1,.list (.int .u64),.int .u64,.int .i64])(A:List (List Int)):Option ((aM [.bool])×List (List Int)):=match x with
 | (v0,v1,v2,v3,()) =>
  aC (pE ((v0.1,v0.2.1,v0.2.2),v1,v2,v3,0,0,0,A,())) λz1 =>
  some ((ltI 0 z1.1,()),z1.2.1)
def uU:Code:=cQ f140
abbrev BI:Env:=DW []
theorem F7:eS tP BI:=aR trivial
def xX:Code:=iH uU 0
def AQ(id:Nat):Option eE:=bif Nat.beq id 4 then some ⟨fT,jC,pE⟩ else none
theorem O7:∀ x,jQ tP BI 59 (aP f140) AQ xX fT jC x=eP x:=by
 rintro⟨v0,v1,v2,v3,v9,v10,v11,u00,⟨⟩⟩
 kernel_rfl
theorem QP:eJ tP 59 xX ⟨fT,jC,pE⟩:=fG F7.callee aZ.mixed _ (aQ (l:=[]) Y trivial) O7
theorem SG:bB uU=[xX]:=Y
theorem TI:∀ l x A,I0 tP BI f140 (aP f140) AQ uU 172 (.int .u64) .none [.hnd 1,.list (.int .u64),.int .u64,.int .i64] (.data [.bool]) l x A=eM l x A:=by
 rintro u0 ⟨v0,v1,v2,v3,⟨⟩⟩ A
 kernel_rfl
theorem V9:PO tP 140 172 (.int .u64) .none [.hnd 1,.list (.int .u64),.int .u64,.int .i64] (.data [.bool]) eM:=BB aZ F7 func140 (c:=uU) Y (keep:=aP f140) (lt:=AQ) (by rfl) (aQ SG ⟨fB (i:=4) Y rfl QP,trivial⟩) TI
theorem VT:a0A tP 140 172 (.int .u64) [.list (.int .u64),.int .u64,.int .i64] [.bool] (aDU eM):=aML V9 (by rfl) (by rfl) (by rfl)
abbrev AP:Shr:=(140,U4 1 (a1N 172 (.int .u64) [.list (.int .u64),.int .u64,.int .i64] [.bool] (aDU eM)))
theorem FA:pV tP AP:=tF (a7O VT)
abbrev jF:List (Nat×Kd):=[(0,.hnd 1),(1,.list (.int .u64)),(2,.int .i64),(6,.int .u64),(7,.int .i64),(100000,.ar 172 (.int .u64))]
abbrev mC:List (Ex×List (Nat×Kd)):=[(.exit 0,[(100000,.ar 172 (.int .u64))])]
def eL(x:Shape.den jF):oS jF mC:=match x with
 | (v0,v1,v2,v6,v7,u00,()) =>
  bif !(ltI (v1.length:Int) v7) then
   bif aF (aB .i64 (v2+v7)) v0.2.2 then bif Nat.blt ((v0.2.1+(aB .i64 (v2+v7)).toNat)*1) (dE u00 v0.1) then bif ltI v7 (v1.length:Int) then
    bif aF v7 v1.length then bif aF (aB .i64 (v2+v7)) v0.2.2 then bif Nat.blt ((v0.2.1+(aB .i64 (v2+v7)).toNat)*1) (dE u00 v0.1) then some (.inl ((v0.1,v0.2.1,v0.2.2),v1,v2,(aB .u64 ((aB .u64 ((aB .u64 (v6+(dQ u00 v0.1 ((v0.2.1+(aB .i64 (v2+v7)).toNat)*1) 0)))+(v1.getD v7.toNat 0))).tdiv 1000000000)),(aB .i64 (v7+1)),(yE u00 v0.1 ((v0.2.1+(aB .i64 (v2+v7)).toNat)*1) ((aB .u64 ((aB .u64 (v6+(dQ u00 v0.1 ((v0.2.1+(aB .i64 (v2+v7)).toNat)*1) 0)))+(v1.getD v7.toNat 0))).tmod 1000000000)),())) else none else none else none
   else bif aF (aB .i64 (v2+v7)) v0.2.2 then bif Nat.blt ((v0.2.1+(aB .i64 (v2+v7)).toNat)*1) (dE u00 v0.1) then some (.inl ((v0.1,v0.2.1,v0.2.2),v1,v2,(aB .u64 ((aB .u64 (v6+(dQ u00 v0.1 ((v0.2.1+(aB .i64 (v2+v7)).toNat)*1) 0))).tdiv 1000000000)),(aB .i64 (v7+1)),(yE u00 v0.1 ((v0.2.1+(aB .i64 (v2+v7)).toNat)*1) ((aB .u64 (v6+(dQ u00 v0.1 ((v0.2.1+(aB .i64 (v2+v7)).toNat)*1) 0))).tmod 1000000000)),())) else none else none else none else none
  else some (.inr ((u00,())))
def pD(x:Shape.den jF):oX mC:=aW eL (2^64) x
def dC(u0:Unit)(x:aM [.hnd 1,.list (.int .u64),.int .i64])(A:List (List Int)):Option ((aM [])×List (List Int)):=match x with
 | (v0,v1,v2,()) =>
  aC (pD ((v0.1,v0.2.1,v0.2.2),v1,v2,0,0,A,())) λz1 =>
  some ((()),z1.1)
def uP:Code:=cQ f137
abbrev BC:Env:=DW []
theorem FZ:eS tP BC:=aR trivial
def yG:Code:=iH uP 0
def AJ(id:Nat):Option eE:=bif Nat.beq id 2 then some ⟨jF,mC,pD⟩ else none
theorem O9:∀ x,jQ tP BC 41 (aP f137) AJ yG jF mC x=eL x:=by
 rintro⟨v0,v1,v2,v6,v7,u00,⟨⟩⟩
 kernel_rfl
theorem Q6:eJ tP 41 yG ⟨jF,mC,pD⟩:=fG FZ.callee aZ.mixed _ (aQ (l:=[]) Y trivial) O9
theorem SX:bB uP=[yG]:=Y
theorem TD:∀ l x A,I0 tP BC f137 (aP f137) AJ uP 172 (.int .u64) .none [.hnd 1,.list (.int .u64),.int .i64] (.data []) l x A=dC l x A:=by
 rintro u0 ⟨v0,v1,v2,⟨⟩⟩ A
 kernel_rfl
theorem WA:PO tP 137 172 (.int .u64) .none [.hnd 1,.list (.int .u64),.int .i64] (.data []) dC:=BB aZ FZ func137 (c:=uP) Y (keep:=aP f137) (lt:=AJ) (by rfl) (aQ SX ⟨fB (i:=2) Y rfl Q6,trivial⟩) TD
theorem VL:a1P tP 137 172 (.int .u64) [.list (.int .u64),.int .i64] (aDI dC):=aR6 WA (by rfl) (by rfl)
abbrev AH:Shr:=(137,U4 1 (a8V 172 (.int .u64) [.list (.int .u64),.int .i64] (aDI dC)))
theorem D8:pV tP AH:=tF (a0Z VL)
abbrev kU:List (Nat×Kd):=[(0,.list (.int .u64)),(3,.own 5 (.int .u8)),(4,.int .i64),(5,.int .u64),(6,.int .i64),(14,.list (.int .u64)),(15,.int .i64),(16,.int .i64)]
abbrev pA:List (Ex×List (Nat×Kd)):=[(.exit 2,[(0,.list (.int .u64)),(3,.own 5 (.int .u8)),(14,.list (.int .u64)),(15,.int .i64),(16,.int .i64)])]
def eD(x:Shape.den kU):oS kU pA:=match x with
 | (v0,v3,v4,v5,v6,v14,v15,v16,()) =>
  bif ltI v6 9 then
   bif ltI (aB .i64 (v4+1)) (v0.length:Int) then
    bif Nat.ble [(IntKind.wrap .u8 (aB .u64 (48+(v5.tmod 10))))].length 1048576 then bif Nat.ble v3.length 1048576 then some (.inl (v0,(v3++[(IntKind.wrap .u8 (aB .u64 (48+(v5.tmod 10))))]),v4,(aB .u64 (v5.tdiv 10)),(aB .i64 (v6+1)),v14,v15,v16,())) else none else none
   else bif ltI 0 v5 then
    bif Nat.ble [(IntKind.wrap .u8 (aB .u64 (48+(v5.tmod 10))))].length 1048576 then bif Nat.ble v3.length 1048576 then some (.inl (v0,(v3++[(IntKind.wrap .u8 (aB .u64 (48+(v5.tmod 10))))]),v4,(aB .u64 (v5.tdiv 10)),(aB .i64 (v6+1)),v14,v15,v16,())) else none else none
   else some (.inr ((v0,v3,v14,v15,v16,())))
  else some (.inr ((v0,v3,v14,v15,v16,())))
def l9(x:Shape.den kU):oX pA:=aW eD (2^64) x
abbrev kT:List (Nat×Kd):=[(0,.list (.int .u64)),(3,.own 5 (.int .u8)),(14,.list (.int .u64)),(15,.int .i64),(16,.int .i64)]
abbrev nY:List (Ex×List (Nat×Kd)):=[(.exit 0,[(3,.own 5 (.int .u8))])]
def jE(x:Shape.den kT):oS kT nY:=match x with
 | (v0,v3,v14,v15,v16,()) =>
  bif ltI v16 v15 then
   bif aF v16 v14.length then aC (l9 (v0,v3,v16,(v14.getD v16.toNat 0),0,v14,v15,v16,())) λz2 =>
   some (.inl (z2.1,z2.2.1,z2.2.2.1,z2.2.2.2.1,(aB .i64 (z2.2.2.2.2.1+1)),())) else none
  else some (.inr ((v3,())))
def qU(x:Shape.den kT):oX nY:=aW jE (2^64) x
def cR(x:aM [.list (.int .u64)]):oK [.str]:=match x with
 | (v0,()) =>
  bif eqI (v0.length:Int) 0 then
   some ((ByteArray.mk #[48]),())
  else bif !(ltI (aB .i64 (9*(v0.length:Int))) 0) then bif !(ltI 1048576 (aB .i64 (9*(v0.length:Int)))) then aC (qU (v0,(List.replicate 0 (0:Ty.den (.int .u8))),v0,(v0.length:Int),0,())) λz3 =>
  aC (aDI (t:=(.int .u8)) eQ z3.1 (())) λy4 =>
  some ((aMW y4),()) else none else none
def NP:Code:=cQ f139
abbrev ET:Env:=MT [] [CO]
theorem zW:eS tP ET:=mM trivial ⟨K1,trivial⟩
def qE:Code:=iH NP 0
def B0:Code:=iH qE 0
def C4(id:Nat):Option eE:=bif Nat.beq id 8 then some ⟨kU,pA,l9⟩ else bif Nat.beq id 5 then some ⟨kT,nY,qU⟩ else none
theorem SE:∀ x,jQ tP ET 50 (aP f139) C4 B0 kU pA x=eD x:=by
 rintro⟨v0,v3,v4,v5,v6,v14,v15,v16,⟨⟩⟩
 kernel_rfl
theorem S9:eJ tP 50 B0 ⟨kU,pA,l9⟩:=fG zW.callee aZ.mixed _ (aQ (l:=[]) Y trivial) SE
theorem SP:∀ x,jQ tP ET 50 (aP f139) C4 qE kT nY x=jE x:=by
 rintro⟨v0,v3,v14,v15,v16,⟨⟩⟩
 kernel_rfl
theorem W5:bB qE=[B0]:=Y
theorem TO:eJ tP 50 qE ⟨kT,nY,qU⟩:=fG zW.callee aZ.mixed _ (aQ W5 ⟨fB (i:=8) Y rfl S9,trivial⟩) SP
abbrev sO:Ent:=⟨139,_,_,cR⟩
theorem tJ:Ent.OK tP sO:=aE3 aZ zW func139 (c:=NP) Y (keep:=aP f139) (lt:=C4) (aQ (l:=[qE]) Y ⟨fB (i:=5) Y rfl TO,trivial⟩) (by rintro⟨v0,⟨⟩⟩; kernel_rfl)
abbrev gP:List (Nat×Kd):=[(0,.list (.int .u64)),(6,.int .u64),(7,.own 172 (.int .u64)),(8,.list (.int .u64)),(9,.int .i64),(100000,.ar 172 (.int .u64))]
abbrev kN:List (Ex×List (Nat×Kd)):=[(.exit 0,[(6,.int .u64),(7,.own 172 (.int .u64)),(8,.list (.int .u64)),(9,.int .i64),(100000,.ar 172 (.int .u64))])]
def mP(x:Shape.den gP):oS gP kN:=match x with
 | (v0,v6,v7,v8,v9,u00,()) =>
  bif !(ltI (v0.length:Int) (v7.length:Int)) then
   bif Nat.ble [0].length 1048576 then bif Nat.ble v7.length 1048576 then some (.inl (v0,v6,(v7++[0]),v8,v9,u00,())) else none else none
  else some (.inr ((v6,v7,v8,v9,u00,())))
def mL(x:Shape.den gP):oX kN:=aW mP (2^64) x
abbrev gG:List (Nat×Kd):=[(6,.int .u64),(7,.own 172 (.int .u64)),(8,.list (.int .u64)),(9,.int .i64),(10,.own 172 (.int .u64)),(11,.int .i64),(13,.int .u64),(14,.int .u64),(100000,.ar 172 (.int .u64))]
abbrev kE:List (Ex×List (Nat×Kd)):=[(.exit 4,[(6,.int .u64),(7,.own 172 (.int .u64)),(8,.list (.int .u64)),(9,.int .i64),(10,.own 172 (.int .u64)),(11,.int .i64),(13,.int .u64),(100000,.ar 172 (.int .u64))])]
def iX(x:Shape.den gG):oS gG kE:=match x with
 | (v6,v7,v8,v9,v10,v11,v13,v14,u00,()) =>
  bif !(ltI v13 1000000000) then
   bif aF (aB .i64 (v9-1)) v8.length then some (.inl (v6,v7,v8,v9,v10,v11,(aB .u64 (v13-1)),(aB .u64 (v14+(v8.getD ((aB .i64 (v9-1)).toNat) 0))),u00,())) else none
  else bif ltI v14 1000000000 then
   bif aF (aB .i64 (v9-2)) v8.length then bif aF (aB .i64 ((aB .i64 (v11+v9))-2)) v7.length then bif Nat.blt ((aB .i64 ((aB .i64 (v11+v9))-2)).toNat) v7.length then bif ltI (aB .u64 ((aB .u64 (v14*1000000000))+(v7.getD ((aB .i64 ((aB .i64 (v11+v9))-2)).toNat) 0))) (aB .u64 (v13*(v8.getD ((aB .i64 (v9-2)).toNat) 0))) then
    bif aF (aB .i64 (v9-1)) v8.length then some (.inl (v6,v7,v8,v9,v10,v11,(aB .u64 (v13-1)),(aB .u64 (v14+(v8.getD ((aB .i64 (v9-1)).toNat) 0))),u00,())) else none
   else some (.inr ((v6,v7,v8,v9,v10,v11,v13,u00,()))) else none else none else none
  else some (.inr ((v6,v7,v8,v9,v10,v11,v13,u00,())))
def mJ(x:Shape.den gG):oX kE:=aW iX (2^64) x
abbrev gI:List (Nat×Kd):=[(6,.int .u64),(7,.own 172 (.int .u64)),(8,.list (.int .u64)),(9,.int .i64),(10,.own 172 (.int .u64)),(11,.int .i64),(100000,.ar 172 (.int .u64))]
abbrev kB:List (Ex×List (Nat×Kd)):=[(.exit 2,[(6,.int .u64),(7,.own 172 (.int .u64)),(10,.own 172 (.int .u64)),(100000,.ar 172 (.int .u64))])]
def dS(x:Shape.den gI):oS gI kB:=match x with
 | (v6,v7,v8,v9,v10,v11,u00,()) =>
  bif !(ltI v11 0) then
   bif aF (aB .i64 (v11+v9)) v7.length then bif Nat.blt ((aB .i64 (v11+v9)).toNat) v7.length then bif aF (aB .i64 ((aB .i64 (v11+v9))-1)) v7.length then bif Nat.blt ((aB .i64 ((aB .i64 (v11+v9))-1)).toNat) v7.length then bif aF (aB .i64 (v9-1)) v8.length then bif eqI (v8.getD ((aB .i64 (v9-1)).toNat) 0) 0 then none else bif aF (aB .i64 (v9-1)) v8.length then bif eqI (v8.getD ((aB .i64 (v9-1)).toNat) 0) 0 then none else aC (mJ (v6,v7,v8,v9,v10,v11,(aB .u64 ((aB .u64 ((aB .u64 ((v7.getD ((aB .i64 (v11+v9)).toNat) 0)*1000000000))+(v7.getD ((aB .i64 ((aB .i64 (v11+v9))-1)).toNat) 0))).tdiv (v8.getD ((aB .i64 (v9-1)).toNat) 0))),((aB .u64 ((aB .u64 ((v7.getD ((aB .i64 (v11+v9)).toNat) 0)*1000000000))+(v7.getD ((aB .i64 ((aB .i64 (v11+v9))-1)).toNat) 0))).tmod (v8.getD ((aB .i64 (v9-1)).toNat) 0)),u00,())) λz7 =>
   aC (aDU (t:=(.int .u64)) (rets:=[.bool]) eM z7.2.1 (z7.2.2.1,z7.2.2.2.2.2.2.1,z7.2.2.2.2.2.1,())) λy8 =>
   bif y8.1.1 then
    aC (aDI (t:=(.int .u64)) dC y8.2 (z7.2.2.1,z7.2.2.2.2.2.1,())) λy9 =>
    bif aF z7.2.2.2.2.2.1 z7.2.2.2.2.1.length then bif Nat.blt z7.2.2.2.2.2.1.toNat z7.2.2.2.2.1.length then some (.inl (z7.1,y9,z7.2.2.1,z7.2.2.2.1,(z7.2.2.2.2.1.set z7.2.2.2.2.2.1.toNat (aB .u64 (z7.2.2.2.2.2.2.1-1))),(aB .i64 (z7.2.2.2.2.2.1-1)),z7.2.2.2.2.2.2.2.1,())) else none else none
   else bif aF z7.2.2.2.2.2.1 z7.2.2.2.2.1.length then bif Nat.blt z7.2.2.2.2.2.1.toNat z7.2.2.2.2.1.length then some (.inl (z7.1,y8.2,z7.2.2.1,z7.2.2.2.1,(z7.2.2.2.2.1.set z7.2.2.2.2.2.1.toNat z7.2.2.2.2.2.2.1),(aB .i64 (z7.2.2.2.2.2.1-1)),z7.2.2.2.2.2.2.2.1,())) else none else none else none else none else none else none else none else none
  else some (.inr ((v6,v7,v10,u00,())))
def mN(x:Shape.den gI):oX kB:=aW dS (2^64) x
def gD(u0:Unit)(x:aM [.list (.int .u64),.list (.int .u64)])(A:List (List Int)):Option ((aM [.list (.int .u64),.list (.int .u64)])×List (List Int)):=match x with
 | (v0,v1,()) =>
  bif aF (aB .i64 ((v1.length:Int)-1)) v1.length then bif eqI (aB .u64 ((v1.getD ((aB .i64 ((v1.length:Int)-1)).toNat) 0)+1)) 0 then none else aC (fQ () (v0,(aB .u64 ((1000000000:Int).tdiv (aB .u64 ((v1.getD ((aB .i64 ((v1.length:Int)-1)).toNat) 0)+1)))),()) A) λy1 =>
  bif Nat.ble [0].length 1048576 then bif Nat.ble y1.1.length 1048576 then aC (fQ () (v1,(aB .u64 ((1000000000:Int).tdiv (aB .u64 ((v1.getD ((aB .i64 ((v1.length:Int)-1)).toNat) 0)+1)))),()) y1.2) λy2 =>
  aC (mL (v0,(aB .u64 ((1000000000:Int).tdiv (aB .u64 ((v1.getD ((aB .i64 ((v1.length:Int)-1)).toNat) 0)+1)))),(y1.1++[0]),y2.1,(y2.1.length:Int),y2.2,())) λz3 =>
  bif !(ltI (aB .i64 ((z3.2.1.length:Int)-z3.2.2.2.1)) 0) then bif !(ltI (aB .i64 ((z3.2.1.length:Int)-z3.2.2.2.1)) (aB .i64 ((z3.2.1.length:Int)-z3.2.2.2.1))) then bif !(ltI 1048576 (aB .i64 ((z3.2.1.length:Int)-z3.2.2.2.1))) then aC (mN (z3.1,z3.2.1,z3.2.2.1,z3.2.2.2.1,(List.replicate ((aB .i64 ((z3.2.1.length:Int)-z3.2.2.2.1)).toNat) (0:Ty.den (.int .u64))),(aB .i64 ((aB .i64 ((z3.2.1.length:Int)-z3.2.2.2.1))-1)),z3.2.2.2.2.1,())) λz10 =>
  aC (bF z10.2.1 (()) z10.2.2.2.1) λy11 =>
  aC (fJ () (y11.1,z10.1,()) y11.2) λy12 =>
  aC (bF z10.2.2.1 (()) y12.2) λy13 =>
  some ((y13.1,y12.1.1,()),y13.2) else none else none else none else none else none else none
def mW:Code:=cQ f177
abbrev mS:Env:=MT [] [AH,FY,AA,AP,gB]
theorem pF:eS tP mS:=mM trivial ⟨D8,OS,ES,FA,gO,trivial⟩
def vX:Code:=iH mW 0
def lA:Code:=iH mW 1
def wC:Code:=iH lA 0
def mD(id:Nat):Option eE:=bif Nat.beq id 4 then some ⟨gP,kN,mL⟩ else bif Nat.beq id 12 then some ⟨gG,kE,mJ⟩ else bif Nat.beq id 8 then some ⟨gI,kB,mN⟩ else none
theorem M3:∀ x,jQ tP mS 146 (aP f177) mD vX gP kN x=mP x:=by
 rintro⟨v0,v6,v7,v8,v9,u00,⟨⟩⟩
 kernel_rfl
theorem OG:eJ tP 146 vX ⟨gP,kN,mL⟩:=fG pF.callee aZ.mixed _ (aQ (l:=[]) Y trivial) M3
theorem ME:∀ x,jQ tP mS 146 (aP f177) mD wC gG kE x=iX x:=by
 rintro⟨v6,v7,v8,v9,v10,v11,v13,v14,u00,⟨⟩⟩
 kernel_rfl
theorem N9:eJ tP 146 wC ⟨gG,kE,mJ⟩:=fG pF.callee aZ.mixed _ (aQ (l:=[]) Y trivial) ME
theorem MW:∀ x,jQ tP mS 146 (aP f177) mD lA gI kB x=dS x:=by
 rintro⟨v6,v7,v8,v9,v10,v11,u00,⟨⟩⟩
 kernel_rfl
theorem QE:bB lA=[wC]:=Y
theorem ON:eJ tP 146 lA ⟨gI,kB,mN⟩:=fG pF.callee aZ.mixed _ (aQ QE ⟨fB (i:=12) Y rfl N9,trivial⟩) MW
theorem PC:bB mW=[vX,lA]:=Y
theorem QZ:∀ l x A,I0 tP mS f177 (aP f177) mD mW 172 (.int .u64) .none [.list (.int .u64),.list (.int .u64)] (.data [.list (.int .u64),.list (.int .u64)]) l x A=gD l x A:=by
 rintro u0 ⟨v0,v1,⟨⟩⟩ A
 kernel_rfl
theorem TG:PO tP 177 172 (.int .u64) .none [.list (.int .u64),.list (.int .u64)] (.data [.list (.int .u64),.list (.int .u64)]) gD:=BB aZ pF func177 (c:=mW) Y (keep:=aP f177) (lt:=mD) (by rfl) (aQ PC ⟨fB (i:=4) Y rfl OG,fB (i:=8) Y rfl ON,trivial⟩) QZ
abbrev HO:Shr:=(177,U4 0 (arH 172 (.int .u64) .none [.list (.int .u64),.list (.int .u64)] (.data [.list (.int .u64),.list (.int .u64)]) gD))
theorem QC:pV tP HO:=tF (g:=177) (f:=arH 172 (.int .u64) .none [.list (.int .u64),.list (.int .u64)] (.data [.list (.int .u64),.list (.int .u64)]) gD) (DZ TG)
def fE(x:aM [.str,.str]):oK [.str]:=match x with
 | (v0,v1,()) =>
  aC (sC (v0,v1,())) λy1 =>
  bif y1.2.2.1 then
   aC (uZ ((aB .u64 (y1.1+y1.2.1)),())) λy2 =>
   some (y2.1,())
  else aC (dZ () (v0,()) []) λy3 =>
  aC (dZ () (v1,()) y3.2) λy4 =>
  bif ltI (y3.1.length:Int) (y4.1.length:Int) then
   bif Nat.ble [0].length 1048576 then bif Nat.ble y4.1.length 1048576 then bif !(ltI (aB .i64 ((aB .i64 (((y4.1++[0]).length:Int)-1))-(y3.1.length:Int))) 0) then bif !(ltI 1048576 (aB .i64 ((aB .i64 (((y4.1++[0]).length:Int)-1))-(y3.1.length:Int)))) then bif Nat.ble y3.1.length 1048576 then aC (aDI (t:=(.int .u64)) dC (y4.1++[0]) ((y3.1++List.replicate (aB .i64 ((aB .i64 (((y4.1++[0]).length:Int)-1))-(y3.1.length:Int))).toNat (0:Ty.den (.int .u64))),0,())) λy5 =>
   aC (bF y5 (()) y4.2) λy6 =>
   aC (cR (y6.1,())) λy7 =>
   some (y7.1,()) else none else none else none else none else none
  else bif Nat.ble [0].length 1048576 then bif Nat.ble y3.1.length 1048576 then bif !(ltI (aB .i64 ((aB .i64 (((y3.1++[0]).length:Int)-1))-(y4.1.length:Int))) 0) then bif !(ltI 1048576 (aB .i64 ((aB .i64 (((y3.1++[0]).length:Int)-1))-(y4.1.length:Int)))) then bif Nat.ble y4.1.length 1048576 then aC (aDI (t:=(.int .u64)) dC (y3.1++[0]) ((y4.1++List.replicate (aB .i64 ((aB .i64 (((y3.1++[0]).length:Int)-1))-(y4.1.length:Int))).toNat (0:Ty.den (.int .u64))),0,())) λy8 =>
  aC (bF y8 (()) y4.2) λy9 =>
  aC (cR (y9.1,())) λy10 =>
  some (y10.1,()) else none else none else none else none else none
def YA:Code:=cQ f101
abbrev aG4:Env:=MT [NW,HF,sO] [CJ,AH,gB]
theorem aK2:eS tP aG4:=mM ⟨J3,FM,tJ,trivial⟩ ⟨BD,D8,gO,trivial⟩
def aD4(id:Nat):Option eE:=none
theorem aIP:bB YA=[]:=Y
theorem aK3:∀ x,aJ1 tP aG4 f101 (aP f101) aD4 YA 172 (.int .u64) _ _ x=fE x:=by
 rintro⟨v0,v1,⟨⟩⟩
 kernel_rfl
abbrev aTH:Ent:=⟨101,_,_,fE⟩
theorem ZB:Ent.OK tP aTH:=aO5 aZ aK2 func101 (c:=YA) Y (keep:=aP f101) (lt:=aD4) (aQ aIP trivial) aK3
def cS(x:aM [.str,.str]):oK [.str,.int .i64]:=match x with
 | (v0,v1,()) =>
  aC (fU (v0,v1,())) λy1 =>
  bif ltI y1.1 0 then
   some ((ByteArray.mk #[]),3,())
  else aC (sC (v0,v1,())) λy2 =>
  bif y2.2.2.1 then
   aC (uZ ((aB .u64 (y2.1-y2.2.1)),())) λy3 =>
   some (y3.1,0,())
  else aC (dZ () (v0,()) []) λy4 =>
  bif Nat.ble [0].length 1048576 then bif Nat.ble y4.1.length 1048576 then aC (dZ () (v1,()) y4.2) λy5 =>
  aC (dZ () (v1,()) y5.2) λy6 =>
  bif !(ltI (aB .i64 ((aB .i64 (((y4.1++[0]).length:Int)-1))-(y6.1.length:Int))) 0) then bif !(ltI 1048576 (aB .i64 ((aB .i64 (((y4.1++[0]).length:Int)-1))-(y6.1.length:Int)))) then bif Nat.ble y5.1.length 1048576 then aC (aDU (t:=(.int .u64)) (rets:=[.bool]) eM (y4.1++[0]) ((y5.1++List.replicate (aB .i64 ((aB .i64 (((y4.1++[0]).length:Int)-1))-(y6.1.length:Int))).toNat (0:Ty.den (.int .u64))),1,0,())) λy7 =>
  aC (bF y7.2 (()) y6.2) λy8 =>
  aC (cR (y8.1,())) λy9 =>
  some (y9.1,0,()) else none else none else none else none else none
def YP:Code:=cQ f103
abbrev aGL:Env:=MT [WT,NW,HF,sO] [CJ,AP,gB]
theorem aLP:eS tP aGL:=mM ⟨GM,J3,FM,tJ,trivial⟩ ⟨BD,FA,gO,trivial⟩
def aEE(id:Nat):Option eE:=none
theorem aIY:bB YP=[]:=Y
theorem aLK:∀ x,aJ1 tP aGL f103 (aP f103) aEE YP 172 (.int .u64) _ _ x=cS x:=by
 rintro⟨v0,v1,⟨⟩⟩
 kernel_rfl
abbrev aTX:Ent:=⟨103,_,_,cS⟩
theorem ZF:Ent.OK tP aTX:=aO5 aZ aLP func103 (c:=YP) Y (keep:=aP f103) (lt:=aEE) (aQ aIY trivial) aLK
def fF(x:aM [.str,.str]):oK [.str]:=match x with
 | (v0,v1,()) =>
  bif !(ltI 18 (aB .i64 ((v0.size:Int)+(v1.size:Int)))) then
   aC (sC (v0,v1,())) λy1 =>
   aC (uZ ((aB .u64 (y1.1*y1.2.1)),())) λy2 =>
   some (y2.1,())
  else aC (dZ () (v0,()) []) λy3 =>
  aC (dZ () (v1,()) y3.2) λy4 =>
  aC (eT () (y3.1,y4.1,()) y4.2) λy5 =>
  aC (cR (y5.1,())) λy6 =>
  some (y6.1,())
def XT:Code:=cQ f104
abbrev aHM:Env:=MT [NW,HF,sO] [CJ,yW]
theorem aKZ:eS tP aHM:=mM ⟨J3,FM,tJ,trivial⟩ ⟨BD,DO,trivial⟩
def aD7(id:Nat):Option eE:=none
theorem aJE:bB XT=[]:=Y
theorem aLG:∀ x,aJ1 tP aHM f104 (aP f104) aD7 XT 172 (.int .u64) _ _ x=fF x:=by
 rintro⟨v0,v1,⟨⟩⟩
 kernel_rfl
abbrev aT8:Ent:=⟨104,_,_,fF⟩
theorem aK9:Ent.OK tP aT8:=aO5 aZ aKZ func104 (c:=XT) Y (keep:=aP f104) (lt:=aD7) (aQ aJE trivial) aLG
def nQ(x:aM [.str,.str]):oK [.str,.str,.int .i64]:=match x with
 | (v0,v1,()) =>
  bif eqS v1 (ByteArray.mk #[48]) then
   some ((ByteArray.mk #[]),(ByteArray.mk #[]),17,())
  else aC (sC (v0,v1,())) λy1 =>
  bif y1.2.2.1 then
   bif eqI y1.2.1 0 then none else aC (uZ ((aB .u64 (y1.1.tdiv y1.2.1)),())) λy2 =>
   bif eqI y1.2.1 0 then none else aC (uZ ((y1.1.tmod y1.2.1),())) λy3 =>
   some (y2.1,y3.1,0,())
  else aC (dZ () (v0,()) []) λy4 =>
  aC (dZ () (v1,()) y4.2) λy5 =>
  aC (tD (y4.1,y5.1,())) λy6 =>
  bif ltI y6.1 0 then
   some ((ByteArray.mk #[48]),v0,0,())
  else bif eqI (y5.1.length:Int) 1 then
   bif aF 0 y5.1.length then bif Nat.blt 0 y5.1.length then aC (fJ () (y4.1,(y5.1.getD 0 0),()) y5.2) λy7 =>
   aC (cR (y7.1.1,())) λy8 =>
   aC (uZ (y7.1.2.1,())) λy9 =>
   some (y8.1,y9.1,0,()) else none else none
  else aC (gD () (y4.1,y5.1,()) y5.2) λy10 =>
  aC (cR (y10.1.1,())) λy11 =>
  aC (cR (y10.1.2.1,())) λy12 =>
  some (y11.1,y12.1,0,())
def PJ:Code:=cQ f154
abbrev ZC:Env:=MT [NW,HF,IW,sO] [CJ,HO,AA]
theorem aE7:eS tP ZC:=mM ⟨J3,FM,RU,tJ,trivial⟩ ⟨BD,QC,ES,trivial⟩
def XD(id:Nat):Option eE:=none
theorem aDO:bB PJ=[]:=Y
theorem aEX:∀ x,aJ1 tP ZC f154 (aP f154) XD PJ 172 (.int .u64) _ _ x=nQ x:=by
 rintro⟨v0,v1,⟨⟩⟩
 kernel_rfl
abbrev aLO:Ent:=⟨154,_,_,nQ⟩
theorem aEW:Ent.OK tP aLO:=aO5 aZ aE7 func154 (c:=PJ) Y (keep:=aP f154) (lt:=XD) (aQ aDO trivial) aEX
def SZ(x:aM [.str,.str]):oK [.str]:=match x with
 | (v0,v1,()) =>
  aC (r6 (v0,18,())) λy1 =>
  bif y1.2.1 then
   aC (r6 (v1,18,())) λy2 =>
   bif y2.2.1 then
    aC (kR ((aB .i64 (y1.1+y2.1)),())) λy3 =>
    some (y3.1,())
   else aC (cL (v0,())) λy4 =>
   aC (cL (v1,())) λy5 =>
   bif y4.1 then
    bif y5.1 then
     aC (fE (y4.2.1,y5.2.1,())) λy6 =>
     aC (aA (y4.1,y6.1,())) λy7 =>
     some (y7.1,())
    else aC (fU (y4.2.1,y5.2.1,())) λy8 =>
    bif ltI y8.1 0 then
     aC (cS (y5.2.1,y4.2.1,())) λy9 =>
     aC (aA (y5.1,y9.1,())) λy10 =>
     some (y10.1,())
    else aC (cS (y4.2.1,y5.2.1,())) λy11 =>
    aC (aA (y4.1,y11.1,())) λy12 =>
    some (y12.1,())
   else bif y5.1 then
    aC (fU (y4.2.1,y5.2.1,())) λy13 =>
    bif ltI y13.1 0 then
     aC (cS (y5.2.1,y4.2.1,())) λy14 =>
     aC (aA (y5.1,y14.1,())) λy15 =>
     some (y15.1,())
    else aC (cS (y4.2.1,y5.2.1,())) λy16 =>
    aC (aA (y4.1,y16.1,())) λy17 =>
    some (y17.1,())
   else aC (fE (y4.2.1,y5.2.1,())) λy18 =>
   aC (aA (y4.1,y18.1,())) λy19 =>
   some (y19.1,())
  else aC (cL (v0,())) λy20 =>
  aC (cL (v1,())) λy21 =>
  bif y20.1 then
   bif y21.1 then
    aC (fE (y20.2.1,y21.2.1,())) λy22 =>
    aC (aA (y20.1,y22.1,())) λy23 =>
    some (y23.1,())
   else aC (fU (y20.2.1,y21.2.1,())) λy24 =>
   bif ltI y24.1 0 then
    aC (cS (y21.2.1,y20.2.1,())) λy25 =>
    aC (aA (y21.1,y25.1,())) λy26 =>
    some (y26.1,())
   else aC (cS (y20.2.1,y21.2.1,())) λy27 =>
   aC (aA (y20.1,y27.1,())) λy28 =>
   some (y28.1,())
  else bif y21.1 then
   aC (fU (y20.2.1,y21.2.1,())) λy29 =>
   bif ltI y29.1 0 then
    aC (cS (y21.2.1,y20.2.1,())) λy30 =>
    aC (aA (y21.1,y30.1,())) λy31 =>
    some (y31.1,())
   else aC (cS (y20.2.1,y21.2.1,())) λy32 =>
   aC (aA (y20.1,y32.1,())) λy33 =>
   some (y33.1,())
  else aC (fE (y20.2.1,y21.2.1,())) λy34 =>
  aC (aA (y20.1,y34.1,())) λy35 =>
  some (y35.1,())
abbrev aOM:Ent:=⟨67,_,_,SZ⟩
theorem aDY:Ent.OK tP aOM:=oI (aR (oV ZB (oV GM (oV ZF (oV JY (oV KS (oV LX (oV xC oW)))))))) func67 Y (by rintro⟨v0,v1,⟨⟩⟩; kernel_rfl)
def X0(x:aM [.str,.str]):oK [.str]:=match x with
 | (v0,v1,()) =>
  aC (RP (v1,())) λy1 =>
  aC (SZ (v0,y1.1,())) λy2 =>
  some (y2.1,())
abbrev aOH:Ent:=⟨155,_,_,X0⟩
theorem aPT:Ent.OK tP aOH:=oI (aR (oV aDY (oV aD6 oW))) func155 Y (by rintro⟨v0,v1,⟨⟩⟩; kernel_rfl)
def RV(x:aM [.str,.str]):oK [.str]:=match x with
 | (v0,v1,()) =>
  aC (r6 (v0,9,())) λy1 =>
  bif y1.2.1 then
   aC (r6 (v1,9,())) λy2 =>
   bif y2.2.1 then
    aC (kR ((aB .i64 (y1.1*y2.1)),())) λy3 =>
    some (y3.1,())
   else aC (cL (v0,())) λy4 =>
   aC (cL (v1,())) λy5 =>
   bif y4.1 then
    bif y5.1 then
     aC (fF (y4.2.1,y5.2.1,())) λy6 =>
     aC (aA (false,y6.1,())) λy7 =>
     some (y7.1,())
    else aC (fF (y4.2.1,y5.2.1,())) λy8 =>
    aC (aA (true,y8.1,())) λy9 =>
    some (y9.1,())
   else bif y5.1 then
    aC (fF (y4.2.1,y5.2.1,())) λy10 =>
    aC (aA (true,y10.1,())) λy11 =>
    some (y11.1,())
   else aC (fF (y4.2.1,y5.2.1,())) λy12 =>
   aC (aA (false,y12.1,())) λy13 =>
   some (y13.1,())
  else aC (cL (v0,())) λy14 =>
  aC (cL (v1,())) λy15 =>
  bif y14.1 then
   bif y15.1 then
    aC (fF (y14.2.1,y15.2.1,())) λy16 =>
    aC (aA (false,y16.1,())) λy17 =>
    some (y17.1,())
   else aC (fF (y14.2.1,y15.2.1,())) λy18 =>
   aC (aA (true,y18.1,())) λy19 =>
   some (y19.1,())
  else bif y15.1 then
   aC (fF (y14.2.1,y15.2.1,())) λy20 =>
   aC (aA (true,y20.1,())) λy21 =>
   some (y21.1,())
  else aC (fF (y14.2.1,y15.2.1,())) λy22 =>
  aC (aA (false,y22.1,())) λy23 =>
  some (y23.1,())
abbrev aFD:Ent:=⟨68,_,_,RV⟩
theorem aD2:Ent.OK tP aFD:=oI (aR (oV aK9 (oV JY (oV KS (oV LX (oV xC oW)))))) func68 Y (by rintro⟨v0,v1,⟨⟩⟩; kernel_rfl)
def HS(x:aM [.str,.str]):oK [.str,.str,.int .i64]:=match x with
 | (v0,v1,()) =>
  bif eqS v1 (ByteArray.mk #[48]) then
   some ((ByteArray.mk #[]),(ByteArray.mk #[]),17,())
  else aC (r6 (v0,18,())) λy1 =>
  bif y1.2.1 then
   aC (r6 (v1,18,())) λy2 =>
   bif y2.2.1 then
    bif eqI y2.1 0 then none else bif eqI y2.1 0 then none else bif !(eqI (y1.1.tmod y2.1) 0) then
     bif ltI (y1.1.tmod y2.1) 0 then
      bif ltI y2.1 0 then
       aC (kR ((aB .i64 (y1.1.tdiv y2.1)),())) λy3 =>
       aC (kR ((y1.1.tmod y2.1),())) λy4 =>
       some (y3.1,y4.1,0,())
      else aC (kR ((aB .i64 ((aB .i64 (y1.1.tdiv y2.1))-1)),())) λy5 =>
      aC (kR ((aB .i64 ((y1.1.tmod y2.1)+y2.1)),())) λy6 =>
      some (y5.1,y6.1,0,())
     else bif ltI y2.1 0 then
      aC (kR ((aB .i64 ((aB .i64 (y1.1.tdiv y2.1))-1)),())) λy7 =>
      aC (kR ((aB .i64 ((y1.1.tmod y2.1)+y2.1)),())) λy8 =>
      some (y7.1,y8.1,0,())
     else aC (kR ((aB .i64 (y1.1.tdiv y2.1)),())) λy9 =>
     aC (kR ((y1.1.tmod y2.1),())) λy10 =>
     some (y9.1,y10.1,0,())
    else aC (kR ((aB .i64 (y1.1.tdiv y2.1)),())) λy11 =>
    aC (kR ((y1.1.tmod y2.1),())) λy12 =>
    some (y11.1,y12.1,0,())
   else aC (cL (v0,())) λy13 =>
   aC (cL (v1,())) λy14 =>
   aC (nQ (y13.2.1,y14.2.1,())) λy15 =>
   bif !(eqI y15.2.2.1 0) then
    some ((ByteArray.mk #[]),(ByteArray.mk #[]),y15.2.2.1,())
   else bif y13.1 then
    bif y14.1 then
     bif y13.1 then
      bif y14.1 then
       aC (aA (false,y15.1,())) λy16 =>
       aC (aA (y14.1,y15.2.1,())) λy17 =>
       some (y16.1,y17.1,0,())
      else aC (aA (true,y15.1,())) λy18 =>
      aC (aA (y14.1,y15.2.1,())) λy19 =>
      some (y18.1,y19.1,0,())
     else bif y14.1 then
      aC (aA (true,y15.1,())) λy20 =>
      aC (aA (y14.1,y15.2.1,())) λy21 =>
      some (y20.1,y21.1,0,())
     else aC (aA (false,y15.1,())) λy22 =>
     aC (aA (y14.1,y15.2.1,())) λy23 =>
     some (y22.1,y23.1,0,())
    else bif !(eqS y15.2.1 (ByteArray.mk #[48])) then
     aC (fE (y15.1,(ByteArray.mk #[49]),())) λy24 =>
     aC (cS (y14.2.1,y15.2.1,())) λy25 =>
     bif y13.1 then
      bif y14.1 then
       aC (aA (false,y24.1,())) λy26 =>
       aC (aA (y14.1,y25.1,())) λy27 =>
       some (y26.1,y27.1,0,())
      else aC (aA (true,y24.1,())) λy28 =>
      aC (aA (y14.1,y25.1,())) λy29 =>
      some (y28.1,y29.1,0,())
     else bif y14.1 then
      aC (aA (true,y24.1,())) λy30 =>
      aC (aA (y14.1,y25.1,())) λy31 =>
      some (y30.1,y31.1,0,())
     else aC (aA (false,y24.1,())) λy32 =>
     aC (aA (y14.1,y25.1,())) λy33 =>
     some (y32.1,y33.1,0,())
    else bif y13.1 then
     bif y14.1 then
      aC (aA (false,y15.1,())) λy34 =>
      aC (aA (y14.1,y15.2.1,())) λy35 =>
      some (y34.1,y35.1,0,())
     else aC (aA (true,y15.1,())) λy36 =>
     aC (aA (y14.1,y15.2.1,())) λy37 =>
     some (y36.1,y37.1,0,())
    else bif y14.1 then
     aC (aA (true,y15.1,())) λy38 =>
     aC (aA (y14.1,y15.2.1,())) λy39 =>
     some (y38.1,y39.1,0,())
    else aC (aA (false,y15.1,())) λy40 =>
    aC (aA (y14.1,y15.2.1,())) λy41 =>
    some (y40.1,y41.1,0,())
   else bif y14.1 then
    bif !(eqS y15.2.1 (ByteArray.mk #[48])) then
     aC (fE (y15.1,(ByteArray.mk #[49]),())) λy42 =>
     aC (cS (y14.2.1,y15.2.1,())) λy43 =>
     bif y13.1 then
      bif y14.1 then
       aC (aA (false,y42.1,())) λy44 =>
       aC (aA (y14.1,y43.1,())) λy45 =>
       some (y44.1,y45.1,0,())
      else aC (aA (true,y42.1,())) λy46 =>
      aC (aA (y14.1,y43.1,())) λy47 =>
      some (y46.1,y47.1,0,())
     else bif y14.1 then
      aC (aA (true,y42.1,())) λy48 =>
      aC (aA (y14.1,y43.1,())) λy49 =>
      some (y48.1,y49.1,0,())
     else aC (aA (false,y42.1,())) λy50 =>
     aC (aA (y14.1,y43.1,())) λy51 =>
     some (y50.1,y51.1,0,())
    else bif y13.1 then
     bif y14.1 then
      aC (aA (false,y15.1,())) λy52 =>
      aC (aA (y14.1,y15.2.1,())) λy53 =>
      some (y52.1,y53.1,0,())
     else aC (aA (true,y15.1,())) λy54 =>
     aC (aA (y14.1,y15.2.1,())) λy55 =>
     some (y54.1,y55.1,0,())
    else bif y14.1 then
     aC (aA (true,y15.1,())) λy56 =>
     aC (aA (y14.1,y15.2.1,())) λy57 =>
     some (y56.1,y57.1,0,())
    else aC (aA (false,y15.1,())) λy58 =>
    aC (aA (y14.1,y15.2.1,())) λy59 =>
    some (y58.1,y59.1,0,())
   else bif y13.1 then
    bif y14.1 then
     aC (aA (false,y15.1,())) λy60 =>
     aC (aA (y14.1,y15.2.1,())) λy61 =>
     some (y60.1,y61.1,0,())
    else aC (aA (true,y15.1,())) λy62 =>
    aC (aA (y14.1,y15.2.1,())) λy63 =>
    some (y62.1,y63.1,0,())
   else bif y14.1 then
    aC (aA (true,y15.1,())) λy64 =>
    aC (aA (y14.1,y15.2.1,())) λy65 =>
    some (y64.1,y65.1,0,())
   else aC (aA (false,y15.1,())) λy66 =>
   aC (aA (y14.1,y15.2.1,())) λy67 =>
   some (y66.1,y67.1,0,())
  else aC (cL (v0,())) λy68 =>
  aC (cL (v1,())) λy69 =>
  aC (nQ (y68.2.1,y69.2.1,())) λy70 =>
  bif !(eqI y70.2.2.1 0) then
   some ((ByteArray.mk #[]),(ByteArray.mk #[]),y70.2.2.1,())
  else bif y68.1 then
   bif y69.1 then
    bif y68.1 then
     bif y69.1 then
      aC (aA (false,y70.1,())) λy71 =>
      aC (aA (y69.1,y70.2.1,())) λy72 =>
      some (y71.1,y72.1,0,())
     else aC (aA (true,y70.1,())) λy73 =>
     aC (aA (y69.1,y70.2.1,())) λy74 =>
     some (y73.1,y74.1,0,())
    else bif y69.1 then
     aC (aA (true,y70.1,())) λy75 =>
     aC (aA (y69.1,y70.2.1,())) λy76 =>
     some (y75.1,y76.1,0,())
    else aC (aA (false,y70.1,())) λy77 =>
    aC (aA (y69.1,y70.2.1,())) λy78 =>
    some (y77.1,y78.1,0,())
   else bif !(eqS y70.2.1 (ByteArray.mk #[48])) then
    aC (fE (y70.1,(ByteArray.mk #[49]),())) λy79 =>
    aC (cS (y69.2.1,y70.2.1,())) λy80 =>
    bif y68.1 then
     bif y69.1 then
      aC (aA (false,y79.1,())) λy81 =>
      aC (aA (y69.1,y80.1,())) λy82 =>
      some (y81.1,y82.1,0,())
     else aC (aA (true,y79.1,())) λy83 =>
     aC (aA (y69.1,y80.1,())) λy84 =>
     some (y83.1,y84.1,0,())
    else bif y69.1 then
     aC (aA (true,y79.1,())) λy85 =>
     aC (aA (y69.1,y80.1,())) λy86 =>
     some (y85.1,y86.1,0,())
    else aC (aA (false,y79.1,())) λy87 =>
    aC (aA (y69.1,y80.1,())) λy88 =>
    some (y87.1,y88.1,0,())
   else bif y68.1 then
    bif y69.1 then
     aC (aA (false,y70.1,())) λy89 =>
     aC (aA (y69.1,y70.2.1,())) λy90 =>
     some (y89.1,y90.1,0,())
    else aC (aA (true,y70.1,())) λy91 =>
    aC (aA (y69.1,y70.2.1,())) λy92 =>
    some (y91.1,y92.1,0,())
   else bif y69.1 then
    aC (aA (true,y70.1,())) λy93 =>
    aC (aA (y69.1,y70.2.1,())) λy94 =>
    some (y93.1,y94.1,0,())
   else aC (aA (false,y70.1,())) λy95 =>
   aC (aA (y69.1,y70.2.1,())) λy96 =>
   some (y95.1,y96.1,0,())
  else bif y69.1 then
   bif !(eqS y70.2.1 (ByteArray.mk #[48])) then
    aC (fE (y70.1,(ByteArray.mk #[49]),())) λy97 =>
    aC (cS (y69.2.1,y70.2.1,())) λy98 =>
    bif y68.1 then
     bif y69.1 then
      aC (aA (false,y97.1,())) λy99 =>
      aC (aA (y69.1,y98.1,())) λy100 =>
      some (y99.1,y100.1,0,())
     else aC (aA (true,y97.1,())) λy101 =>
     aC (aA (y69.1,y98.1,())) λy102 =>
     some (y101.1,y102.1,0,())
    else bif y69.1 then
     aC (aA (true,y97.1,())) λy103 =>
     aC (aA (y69.1,y98.1,())) λy104 =>
     some (y103.1,y104.1,0,())
    else aC (aA (false,y97.1,())) λy105 =>
    aC (aA (y69.1,y98.1,())) λy106 =>
    some (y105.1,y106.1,0,())
   else bif y68.1 then
    bif y69.1 then
     aC (aA (false,y70.1,())) λy107 =>
     aC (aA (y69.1,y70.2.1,())) λy108 =>
     some (y107.1,y108.1,0,())
    else aC (aA (true,y70.1,())) λy109 =>
    aC (aA (y69.1,y70.2.1,())) λy110 =>
    some (y109.1,y110.1,0,())
   else bif y69.1 then
    aC (aA (true,y70.1,())) λy111 =>
    aC (aA (y69.1,y70.2.1,())) λy112 =>
    some (y111.1,y112.1,0,())
   else aC (aA (false,y70.1,())) λy113 =>
   aC (aA (y69.1,y70.2.1,())) λy114 =>
   some (y113.1,y114.1,0,())
  else bif y68.1 then
   bif y69.1 then
    aC (aA (false,y70.1,())) λy115 =>
    aC (aA (y69.1,y70.2.1,())) λy116 =>
    some (y115.1,y116.1,0,())
   else aC (aA (true,y70.1,())) λy117 =>
   aC (aA (y69.1,y70.2.1,())) λy118 =>
   some (y117.1,y118.1,0,())
  else bif y69.1 then
   aC (aA (true,y70.1,())) λy119 =>
   aC (aA (y69.1,y70.2.1,())) λy120 =>
   some (y119.1,y120.1,0,())
  else aC (aA (false,y70.1,())) λy121 =>
  aC (aA (y69.1,y70.2.1,())) λy122 =>
  some (y121.1,y122.1,0,())
abbrev aDV:Ent:=⟨119,_,_,HS⟩
theorem aJJ:Ent.OK tP aDV:=oI (aR (oV ZB (oV aEW (oV ZF (oV JY (oV KS (oV LX (oV xC oW)))))))) func119 Y (by rintro⟨v0,v1,⟨⟩⟩; kernel_rfl)
end Go.PM
namespace Go.PM
open Go Go.RowKit Go.Proofs Tryz
set_option maxHeartbeats 4000000
abbrev qN:List (Nat×Kd):=[(3,.own 74 .str),(9,.list TyE),(10,.int .i64),(11,.int .i64)]
abbrev uI:List (Ex×List (Nat×Kd)):=[(.exit 0,[(3,.own 74 .str)])]
def qZ(x:Shape.den qN):oS qN uI:=match x with
 | (v3,v9,v10,v11,()) =>
  bif ltI v11 v10 then
   bif aF v11 v9.length then aC (kR ((v9.getD v11.toNat 0),())) λy2 =>
   bif Nat.ble [y2.1].length 1048576 then bif Nat.ble v3.length 1048576 then some (.inl ((v3++[y2.1]),v9,v10,(aB .i64 (v11+1)),())) else none else none else none
  else some (.inr ((v3,())))
def wE(x:Shape.den qN):oX uI:=aW qZ (2^64) x
def rU(x:aM [.list TyE]):Option (List ByteArray):=match x with
 | (v0,()) =>
  bif !(ltI (v0.length:Int) 0) then bif !(ltI 1048576 (v0.length:Int)) then aC (wE ((List.replicate 0 (ByteArray.empty:Ty.den .str)),v0,(v0.length:Int),0,())) λz3 =>
  some z3.1 else none else none
def FJ:Code:=cQ f113
abbrev LV:Env:=DW [aIZ]
theorem PS:eS tP LV:=aR ⟨JY,trivial⟩
def IA:Code:=iH FJ 0
def J9(id:Nat):Option eE:=bif Nat.beq id 3 then some ⟨qN,uI,wE⟩ else none
theorem YU:∀ x,jQ tP LV 22 (aP f113) J9 IA qN uI x=qZ x:=by
 rintro⟨v3,v9,v10,v11,⟨⟩⟩
 kernel_rfl
theorem ZY:eJ tP 22 IA ⟨qN,uI,wE⟩:=fG PS.callee aZ.mixed _ (aQ (l:=[]) Y trivial) YU
theorem aBZ:bB FJ=[IA]:=Y
theorem aDP:∀ x,aR4 tP LV f113 (aP f113) J9 FJ [.list TyE] 2 74 .str x=rU x:=by
 rintro⟨v0,⟨⟩⟩
 kernel_rfl
theorem aHL:aGM tP 113 [.list TyE] 74 .str rU:=aL9 aZ PS func113 (c:=FJ) Y (keep:=aP f113) (lt:=J9) (t:=2) Y (aQ aBZ ⟨fB (i:=3) Y rfl ZY,trivial⟩) aDP
abbrev MU:Shr:=(113,aZI [.list TyE] 74 .str rU)
theorem PT:pV tP MU:=aG1 aHL
abbrev kV:List (Nat×Kd):=[(0,.hnd 1),(1,.str),(10,.hnd 1),(11,.int .i64),(12,.int .i64),(100000,.ar 74 .str)]
abbrev o8:List (Ex×List (Nat×Kd)):=[(.exit 0,[(100000,.ar 74 .str)])]
def mB(x:Shape.den kV):oS kV o8:=match x with
 | (v0,v1,v10,v11,v12,u00,()) =>
  bif ltI v12 v11 then
   bif aF v12 v10.2.2 then bif Nat.blt ((v10.2.1+v12.toNat)*1) (dE u00 v10.1) then bif aF v12 v0.2.2 then bif Nat.blt ((v0.2.1+v12.toNat)*1) (dE u00 v0.1) then aC (RV (v1,(dQ u00 v10.1 ((v10.2.1+v12.toNat)*1) ByteArray.empty),())) λy3 =>
   aC (X0 ((dQ u00 v0.1 ((v0.2.1+v12.toNat)*1) ByteArray.empty),y3.1,())) λy4 =>
   bif aF v12 v0.2.2 then bif Nat.blt ((v0.2.1+v12.toNat)*1) (dE u00 v0.1) then some (.inl ((v0.1,v0.2.1,v0.2.2),v1,(v10.1,v10.2.1,v10.2.2),v11,(aB .i64 (v12+1)),(yE u00 v0.1 ((v0.2.1+v12.toNat)*1) y4.1),())) else none else none else none else none else none else none
  else some (.inr ((u00,())))
def qV(x:Shape.den kV):oX o8:=aW mB (2^64) x
def fY(u0:Unit)(x:aM [.hnd 1,.str,.hnd 1])(A:List (List ByteArray)):Option ((aM [])×List (List ByteArray)):=match x with
 | (v0,v1,v2,()) =>
  bif eqS v1 (ByteArray.mk #[48]) then
   some ((()),A)
  else aC (qV ((v0.1,v0.2.1,v0.2.2),v1,(v2.1,v2.2.1,v2.2.2),((v2.2.2:Nat):Int),0,A,())) λz5 =>
  some ((()),z5.1)
def xM:Code:=cQ f120
abbrev EP:Env:=DW [aFD,aOH]
theorem IN:eS tP EP:=aR ⟨aD2,aPT,trivial⟩
def B1:Code:=iH xM 0
def C6(id:Nat):Option eE:=bif Nat.beq id 2 then some ⟨kV,o8,qV⟩ else none
theorem RN:∀ x,jQ tP EP 29 (aP f120) C6 B1 kV o8 x=mB x:=by
 rintro⟨v0,v1,v10,v11,v12,u00,⟨⟩⟩
 kernel_rfl
theorem S3:eJ tP 29 B1 ⟨kV,o8,qV⟩:=fG IN.callee aZ.mixed _ (aQ (l:=[]) Y trivial) RN
theorem U6:bB xM=[B1]:=Y
theorem WY:∀ l x A,I0 tP EP f120 (aP f120) C6 xM 74 .str .none [.hnd 1,.str,.hnd 1] (.data []) l x A=fY l x A:=by
 rintro u0 ⟨v0,v1,v2,⟨⟩⟩ A
 kernel_rfl
theorem ZU:PO tP 120 74 .str .none [.hnd 1,.str,.hnd 1] (.data []) fY:=BB aZ IN func120 (c:=xM) Y (keep:=aP f120) (lt:=C6) (by rfl) (aQ U6 ⟨fB (i:=2) Y rfl S3,trivial⟩) WY
abbrev N1:Shr:=(120,U4 0 (arH 74 .str .none [.hnd 1,.str,.hnd 1] (.data []) fY))
theorem XA:pV tP N1:=tF (g:=120) (f:=arH 74 .str .none [.hnd 1,.str,.hnd 1] (.data []) fY) (DZ ZU)
abbrev jD:List (Nat×Kd):=[(0,.hnd 1),(4,.hnd 1),(5,.int .i64),(6,.int .i64),(100000,.ar 74 .str)]
abbrev l7:List (Ex×List (Nat×Kd)):=[(.exit 0,[(100000,.ar 74 .str)])]
def kH(x:Shape.den jD):oS jD l7:=match x with
 | (v0,v4,v5,v6,u00,()) =>
  bif ltI v6 v5 then
   bif aF v6 v4.2.2 then bif Nat.blt ((v4.2.1+v6.toNat)*1) (dE u00 v4.1) then aC (RP ((dQ u00 v4.1 ((v4.2.1+v6.toNat)*1) ByteArray.empty),())) λy2 =>
   bif aF v6 v0.2.2 then bif Nat.blt ((v0.2.1+v6.toNat)*1) (dE u00 v0.1) then some (.inl ((v0.1,v0.2.1,v0.2.2),(v4.1,v4.2.1,v4.2.2),v5,(aB .i64 (v6+1)),(yE u00 v0.1 ((v0.2.1+v6.toNat)*1) y2.1),())) else none else none else none else none
  else some (.inr ((u00,())))
def pI(x:Shape.den jD):oX l7:=aW kH (2^64) x
def eK(u0:Unit)(x:aM [.hnd 1])(A:List (List ByteArray)):Option ((aM [])×List (List ByteArray)):=match x with
 | (v0,()) =>
  aC (pI ((v0.1,v0.2.1,v0.2.2),(v0.1,v0.2.1,v0.2.2),((v0.2.2:Nat):Int),0,A,())) λz3 =>
  some ((()),z3.1)
def uT:Code:=cQ f122
abbrev B9:Env:=DW [aNL]
theorem F8:eS tP B9:=aR ⟨aD6,trivial⟩
def yC:Code:=iH uT 0
def zS(id:Nat):Option eE:=bif Nat.beq id 1 then some ⟨jD,l7,pI⟩ else none
theorem O2:∀ x,jQ tP B9 17 (aP f122) zS yC jD l7 x=kH x:=by
 rintro⟨v0,v4,v5,v6,u00,⟨⟩⟩
 kernel_rfl
theorem QX:eJ tP 17 yC ⟨jD,l7,pI⟩:=fG F8.callee aZ.mixed _ (aQ (l:=[]) Y trivial) O2
theorem RH:bB uT=[yC]:=Y
theorem TE:∀ l x A,I0 tP B9 f122 (aP f122) zS uT 74 .str .none [.hnd 1] (.data []) l x A=eK l x A:=by
 rintro u0 ⟨v0,⟨⟩⟩ A
 kernel_rfl
theorem WK:PO tP 122 74 .str .none [.hnd 1] (.data []) eK:=BB aZ F8 func122 (c:=uT) Y (keep:=aP f122) (lt:=zS) (by rfl) (aQ RH ⟨fB (i:=1) Y rfl QX,trivial⟩) TE
abbrev JZ:Shr:=(122,U4 0 (arH 74 .str .none [.hnd 1] (.data []) eK))
theorem TN:pV tP JZ:=tF (g:=122) (f:=arH 74 .str .none [.hnd 1] (.data []) eK) (DZ WK)
def D4(x:aM [.str]):oK [.bool]:=match x with
 | (v0,()) =>
  some (!(eqS v0 (ByteArray.mk #[48])),())
abbrev NS:Ent:=⟨174,_,_,D4⟩
theorem WQ:Ent.OK tP NS:=oI (aR oW) func174 Y (by rintro⟨v0,⟨⟩⟩; kernel_rfl)
abbrev cB:List (Nat×Kd):=[(0,.hnd 1),(1,.fn 174),(7,.int .i64),(8,.int .i64),(100000,.ar 74 .str)]
abbrev cY:List (Ex×List (Nat×Kd)):=[(.ret,[(4,.int .i64),(100000,.ar 74 .str)]),(.exit 0,[(100000,.ar 74 .str)])]
def bG(x:Shape.den cB):oS cB cY:=match x with
 | (v0,v1,v7,v8,u00,()) =>
  bif ltI v8 v7 then
   bif aF v8 v0.2.2 then bif Nat.blt ((v0.2.1+v8.toNat)*1) (dE u00 v0.1) then aC (D4 ((dQ u00 v0.1 ((v0.2.1+v8.toNat)*1) ByteArray.empty),())) λy2 =>
   bif y2.1 then
    some (.inr (.inl (v8,u00,())))
   else some (.inl ((v0.1,v0.2.1,v0.2.2),(),v7,(aB .i64 (v8+1)),u00,())) else none else none
  else some (.inr (.inr ((u00,()))))
def cM(x:Shape.den cB):oX cY:=aW bG (2^64) x
def bR(u0:Unit)(x:aM [.hnd 1,.fn 174])(A:List (List ByteArray)):Option ((aM [.int .i64])×List (List ByteArray)):=match x with
 | (v0,v1,()) =>
  aC (cM ((v0.1,v0.2.1,v0.2.2),(),((v0.2.2:Nat):Int),0,A,())) λz3 =>
  mY z3 (λa4=>some ((a4.1,()),a4.2.1)) λb5 =>
  some (((-1),()),b5.1)
def fD:Code:=cQ f173
abbrev j9:Env:=DW [NS]
theorem pT:eS tP j9:=aR ⟨WQ,trivial⟩
def jI:Code:=iH fD 0
def jN(id:Nat):Option eE:=bif Nat.beq id 2 then some ⟨cB,cY,cM⟩ else none
theorem yR:∀ x,jQ tP j9 19 (aP f173) jN jI cB cY x=bG x:=by
 rintro⟨v0,v1,v7,v8,u00,⟨⟩⟩
 kernel_rfl
theorem zA:eJ tP 19 jI ⟨cB,cY,cM⟩:=fG pT.callee aZ.mixed _ (aQ (l:=[]) Y trivial) yR
theorem AI:bB fD=[jI]:=Y
theorem AS:∀ l x A,I0 tP j9 f173 (aP f173) jN fD 74 .str .none [.hnd 1,.fn 174] (.data [.int .i64]) l x A=bR l x A:=by
 rintro u0 ⟨v0,v1,⟨⟩⟩ A
 kernel_rfl
theorem CN:PO tP 173 74 .str .none [.hnd 1,.fn 174] (.data [.int .i64]) bR:=BB aZ pT func173 (c:=fD) Y (keep:=aP f173) (lt:=jN) (by rfl) (aQ AI ⟨fB (i:=2) Y rfl zA,trivial⟩) AS
abbrev rE:Shr:=(173,U4 0 (arH 74 .str .none [.hnd 1,.fn 174] (.data [.int .i64]) bR))
theorem AV:pV tP rE:=tF (g:=173) (f:=arH 74 .str .none [.hnd 1,.fn 174] (.data [.int .i64]) bR) (DZ CN)
def iU(u0:Unit) (x:aM [.hnd 1]) (A:List (List ByteArray)):Option ((aM [.int .i64])×List (List ByteArray)):=match x with
 | (v0,()) =>
  aC (bR () ((v0.1,v0.2.1,v0.2.2),(),()) A) λy1 =>
  some ((y1.1.1,()),y1.2)
def DV:Code:=cQ f153
abbrev OL:Env:=MT [] [rE]
theorem WB:eS tP OL:=mM trivial ⟨AV,trivial⟩
def LQ(id:Nat):Option eE:=none
theorem U2:bB DV=[]:=Y
theorem W9:∀ l x A,I0 tP OL f153 (aP f153) LQ DV 74 .str .none [.hnd 1] (.data [.int .i64]) l x A=iU l x A:=by
 rintro u0 ⟨v0,⟨⟩⟩ A
 kernel_rfl
theorem ZN:PO tP 153 74 .str .none [.hnd 1] (.data [.int .i64]) iU:=BB aZ WB func153 (c:=DV) Y (keep:=aP f153) (lt:=LQ) (by rfl) (aQ U2 trivial) W9
abbrev NU:Shr:=(153,U4 0 (arH 74 .str .none [.hnd 1] (.data [.int .i64]) iU))
theorem XF:pV tP NU:=tF (g:=153) (f:=arH 74 .str .none [.hnd 1] (.data [.int .i64]) iU) (DZ ZN)
abbrev jW:List (Nat×Kd):=[(4,.own 3 TyE),(12,.hnd 1),(13,.int .i64),(14,.int .i64),(100000,.ar 74 .str)]
abbrev mV:List (Ex×List (Nat×Kd)):=[(.ret,[(2,.list TyE),(3,.int .i64),(100000,.ar 74 .str)]),(.exit 0,[(4,.own 3 TyE),(100000,.ar 74 .str)])]
def gZ(x:Shape.den jW):oS jW mV:=match x with
 | (v4,v12,v13,v14,u00,()) =>
  bif ltI v14 v13 then
   bif aF v14 v12.2.2 then bif Nat.blt ((v12.2.1+v14.toNat)*1) (dE u00 v12.1) then aC (nM ((dQ u00 v12.1 ((v12.2.1+v14.toNat)*1) ByteArray.empty),())) λy2 =>
   bif y2.2.1 then
    bif ltI 1000000000 y2.1 then
     some (.inr (.inl ([],4,u00,())))
    else bif ltI y2.1 (-1000000000) then
     some (.inr (.inl ([],4,u00,())))
    else bif Nat.ble [y2.1].length 1048576 then bif Nat.ble v4.length 1048576 then some (.inl ((v4++[y2.1]),(v12.1,v12.2.1,v12.2.2),v13,(aB .i64 (v14+1)),u00,())) else none else none
   else some (.inr (.inl ([],4,u00,()))) else none else none
  else some (.inr (.inr ((v4,u00,()))))
def qD(x:Shape.den jW):oX mV:=aW gZ (2^64) x
def j8(u0:Unit)(x:aM [.hnd 1])(A:List (List ByteArray)):Option ((aM [.list TyE,.int .i64])×List (List ByteArray)):=match x with
 | (v0,()) =>
  bif !(ltI ((v0.2.2:Nat):Int) 0) then bif !(ltI 1048576 ((v0.2.2:Nat):Int)) then aC (qD ((List.replicate 0 (0:Ty.den TyE)),(v0.1,v0.2.1,v0.2.2),((v0.2.2:Nat):Int),0,A,())) λz3 =>
  mY z3 (λa4=>some ((a4.1,a4.2.1,()),a4.2.2.1)) λb5 =>
  some ((b5.1,0,()),b5.2.1) else none else none
def wG:Code:=cQ f116
abbrev DD:Env:=DW [aH6]
theorem GX:eS tP DD:=aR ⟨ZG,trivial⟩
def zY:Code:=iH wG 0
def BE(id:Nat):Option eE:=bif Nat.beq id 3 then some ⟨jW,mV,qD⟩ else none
theorem QL:∀ x,jQ tP DD 39 (aP f116) BE zY jW mV x=gZ x:=by
 rintro⟨v4,v12,v13,v14,u00,⟨⟩⟩
 kernel_rfl
theorem SY:eJ tP 39 zY ⟨jW,mV,qD⟩:=fG GX.callee aZ.mixed _ (aQ (l:=[]) Y trivial) QL
theorem S5:bB wG=[zY]:=Y
theorem VG:∀ l x A,I0 tP DD f116 (aP f116) BE wG 74 .str .none [.hnd 1] (.data [.list TyE,.int .i64]) l x A=j8 l x A:=by
 rintro u0 ⟨v0,⟨⟩⟩ A
 kernel_rfl
theorem XN:PO tP 116 74 .str .none [.hnd 1] (.data [.list TyE,.int .i64]) j8:=BB aZ GX func116 (c:=wG) Y (keep:=aP f116) (lt:=BE) (by rfl) (aQ S5 ⟨fB (i:=3) Y rfl SY,trivial⟩) VG
abbrev LC:Shr:=(116,U4 0 (arH 74 .str .none [.hnd 1] (.data [.list TyE,.int .i64]) j8))
theorem V5:pV tP LC:=tF (g:=116) (f:=arH 74 .str .none [.hnd 1] (.data [.list TyE,.int .i64]) j8) (DZ XN)
abbrev lX:List (Nat×Kd):=[(3,.own 152 (.hnd 1)),(6,.list TyD),(7,.int .i64),(8,.int .i64),(100000,.ar 74 .str)]
abbrev qF:List (Ex×List (Nat×Kd)):=[(.exit 0,[(3,.own 152 (.hnd 1)),(100000,.ar 74 .str)])]
def j3(x:Shape.den lX):oS lX qF:=match x with
 | (v3,v6,v7,v8,u00,()) =>
  bif ltI v8 v7 then
   bif aF v8 v6.length then aC (rU ((v6.getD v8.toNat []),())) λy2 =>
   bif Nat.ble [(u00.length,0,y2.length)].length 1048576 then bif Nat.ble v3.length 1048576 then some (.inl ((v3++[(u00.length,0,y2.length)]),v6,v7,(aB .i64 (v8+1)),(u00++[y2]),())) else none else none else none
  else some (.inr ((v3,u00,())))
def sF(x:Shape.den lX):oX qF:=aW j3 (2^64) x
def fM(u0:Unit)(x:aM [.list TyD])(A:List (List ByteArray)):Option ((List (Nat×Nat×Nat))×List (List ByteArray)):=match x with
 | (v0,()) =>
  aC (sF ([],v0,(v0.length:Int),0,A,())) λz3 =>
  some (z3.1,z3.2.1)
def zD:Code:=cQ f84
abbrev GD:Env:=MT [] [MU]
theorem KN:eS tP GD:=mM trivial ⟨PT,trivial⟩
def CX:Code:=iH zD 0
def ER(id:Nat):Option eE:=bif Nat.beq id 3 then some ⟨lX,qF,sF⟩ else none
theorem TP:∀ x,jQ tP GD 19 (aP f84) ER CX lX qF x=j3 x:=by
 rintro⟨v3,v6,v7,v8,u00,⟨⟩⟩
 kernel_rfl
theorem VB:eJ tP 19 CX ⟨lX,qF,sF⟩:=fG KN.callee aZ.mixed _ (aQ (l:=[]) Y trivial) TP
theorem WC:bB zD=[CX]:=Y
theorem YX:∀ l x A,I0 tP GD f84 (aP f84) ER zD 74 .str .none [.list TyD] (.own 152 (.hnd 1)) l x A=fM l x A:=by
 rintro u0 ⟨v0,⟨⟩⟩ A
 kernel_rfl
theorem aAY:PO tP 84 74 .str .none [.list TyD] (.own 152 (.hnd 1)) fM:=BB aZ KN func84 (c:=zD) Y (keep:=aP f84) (lt:=ER) (by rfl) (aQ WC ⟨fB (i:=3) Y rfl VB,trivial⟩) YX
abbrev zC:Shr:=(84,U4 0 (arH 74 .str .none [.list TyD] (.own 152 (.hnd 1)) fM))
theorem B7:pV tP zC:=tF (g:=84) (f:=arH 74 .str .none [.list TyD] (.own 152 (.hnd 1)) fM) (DZ aAY)
abbrev gY:List (Nat×Kd):=[(0,.own 152 (.hnd 1)),(1,.int .i64),(5,.int .i64),(6,.int .i64),(7,.int .i64),(8,.int .i64),(100000,.ar 74 .str)]
abbrev lE:List (Ex×List (Nat×Kd)):=[(.exit 4,[(0,.own 152 (.hnd 1)),(1,.int .i64),(5,.int .i64),(6,.int .i64),(7,.int .i64),(100000,.ar 74 .str)])]
def dH(x:Shape.den gY):oS gY lE:=match x with
 | (v0,v1,v5,v6,v7,v8,u00,()) =>
  bif ltI v8 (v0.length:Int) then
   bif aF v8 v0.length then bif Nat.blt v8.toNat v0.length then bif aF v6 ((v0.getD v8.toNat (0,0,0)).2.2) then bif Nat.blt (((v0.getD v8.toNat (0,0,0)).2.1+v6.toNat)*1) (dE u00 ((v0.getD v8.toNat (0,0,0)).1)) then bif !(eqS (dQ u00 ((v0.getD v8.toNat (0,0,0)).1) (((v0.getD v8.toNat (0,0,0)).2.1+v6.toNat)*1) ByteArray.empty) (ByteArray.mk #[48])) then
    bif ltI v7 0 then
     some (.inl (v0,v1,v5,v6,v8,(aB .i64 (v8+1)),u00,()))
    else bif aF v8 v0.length then bif Nat.blt v8.toNat v0.length then bif aF v6 ((v0.getD v8.toNat (0,0,0)).2.2) then bif Nat.blt (((v0.getD v8.toNat (0,0,0)).2.1+v6.toNat)*1) (dE u00 ((v0.getD v8.toNat (0,0,0)).1)) then aC (S0 ((dQ u00 ((v0.getD v8.toNat (0,0,0)).1) (((v0.getD v8.toNat (0,0,0)).2.1+v6.toNat)*1) ByteArray.empty),())) λy4 =>
    bif aF v7 v0.length then bif Nat.blt v7.toNat v0.length then bif aF v6 ((v0.getD v7.toNat (0,0,0)).2.2) then bif Nat.blt (((v0.getD v7.toNat (0,0,0)).2.1+v6.toNat)*1) (dE u00 ((v0.getD v7.toNat (0,0,0)).1)) then aC (S0 ((dQ u00 ((v0.getD v7.toNat (0,0,0)).1) (((v0.getD v7.toNat (0,0,0)).2.1+v6.toNat)*1) ByteArray.empty),())) λy5 =>
    aC (JS (y4.1,y5.1,())) λy6 =>
    bif ltI y6.1 0 then
     some (.inl (v0,v1,v5,v6,v8,(aB .i64 (v8+1)),u00,()))
    else some (.inl (v0,v1,v5,v6,v7,(aB .i64 (v8+1)),u00,())) else none else none else none else none else none else none else none else none
   else some (.inl (v0,v1,v5,v6,v7,(aB .i64 (v8+1)),u00,())) else none else none else none else none
  else some (.inr ((v0,v1,v5,v6,v7,u00,())))
def jO(x:Shape.den gY):oX lE:=aW dH (2^64) x
abbrev iE:List (Nat×Kd):=[(0,.own 152 (.hnd 1)),(1,.int .i64),(5,.int .i64),(6,.int .i64),(9,.bool),(10,.int .i64),(100000,.ar 74 .str)]
abbrev lC:List (Ex×List (Nat×Kd)):=[(.exit 6,[(0,.own 152 (.hnd 1)),(1,.int .i64),(5,.int .i64),(6,.int .i64),(9,.bool),(100000,.ar 74 .str)])]
def eA(x:Shape.den iE):oS iE lC:=match x with
 | (v0,v1,v5,v6,v9,v10,u00,()) =>
  bif ltI v10 (v0.length:Int) then
   bif aF v10 v0.length then bif Nat.blt v10.toNat v0.length then bif aF v6 ((v0.getD v10.toNat (0,0,0)).2.2) then bif Nat.blt (((v0.getD v10.toNat (0,0,0)).2.1+v6.toNat)*1) (dE u00 ((v0.getD v10.toNat (0,0,0)).1)) then bif aF v5 v0.length then bif Nat.blt v5.toNat v0.length then bif aF v6 ((v0.getD v5.toNat (0,0,0)).2.2) then bif Nat.blt (((v0.getD v5.toNat (0,0,0)).2.1+v6.toNat)*1) (dE u00 ((v0.getD v5.toNat (0,0,0)).1)) then aC (HS ((dQ u00 ((v0.getD v10.toNat (0,0,0)).1) (((v0.getD v10.toNat (0,0,0)).2.1+v6.toNat)*1) ByteArray.empty),(dQ u00 ((v0.getD v5.toNat (0,0,0)).1) (((v0.getD v5.toNat (0,0,0)).2.1+v6.toNat)*1) ByteArray.empty),())) λy10 =>
   bif aF v10 v0.length then bif Nat.blt v10.toNat v0.length then bif aF v5 v0.length then bif Nat.blt v5.toNat v0.length then aC (fY () (((v0.getD v10.toNat (0,0,0)).1,(v0.getD v10.toNat (0,0,0)).2.1,(v0.getD v10.toNat (0,0,0)).2.2),y10.1,((v0.getD v5.toNat (0,0,0)).1,(v0.getD v5.toNat (0,0,0)).2.1,(v0.getD v5.toNat (0,0,0)).2.2),()) u00) λy11 =>
   bif v9 then
    some (.inl (v0,v1,v5,v6,true,(aB .i64 (v10+1)),y11.2,()))
   else some (.inl (v0,v1,v5,v6,!(eqS y10.2.1 (ByteArray.mk #[48])),(aB .i64 (v10+1)),y11.2,())) else none else none else none else none else none else none else none else none else none else none else none else none
  else some (.inr ((v0,v1,v5,v6,v9,u00,())))
def nI(x:Shape.den iE):oX lC:=aW eA (2^64) x
abbrev gX:List (Nat×Kd):=[(0,.own 152 (.hnd 1)),(1,.int .i64),(5,.int .i64),(6,.int .i64),(142,.int .i64),(143,.int .i64),(100000,.ar 74 .str)]
abbrev kY:List (Ex×List (Nat×Kd)):=[(.exit 8,[(0,.own 152 (.hnd 1)),(1,.int .i64),(5,.int .i64),(6,.int .i64),(100000,.ar 74 .str)])]
def jK(x:Shape.den gX):oS gX kY:=match x with
 | (v0,v1,v5,v6,v142,v143,u00,()) =>
  bif ltI v143 v142 then
   bif aF v143 v0.length then bif Nat.blt v143.toNat v0.length then bif aF v6 ((v0.getD v143.toNat (0,0,0)).2.2) then bif Nat.blt (((v0.getD v143.toNat (0,0,0)).2.1+v6.toNat)*1) (dE u00 ((v0.getD v143.toNat (0,0,0)).1)) then bif aF v5 v0.length then bif Nat.blt v5.toNat v0.length then bif aF v6 ((v0.getD v5.toNat (0,0,0)).2.2) then bif Nat.blt (((v0.getD v5.toNat (0,0,0)).2.1+v6.toNat)*1) (dE u00 ((v0.getD v5.toNat (0,0,0)).1)) then aC (HS ((dQ u00 ((v0.getD v143.toNat (0,0,0)).1) (((v0.getD v143.toNat (0,0,0)).2.1+v6.toNat)*1) ByteArray.empty),(dQ u00 ((v0.getD v5.toNat (0,0,0)).1) (((v0.getD v5.toNat (0,0,0)).2.1+v6.toNat)*1) ByteArray.empty),())) λy17 =>
   bif aF v143 v0.length then bif Nat.blt v143.toNat v0.length then bif aF v5 v0.length then bif Nat.blt v5.toNat v0.length then aC (fY () (((v0.getD v143.toNat (0,0,0)).1,(v0.getD v143.toNat (0,0,0)).2.1,(v0.getD v143.toNat (0,0,0)).2.2),y17.1,((v0.getD v5.toNat (0,0,0)).1,(v0.getD v5.toNat (0,0,0)).2.1,(v0.getD v5.toNat (0,0,0)).2.2),()) u00) λy18 =>
   some (.inl (v0,v1,v5,v6,v142,(aB .i64 (v143+1)),y18.2,())) else none else none else none else none else none else none else none else none else none else none else none else none
  else some (.inr ((v0,v1,v5,v6,u00,())))
def dG(x:Shape.den gX):oX kY:=aW jK (2^64) x
abbrev hU:List (Nat×Kd):=[(0,.own 152 (.hnd 1)),(1,.int .i64),(5,.int .i64),(6,.int .i64),(100000,.ar 74 .str)]
abbrev lG:List (Ex×List (Nat×Kd)):=[(.exit 2,[(0,.own 152 (.hnd 1)),(1,.int .i64),(5,.int .i64),(6,.int .i64),(100000,.ar 74 .str)])]
def dI(x:Shape.den hU):oS hU lG:=match x with
 | (v0,v1,v5,v6,u00,()) =>
  aC (jO (v0,v1,v5,v6,(-1),v5,u00,())) λz21 =>
  bif ltI z21.2.2.2.2.1 0 then
   some (.inr ((z21.1,z21.2.1,z21.2.2.1,z21.2.2.2.1,z21.2.2.2.2.2.1,())))
  else bif aF z21.2.2.2.2.1 z21.1.length then bif Nat.blt z21.2.2.2.2.1.toNat z21.1.length then bif aF z21.2.2.1 z21.1.length then bif Nat.blt z21.2.2.1.toNat z21.1.length then bif aF z21.2.2.1 z21.1.length then bif Nat.blt z21.2.2.1.toNat z21.1.length then bif aF z21.2.2.2.2.1 (z21.1.set z21.2.2.1.toNat ((z21.1.getD z21.2.2.2.2.1.toNat (0,0,0)).1,(z21.1.getD z21.2.2.2.2.1.toNat (0,0,0)).2.1,(z21.1.getD z21.2.2.2.2.1.toNat (0,0,0)).2.2)).length then bif Nat.blt z21.2.2.2.2.1.toNat (z21.1.set z21.2.2.1.toNat ((z21.1.getD z21.2.2.2.2.1.toNat (0,0,0)).1,(z21.1.getD z21.2.2.2.2.1.toNat (0,0,0)).2.1,(z21.1.getD z21.2.2.2.2.1.toNat (0,0,0)).2.2)).length then aC (nI (((z21.1.set z21.2.2.1.toNat ((z21.1.getD z21.2.2.2.2.1.toNat (0,0,0)).1,(z21.1.getD z21.2.2.2.2.1.toNat (0,0,0)).2.1,(z21.1.getD z21.2.2.2.2.1.toNat (0,0,0)).2.2)).set z21.2.2.2.2.1.toNat ((z21.1.getD z21.2.2.1.toNat (0,0,0)).1,(z21.1.getD z21.2.2.1.toNat (0,0,0)).2.1,(z21.1.getD z21.2.2.1.toNat (0,0,0)).2.2)),z21.2.1,z21.2.2.1,z21.2.2.2.1,false,(aB .i64 (z21.2.2.1+1)),z21.2.2.2.2.2.1,())) λz22 =>
  bif z22.2.2.2.2.1 then
   some (.inl (z22.1,z22.2.1,z22.2.2.1,z22.2.2.2.1,z22.2.2.2.2.2.1,()))
  else bif aF z22.2.2.1 z22.1.length then bif Nat.blt z22.2.2.1.toNat z22.1.length then bif aF z22.2.2.2.1 ((z22.1.getD z22.2.2.1.toNat (0,0,0)).2.2) then bif Nat.blt (((z22.1.getD z22.2.2.1.toNat (0,0,0)).2.1+z22.2.2.2.1.toNat)*1) (dE z22.2.2.2.2.2.1 ((z22.1.getD z22.2.2.1.toNat (0,0,0)).1)) then aC (E6 ((dQ z22.2.2.2.2.2.1 ((z22.1.getD z22.2.2.1.toNat (0,0,0)).1) (((z22.1.getD z22.2.2.1.toNat (0,0,0)).2.1+z22.2.2.2.1.toNat)*1) ByteArray.empty),())) λy23 =>
  bif ltI y23.1 0 then
   bif aF z22.2.2.1 z22.1.length then bif Nat.blt z22.2.2.1.toNat z22.1.length then aC (eK () (((z22.1.getD z22.2.2.1.toNat (0,0,0)).1,(z22.1.getD z22.2.2.1.toNat (0,0,0)).2.1,(z22.1.getD z22.2.2.1.toNat (0,0,0)).2.2),()) z22.2.2.2.2.2.1) λy24 =>
   aC (dG (z22.1,z22.2.1,z22.2.2.1,z22.2.2.2.1,z22.2.2.1,0,y24.2,())) λz25 =>
   some (.inr ((z25.1,z25.2.1,(aB .i64 (z25.2.2.1+1)),z25.2.2.2.1,z25.2.2.2.2.1,()))) else none else none
  else aC (dG (z22.1,z22.2.1,z22.2.2.1,z22.2.2.2.1,z22.2.2.1,0,z22.2.2.2.2.2.1,())) λz26 =>
  some (.inr ((z26.1,z26.2.1,(aB .i64 (z26.2.2.1+1)),z26.2.2.2.1,z26.2.2.2.2.1,()))) else none else none else none else none else none else none else none else none else none else none else none else none
def jJ(x:Shape.den hU):oX lG:=aW dI (2^64) x
abbrev iA:List (Nat×Kd):=[(0,.own 152 (.hnd 1)),(1,.int .i64),(5,.int .i64),(6,.int .i64),(100000,.ar 74 .str)]
abbrev lI:List (Ex×List (Nat×Kd)):=[(.exit 0,[(0,.own 152 (.hnd 1)),(5,.int .i64),(100000,.ar 74 .str)])]
def eB(x:Shape.den iA):oS iA lI:=match x with
 | (v0,v1,v5,v6,u00,()) =>
  bif ltI v6 v1 then
   bif ltI v5 (v0.length:Int) then
    aC (jJ (v0,v1,v5,v6,u00,())) λz28 =>
    some (.inl (z28.1,z28.2.1,z28.2.2.1,(aB .i64 (z28.2.2.2.1+1)),z28.2.2.2.2.1,()))
   else some (.inr ((v0,v5,u00,())))
  else some (.inr ((v0,v5,u00,())))
def nJ(x:Shape.den iA):oX lI:=aW eB (2^64) x
def dW(v0:List (Nat×Nat×Nat))(x:aM [.int .i64])(A:List (List ByteArray)):Option ((List (Nat×Nat×Nat))×List (List ByteArray)):=match x with
 | (v1,()) =>
  aC (nJ (v0,v1,0,0,A,())) λz29 =>
  bif Nat.beq z29.1.length 0 then
   bif !(ltI z29.2.1 0) then bif Nat.beq z29.2.1.toNat 0 then some (z29.1,z29.2.2.1) else none else none
  else bif !(ltI z29.2.1 0) then bif Nat.ble 0 z29.2.1.toNat then bif Nat.ble z29.2.1.toNat z29.1.length then bif Nat.blt 0 z29.1.length then some (z29.1.take (z29.2.1.toNat-0),z29.2.2.1) else none else none else none else none
def tN:Code:=cQ f94
abbrev hZ:Env:=MT [aNH,aAP,aDV,aKW] [N1,JZ]
theorem iI:eS tP hZ:=mM ⟨aPN,aHV,aJJ,aBG,trivial⟩ ⟨XA,TN,trivial⟩
def l5:Code:=iH tN 0
def fP:Code:=iH l5 0
def wW:Code:=iH fP 0
def wY:Code:=iH fP 1
def wQ:Code:=iH fP 2
def gA(id:Nat):Option eE:=bif Nat.beq id 7 then some ⟨gY,lE,jO⟩ else bif Nat.beq id 15 then some ⟨iE,lC,nI⟩ else bif Nat.beq id 24 then some ⟨gX,kY,dG⟩ else bif Nat.beq id 5 then some ⟨hU,lG,jJ⟩ else bif Nat.beq id 3 then some ⟨iA,lI,nJ⟩ else none
theorem NM:∀ x,jQ tP hZ 181 (aP f94) gA wW gY lE x=dH x:=by
 rintro⟨v0,v1,v5,v6,v7,v8,u00,⟨⟩⟩
 kernel_rfl
theorem PB:eJ tP 181 wW ⟨gY,lE,jO⟩:=fG iI.callee aZ.mixed _ (aQ (l:=[]) Y trivial) NM
theorem NZ:∀ x,jQ tP hZ 181 (aP f94) gA wY iE lC x=eA x:=by
 rintro⟨v0,v1,v5,v6,v9,v10,u00,⟨⟩⟩
 kernel_rfl
theorem OZ:eJ tP 181 wY ⟨iE,lC,nI⟩:=fG iI.callee aZ.mixed _ (aQ (l:=[]) Y trivial) NZ
theorem N8:∀ x,jQ tP hZ 181 (aP f94) gA wQ gX kY x=jK x:=by
 rintro⟨v0,v1,v5,v6,v142,v143,u00,⟨⟩⟩
 kernel_rfl
theorem PR:eJ tP 181 wQ ⟨gX,kY,dG⟩:=fG iI.callee aZ.mixed _ (aQ (l:=[]) Y trivial) N8
theorem N6:∀ x,jQ tP hZ 181 (aP f94) gA fP hU lG x=dI x:=by
 rintro⟨v0,v1,v5,v6,u00,⟨⟩⟩
 kernel_rfl
theorem SF:bB fP=[wW,wY,wQ]:=Y
theorem OV:eJ tP 181 fP ⟨hU,lG,jJ⟩:=fG iI.callee aZ.mixed _ (aQ SF ⟨fB (i:=7) Y rfl PB,fB (i:=15) Y rfl OZ,fB (i:=24) Y rfl PR,trivial⟩) N6
theorem OI:∀ x,jQ tP hZ 181 (aP f94) gA l5 iA lI x=eB x:=by
 rintro⟨v0,v1,v5,v6,u00,⟨⟩⟩
 kernel_rfl
theorem R5:bB l5=[fP]:=Y
theorem O8:eJ tP 181 l5 ⟨iA,lI,nJ⟩:=fG iI.callee aZ.mixed _ (aQ R5 ⟨fB (i:=5) Y rfl OV,trivial⟩) OI
theorem QF:bB tN=[l5]:=Y
theorem RM:∀ l x A,I0 tP hZ f94 (aP f94) gA tN 74 .str (.own 152 (.hnd 1)) [.int .i64] (.own 152 (.hnd 1)) l x A=dW l x A:=by
 rintro u0 ⟨v1,⟨⟩⟩ A
 kernel_rfl
theorem VQ:PO tP 94 74 .str (.own 152 (.hnd 1)) [.int .i64] (.own 152 (.hnd 1)) dW:=BB aZ iI func94 (c:=tN) Y (keep:=aP f94) (lt:=gA) (by rfl) (aQ QF ⟨fB (i:=3) Y rfl O8,trivial⟩) RM
abbrev tI:Shr:=(94,U4 1 (arH 74 .str (.own 152 (.hnd 1)) [.int .i64] (.own 152 (.hnd 1)) dW))
theorem vZ:pV tP tI:=tF (g:=94) (f:=arH 74 .str (.own 152 (.hnd 1)) [.int .i64] (.own 152 (.hnd 1)) dW) (DZ VQ)
end Go.PM
