/- Texts of one proof, joined (6). -/
import Derived.Test.YtmghkhgpkefgeaaGreatDoorQP5
set_option linter.unusedSimpArgs false
set_option linter.unusedVariables false
set_option maxRecDepth 100000
noncomputable section
namespace Go.PM
open Go Go.RowKit
section
variable {P:Program} {n0:Nat->Prop} {w w':World} {G G':Gd} {μ μ1:Mp} {H H1:Heap}
def RZ(μ μ1:Mp)(h:Nat):Mp:=⟨λr=>if r<h then μ.loc r else μ1.loc (r-h),λr=>if r<h then μ.len r else μ1.len (r-h),λr=>if r<h then μ.sh r else μ1.sh (r-h)⟩
theorem AQ {h r}(hr:r<h):(RZ μ μ1 h).loc r=μ.loc r/\(RZ μ μ1 h).len r=μ.len r/\(RZ μ μ1 h).sh r=μ.sh r:=by simp[RZ,hr]
theorem CM {h r}(hr:h<=r):(RZ μ μ1 h).loc r=μ1.loc (r-h)/\(RZ μ μ1 h).len r=μ1.len (r-h)/\(RZ μ μ1 h).sh r=μ1.sh (r-h):=by
 have:¬ r<h:=Z
 simp[RZ,this]
theorem aZC(hW:aR n0 G μ H w)(e:Ext (DU w) w G.bare aJ w' G' μ1):Ext n0 w G μ w' (G'.with G) (RZ μ μ1 H.length):={
 good:=e.good
 map:=λr b hr=>by
  rcases oG r H.length with hl|hl
  ·rw[(AQ hl).1]; omega
  ·rw[(hW.top r hl).1]at hr; grind
 len:=λr b hr=>by
  rcases oG r H.length with hl|hl
  ·rw[(AQ hl).2.1]; omega
  ·rw[(hW.top r hl).2]at hr; grind
 sh:=λr b hr=>by
  rcases oG r H.length with hl|hl
  ·exact(AQ hl).2.2
  ·rw[(hW.top r hl).1]at hr; cases hr
 room:=e.room
 row:=λ_ _ h=>h
 os:=e.os
 tape:=e.tape
 output:=e.output
 size:=e.size
 old:=λb hb _=>e.old b hb (Nat.not_le.2 hb)
 new:=λb hb=>by
  rcases e.new b hb with h|h
  ·exact .inl h
  ·exact .inr (hW.base b h) }
theorem a7A(hW:aR n0 G μ H w)(e:Ext (DU w) w G.bare aJ w' G' μ1)(h1:aR (DU w) G' μ1 H1 w')(ht:aAK H1=true)(hp:∀ (r:Nat) k,H1[r]?=some (some k)->iD.noRows k.cells=true/\∀ t l,k.tag≠some ⟨.rows t,l⟩):aR n0 (G'.with G) (RZ μ μ1 H.length) (H++H1) w':=by
 have e':=aZC hW e;have key:∀ (r:Nat) (k:Blk),(H++H1)[r]?=some (some k)->(r<H.length/\H[r]?=some (some k))\/(H.length<=r/\H1[r-H.length]?=some (some k)):=by
  intro r k hr;rcases oG r H.length with hl|hl
  ·rw[List.getElem?_append_left hl]at hr; exact .inl ⟨hl,hr⟩
  ·rw[List.getElem?_append_right hl]at hr; exact .inr ⟨hl,hr⟩
 refine⟨?_,?_,?_,h1.lt,?_,λb hb=>hW.base b (oR e.size hb),hW.rows.step e'.toMono.aJ e.size (λ_=>rfl) (λj b hj=>?_) (λr k t l hr hg htg=>?_)⟩
 case refine_5 =>
  have hlt:=(hW.rows.sep j b hj).1;refine⟨e.old b hlt (Nat.not_le.2 hlt),λhg=>?_,λr k hr hf hl=>?_⟩
  ·rcases e.new b hg with h|h
   ·exact h
   ·exact absurd hlt (Nat.not_lt.2 h)
  ·rcases key r k hr with ⟨hl2,hr⟩|⟨hl2,hr⟩
   ·rw[(AQ hl2).1]at hl; exact⟨r,k,hr,hf,hl⟩
   ·rw[(CM hl2).1]at hl;obtain⟨_,_,_,_,_,a5⟩:=h1.blk _ k b hr hl;exact absurd hlt (Nat.not_lt.2 (a5 hf).1)
 case refine_6 =>
  rcases key r k hr with ⟨hl2,hr⟩|⟨hl2,hr⟩
  ·exact⟨k,hr,rfl,rfl,rfl,(AQ hl2).1⟩
  ·exact absurd htg ((hp _ k hr).2 t l)
 ·intro r k b hr hb;rcases key r k hr with ⟨hl,hr⟩|⟨hl,hr⟩
  ·rw[(AQ hl).1]at hb;obtain⟨c,a1,a2,a3,a4,a5⟩:=hW.blk r k b hr hb;have hlt:=hW.sY hr hb;have ho:=e.old b hlt (Nat.not_le.2 hlt);rw[(AQ hl).2.2];refine⟨c,ho.trans a1,aM.mono e'.toMono ho _ _ a2,a3,λhf=>(e.good b (a4 hf)).1,λhf=>⟨(a5 hf).1,λhg=>?_⟩⟩;rcases e.new b hg with h|h
   ·exact(a5 hf).2 h
   ·omega
  ·rw[(CM hl).1]at hb;obtain⟨c,a1,a2,a3,a4,a5⟩:=h1.blk _ k b hr hb;rw[(CM hl).2.2];refine⟨c,a1,?_,a3,a4,λhf=>⟨hW.base b (a5 hf).1,(a5 hf).2⟩⟩;refine AU (G:=G') (G':=G'.with G) (λb h=>h) _ _ _ _ (hp _ k hr).1 ?_;rcases aA8 ht hr with hg|hg
   ·obtain⟨g,hg⟩:=Option.isSome_iff_exists.1 hg;have:=(h1.tags _ k g hr hg).1;rw[this]at a2 ⊢;exact uQ (lL _ _) a2
   ·exact uQ hg a2
 ·intro r k g hr hg;rcases key r k hr with ⟨hl,hr⟩|⟨hl,hr⟩
  ·rw[(AQ hl).2.1]; exact hW.tags r k g hr hg
  ·rw[(CM hl).2.1]; exact h1.tags _ k g hr hg
 ·intro r s k l b hr hs fk fl m1 m2;rcases key r k hr with ⟨hl,hr⟩|⟨hl,hr⟩ <;> rcases key s l hs with ⟨hl2,hs⟩|⟨hl2,hs⟩
  ·rw[(AQ hl).1]at m1;rw[(AQ hl2).1]at m2;exact hW.inj r s k l b hr hs fk fl m1 m2
  ·rw[(AQ hl).1]at m1;rw[(CM hl2).1]at m2;obtain⟨_,_,_,_,_,a5⟩:=h1.blk _ l b hs m2;have:=hW.sY hr m1;have:=(a5 fl).1;omega
  ·rw[(CM hl).1]at m1;rw[(AQ hl2).1]at m2;obtain⟨_,_,_,_,_,a5⟩:=h1.blk _ k b hr m1;have:=hW.sY hs m2;have:=(a5 fk).1;omega
  ·rw[(CM hl).1]at m1;rw[(CM hl2).1]at m2;have:=h1.inj _ _ k l b hr hs fk fl m1 m2;omega
 ·intro r hr;simp only[oH]at hr;have hl:H.length<=r:=Z
  rw[(CM hl).1,(CM hl).2.1];exact h1.top _ Z
theorem a7T {r sz v}(h:VR w' G' μ1 (.own r sz) v):VR w' G' (RZ μ μ1 H.length) (.own (H.length+r) sz) v:=by
 have e:=CM (μ:=μ) (μ1:=μ1) (h:=H.length) (r:=H.length+r) R;rw[VR]at h ⊢;grind
def aMQ(P:Program) (g:FuncId) (args:List Kd) (e:TypeId) (ty:Ty) (f:aH args->Option (List ty.den)):Prop :=
 ∀ x l,f x=some l->∀ {n0 G μ w us},aR n0 G μ [] w->VRs w G μ (r9 args x) us->FL P n0 w G μ g us.toArray (.own 0 ty.size) [some ⟨aK ty l,e,true,false,some ⟨ty,l⟩⟩]
def bFZ(t:Nat)(e:TypeId)(ty:Ty)(ex:Ex)(F:Frm)(H:Heap):Option (List ty.den):=match ex with
 | .exit _=>none
 | _=>match XL [(t,.own e ty)] F H with
  | some x=>some x.1
  | none=>none
def aRG(P:Program)(E:Env)(fn:Func)(bZ:Nat)(lt:Nat->Option dN)(c:Code) args (t:Nat)(e:TypeId)(ty:Ty)(x:aH args):Option (List ty.den) :=
 bif Nat.ble (r9 args x).length fn.ntmps then KW P E fn.ntmps bZ lt c (start bZ 0 (r9 args x)) [] (bFZ t e ty) else none
theorem aKB {E} (hP:UM P) (hE:gD P E) {g:Nat} {fn} (hg:P.funcs[g]?=some fn) {c} (hc:fn.body=some c) {bZ lt args} {t:Nat} (hr:fn.results.toList=[.tmp t]) {e ty f}
  (hl:∀ a∈bG c,∀ s,lt (b8 a)=some s->eT P fn.ntmps a s) (hb:∀ x,aRG P E fn bZ lt c args t e ty x=f x):aMQ P g args e ty f:=by
 intro x l hy n0 G μ w us hW hv;rw[<- hb]at hy;unfold aRG at hy;obtain⟨hlen,hy⟩:=aI hy;obtain⟨⟨ex,F',H'⟩,h1,h2⟩:=sW hE.callee hP.mixed c _ _ _ _ hl hy;obtain⟨y,hex,hd,hyl⟩:∃ y,(ex=.normal\/ex=.ret)/\XL [(t,.own e ty)] F' H'=some y/\y.1=l:=by
  unfold bFZ at h1;split at h1
  ·cases h1
  next hne=>
   split at h1
   ·rename_i y hy;simp only[oJ]at h1;refine⟨y,?_,hy,h1⟩;cases ex with
    | normal=>exact .inl rfl
    | ret=>exact .inr rfl
    | exit i=>exact absurd rfl (hne i)
   ·cases h1
 obtain⟨yl,⟨⟩⟩:=y;dsimp only at hyl;subst hyl;refine⟨enters hg (hP.names g fn hg) (by rw[hc]; rfl) _ _,calls_of_wp hg hc ?_⟩;have hI:I n0 w G μ fn.ntmps (start bZ 0 (r9 args x)) [] ⟨us.toArray++Array.replicate (fn.ntmps-us.toArray.size) undef,[]⟩ w:=⟨G,μ,Ext.refl _ _ _ _,hW,HV (by simpa using hv) (oL hlen)⟩;refine wp_mono (h2 n0 w G μ _ w (λr=>hW.top r (Nat.zero_le _)) hI) ?_;rintro e0 a' w' ⟨rfl,hI'⟩
 obtain⟨G',μ',e',hW',hF'⟩:=KX hd (λr=>hW.top r (Nat.zero_le _)) hI';have hvs:A7 P (D1 [(t,.own e ty)] (yl,()) 0) (O1 [(t,.own e ty)] (yl,())) fn.results.toList=some [.own 0 ty.size]:=by
  rw[hr];simp[A7,aOS,D1,GH,dX]
 obtain⟨ws,h3,h4⟩:=yJ (P:=P) hW' hF' hvs;have hres:(results fn a'.tmps).run P w'=.ok (if hh:ws.toArray.size=1 then ws.toArray[0] else .tuple ws.toArray) w':=by
  rw[LV,Array.mapM_eq_mapM_toList];simp only[Sem.run_bind,Sem.run_map,h3,Result.andThen_ok,Sem.run_pure]
 have hpost:a'.defers=[]/\∃ v,(results fn a'.tmps).run P w'=.ok v w'/\(∃ v' G'' μ'',Ending.returned v=.returned v'/\Ext n0 w G μ w' G'' μ''/\aR n0 G'' μ'' (O1 [(t,.own e ty)] (yl,())) w'/\VR w' G'' μ'' (.own 0 ty.size) v') :=
  ⟨hF'.defers,_,hres,_,G',μ',rfl,e',hW',BA h4⟩
 rcases hex with rfl|rfl
 ·exact hpost
 ·exact hpost
def bA0(args:List Kd) (e:TypeId) (ty:Ty) (f:aH args->Option (List ty.den)) (qs:List PV) (H:Heap):Option aR8 :=
 bif eX.noRefs qs&&(iD.noRows qs&&ty.plain) then match aSM args qs with
  | some x=>some ⟨List ty.den,f x,λl=>(.own H.length ty.size,H++[some ⟨aK ty l,e,true,false,some ⟨ty,l⟩⟩])⟩
  | none=>none
 else none
def a2B(args:List Kd) (e:TypeId) (ty:Ty) (f:aH args->Option (List ty.den)) (qs:List PV) (H:Heap):Option aR8 :=
 match aZN (EE H (aXC qs)) qs with
 | some ps=>bA0 args e ty f ps (EE H (aXC qs))
 | none=>none
theorem bA9 {g args e ty f}(hf:aMQ P g args e ty f):tQ P (g,bA0 args e ty f):=by
 intro qs H r h y hy n0 G μ w vs hW hv;dsimp only at h;unfold bA0 at h;obtain⟨hn,h⟩:=aK5 h;split at h
 next x hx=>
  have h:=oB h;subst h;simp only[oA]at hn;obtain⟨hn,hnr,hpl⟩:=hn;have hW0:aR (DU w) G.bare aJ [] w:=⟨λr k b h=>by simp at h,λr k g h=>by simp at h,λr s k l b h=>by simp at h,hW.lt,λ_ _=>⟨rfl,rfl⟩,λ_ h=>h,yC.none _ _ (λ_=>rfl) _ _ (λr k h=>by simp at h)⟩;obtain⟨h1,h2⟩:=hf x y hy hW0 (NV args hx (AP (G:=G) (G':=G.bare) (λb h=>h) _ _ _ hnr (dK _ _ hn hv)));refine⟨h1,h2.mono ?_⟩;rintro e' w' ⟨v',G',μ1,rfl,e1,e2,e3⟩
  refine⟨v',G'.with G,RZ μ μ1 H.length,rfl,aZC hW e1,a7A hW e1 e2 rfl (λr k hr=>?_),?_⟩
  ·cases r with
   | zero =>
    simp only[List.getElem?_cons_zero,oJ]at hr;subst hr;exact⟨EI _ hpl _,λt l h=>by obtain⟨rfl,_⟩:=h; cases hpl⟩
   | succ r=>simp at hr
  have:=a7T (H:=H) (μ:=μ) e3;rw[VR]at this ⊢;simpa using this
 ·cases h
theorem aJK {g args e ty f}(hf:aMQ P g args e ty f):tQ P (g,a2B args e ty f):=by
 intro qs H r h y hy n0 G μ w vs hW hv;dsimp only at h;unfold a2B at h;split at h
 next ps hps=>obtain⟨G1,e1,hW1⟩:=EW (aXC qs) H G hW;obtain⟨h1,h2⟩:=bA9 hf ps _ r h y hy hW1 (aWH hW1 hps (VRs.mono e1.toMono _ _ hv)).aW;refine⟨h1,h2.mono ?_⟩;rintro e' w' ⟨v',G',μ1,rfl,q1,q2,q3⟩;exact⟨v',G',μ1,rfl,e1.trans q1,q2,q3⟩
 grind
end
section
variable {P:Program} {n0:Nat->Prop} {w w':World} {G G':Gd} {μ μ1:Mp} {H H1:Heap}
theorem aY6(hW:aR n0 G μ H w) {r:Nat} (hr:H[r]?=some none) (k:Blk) (hf:k.frozen=false) (hg:k.grown=true)
  (hblk:∀ b,μ.loc r=some b->(∃ c,w.heap[b]?=some (.cells c k.ty (0,0))/\aM w G μ b (μ.sh r) k.cells)/\n0 b/\¬ G b/\(∀ s k1,H[s]?=some (some k1)->k1.frozen=false->μ.loc s≠some b)/\∀ j,G.row j≠some b)
  (htag:∀ g,k.tag=some g->k.cells=aK g.t g.l/\μ.len r=some g.l.length):aR n0 G μ (H.set r (some k)) w:=by
 have hlt:r<H.length:=(oO.1 hr).1;have key:∀ s k1,(H.set r (some k))[s]?=some (some k1)->(s=r/\k1=k)\/(s≠r/\H[s]?=some (some k1)):=by
  intro s k1 hs
  by_cases e:r=s
  ·subst e;rw[List.getElem?_set_self hlt]at hs;exact .inl ⟨rfl,(oB (oB hs)).symm⟩
  ·rw[List.getElem?_set_ne e]at hs;exact .inr ⟨Ne.symm e,hs⟩
 refine⟨?_,?_,?_,hW.lt,λs hs=>hW.top s (by simpa using hs),hW.base,?_⟩
 ·intro s k1 b hs hb;rcases key s k1 hs with ⟨rfl,rfl⟩|⟨_,hs⟩
  ·obtain⟨⟨c,h1,h2⟩,h3,h4,_⟩:=hblk b hb;exact⟨c,h1,h2,λh=>(by rw[hg]at h; cases h),λh=>(by rw[hf]at h; cases h),λ_=>⟨h3,h4⟩⟩
  ·exact hW.blk s k1 b hs hb
 ·intro s k1 g hs h1;rcases key s k1 hs with ⟨rfl,rfl⟩|⟨_,hs⟩
  ·exact htag g h1
  ·exact hW.tags s k1 g hs h1
 ·intro s1 s2 k1 k2 b h1 h2 f1 f2 m1 m2;rcases key s1 k1 h1 with ⟨rfl,rfl⟩|⟨_,h3⟩
  ·rcases key s2 k2 h2 with ⟨rfl,rfl⟩|⟨_,h4⟩
   ·rfl
   ·exact absurd m2 ((hblk b m1).2.2.2.1 s2 k2 h4 f2)
  ·rcases key s2 k2 h2 with ⟨rfl,rfl⟩|⟨_,h4⟩
   ·exact absurd m1 ((hblk b m2).2.2.2.1 s1 k1 h3 f1)
   ·exact hW.inj s1 s2 k1 k2 b h3 h4 f1 f2 m1 m2
 ·refine⟨hW.rows.inj,?_,hW.rows.cel,?_,?_⟩
  ·intro j b hj;obtain⟨a1,a2,a3,a4⟩:=hW.rows.sep j b hj;refine⟨a1,a2,a3,λs k1 hs f1 m1=>?_⟩;rcases key s k1 hs with ⟨rfl,rfl⟩|⟨_,hs⟩
   ·exact(hblk b m1).2.2.2.2 j hj
   ·exact a4 s k1 hs f1 m1
  ·intro s k1 t l hs h1 h2;rcases key s k1 hs with ⟨rfl,rfl⟩|⟨_,hs⟩
   ·rw[hg]at h1; cases h1
   ·exact hW.rows.arn s k1 t l hs h1 h2
  ·intro s1 s2 k1 k2 t l t' l' h1 g1 t1 h2 g2 t2;rcases key s1 k1 h1 with ⟨rfl,rfl⟩|⟨_,h1⟩
   ·rw[hg]at g1; cases g1
   ·rcases key s2 k2 h2 with ⟨rfl,rfl⟩|⟨_,h2⟩
    ·rw[hg]at g2; cases g2
    ·exact hW.rows.one s1 s2 k1 k2 t l t' l' h1 g1 t1 h2 g2 t2
def aT9(P:Program) (g:FuncId) (e:TypeId) (t:Ty) (args:List Kd) (f:List t.den->aH args->Option (List t.den)):Prop :=
 ∀ l x l',f l x=some l'->∀ {n0 G μ H w us r},aR n0 G μ H w->H[r]?=some (some (owB e t l))->VRs w G μ (.own r t.size::r9 args x) us->iD.noRows (r9 args x)=true->FL P n0 w G μ g us.toArray (.tuple []) (H.set r (some (owB e t l')))
def WT {t:Ty} {args:List Kd} (f:Unit->aH (.hnd t.size::args)->List (List t.den)->Option (aH []×List (List t.den))) (l:List t.den) (x:aH args):Option (List t.den):=match f () ((0,0,l.length),x) [l]with
 | some ((),[l'])=>bif Nat.beq l'.length l.length then some l' else none
 | _=>none
def a3B(P:Program) (g:FuncId) (e:TypeId) (t:Ty) (args rets:List Kd) (f:List t.den->aH args->Option (aH rets×List t.den)):Prop :=
 ∀ l x y l',f l x=some (y,l')->∀ {n0 G μ H w us r},aR n0 G μ H w->H[r]?=some (some (owB e t l))->VRs w G μ (.own r t.size::r9 args x) us->iD.noRows (r9 args x)=true->FL P n0 w G μ g us.toArray (aSX rets y) (H.set r (some (owB e t l')))
def aF9 {t:Ty} {args rets:List Kd} (f:Unit->aH (.hnd t.size::args)->List (List t.den)->Option (aH rets×List (List t.den))) (l:List t.den) (x:aH args):Option (aH rets×List t.den):=match f () ((0,0,l.length),x) [l]with
 | some (y,[l'])=>bif Nat.beq l'.length l.length then some (y,l') else none
 | _=>none
def a9L:List Kd->Bool
 | []=>true
 | [.bool]=>true
 | [.int _]=>true
 | _=>false
theorem a8W {rets}(h:a9L rets=true) y {w G G' μ μ' v}(hv:VR w G μ (aSX rets y) v):VR w G' μ' (aSX rets y) v:=by
 unfold a9L at h;split at h
 ·change VR w G μ (.tuple []) v at hv;change VR w G' μ' (.tuple []) v;obtain⟨vs,h1,h2⟩:=hv;exact⟨vs,h1,h2⟩
 ·obtain⟨b,⟨⟩⟩:=y;change VR w G μ (.lit (.bool b)) v at hv;change VR w G' μ' (.lit (.bool b)) v;exact hv
 next k=>obtain⟨b,⟨⟩⟩:=y;change VR w G μ (.lit (.int k b)) v at hv;change VR w G' μ' (.lit (.int k b)) v;exact hv
 grind
theorem aO9 {g:FuncId} {e:TypeId} {t:Ty} {args rets:List Kd} {f:Unit->aH (.hnd t.size::args)->List (List t.den)->Option (aH rets×List (List t.den))} (hf:MT P g e t .none (.hnd t.size::args) (.data rets) f) (hd:aI1 args=true) (hpl:t.plain=true) (hlr:a9L rets=true) (he:e≠VV:=by decide):a3B P g e t args rets (aF9 f):=by
 intro l x yy l' hy n0 G μ H w us r hW hk hv hnr;unfold aF9 at hy;split at hy
 next y1 l1 hfl=>
  obtain⟨hlen,hy⟩:=aI hy;obtain⟨rfl,rfl⟩:=Prod.mk.inj (oB hy);have hlen:=oE hlen;have ht2:=(hW.tags r _ _ hk rfl).2;have hlt:r<H.length:=(oO.1 hk).1;obtain⟨rb,hrb⟩:∃ rb:Option Nat,rb=if l=[] then none else μ.loc r:=⟨_,rfl⟩
  have hrbl:∀ b,rb=some b->μ.loc r=some b/\l≠[]:=λb hb=>by
   rw[hrb]at hb;split at hb
   ·cases hb
   next hne=> exact⟨hb,hne⟩
  have hmine:∀ b,μ.loc r=some b->n0 b/\¬ G b:=λb hb=>by
   obtain⟨_,_,_,_,_,h6⟩:=hW.blk r _ b hk hb;exact h6 rfl
  have hrow:∀ j b,G.row j=some b->μ.loc r≠some b:=λj b hj=>(hW.rows.sep j b hj).2.2.2 r _ hk rfl
  obtain⟨u,us',rfl,q1,q2⟩:∃ u us',us=u::us'/\VR w G μ (.own r t.size) u/\VRs w G μ (r9 args x) us':=by rw[VRs]at hv; exact hv
  have at0:∀ (s:Nat) (k1:Blk),([some (arB e t [l])]:Heap)[s]?=some (some k1)->s=0/\k1=arB e t [l]:=by
   intro s k1 hs;cases s with
   | zero=>simp only[List.getElem?_cons_zero,oJ]at hs; exact⟨rfl,hs.symm⟩
   | succ s=>simp at hs
  have hG0:∃ G0:Gd,G0=⟨G.ok,λj=>if j=0 then rb else none⟩:=⟨_,rfl⟩;obtain⟨G0,hG0⟩:=hG0;have hok:G0.ok=G.ok:=by rw[hG0]
  have hr0:∀ j b,G0.row j=some b->j=0/\rb=some b:=λj b hj=>by
   rw[hG0]at hj;dsimp only at hj;split at hj
   ·exact⟨‹_›,hj⟩
   ·cases hj
  have hW1:aR (λb=>w.heap.size<=b\/rb=some b) G0 ⟨λ_=>none,λs=>if s=0 then some 1 else none,λ_=>0⟩ [some (arB e t [l])] w:=by
   refine⟨λs k1 b hs hb=>(by cases hb),?_,λs1 s2 k1 k2 b _ _ _ _ m=>(by cases m),by rw[hok]; exact hW.lt,?_,λb hb=>.inl hb,?_⟩
   ·intro s k1 gg hs hg;obtain⟨rfl,rfl⟩:=at0 s k1 hs;cases hg;exact⟨rfl,rfl⟩
   ·intro s hs;have:s≠0:=by rintro rfl; simp at hs
    exact⟨rfl,by simp[this]⟩
   ·refine⟨λi j b h1 h2=>(hr0 i b h1).1.trans (hr0 j b h2).1.symm,λj b hj=>?_,λj b hj=>?_,λs k1 t1 l1 hs h1 h2=>?_,λs1 s2 k1 k2 t1 l1 t2 l2 h1 _ _ h2 _ _=>((at0 s1 k1 h1).1.trans (at0 s2 k2 h2).1.symm)⟩
    ·obtain⟨_,h2⟩:=hr0 j b hj;exact⟨hW.sY hk (hrbl b h2).1,.inr h2,by rw[hok]; exact(hmine b (hrbl b h2).1).2,λ_ _ _ _ h=>by cases h⟩
    ·obtain⟨_,h2⟩:=hr0 j b hj;obtain⟨c,h3,_⟩:=hW.blk r _ b hk (hrbl b h2).1;exact .inl ⟨c,_,_,h3⟩
    ·obtain⟨rfl,rfl⟩:=at0 s k1 hs;cases h2;refine⟨rfl,λj hj=>?_,λj row hj=>?_⟩
     ·rw[hG0];have:j≠0:=by rintro rfl; simp at hj
      simp[this]
     ·cases j with
      | zero =>
       simp only[List.getElem?_cons_zero,oJ]at hj;subst hj
       by_cases hl:l=[]
       ·exact .inl ⟨hl,he⟩
       ·right;rw[VR]at q1;obtain⟨n,z1,z2⟩:=q1;rw[ht2]at z1;obtain rfl:=oB z1;rcases z2 with ⟨z2,_⟩|⟨b,c,z2,_,_,_,z5⟩
        ·exact absurd (List.eq_nil_of_length_eq_zero z2) hl
        ·obtain⟨cc,a1,a2,_⟩:=hW.blk r _ b hk z2;rw[z5]at a2;refine⟨b,by rw[hG0,hrb]; simp[hl,z2],.inl ⟨he,cc,a1,?_⟩⟩;exact AU (G:=G) (G':=G0) (λb h=>by rw[hok]; exact h) _ _ _ _ (EI t hpl l) (uQ (lL _ _) a2)
      | succ j=>simp at hj
  have hsh:l≠[]->μ.sh r=0:=λhl=>by
   rw[VR]at q1;obtain⟨n,z1,z2⟩:=q1;rw[ht2]at z1;obtain rfl:=oB z1;rcases z2 with ⟨z2,_⟩|⟨_,_,_,_,_,_,z5⟩
   ·exact absurd (List.eq_nil_of_length_eq_zero z2) hl
   ·exact z5
  have hv1:VRs w G0 ⟨λ_=>none,λs=>if s=0 then some 1 else none,λ_=>0⟩ (Tk.none.pv 0++r9 (.hnd t.size::args) ((0,0,l.length),x)) (u::us'):=by
   change VRs w G0 _ (.row 0 0 l.length t.size::r9 args x) (u::us');rw[VRs];refine⟨u,us',rfl,?_,VRs.aW (AP (G:=G) (G':=G0) (λb h=>by rw[hok]; exact h) _ _ _ hnr (dK _ _ (TS args x hd) q2))⟩;rw[VR]at q1;rw[VR];obtain⟨n,z1,z2⟩:=q1;rw[ht2]at z1;obtain rfl:=oB z1;rcases z2 with ⟨z2,ao,rfl⟩|⟨b,c,z2,rfl,z3,z4⟩
   ·exact⟨ao,0,by rw[show l.length=0 from z2],by rw[show l.length=0 from z2]; exact oM _,.inl z2⟩
   ·obtain⟨z4,z5⟩:=z4;rw[z5];rw[z5]at z4;refine⟨_,c,rfl,z3,?_⟩
    by_cases hl:l=[]
    ·exact .inl (by rw[hl]; rfl)
    ·exact .inr ⟨b,by rw[hG0,hrb]; simp[hl,z2],by simp,by simpa using z4⟩
  obtain⟨c1,c2⟩:=hf () ((0,0,l.length),x) [l] y1 [l1] hfl (ra:=0) (r:=0) hW1 rfl ⟨λ_ _ h=>by cases h⟩ hv1;refine⟨c1,c2.mono ?_⟩;rintro e' w' ⟨v',G1,μ1,rfl,ee,hW',hvv⟩;have hb1:∀ b,rb=some b->G1.row 0=some b:=λb hb=>ee.row 0 b (by rw[hG0]; simp[hb])
  have hH1:(((XJ (Tk.none.ow () 0) [some (arB e t [l])]).set 0 none)++(some (arB e t [l1])::(An.data rets).hp y1):Heap)[1]?=some (some (arB e t [l1])):=rfl;have hn0:∀ b,b<w.heap.size->¬ n0 b->w'.heap[b]?=w.heap[b]?:=λb hb hn=>ee.old b hb (by
   rintro(h|h)
   ·exact Nat.not_le.2 hb h
   ·exact hn (hmine b (hrbl b h).1).1)
  have hgg:∀ b,G b->G0 b:=λb hb=>by rw[hok]; exact hb
  have e2:Ext n0 w G μ w' (G1.with G) μ:={
   good:=λb hb=>⟨(ee.good b (hgg b hb)).1,(ee.good b (hgg b hb)).2⟩
   map:=λ_ _ h=>h
   len:=λ_ _ h=>h
   room:=ee.room
   row:=λ_ _ h=>h
   os:=ee.os
   tape:=ee.tape
   output:=ee.output
   size:=ee.size
   old:=hn0
   new:=λb hb=>by
    rcases ee.new b hb with h|h|h
    ·rw[hok]at h; exact .inl h
    ·exact .inr (hW.base b h)
    ·exact .inr (hmine b (hrbl b h).1).1 }
  have hold:∀ b,b<w.heap.size->rb≠some b->w'.heap[b]?=w.heap[b]?/\(G1 b->G b):=λb hb hne =>
   ⟨ee.old b hb (by rintro(h|h); exact Nat.not_le.2 hb h; exact hne h),λhg=>by
    rcases ee.new b hg with h|h|h
    ·rw[hok]at h; exact h
    ·exact absurd hb (Nat.not_lt.2 h)
    ·exact absurd h hne⟩
  have hk2:aR n0 (G1.with G) μ (H.set r none) w':=by
   refine(tY hW r).bZ e2 ⟨λ_=>rfl,λj b hj=>hold b (hW.rows.sep j b hj).1 λh=>hrow j b hj (hrbl b h).1⟩ ?_ (λb hb=>hW'.lt b hb);intro s k1 b hs hb;obtain⟨hs,hsr⟩:=uV hs;refine hold b (hW.sY hs hb) λh=>?_
   have hrb:=(hrbl b h).1;cases hf:k1.frozen with
   | false=>exact hsr (hW.inj s r k1 _ b hs hk hf rfl hb hrb)
   | true =>
    obtain⟨_,_,_,_,h5,_⟩:=hW.blk s k1 b hs hb;exact(hmine b hrb).2 (h5 hf)
  have hfin:aR n0 (G1.with G) μ (H.set r (some (owB e t l1))) w':=by
   have:=aY6 hk2 (r:=r) (List.getElem?_set_self hlt) (owB e t l1) rfl rfl ?_ ?_
   ·rwa[List.set_set]at this
   ·intro b hb;have hcells:(∃ c,w'.heap[b]?=some (.cells c e (0,0))/\aM w' (G1.with G) μ b (μ.sh r) (aK t l1))/\¬ G1 b:=by
     by_cases hl:l=[]
     ·have hl1:l1=[]:=List.eq_nil_of_length_eq_zero (by rw[hlen,hl]; rfl);have hne:rb≠some b:=λh=>(hrbl b h).2 hl
      obtain⟨o1,o2⟩:=hold b (hW.sY hk hb) hne;obtain⟨c,h3,_⟩:=hW.blk r _ b hk hb;refine⟨⟨c,o1.trans h3,?_⟩,λh=>(hmine b hb).2 (o2 h)⟩;rw[hl1]; simp[aK,aM]
     ·have hbb:rb=some b:=by rw[hrb,if_neg hl]; exact hb
      have hrow1:=hb1 b hbb;obtain⟨_,_,a3⟩:=hW'.rows.arn 1 _ t [l1] hH1 rfl rfl;rcases a3 0 l1 rfl with h|⟨b',z1,z2⟩
      ·exact absurd (List.eq_nil_of_length_eq_zero (by rw[<- hlen,h.1]; rfl)) hl
      ·rw[hrow1]at z1;obtain rfl:=oB z1;obtain⟨c0,y1,_⟩:=hW.blk r _ b hk hb;obtain⟨c,z2,z3⟩:=z2.cells (.inr (e2.room b 0 ⟨c0,_,_,y1,Nat.zero_le _⟩));refine⟨⟨c,z2,?_⟩,(hW'.rows.sep 0 b hrow1).2.2.1⟩;rw[hsh hl];exact AU (G:=G1) (G':=G1.with G) (λb h=>h) _ _ _ _ (EI t hpl l1) (uQ (lL _ _) z3)
    refine⟨hcells.1,(hmine b hb).1,hcells.2,λs k1 hs hf hsb=>?_,λj hj=>hrow j b hj hb⟩;obtain⟨hs,hsr⟩:=uV hs;exact hsr (hW.inj s r k1 _ b hs hk hf rfl hsb hb)
   ·intro g hg;cases hg;exact⟨rfl,by rw[ht2,hlen]⟩
  refine⟨v',G1.with G,μ,rfl,e2,hfin,?_⟩;exact a8W hlr y1 hvv
 ·cases hy
theorem aFD {g:FuncId}{e:TypeId}{t:Ty}{args:List Kd}{f:Unit->aH (.hnd t.size::args)->List (List t.den)->Option (aH []×List (List t.den))}(hf:MT P g e t .none (.hnd t.size::args) (.data []) f)(hd:aI1 args=true)(hpl:t.plain=true)(he:e≠VV:=by decide):aT9 P g e t args (WT f):=by
 intro l x l' hy n0 G μ H w us r hW hk hv hnr;refine aO9 hf hd hpl rfl he l x () l' ?_ hW hk hv hnr;unfold WT at hy;unfold aF9;split at hy
 next l1 hfl=>obtain⟨hlen,hy⟩:=aI hy;obtain rfl:=oB hy;rw[hfl];show (bif Nat.beq l1.length l.length then some ((),l1) else none)=_;rw[hlen];rfl
 ·cases hy
def a4R(e:TypeId) (t:Ty) (args rets:List Kd) (f:List t.den->aH args->Option (aH rets×List t.den)) (qs:List PV) (H:Heap):Option aR8:=match aXZ e t H qs with
 | some (l,r,ps)=>match aSM args ps with
  | some x=>bif eX.noRefs ps&&iD.noRows (r9 args x) then some ⟨aH rets×List t.den,f l x,λz=>(aSX rets z.1,H.set r (some (owB e t z.2)))⟩ else none
  | none=>none
 | none=>none
theorem a9F {g e t args rets f}(hf:a3B P g e t args rets f):tQ P (g,a4R e t args rets f):=by
 intro qs H rh h y hy n0 G μ w vs hW hv;change a4R e t args rets f qs H=some rh at h;unfold a4R at h;split at h
 next l r ps hl=>
  split at h
  next x hx=>obtain⟨hb,h⟩:=aK5 h;simp only[oJ]at h;subst h;simp only[oA]at hb;obtain⟨h0,rfl⟩:=aC5 hW hl;obtain⟨u,us,rfl,q1,q2⟩:=hv;exact hf l x y.1 y.2 hy hW h0 (⟨u,us,rfl,q1,(NV args hx (dK _ _ hb.1 q2)).aW⟩) hb.2
  grind
 grind
def a2O(e:TypeId) (t:Ty) (args:List Kd) (f:List t.den->aH args->Option (List t.den)) (qs:List PV) (H:Heap):Option aR8:=match aXZ e t H qs with
 | some (l,r,ps)=>match aSM args ps with
  | some x=>bif eX.noRefs ps&&iD.noRows (r9 args x) then some ⟨List t.den,f l x,λl'=>(.tuple [],H.set r (some (owB e t l')))⟩ else none
  | none=>none
 | none=>none
theorem aOI {g e t args f}(hf:aT9 P g e t args f):tQ P (g,a2O e t args f):=by
 intro qs H rh h y hy n0 G μ w vs hW hv;change a2O e t args f qs H=some rh at h;unfold a2O at h;split at h
 next l r ps hl=>
  split at h
  next x hx=>obtain⟨hb,h⟩:=aK5 h;simp only[oJ]at h;subst h;simp only[oA]at hb;obtain⟨h0,rfl⟩:=aC5 hW hl;obtain⟨u,us,rfl,q1,q2⟩:=hv;exact hf l x y hy hW h0 (⟨u,us,rfl,q1,(NV args hx (dK _ _ hb.1 q2)).aW⟩) hb.2
  grind
 grind
end
def aRJ(P:Program)(E:Env)(fn:Func)(bZ:Nat)(lt rt:Nat->Option dN)(c:Code)(ae:TypeId)(t:Ty)(tk:Tk) args (an:An)(l:tk.den)(x:aH args)(A:List (List t.den)):Option (an.den×List (List t.den)) :=
 bif Nat.ble (tk.pv 0++r9 args x).length fn.ntmps then KU P E fn.ntmps bZ lt rt false [] c (start bZ 0 (tk.pv 0++r9 args x)) (RK (tk.ow l 0)++[some (arB ae t A)]) (bCO P fn.results.toList ae t an) else none
section
variable {P:Program} {n0:Nat->Prop} {w w':World} {G G1 G2:Gd} {μ μ2:Mp} {H H':Heap} {ae:TypeId} {t:Ty} {A B:List (List t.den)}
theorem aXH {E:Env} (hP:UM P) (hE:gD P E) {g:Nat} {fn:Func} (hg:P.funcs[g]?=some fn) {c:Code} (hc:fn.body=some c) {bZ:Nat} {lt rt:Nat->Option dN} {ae:TypeId} {t:Ty} {tk:Tk} {args:List Kd} {an:An} {f:tk.den->aH args->List (List t.den)->Option (an.den×List (List t.den))}
  (hd:aI1 args=true) (hl:∀ a∈iB c,WB P fn.ntmps lt rt false [] a) (hb:∀ l x A,aRJ P E fn bZ lt rt c ae t tk args an l x A=f l x A):MT P g ae t tk args an f:=by
 intro l x A y B hy n0 G μ H w us ra r hW har ho hv;rw[<- hb]at hy;unfold aRJ at hy;obtain⟨hlen,hy⟩:=aI hy;obtain⟨⟨ex,F',H'⟩,h1,h2⟩:=qT hE.callee hP.mixed c _ _ _ _ hl hy;obtain⟨vs,B',hex,hvs,hB,hq,rfl⟩:∃ vs B',(ex=.normal\/ex=.ret)/\A7 P F' H' fn.results.toList=some vs/\a6Y ae t H'=some B'/\aW3 an (qP vs) H'=some y/\B'.2=B:=by
  unfold bCO at h1;split at h1
  ·cases h1
  next hne=>
   split at h1
   ·rename_i vs hvs;split at h1
    ·rename_i B' hB;split at h1
     ·rename_i y' hy';simp only[oJ,oP]at h1;obtain⟨rfl,h1⟩:=h1;refine⟨vs,B',?_,hvs,hB,hy',h1⟩;cases ex with
      | normal=>exact .inl rfl
      | ret=>exact .inr rfl
      | exit i=>exact absurd rfl (hne i)
     ·cases h1
    ·cases h1
   ·cases h1
 have hargs:VRs w G (mpA μ (tk.ow l r) A.length) (tk.pv 0++r9 args x) us:=by
  have hn:=TS args x hd;cases tk with
  | none=>exact VRs.aW (dK _ _ hn hv)
  | own e u =>
   change VRs w G μ (.own r u.size::r9 args x) us at hv;change VRs w G _ (.own 0 u.size::r9 args x) us;rw[VRs]at hv ⊢;obtain⟨v,us',rfl,q1,q2⟩:=hv;refine⟨v,us',rfl,?_,VRs.aW (dK _ _ hn q2)⟩;rw[VR]at q1 ⊢;exact q1
 have howb:RK (tk.ow l 0)=RK (tk.ow l r):=by cases tk <;> rfl
 have hW1:=aIM hW ho har;rw[<- howb]at hW1;have e0:Ext (wrA w G μ (tk.ow l r)) w G aJ w G (mpA μ (tk.ow l r) A.length) :=
  ⟨⟨λb hb=>⟨hb,rfl⟩,λ_ _ h=>(by cases h),λ_ _ h=>(by cases h),λ_ _ h=>h,λ_ _ h=>h,λ_ _ h=>(by cases h)⟩,rfl,rfl,rfl,oM _,λ_ _ _=>rfl,λ_ h=>.inl h⟩
 refine⟨enters hg (hP.names g fn hg) (by rw[hc]; rfl) _ _,(callsIn_wide (n:=0)).1 (callsIn_of_wp_marks hg hc trivial ?_)⟩;have hI:I (wrA w G μ (tk.ow l r)) w G aJ fn.ntmps (start bZ 0 (tk.pv 0++r9 args x)) (RK (tk.ow l 0)++[some (arB ae t A)]) ⟨us.toArray++Array.replicate (fn.ntmps-us.toArray.size) undef,[]⟩ w :=
  ⟨G,_,e0,hW1,HV (by simpa using hargs) (oL hlen)⟩
 refine wpIn_mono (h2 none 0 _ w G aJ _ w (λ_=>rfl) (λr _=>⟨rfl,rfl⟩) hI.bE6) ?_;rintro e1 ⟨tm,ds⟩ w' ⟨rfl,hI',_⟩;have hend:∀ w',IM (wrA w G μ (tk.ow l r)) w G aJ fn.ntmps F' H' { tmps:=tm,defers:=[] } w'->LeavesIn Fence.wide 0 P fn tm (λen w'=>∃ v' G'' μ'',en=.returned v'/\Ext n0 w G μ w' G'' μ''/\aR n0 G'' μ'' (((XJ (tk.ow l r) H).set ra none)++(some (arB ae t B'.2)::an.hp y)) w'/\VR w' G'' μ'' (an.pv y (H.length+1)) v') [] .returning w':=by
  rintro w' ⟨G1,μ1,ee,hW',hF',_⟩;obtain⟨ws,h3,h4⟩:=yJ (P:=P) hW' hF' hvs;have hres:(results fn tm).run P w'=.ok (if hh:ws.toArray.size=1 then ws.toArray[0] else .tuple ws.toArray) w':=by
   rw[LV,Array.mapM_eq_mapM_toList];simp only[Sem.run_bind,Sem.run_map,h3,Result.andThen_ok,Sem.run_pure]
  have hrb:=aHY hW' hB;obtain⟨G2,μ3,b1,b2,b3⟩:∃ G2 μ3,Ext n0 w G μ w' G2 μ3/\aR n0 G2 μ3 (((XJ (tk.ow l r) H).set ra none)++(some (arB ae t B'.2)::an.hp y)) w'/\VR w' G2 μ3 (an.pv y (H.length+1)) (if hh:ws.toArray.size=1 then ws.toArray[0] else .tuple ws.toArray):=by
   have hvr:=BA h4;cases an with
   | data rets =>
    simp only[aW3]at hq;split at hq
    ·rename_i q hq';have hb:=aE3 (G2:=⟨λb=>G1 b\/∃ s k,H'[s]?=some (some k)/\k.frozen=false/\μ1.loc s=some b,G1.row⟩) hW ho har ee hW' hrb (os:=none) ⟨λ_ _ _ h=>by cases h⟩ (λ_=>rfl) (λb hb=>.inl hb) (λb hb=>by
      rcases hb with h|⟨s,k,z1,z2,z3⟩
      ·exact .inl h
      ·exact .inr ⟨s,k,z1,z2,z3,λ_ _ _ h=>by cases h⟩)
     refine⟨_,_,hb.1,hb.2,?_⟩;have:=L9 (G':=⟨λb=>G1 b\/∃ s k,H'[s]?=some (some k)/\k.frozen=false/\μ1.loc s=some b,G1.row⟩) hW' (λ_ _ h=>h) (λb hb=>.inl hb) (λs k1 b hs _ hb=>by
      obtain⟨_,_,_,_,g5,_⟩:=hW'.blk s k1 b hs hb;cases hf:k1.frozen with
      | true=>exact .inl (g5 hf)
      | false=>exact .inr ⟨s,k1,hs,hf,hb⟩) depth _ q _ hq' hvr
     exact(aE5 hq this).aW
    ·cases hq
   | own e u =>
    simp only[aW3]at hq;obtain⟨r1,l0,hos,hvv⟩:=aRT hW' hq hvr;have hb:=aE3 (G2:=G1) hW ho har ee hW' hrb hos (λ_=>rfl) (λb hb=>hb) (λb hb=>.inl hb);refine⟨_,_,hb.1,hb.2,hvv _ _ _ ?_ ?_ ?_⟩
    ·have h1:¬ H.length+1<H.length:=Z
     simp[pY,h1,a5Q]
    ·have h1:¬ H.length+1<H.length:=Z
     simp[pY,h1,a3Q]
    ·have h1:¬ H.length+1<H.length:=Z
     simp[pY,h1,shS]
   | str t1 e u t2 =>
    simp only[aW3]at hq;obtain⟨r1,hos,hvv⟩:=aO1 hW' hq hvr;have hb:=aE3 (G2:=⟨λb=>G1 b\/∃ s k,H'[s]?=some (some k)/\k.frozen=false/\μ1.loc s=some b/\s≠r1,G1.row⟩) hW ho har ee hW' hrb hos (λ_=>rfl) (λb hb=>.inl hb) (λb hb=>by
     rcases hb with h|⟨s,k,z1,z2,z3,z4⟩
     ·exact .inl h
     ·exact .inr ⟨s,k,z1,z2,z3,λ_ _ _ h=>by cases h; exact z4⟩)
    refine⟨_,_,hb.1,hb.2,hvv ⟨λb=>G1 b\/∃ s k,H'[s]?=some (some k)/\k.frozen=false/\μ1.loc s=some b/\s≠r1,G1.row⟩ (λ_ _ h=>h) (λb hb=>.inl hb) (λs k b z1 z2 z3 z4=>.inr ⟨s,k,z1,z2,z4,z3⟩) _ _ ?_ ?_ ?_⟩
    ·have h1:¬ H.length+1<H.length:=Z
     simp[pY,h1,a5Q]
    ·have h1:¬ H.length+1<H.length:=Z
     simp[pY,h1,a3Q]
    ·have h1:¬ H.length+1<H.length:=Z
     simp[pY,h1,shS]
  exact⟨_,hres,_,G2,μ3,rfl,b1,b2,b3⟩
 rcases hex with rfl|rfl
 ·exact D9 (λb hb=>(aIM hW ho har).base b hb) hend ds w' hI'
 ·exact D9 (λb hb=>(aIM hW ho har).base b hb) hend ds w' hI'
end
def a2I(P:Program)(E:Env)(fn:Func)(bZ:Nat)(lt rt:Nat->Option dN)(c:Code)(ae:TypeId)(t:Ty) args rets (x:aH args):Option (aH rets) :=
 bif Nat.ble (r9 args x).length fn.ntmps then KU P E fn.ntmps bZ lt rt false [] c (start bZ 0 (r9 args x)) [some (arB ae t [])] (a0I P fn.results.toList rets) else none
section
variable {P:Program}
theorem bFB {E} (hP:UM P) (hE:gD P E) {g:Nat} {fn} (hg:P.funcs[g]?=some fn) {c} (hc:fn.body=some c) {bZ lt rt ae t args rets f}
  (hl:∀ a∈iB c,WB P fn.ntmps lt rt false [] a) (hb:∀ x,a2I P E fn bZ lt rt c ae t args rets x=f x):aCL P g args rets f:=by
 intro x y hy;rw[<- hb]at hy;unfold a2I at hy;obtain⟨hlen,hy⟩:=aI hy;obtain⟨⟨ex,F',H'⟩,h1,h2⟩:=qT hE.callee hP.mixed c _ _ _ _ hl hy;obtain⟨vs,q,hex,hvs,hq,hd⟩:∃ vs q,(ex=.normal\/ex=.ret)/\A7 P F' H' fn.results.toList=some vs/\a1W H' (qP vs)=some q/\aYW rets q=some y:=by
  unfold a0I at h1;split at h1
  ·cases h1
  next hne=>
   split at h1
   ·rename_i vs hvs;split at h1
    ·rename_i q hq;refine⟨vs,q,?_,hvs,hq,h1⟩;cases ex with
     | normal=>exact .inl rfl
     | ret=>exact .inr rfl
     | exit i=>exact absurd rfl (hne i)
    ·cases h1
   ·cases h1
 obtain⟨hq1,hq2⟩:=UA hq;intro w G us hlt hv;have at0:∀ (s:Nat) (k1:Blk),([some (arB ae t [])]:Heap)[s]?=some (some k1)->s=0/\k1=arB ae t []:=by
  intro s k1 hs;cases s with
  | zero=>simp only[List.getElem?_cons_zero,oJ]at hs; exact⟨rfl,hs.symm⟩
  | succ s=>simp at hs
 have hW:aR (DU w) (Gd.of G) ⟨λ_=>none,λr=>if r=0 then some 0 else none,λ_=>0⟩ [some (arB ae t [])] w:=by
  refine⟨(λr k b h hb=>by cases hb),(λr k g h hg=>?_),(λr s k l b h _ _ _ hb=>by cases hb),hlt,(λr hr=>⟨rfl,?_⟩),λ_ h=>h,⟨(λ_ _ _ h=>by cases h),(λ_ _ h=>by cases h),(λ_ _ h=>by cases h),(λr k u l h hgr ht=>?_),(λr s k k' u l u' l' h1 g1 t1 h2 g2 t2=>by rw[(at0 r k h1).1,(at0 s k' h2).1])⟩⟩
  ·obtain⟨rfl,rfl⟩:=at0 r k h;cases hg;exact⟨rfl,rfl⟩
  ·have:r≠0:=by rintro rfl; simp at hr
   simp[this]
  ·obtain⟨rfl,rfl⟩:=at0 r k h;cases ht;exact⟨rfl,λ_ _=>rfl,λj row hj=>by simp at hj⟩
 have e0:Ext (DU w) w (Gd.of G) aJ w (Gd.of G) ⟨λ_=>none,λr=>if r=0 then some 0 else none,λ_=>0⟩ :=
  ⟨⟨λb hb=>⟨hb,rfl⟩,λ_ _ h=>(by cases h),λ_ _ h=>(by cases h),λ_ _ h=>h,λ_ _ h=>h,λ_ _ h=>(by cases h)⟩,rfl,rfl,rfl,oM _,λ_ _ _=>rfl,λ_ h=>.inl h⟩
 refine⟨enters hg (hP.names g fn hg) (by rw[hc]; rfl) _ _,(callsIn_wide (n:=0)).1 (callsIn_of_wp_marks hg hc trivial ?_)⟩;have hI:I (DU w) w (Gd.of G) aJ fn.ntmps (start bZ 0 (r9 args x)) [some (arB ae t [])] ⟨us++Array.replicate (fn.ntmps-us.size) undef,[]⟩ w:=⟨Gd.of G,_,e0,hW,HV hv.aW (oL hlen)⟩;refine wpIn_mono (h2 none 0 _ w (Gd.of G) aJ _ w (λ_=>rfl) (λr _=>⟨rfl,rfl⟩) hI.bE6) ?_;rintro e1 ⟨tm,ds⟩ w' ⟨rfl,hI',_⟩
 have hend:∀ w',IM (DU w) w (Gd.of G) aJ fn.ntmps F' H' { tmps:=tm,defers:=[] } w'->LeavesIn Fence.wide 0 P fn tm (λen w'=>∃ v' G',en=.returned v'/\Ext (DU w) w (Gd.of G) aJ w' (Gd.of G') aJ/\(∀ b,G' b->b<w'.heap.size)/\VR w' (Gd.of G') aJ (aSX rets y) v') [] .returning w':=by
  rintro w' ⟨G1,μ1,e1,e2,hF',_⟩;obtain⟨ws,h3,h4⟩:=yJ (P:=P) e2 hF' hvs;have hres:(results fn tm).run P w'=.ok (if hh:ws.toArray.size=1 then ws.toArray[0] else .tuple ws.toArray) w':=by
   rw[LV,Array.mapM_eq_mapM_toList];simp only[Sem.run_bind,Sem.run_map,h3,Result.andThen_ok,Sem.run_pure]
  have hval:=VX (G:=⟨λb=>G1 b\/∃ r k,H'[r]?=some (some k)/\μ1.loc r=some b,G1.row⟩) (G':=Gd.of λb=>G1 b\/∃ r k,H'[r]?=some (some k)/\μ1.loc r=some b) (λb h=>h) _ _ _ hq2
    (L9 (G':=⟨λb=>G1 b\/∃ r k,H'[r]?=some (some k)/\μ1.loc r=some b,G1.row⟩) e2 (λ_ _ h=>h) (λb hb=>.inl hb) (λr k b hr _ hb=>.inr ⟨r,k,hr,hb⟩) depth _ q _ hq1 (BA h4))
  have hext:Ext (DU w) w (Gd.of G) aJ w' (Gd.of λb=>G1 b\/∃ r k,H'[r]?=some (some k)/\μ1.loc r=some b) aJ:={
   good:=λb hb=>⟨.inl (e1.good b hb).1,(e1.good b hb).2⟩
   map:=λ_ _ h=>h
   len:=λ_ _ h=>h
   room:=e1.room
   row:=λ_ _ h=>h
   os:=e1.os
   tape:=e1.tape
   output:=e1.output
   size:=e1.size
   old:=e1.old
   new:=λb hb=>by
    rcases hb with hb|⟨r,k,hr,hb⟩
    ·exact e1.new b hb
    ·obtain⟨c,_,_,_,g5,g6⟩:=e2.blk r k b hr hb;cases hf:k.frozen with
     | true=>exact e1.new b (g5 hf)
     | false=>exact .inr (g6 hf).1 }
  have hlt':∀ b,(G1 b\/∃ r k,H'[r]?=some (some k)/\μ1.loc r=some b)->b<w'.heap.size:=by
   rintro b (hb|⟨r,k,hr,hb⟩)
   ·exact e2.lt b hb
   ·exact e2.sY hr hb
  exact⟨_,hres,_,_,rfl,hext,hlt',aE5 hd hval⟩
 rcases hex with rfl|rfl
 ·exact D9 (λb hb=>hW.base b hb) hend ds w' hI'
 ·exact D9 (λb hb=>hW.base b hb) hend ds w' hI'
end
open Go.Proofs Tryz
set_option maxHeartbeats 4000000
def cT(x:aH [.str]):oK [.bool,.str]:=match x with
 | (v0,()) =>
  bif ltI 0 (v0.size:Int) then
   bif aF 0 v0.size then bif eqI (aCB v0 0) 45 then
    bif Nat.ble 1 v0.size then bif Nat.ble v0.size v0.size then some (true,(v0.extract 1 v0.size),()) else none else none
   else some (false,v0,()) else none
  else some (false,v0,())
abbrev aWE:Ent:=⟨179,_,_,cT⟩
theorem AR:Ent.OK tP aWE:=oI (aO oW) func179 Y (by rintro⟨v0,⟨⟩⟩; kernel_rfl)
def aA(x:aH [.bool,.str]):oK [.str]:=match x with
 | (v0,v1,()) =>
  bif v0 then
   bif !(eqS v1 (ByteArray.mk #[48])) then
    bif Nat.ble ((ByteArray.mk #[45]).size+v1.size) 9223372036854775807 then some (((ByteArray.mk #[45])++v1),()) else none
   else some (v1,())
  else some (v1,())
abbrev a0V:Ent:=⟨180,_,_,aA⟩
theorem OA:Ent.OK tP a0V:=oI (aO oW) func180 Y (by rintro⟨v0,v1,⟨⟩⟩; kernel_rfl)
def uJ(x:aH [.str,.int .i64]):oK [.int .i64,.bool]:=match x with
 | (v0,v1,()) =>
  bif ltI v1 (v0.size:Int) then
   some (0,false,())
  else aC (K9 (v0,())) λy1 =>
  some (y1.1,true,())
abbrev aS2:Ent:=⟨178,_,_,uJ⟩
theorem O5:Ent.OK tP aS2:=oI (aO (oV aL3 oW)) func178 Y (by rintro⟨v0,v1,⟨⟩⟩; kernel_rfl)
def qY(x:aH [.int .i64]):oK [.str]:=match x with
 | (v0,()) =>
  aC (K5 (v0,())) λy1 =>
  some (y1.1,())
abbrev aT0:Ent:=⟨137,_,_,qY⟩
theorem M6:Ent.OK tP aT0:=oI (aO (oV aL7 oW)) func137 Y (by rintro⟨v0,⟨⟩⟩; kernel_rfl)
def DV(x:aH [.str]):oK [.int .i64]:=match x with
 | (v0,()) =>
  bif eqS v0 (ByteArray.mk #[48]) then
   some (0,())
  else bif aF 0 v0.size then bif eqI (aCB v0 0) 45 then
   some ((-1),())
  else some (1,()) else none
abbrev aNN:Ent:=⟨167,_,_,DV⟩
theorem aD2:Ent.OK tP aNN:=oI (aO oW) func167 Y (by rintro⟨v0,⟨⟩⟩; kernel_rfl)
def yL(x:aH [.int .u64]):oK [.str]:=match x with
 | (v0,()) =>
  aC (xD (v0,10,())) λy1 =>
  some (y1.1,())
abbrev QW:Ent:=⟨214,_,_,yL⟩
theorem NA:Ent.OK tP QW:=oI (aO (oV aBE oW)) func214 Y (by rintro⟨v0,⟨⟩⟩; kernel_rfl)
def IP(x:aH [.str]):oK [.int .u64,.bool]:=match x with
 | (v0,()) =>
  aC (zC (v0,10,64,())) λy1 =>
  some (y1.1,true,())
abbrev aQT:Ent:=⟨234,_,_,IP⟩
theorem aJJ:Ent.OK tP aQT:=oI (aO (oV aCF oW)) func234 Y (by rintro⟨v0,⟨⟩⟩; kernel_rfl)
def uP(x:aH [.str,.str]):oK [.int .u64,.int .u64,.bool]:=match x with
 | (v0,v1,()) =>
  bif ltI 18 (v0.size:Int) then
   some (0,0,false,())
  else bif ltI 18 (v1.size:Int) then
   some (0,0,false,())
  else aC (IP (v0,())) λy1 =>
  aC (IP (v1,())) λy2 =>
  some (y1.1,y2.1,true,())
abbrev K4:Ent:=⟨213,_,_,uP⟩
theorem JF:Ent.OK tP K4:=oI (aO (oV aJJ oW)) func213 Y (by rintro⟨v0,v1,⟨⟩⟩; kernel_rfl)
def gO(x:aH [.str,.str]):oK [.int .i64]:=match x with
 | (v0,v1,()) =>
  bif !(eqI (v0.size:Int) (v1.size:Int)) then
   some ((if (if (-1)<(aB .i64 ((v0.size:Int)-(v1.size:Int))) then (aB .i64 ((v0.size:Int)-(v1.size:Int))) else (-1))<1 then (if (-1)<(aB .i64 ((v0.size:Int)-(v1.size:Int))) then (aB .i64 ((v0.size:Int)-(v1.size:Int))) else (-1)) else 1),())
  else bif ltS v0 v1 then
   some ((-1),())
  else bif !(ltS v0 v1||eqS v0 v1) then
   some (1,())
  else some (0,())
abbrev ZD:Ent:=⟨182,_,_,gO⟩
theorem KH:Ent.OK tP ZD:=oI (aO oW) func182 Y (by rintro⟨v0,v1,⟨⟩⟩; kernel_rfl)
def MY(x:aH [.str,.str]):oK [.int .i64]:=match x with
 | (v0,v1,()) =>
  aC (DV (v0,())) λy1 =>
  aC (DV (v1,())) λy2 =>
  bif !(eqI y1.1 y2.1) then
   bif ltI y1.1 y2.1 then
    some ((-1),())
   else some (1,())
  else aC (cT (v0,())) λy3 =>
  aC (cT (v1,())) λy4 =>
  bif y3.1 then
   aC (gO (y4.2.1,y3.2.1,())) λy5 =>
   some (y5.1,())
  else aC (gO (y3.2.1,y4.2.1,())) λy6 =>
  some (y6.1,())
abbrev aDF:Ent:=⟨163,_,_,MY⟩
theorem aKA:Ent.OK tP aDF:=oI (aO (oV KH (oV aD2 (oV AR oW)))) func163 Y (by rintro⟨v0,v1,⟨⟩⟩; kernel_rfl)
def UY(x:aH [.str]):oK [.str]:=match x with
 | (v0,()) =>
  aC (cT (v0,())) λy1 =>
  bif y1.1 then
   aC (aA (false,y1.2.1,())) λy2 =>
   some (y2.1,())
  else aC (aA (true,y1.2.1,())) λy3 =>
  some (y3.1,())
abbrev aP9:Ent:=⟨207,_,_,UY⟩
theorem aGM:Ent.OK tP aP9:=oI (aO (oV OA (oV AR oW))) func207 Y (by rintro⟨v0,⟨⟩⟩; kernel_rfl)
def WC(x:aH [.str]):oK [.str]:=match x with
 | (v0,()) =>
  aC (cT (v0,())) λy1 =>
  some (y1.2.1,())
abbrev aP3:Ent:=⟨164,_,_,WC⟩
theorem aR6:Ent.OK tP aP3:=oI (aO (oV AR oW)) func164 Y (by rintro⟨v0,⟨⟩⟩; kernel_rfl)
abbrev fR:List (Nat×Kd):=[(0,.hnd 1),(2,.int .i64),(3,.int .i64),(100000,.ar 5 (.int .u8))]
abbrev jK:List (Ex×List (Nat×Kd)):=[(.exit 0,[(100000,.ar 5 (.int .u8))])]
def gY(x:Shape.den fR):oS fR jK:=match x with
 | (v0,v2,v3,u00,()) =>
  bif ltI v2 v3 then
   bif aF v3 v0.2.2 then bif Nat.blt ((v0.2.1+v3.toNat)*1) (cI u00 v0.1) then bif aF v2 v0.2.2 then bif Nat.blt ((v0.2.1+v2.toNat)*1) (cI u00 v0.1) then bif aF v2 v0.2.2 then bif Nat.blt ((v0.2.1+v2.toNat)*1) (cI u00 v0.1) then bif aF v3 v0.2.2 then bif Nat.blt ((v0.2.1+v3.toNat)*1) (cI (wQ u00 v0.1 ((v0.2.1+v2.toNat)*1) (cS u00 v0.1 ((v0.2.1+v3.toNat)*1) 0)) v0.1) then some (.inl ((v0.1,v0.2.1,v0.2.2),(aB .i64 (v2+1)),(aB .i64 (v3-1)),(wQ (wQ u00 v0.1 ((v0.2.1+v2.toNat)*1) (cS u00 v0.1 ((v0.2.1+v3.toNat)*1) 0)) v0.1 ((v0.2.1+v3.toNat)*1) (cS u00 v0.1 ((v0.2.1+v2.toNat)*1) 0)),())) else none else none else none else none else none else none else none else none
  else some (.inr ((u00,())))
def lW(x:Shape.den fR):oX jK:=bF gY (2^64) x
def fL(u0:Unit)(x:aH [.hnd 1])(A:List (List Int)):Option ((aH [])×List (List Int)):=match x with
 | (v0,()) =>
  aC (lW ((v0.1,v0.2.1,v0.2.2),0,(aB .i64 (((v0.2.2:Nat):Int)-1)),A,())) λz1 =>
  some ((()),z1.1)
def rL:Code:=dJ f236
abbrev yF:Env:=LY []
theorem CE:gD tP yF:=aO trivial
def vI:Code:=iC rL 0
def xA(id:Nat):Option dN:=bif Nat.beq id 1 then some ⟨fR,jK,lW⟩ else none
theorem MM:∀ x,jW tP yF 28 (aP f236) xA vI fR jK x=gY x:=by
 rintro⟨v0,v2,v3,u00,⟨⟩⟩
 kernel_rfl
theorem NL:eT tP 28 vI ⟨fR,jK,lW⟩:=eZ CE.callee aY.mixed _ (aQ (l:=[]) Y trivial) MM
theorem OI:bG rL=[vI]:=Y
theorem PD:∀ l x A,HR tP yF f236 (aP f236) xA rL 5 (.int .u8) .none [.hnd 1] (.data []) l x A=fL l x A:=by
 rintro u0 ⟨v0,⟨⟩⟩ A
 kernel_rfl
theorem SR:MT tP 236 5 (.int .u8) .none [.hnd 1] (.data []) fL:=zZ aY CE func236 (c:=rL) Y (bZ:=aP f236) (lt:=xA) (by rfl) (aQ OI ⟨eY (i:=1) Y rfl NL,trivial⟩) PD
theorem QH:aT9 tP 236 5 (.int .u8) [] (WT fL):=aFD SR (by rfl) (by rfl)
abbrev FC:Shr:=(236,QL 1 (a2O 5 (.int .u8) [] (WT fL)))
theorem OJ:tQ tP FC:=qE (aOI QH)
abbrev BL:List (Nat×Kd):=[(0,.list (.int .u64))]
abbrev KZ:List (Ex×List (Nat×Kd)):=[(.exit 0,[(0,.list (.int .u64))])]
def zE(x:Shape.den BL):oS BL KZ:=match x with
 | (v0,()) =>
  bif ltI 0 (v0.length:Int) then
   bif aF (aB .i64 ((v0.length:Int)-1)) v0.length then bif eqI (v0.getD ((aB .i64 ((v0.length:Int)-1)).toNat) 0) 0 then
    bif !(ltI (aB .i64 ((v0.length:Int)-1)) 0) then bif Nat.ble 0 ((aB .i64 ((v0.length:Int)-1)).toNat) then bif Nat.ble ((aB .i64 ((v0.length:Int)-1)).toNat) v0.length then some (.inl (((v0.drop 0).take ((aB .i64 ((v0.length:Int)-1)).toNat-0)),())) else none else none else none
   else some (.inr ((v0,()))) else none
  else some (.inr ((v0,())))
def I0(x:Shape.den BL):oX KZ:=bF zE (2^64) x
def zS(x:aH [.list (.int .u64)]):oK [.list (.int .u64)]:=match x with
 | (v0,()) =>
  aC (I0 (v0,())) λz1 =>
  some (z1.1,())
abbrev OS:Ent:=⟨217,_,_,zS⟩
theorem YM:Ent.OK tP OS:=oU (aO oW) func217 1 (lp:=I0) rfl Y (by rintro⟨v0,⟨⟩⟩; kernel_rfl) (by rintro⟨v0,⟨⟩⟩; kernel_rfl)
abbrev iL:List (Nat×Kd):=[(0,.own 180 (.int .u64)),(100000,.ar 180 (.int .u64))]
abbrev mB:List (Ex×List (Nat×Kd)):=[(.exit 0,[(0,.own 180 (.int .u64)),(100000,.ar 180 (.int .u64))])]
def kD(x:Shape.den iL):oS iL mB:=match x with
 | (v0,u00,()) =>
  bif ltI 0 (v0.length:Int) then
   bif aF (aB .i64 ((v0.length:Int)-1)) v0.length then bif Nat.blt ((aB .i64 ((v0.length:Int)-1)).toNat) v0.length then bif eqI (v0.getD ((aB .i64 ((v0.length:Int)-1)).toNat) 0) 0 then
    bif !(ltI (aB .i64 ((v0.length:Int)-1)) 0) then bif Nat.ble 0 ((aB .i64 ((v0.length:Int)-1)).toNat) then bif Nat.ble ((aB .i64 ((v0.length:Int)-1)).toNat) v0.length then bif Nat.blt 0 v0.length then some (.inl ((v0.take ((aB .i64 ((v0.length:Int)-1)).toNat-0)),u00,())) else none else none else none else none
   else some (.inr ((v0,u00,()))) else none else none
  else some (.inr ((v0,u00,())))
def vJ(x:Shape.den iL):oX mB:=bF kD (2^64) x
def bL(v0:List Int)(x:aH [])(A:List (List Int)):Option ((List Int)×List (List Int)):=match x with
 | (()) =>
  aC (vJ (v0,A,())) λz1 =>
  some (z1.1,z1.2.1)
def uR:Code:=dJ f217
abbrev BE:Env:=LY []
theorem GN:gD tP BE:=aO trivial
def zJ:Code:=iC uR 0
def AG(id:Nat):Option dN:=bif Nat.beq id 1 then some ⟨iL,mB,vJ⟩ else none
theorem PZ:∀ x,jW tP BE 21 (aP f217) AG zJ iL mB x=kD x:=by
 rintro⟨v0,u00,⟨⟩⟩
 kernel_rfl
theorem QG:eT tP 21 zJ ⟨iL,mB,vJ⟩:=eZ GN.callee aY.mixed _ (aQ (l:=[]) Y trivial) PZ
theorem R7:bG uR=[zJ]:=Y
theorem T0:∀ l x A,HR tP BE f217 (aP f217) AG uR 180 (.int .u64) (.own 180 (.int .u64)) [] (.own 180 (.int .u64)) l x A=bL l x A:=by
 rintro u0 ⟨⟨⟩⟩ A
 kernel_rfl
theorem WR:MT tP 217 180 (.int .u64) (.own 180 (.int .u64)) [] (.own 180 (.int .u64)) bL:=zZ aY GN func217 (c:=uR) Y (bZ:=aP f217) (lt:=AG) (by rfl) (aQ R7 ⟨eY (i:=1) Y rfl QG,trivial⟩) T0
abbrev iF:Shr:=(217,QL 1 (arH 180 (.int .u64) (.own 180 (.int .u64)) [] (.own 180 (.int .u64)) bL))
theorem iS:tQ tP iF:=qE (g:=217) (f:=arH 180 (.int .u64) (.own 180 (.int .u64)) [] (.own 180 (.int .u64)) bL) (CJ WR)
abbrev uB:List (Nat×Kd):=[(0,.str),(3,.own 180 (.int .u64)),(4,.int .i64),(5,.int .u64),(25,.list (.int .u8)),(26,.int .i64),(27,.int .i64),(100000,.ar 180 (.int .u64))]
abbrev zF:List (Ex×List (Nat×Kd)):=[(.exit 2,[(0,.str),(3,.own 180 (.int .u64)),(4,.int .i64),(5,.int .u64),(100000,.ar 180 (.int .u64))])]
def uY(x:Shape.den uB):oS uB zF:=match x with
 | (v0,v3,v4,v5,v25,v26,v27,u00,()) =>
  bif ltI v27 v26 then
   bif aF v27 v25.length then some (.inl (v0,v3,v4,(aB .u64 ((aB .u64 (10*v5))+(IntKind.wrap .u64 (aB .u8 ((v25.getD v27.toNat 0)-48))))),v25,v26,(aB .i64 (v27+1)),u00,())) else none
  else some (.inr ((v0,v3,v4,v5,u00,())))
def AW(x:Shape.den uB):oX zF:=bF uY (2^64) x
abbrev uA:List (Nat×Kd):=[(0,.str),(3,.own 180 (.int .u64)),(4,.int .i64),(100000,.ar 180 (.int .u64))]
abbrev yZ:List (Ex×List (Nat×Kd)):=[(.exit 0,[(3,.own 180 (.int .u64)),(100000,.ar 180 (.int .u64))])]
def vN(x:Shape.den uA):oS uA yZ:=match x with
 | (v0,v3,v4,u00,()) =>
  bif ltI 0 v4 then
   bif !(ltI (if 0<(aB .i64 (v4-9)) then (aB .i64 (v4-9)) else 0) 0) then bif !(ltI v4 0) then bif Nat.ble ((if 0<(aB .i64 (v4-9)) then (aB .i64 (v4-9)) else 0).toNat) v4.toNat then bif Nat.ble v4.toNat v0.size then aC (AW (v0,v3,v4,0,(YD (v0.extract ((if 0<(aB .i64 (v4-9)) then (aB .i64 (v4-9)) else 0).toNat) v4.toNat)),((YD (v0.extract ((if 0<(aB .i64 (v4-9)) then (aB .i64 (v4-9)) else 0).toNat) v4.toNat)).length:Int),0,u00,())) λz2 =>
   bif Nat.ble [z2.2.2.2.1].length 1048576 then bif Nat.ble z2.2.1.length 1048576 then some (.inl (z2.1,(z2.2.1++[z2.2.2.2.1]),(aB .i64 (z2.2.2.1-9)),z2.2.2.2.2.1,())) else none else none else none else none else none else none
  else some (.inr ((v3,u00,())))
def A5(x:Shape.den uA):oX yZ:=bF vN (2^64) x
def eR(u0:Unit)(x:aH [.str])(A:List (List Int)):Option ((List Int)×List (List Int)):=match x with
 | (v0,()) =>
  bif !(ltI (aB .i64 ((aB .i64 ((v0.size:Int).tdiv 9))+1)) 0) then bif !(ltI 1048576 (aB .i64 ((aB .i64 ((v0.size:Int).tdiv 9))+1))) then aC (A5 (v0,(List.replicate 0 0),(v0.size:Int),A,())) λz3 =>
  aC (bL z3.1 (()) z3.2.1) λy4 =>
  some y4 else none else none
def LB:Code:=dJ f215
abbrev LC:Env:=MU [] [iF]
theorem LO:gD tP LC:=l5 trivial ⟨iS,trivial⟩
def AZ:Code:=iC LB 0
def N5:Code:=iC AZ 0
def JL(id:Nat):Option dN:=bif Nat.beq id 7 then some ⟨uB,zF,AW⟩ else bif Nat.beq id 3 then some ⟨uA,yZ,A5⟩ else none
theorem aCD:∀ x,jW tP LC 44 (aP f215) JL N5 uB zF x=uY x:=by
 rintro⟨v0,v3,v4,v5,v25,v26,v27,u00,⟨⟩⟩
 kernel_rfl
theorem aEK:eT tP 44 N5 ⟨uB,zF,AW⟩:=eZ LO.callee aY.mixed _ (aQ (l:=[]) Y trivial) aCD
theorem aC0:∀ x,jW tP LC 44 (aP f215) JL AZ uA yZ x=vN x:=by
 rintro⟨v0,v3,v4,u00,⟨⟩⟩
 kernel_rfl
theorem aHP:bG AZ=[N5]:=Y
theorem aDH:eT tP 44 AZ ⟨uA,yZ,A5⟩:=eZ LO.callee aY.mixed _ (aQ aHP ⟨eY (i:=7) Y rfl aEK,trivial⟩) aC0
theorem aFU:bG LB=[AZ]:=Y
theorem aIG:∀ l x A,HR tP LC f215 (aP f215) JL LB 180 (.int .u64) .none [.str] (.own 180 (.int .u64)) l x A=eR l x A:=by
 rintro u0 ⟨v0,⟨⟩⟩ A
 kernel_rfl
theorem aL2:MT tP 215 180 (.int .u64) .none [.str] (.own 180 (.int .u64)) eR:=zZ aY LO func215 (c:=LB) Y (bZ:=aP f215) (lt:=JL) (by rfl) (aQ aFU ⟨eY (i:=3) Y rfl aDH,trivial⟩) aIG
abbrev E4:Shr:=(215,QL 0 (arH 180 (.int .u64) .none [.str] (.own 180 (.int .u64)) eR))
theorem DZ:tQ tP E4:=qE (g:=215) (f:=arH 180 (.int .u64) .none [.str] (.own 180 (.int .u64)) eR) (CJ aL2)
abbrev zA:List (Nat×Kd):=[(0,.list (.int .u64)),(1,.list (.int .u64)),(5,.int .i64)]
abbrev IB:List (Ex×List (Nat×Kd)):=[(.ret,[(4,.int .i64)]),(.exit 0,[])]
def qG(x:Shape.den zA):oS zA IB:=match x with
 | (v0,v1,v5,()) =>
  bif !(ltI v5 0) then
   bif aF v5 v0.length then bif aF v5 v1.length then bif ltI (v0.getD v5.toNat 0) (v1.getD v5.toNat 0) then
    some (.inr (.inl ((-1),())))
   else bif aF v5 v0.length then bif aF v5 v1.length then bif ltI (v1.getD v5.toNat 0) (v0.getD v5.toNat 0) then
    some (.inr (.inl (1,())))
   else some (.inl (v0,v1,(aB .i64 (v5-1)),())) else none else none else none else none
  else some (.inr (.inr ((()))))
def EX(x:Shape.den zA):oX IB:=bF qG (2^64) x
def vT(x:aH [.list (.int .u64),.list (.int .u64)]):oK [.int .i64]:=match x with
 | (v0,v1,()) =>
  bif !(eqI (v0.length:Int) (v1.length:Int)) then
   some ((if (if (-1)<(aB .i64 ((v0.length:Int)-(v1.length:Int))) then (aB .i64 ((v0.length:Int)-(v1.length:Int))) else (-1))<1 then (if (-1)<(aB .i64 ((v0.length:Int)-(v1.length:Int))) then (aB .i64 ((v0.length:Int)-(v1.length:Int))) else (-1)) else 1),())
  else aC (EX (v0,v1,(aB .i64 ((v0.length:Int)-1)),())) λz1 =>
  xJ z1 (λa2=>some (a2.1,())) λb3 =>
  some (0,())
abbrev L3:Ent:=⟨228,_,_,vT⟩
theorem U1:Ent.OK tP L3:=oU (aO oW) func228 4 (lp:=EX) rfl Y (by rintro⟨v0,v1,v5,⟨⟩⟩; kernel_rfl) (by rintro⟨v0,v1,⟨⟩⟩; kernel_rfl)
abbrev iN:List (Nat×Kd):=[(1,.list (.int .u64)),(5,.own 180 (.int .u64)),(6,.int .i64),(7,.int .u64),(8,.int .u64),(17,.list (.int .u64)),(18,.int .i64),(19,.int .i64),(24,.list (.int .u64)),(25,.int .i64),(26,.int .i64),(100000,.ar 180 (.int .u64))]
abbrev lU:List (Ex×List (Nat×Kd)):=[(.exit 2,[(1,.list (.int .u64)),(5,.own 180 (.int .u64)),(6,.int .i64),(8,.int .u64),(17,.list (.int .u64)),(18,.int .i64),(19,.int .i64),(100000,.ar 180 (.int .u64))])]
def j9(x:Shape.den iN):oS iN lU:=match x with
 | (v1,v5,v6,v7,v8,v17,v18,v19,v24,v25,v26,u00,()) =>
  bif ltI v26 v25 then
   bif aF v26 v24.length then bif aF (aB .i64 (v6+v26)) v5.length then bif Nat.blt ((aB .i64 (v6+v26)).toNat) v5.length then bif aF (aB .i64 (v6+v26)) v5.length then bif Nat.blt ((aB .i64 (v6+v26)).toNat) v5.length then some (.inl (v1,(v5.set ((aB .i64 (v6+v26)).toNat) ((aB .u64 (v8+(aB .u64 ((v5.getD ((aB .i64 (v6+v26)).toNat) 0)+(aB .u64 (v7*(v24.getD v26.toNat 0))))))).tmod 1000000000)),v6,v7,(aB .u64 ((aB .u64 (v8+(aB .u64 ((v5.getD ((aB .i64 (v6+v26)).toNat) 0)+(aB .u64 (v7*(v24.getD v26.toNat 0))))))).tdiv 1000000000)),v17,v18,v19,v24,v25,(aB .i64 (v26+1)),u00,())) else none else none else none else none else none
  else some (.inr ((v1,v5,v6,v8,v17,v18,v19,u00,())))
def pK(x:Shape.den iN):oX lU:=bF j9 (2^64) x
abbrev iR:List (Nat×Kd):=[(1,.list (.int .u64)),(5,.own 180 (.int .u64)),(17,.list (.int .u64)),(18,.int .i64),(19,.int .i64),(100000,.ar 180 (.int .u64))]
abbrev l9:List (Ex×List (Nat×Kd)):=[(.exit 0,[(5,.own 180 (.int .u64)),(100000,.ar 180 (.int .u64))])]
def kF(x:Shape.den iR):oS iR l9:=match x with
 | (v1,v5,v17,v18,v19,u00,()) =>
  bif ltI v19 v18 then
   bif aF v19 v17.length then aC (pK (v1,v5,v19,(v17.getD v19.toNat 0),0,v17,v18,v19,v1,(v1.length:Int),0,u00,())) λz2 =>
   bif aF (aB .i64 (z2.2.2.1+(z2.1.length:Int))) z2.2.1.length then bif Nat.blt ((aB .i64 (z2.2.2.1+(z2.1.length:Int))).toNat) z2.2.1.length then some (.inl (z2.1,(z2.2.1.set ((aB .i64 (z2.2.2.1+(z2.1.length:Int))).toNat) z2.2.2.2.1),z2.2.2.2.2.1,z2.2.2.2.2.2.1,(aB .i64 (z2.2.2.2.2.2.2.1+1)),z2.2.2.2.2.2.2.2.1,())) else none else none else none
  else some (.inr ((v5,u00,())))
def pI(x:Shape.den iR):oX l9:=bF kF (2^64) x
def fO(u0:Unit)(x:aH [.list (.int .u64),.list (.int .u64)])(A:List (List Int)):Option ((List Int)×List (List Int)):=match x with
 | (v0,v1,()) =>
  bif !(ltI (aB .i64 ((v0.length:Int)+(v1.length:Int))) 0) then bif !(ltI (aB .i64 ((v0.length:Int)+(v1.length:Int))) (aB .i64 ((v0.length:Int)+(v1.length:Int)))) then bif !(ltI 1048576 (aB .i64 ((v0.length:Int)+(v1.length:Int)))) then aC (pI (v1,(List.replicate ((aB .i64 ((v0.length:Int)+(v1.length:Int))).toNat) 0),v0,(v0.length:Int),0,A,())) λz3 =>
  aC (bL z3.1 (()) z3.2.1) λy4 =>
  some y4 else none else none else none
def uM:Code:=dJ f220
abbrev uO:Env:=MU [] [iF]
theorem yB:gD tP uO:=l5 trivial ⟨iS,trivial⟩
def nE:Code:=iC uM 0
def yT:Code:=iC nE 0
def tD(id:Nat):Option dN:=bif Nat.beq id 7 then some ⟨iN,lU,pK⟩ else bif Nat.beq id 3 then some ⟨iR,l9,pI⟩ else none
theorem PH:∀ x,jW tP uO 63 (aP f220) tD yT iN lU x=j9 x:=by
 rintro⟨v1,v5,v6,v7,v8,v17,v18,v19,v24,v25,v26,u00,⟨⟩⟩
 kernel_rfl
theorem QE:eT tP 63 yT ⟨iN,lU,pK⟩:=eZ yB.callee aY.mixed _ (aQ (l:=[]) Y trivial) PH
theorem PK:∀ x,jW tP uO 63 (aP f220) tD nE iR l9 x=kF x:=by
 rintro⟨v1,v5,v17,v18,v19,u00,⟨⟩⟩
 kernel_rfl
theorem T7:bG nE=[yT]:=Y
theorem RU:eT tP 63 nE ⟨iR,l9,pI⟩:=eZ yB.callee aY.mixed _ (aQ T7 ⟨eY (i:=7) Y rfl QE,trivial⟩) PK
theorem SE:bG uM=[nE]:=Y
theorem TY:∀ l x A,HR tP uO f220 (aP f220) tD uM 180 (.int .u64) .none [.list (.int .u64),.list (.int .u64)] (.own 180 (.int .u64)) l x A=fO l x A:=by
 rintro u0 ⟨v0,v1,⟨⟩⟩ A
 kernel_rfl
theorem WV:MT tP 220 180 (.int .u64) .none [.list (.int .u64),.list (.int .u64)] (.own 180 (.int .u64)) fO:=zZ aY yB func220 (c:=uM) Y (bZ:=aP f220) (lt:=tD) (by rfl) (aQ SE ⟨eY (i:=3) Y rfl RU,trivial⟩) TY
abbrev BV:Shr:=(220,QL 0 (arH 180 (.int .u64) .none [.list (.int .u64),.list (.int .u64)] (.own 180 (.int .u64)) fO))
theorem GO:tQ tP BV:=qE (g:=220) (f:=arH 180 (.int .u64) .none [.list (.int .u64),.list (.int .u64)] (.own 180 (.int .u64)) fO) (CJ WV)
def gM(u0:Unit) (x:aH [.list (.int .u64),.int .u64]) (A:List (List Int)):Option ((List Int)×List (List Int)):=match x with
 | (v0,v1,()) =>
  aC (zS ([v1],())) λy1 =>
  aC (fO () (v0,y1.1,()) A) λy2 =>
  some y2
def AE:Code:=dJ f240
abbrev JY:Env:=MU [OS] [BV]
theorem SQ:gD tP JY:=l5 ⟨YM,trivial⟩ ⟨GO,trivial⟩
def H9(id:Nat):Option dN:=none
theorem QF:bG AE=[]:=Y
theorem R4:∀ l x A,HR tP JY f240 (aP f240) H9 AE 180 (.int .u64) .none [.list (.int .u64),.int .u64] (.own 180 (.int .u64)) l x A=gM l x A:=by
 rintro u0 ⟨v0,v1,⟨⟩⟩ A
 kernel_rfl
theorem VC:MT tP 240 180 (.int .u64) .none [.list (.int .u64),.int .u64] (.own 180 (.int .u64)) gM:=zZ aY SQ func240 (c:=AE) Y (bZ:=aP f240) (lt:=H9) (by rfl) (aQ QF trivial) R4
abbrev JT:Shr:=(240,QL 0 (arH 180 (.int .u64) .none [.list (.int .u64),.int .u64] (.own 180 (.int .u64)) gM))
theorem RY:tQ tP JT:=qE (g:=240) (f:=arH 180 (.int .u64) .none [.list (.int .u64),.int .u64] (.own 180 (.int .u64)) gM) (CJ VC)
abbrev jD:List (Nat×Kd):=[(0,.list (.int .u64)),(1,.int .u64),(6,.own 180 (.int .u64)),(7,.int .u64),(8,.int .i64),(100000,.ar 180 (.int .u64))]
abbrev mX:List (Ex×List (Nat×Kd)):=[(.exit 0,[(6,.own 180 (.int .u64)),(7,.int .u64),(100000,.ar 180 (.int .u64))])]
def k9(x:Shape.den jD):oS jD mX:=match x with
 | (v0,v1,v6,v7,v8,u00,()) =>
  bif !(ltI v8 0) then
   bif aF v8 v0.length then bif eqI v1 0 then none else bif aF v8 v6.length then bif Nat.blt v8.toNat v6.length then bif eqI v1 0 then none else some (.inl (v0,v1,(v6.set v8.toNat (aB .u64 ((aB .u64 ((aB .u64 (v7*1000000000))+(v0.getD v8.toNat 0))).tdiv v1))),((aB .u64 ((aB .u64 (v7*1000000000))+(v0.getD v8.toNat 0))).tmod v1),(aB .i64 (v8-1)),u00,())) else none else none else none
  else some (.inr ((v6,v7,u00,())))
def qJ(x:Shape.den jD):oX mX:=bF k9 (2^64) x
def gF(u0:Unit)(x:aH [.list (.int .u64),.int .u64])(A:List (List Int)):Option ((aH [.list (.int .u64),.int .u64])×List (List Int)):=match x with
 | (v0,v1,()) =>
  bif !(ltI (v0.length:Int) 0) then bif !(ltI (v0.length:Int) (v0.length:Int)) then bif !(ltI 1048576 (v0.length:Int)) then aC (qJ (v0,v1,(List.replicate ((v0.length:Int).toNat) 0),0,(aB .i64 ((v0.length:Int)-1)),A,())) λz1 =>
  aC (bL z1.1 (()) z1.2.2.1) λy2 =>
  some ((y2.1,z1.2.1,()),y2.2) else none else none else none
def wE:Code:=dJ f229
abbrev DB:Env:=MU [] [iF]
theorem HF:gD tP DB:=l5 trivial ⟨iS,trivial⟩
def AA:Code:=iC wE 0
def BF(id:Nat):Option dN:=bif Nat.beq id 4 then some ⟨jD,mX,qJ⟩ else none
theorem RF:∀ x,jW tP DB 38 (aP f229) BF AA jD mX x=k9 x:=by
 rintro⟨v0,v1,v6,v7,v8,u00,⟨⟩⟩
 kernel_rfl
theorem SL:eT tP 38 AA ⟨jD,mX,qJ⟩:=eZ HF.callee aY.mixed _ (aQ (l:=[]) Y trivial) RF
theorem TG:bG wE=[AA]:=Y
theorem VI:∀ l x A,HR tP DB f229 (aP f229) BF wE 180 (.int .u64) .none [.list (.int .u64),.int .u64] (.data [.list (.int .u64),.int .u64]) l x A=gF l x A:=by
 rintro u0 ⟨v0,v1,⟨⟩⟩ A
 kernel_rfl
theorem YC:MT tP 229 180 (.int .u64) .none [.list (.int .u64),.int .u64] (.data [.list (.int .u64),.int .u64]) gF:=zZ aY HF func229 (c:=wE) Y (bZ:=aP f229) (lt:=BF) (by rfl) (aQ TG ⟨eY (i:=4) Y rfl SL,trivial⟩) VI
abbrev CV:Shr:=(229,QL 0 (arH 180 (.int .u64) .none [.list (.int .u64),.int .u64] (.data [.list (.int .u64),.int .u64]) gF))
theorem IG:tQ tP CV:=qE (g:=229) (f:=arH 180 (.int .u64) .none [.list (.int .u64),.int .u64] (.data [.list (.int .u64),.int .u64]) gF) (CJ YC)
abbrev gN:List (Nat×Kd):=[(0,.hnd 1),(1,.list (.int .u64)),(2,.int .u64),(3,.int .i64),(9,.int .i64),(10,.int .u64),(11,.int .i64),(100000,.ar 180 (.int .u64))]
abbrev kN:List (Ex×List (Nat×Kd)):=[(.exit 0,[(9,.int .i64),(100000,.ar 180 (.int .u64))])]
def fK(x:Shape.den gN):oS gN kN:=match x with
 | (v0,v1,v2,v3,v9,v10,v11,u00,()) =>
  bif !(ltI (v1.length:Int) v11) then
   bif ltI v11 (v1.length:Int) then
    bif aF v11 v1.length then bif aF (aB .i64 (v3+v11)) v0.2.2 then bif Nat.blt ((v0.2.1+(aB .i64 (v3+v11)).toNat)*1) (cI u00 v0.1) then bif ltI (aB .i64 ((aB .i64 ((IntKind.wrap .i64 (cS u00 v0.1 ((v0.2.1+(aB .i64 (v3+v11)).toNat)*1) 0))-(IntKind.wrap .i64 ((aB .u64 (v10+(aB .u64 (v2*(v1.getD v11.toNat 0))))).tmod 1000000000))))-v9)) 0 then
     bif aF (aB .i64 (v3+v11)) v0.2.2 then bif Nat.blt ((v0.2.1+(aB .i64 (v3+v11)).toNat)*1) (cI u00 v0.1) then some (.inl ((v0.1,v0.2.1,v0.2.2),v1,v2,v3,1,(aB .u64 ((aB .u64 (v10+(aB .u64 (v2*(v1.getD v11.toNat 0))))).tdiv 1000000000)),(aB .i64 (v11+1)),(wQ u00 v0.1 ((v0.2.1+(aB .i64 (v3+v11)).toNat)*1) (IntKind.wrap .u64 (aB .i64 ((aB .i64 ((aB .i64 ((IntKind.wrap .i64 (cS u00 v0.1 ((v0.2.1+(aB .i64 (v3+v11)).toNat)*1) 0))-(IntKind.wrap .i64 ((aB .u64 (v10+(aB .u64 (v2*(v1.getD v11.toNat 0))))).tmod 1000000000))))-v9))+1000000000)))),())) else none else none
    else bif aF (aB .i64 (v3+v11)) v0.2.2 then bif Nat.blt ((v0.2.1+(aB .i64 (v3+v11)).toNat)*1) (cI u00 v0.1) then some (.inl ((v0.1,v0.2.1,v0.2.2),v1,v2,v3,0,(aB .u64 ((aB .u64 (v10+(aB .u64 (v2*(v1.getD v11.toNat 0))))).tdiv 1000000000)),(aB .i64 (v11+1)),(wQ u00 v0.1 ((v0.2.1+(aB .i64 (v3+v11)).toNat)*1) (IntKind.wrap .u64 (aB .i64 ((aB .i64 ((IntKind.wrap .i64 (cS u00 v0.1 ((v0.2.1+(aB .i64 (v3+v11)).toNat)*1) 0))-(IntKind.wrap .i64 ((aB .u64 (v10+(aB .u64 (v2*(v1.getD v11.toNat 0))))).tmod 1000000000))))-v9)))),())) else none else none else none else none else none
   else bif aF (aB .i64 (v3+v11)) v0.2.2 then bif Nat.blt ((v0.2.1+(aB .i64 (v3+v11)).toNat)*1) (cI u00 v0.1) then bif ltI (aB .i64 ((aB .i64 ((IntKind.wrap .i64 (cS u00 v0.1 ((v0.2.1+(aB .i64 (v3+v11)).toNat)*1) 0))-(IntKind.wrap .i64 (v10.tmod 1000000000))))-v9)) 0 then
    bif aF (aB .i64 (v3+v11)) v0.2.2 then bif Nat.blt ((v0.2.1+(aB .i64 (v3+v11)).toNat)*1) (cI u00 v0.1) then some (.inl ((v0.1,v0.2.1,v0.2.2),v1,v2,v3,1,(aB .u64 (v10.tdiv 1000000000)),(aB .i64 (v11+1)),(wQ u00 v0.1 ((v0.2.1+(aB .i64 (v3+v11)).toNat)*1) (IntKind.wrap .u64 (aB .i64 ((aB .i64 ((aB .i64 ((IntKind.wrap .i64 (cS u00 v0.1 ((v0.2.1+(aB .i64 (v3+v11)).toNat)*1) 0))-(IntKind.wrap .i64 (v10.tmod 1000000000))))-v9))+1000000000)))),())) else none else none
   else bif aF (aB .i64 (v3+v11)) v0.2.2 then bif Nat.blt ((v0.2.1+(aB .i64 (v3+v11)).toNat)*1) (cI u00 v0.1) then some (.inl ((v0.1,v0.2.1,v0.2.2),v1,v2,v3,0,(aB .u64 (v10.tdiv 1000000000)),(aB .i64 (v11+1)),(wQ u00 v0.1 ((v0.2.1+(aB .i64 (v3+v11)).toNat)*1) (IntKind.wrap .u64 (aB .i64 ((aB .i64 ((IntKind.wrap .i64 (cS u00 v0.1 ((v0.2.1+(aB .i64 (v3+v11)).toNat)*1) 0))-(IntKind.wrap .i64 (v10.tmod 1000000000))))-v9)))),())) else none else none else none else none
  else some (.inr ((v9,u00,())))
def rO(x:Shape.den gN):oX kN:=bF fK (2^64) x
def fJ(u0:Unit)(x:aH [.hnd 1,.list (.int .u64),.int .u64,.int .i64])(A:List (List Int)):Option ((aH [.bool])×List (List Int)):=match x with
 | (v0,v1,v2,v3,()) =>
  aC (rO ((v0.1,v0.2.1,v0.2.2),v1,v2,v3,0,0,0,A,())) λz1 =>
  some ((ltI 0 z1.1,()),z1.2.1)
def yA:Code:=dJ f219
abbrev D7:Env:=LY []
theorem J0:gD tP D7:=aO trivial
def BD:Code:=iC yA 0
def DG(id:Nat):Option dN:=bif Nat.beq id 4 then some ⟨gN,kN,rO⟩ else none
theorem SB:∀ x,jW tP D7 59 (aP f219) DG BD gN kN x=fK x:=by
 rintro⟨v0,v1,v2,v3,v9,v10,v11,u00,⟨⟩⟩
 kernel_rfl
theorem TQ:eT tP 59 BD ⟨gN,kN,rO⟩:=eZ J0.callee aY.mixed _ (aQ (l:=[]) Y trivial) SB
theorem VU:bG yA=[BD]:=Y
theorem WU:∀ l x A,HR tP D7 f219 (aP f219) DG yA 180 (.int .u64) .none [.hnd 1,.list (.int .u64),.int .u64,.int .i64] (.data [.bool]) l x A=fJ l x A:=by
 rintro u0 ⟨v0,v1,v2,v3,⟨⟩⟩ A
 kernel_rfl
theorem YV:MT tP 219 180 (.int .u64) .none [.hnd 1,.list (.int .u64),.int .u64,.int .i64] (.data [.bool]) fJ:=zZ aY J0 func219 (c:=yA) Y (bZ:=aP f219) (lt:=DG) (by rfl) (aQ VU ⟨eY (i:=4) Y rfl TQ,trivial⟩) WU
theorem YH:a3B tP 219 180 (.int .u64) [.list (.int .u64),.int .u64,.int .i64] [.bool] (aF9 fJ):=aO9 YV (by rfl) (by rfl) (by rfl)
abbrev DE:Shr:=(219,QL 1 (a4R 180 (.int .u64) [.list (.int .u64),.int .u64,.int .i64] [.bool] (aF9 fJ)))
theorem IZ:tQ tP DE:=qE (a9F YH)
abbrev kR:List (Nat×Kd):=[(0,.hnd 1),(1,.list (.int .u64)),(2,.int .i64),(6,.int .u64),(7,.int .i64),(100000,.ar 180 (.int .u64))]
abbrev o3:List (Ex×List (Nat×Kd)):=[(.exit 0,[(100000,.ar 180 (.int .u64))])]
def fI(x:Shape.den kR):oS kR o3:=match x with
 | (v0,v1,v2,v6,v7,u00,()) =>
  bif !(ltI (v1.length:Int) v7) then
   bif aF (aB .i64 (v2+v7)) v0.2.2 then bif Nat.blt ((v0.2.1+(aB .i64 (v2+v7)).toNat)*1) (cI u00 v0.1) then bif ltI v7 (v1.length:Int) then
    bif aF v7 v1.length then bif aF (aB .i64 (v2+v7)) v0.2.2 then bif Nat.blt ((v0.2.1+(aB .i64 (v2+v7)).toNat)*1) (cI u00 v0.1) then some (.inl ((v0.1,v0.2.1,v0.2.2),v1,v2,(aB .u64 ((aB .u64 ((aB .u64 (v6+(cS u00 v0.1 ((v0.2.1+(aB .i64 (v2+v7)).toNat)*1) 0)))+(v1.getD v7.toNat 0))).tdiv 1000000000)),(aB .i64 (v7+1)),(wQ u00 v0.1 ((v0.2.1+(aB .i64 (v2+v7)).toNat)*1) ((aB .u64 ((aB .u64 (v6+(cS u00 v0.1 ((v0.2.1+(aB .i64 (v2+v7)).toNat)*1) 0)))+(v1.getD v7.toNat 0))).tmod 1000000000)),())) else none else none else none
   else bif aF (aB .i64 (v2+v7)) v0.2.2 then bif Nat.blt ((v0.2.1+(aB .i64 (v2+v7)).toNat)*1) (cI u00 v0.1) then some (.inl ((v0.1,v0.2.1,v0.2.2),v1,v2,(aB .u64 ((aB .u64 (v6+(cS u00 v0.1 ((v0.2.1+(aB .i64 (v2+v7)).toNat)*1) 0))).tdiv 1000000000)),(aB .i64 (v7+1)),(wQ u00 v0.1 ((v0.2.1+(aB .i64 (v2+v7)).toNat)*1) ((aB .u64 (v6+(cS u00 v0.1 ((v0.2.1+(aB .i64 (v2+v7)).toNat)*1) 0))).tmod 1000000000)),())) else none else none else none else none
  else some (.inr ((u00,())))
def rN(x:Shape.den kR):oX o3:=bF fI (2^64) x
def dM(u0:Unit)(x:aH [.hnd 1,.list (.int .u64),.int .i64])(A:List (List Int)):Option ((aH [])×List (List Int)):=match x with
 | (v0,v1,v2,()) =>
  aC (rN ((v0.1,v0.2.1,v0.2.2),v1,v2,0,0,A,())) λz1 =>
  some ((()),z1.1)
def xW:Code:=dJ f216
abbrev DY:Env:=LY []
theorem JU:gD tP DY:=aO trivial
def BJ:Code:=iC xW 0
def C9(id:Nat):Option dN:=bif Nat.beq id 2 then some ⟨kR,o3,rN⟩ else none
theorem SD:∀ x,jW tP DY 41 (aP f216) C9 BJ kR o3 x=fI x:=by
 rintro⟨v0,v1,v2,v6,v7,u00,⟨⟩⟩
 kernel_rfl
theorem T9:eT tP 41 BJ ⟨kR,o3,rN⟩:=eZ JU.callee aY.mixed _ (aQ (l:=[]) Y trivial) SD
theorem V8:bG xW=[BJ]:=Y
theorem WO:∀ l x A,HR tP DY f216 (aP f216) C9 xW 180 (.int .u64) .none [.hnd 1,.list (.int .u64),.int .i64] (.data []) l x A=dM l x A:=by
 rintro u0 ⟨v0,v1,v2,⟨⟩⟩ A
 kernel_rfl
theorem YW:MT tP 216 180 (.int .u64) .none [.hnd 1,.list (.int .u64),.int .i64] (.data []) dM:=zZ aY JU func216 (c:=xW) Y (bZ:=aP f216) (lt:=C9) (by rfl) (aQ V8 ⟨eY (i:=2) Y rfl T9,trivial⟩) WO
theorem YB:aT9 tP 216 180 (.int .u64) [.list (.int .u64),.int .i64] (WT dM):=aFD YW (by rfl) (by rfl)
abbrev C7:Shr:=(216,QL 1 (a2O 180 (.int .u64) [.list (.int .u64),.int .i64] (WT dM)))
theorem HT:tQ tP C7:=qE (aOI YB)
abbrev mK:List (Nat×Kd):=[(0,.list (.int .u64)),(3,.own 5 (.int .u8)),(4,.int .i64),(5,.int .u64),(6,.int .i64),(14,.list (.int .u64)),(15,.int .i64),(16,.int .i64)]
abbrev rI:List (Ex×List (Nat×Kd)):=[(.exit 2,[(0,.list (.int .u64)),(3,.own 5 (.int .u8)),(14,.list (.int .u64)),(15,.int .i64),(16,.int .i64)])]
def eW(x:Shape.den mK):oS mK rI:=match x with
 | (v0,v3,v4,v5,v6,v14,v15,v16,()) =>
  bif ltI v6 9 then
   bif ltI (aB .i64 (v4+1)) (v0.length:Int) then
    bif Nat.ble [(IntKind.wrap .u8 (aB .u64 (48+(v5.tmod 10))))].length 1048576 then bif Nat.ble v3.length 1048576 then some (.inl (v0,(v3++[(IntKind.wrap .u8 (aB .u64 (48+(v5.tmod 10))))]),v4,(aB .u64 (v5.tdiv 10)),(aB .i64 (v6+1)),v14,v15,v16,())) else none else none
   else bif ltI 0 v5 then
    bif Nat.ble [(IntKind.wrap .u8 (aB .u64 (48+(v5.tmod 10))))].length 1048576 then bif Nat.ble v3.length 1048576 then some (.inl (v0,(v3++[(IntKind.wrap .u8 (aB .u64 (48+(v5.tmod 10))))]),v4,(aB .u64 (v5.tdiv 10)),(aB .i64 (v6+1)),v14,v15,v16,())) else none else none
   else some (.inr ((v0,v3,v14,v15,v16,())))
  else some (.inr ((v0,v3,v14,v15,v16,())))
def nZ(x:Shape.den mK):oX rI:=bF eW (2^64) x
abbrev mJ:List (Nat×Kd):=[(0,.list (.int .u64)),(3,.own 5 (.int .u8)),(14,.list (.int .u64)),(15,.int .i64),(16,.int .i64)]
abbrev qU:List (Ex×List (Nat×Kd)):=[(.exit 0,[(3,.own 5 (.int .u8))])]
def kQ(x:Shape.den mJ):oS mJ qU:=match x with
 | (v0,v3,v14,v15,v16,()) =>
  bif ltI v16 v15 then
   bif aF v16 v14.length then aC (nZ (v0,v3,v16,(v14.getD v16.toNat 0),0,v14,v15,v16,())) λz2 =>
   some (.inl (z2.1,z2.2.1,z2.2.2.1,z2.2.2.2.1,(aB .i64 (z2.2.2.2.2.1+1)),())) else none
  else some (.inr ((v3,())))
def tB(x:Shape.den mJ):oX qU:=bF kQ (2^64) x
def cX(x:aH [.list (.int .u64)]):oK [.str]:=match x with
 | (v0,()) =>
  bif eqI (v0.length:Int) 0 then
   some ((ByteArray.mk #[48]),())
  else bif !(ltI (aB .i64 (9*(v0.length:Int))) 0) then bif !(ltI 1048576 (aB .i64 (9*(v0.length:Int)))) then aC (tB (v0,(List.replicate 0 0),v0,(v0.length:Int),0,())) λz3 =>
  aC (WT (t:=(.int .u8)) fL z3.1 (())) λy4 =>
  some ((aPL y4),()) else none else none
def QM:Code:=dJ f218
abbrev IH:Env:=MU [] [FC]
theorem CR:gD tP IH:=l5 trivial ⟨OJ,trivial⟩
def sM:Code:=iC QM 0
def EJ:Code:=iC sM 0
def FU(id:Nat):Option dN:=bif Nat.beq id 8 then some ⟨mK,rI,nZ⟩ else bif Nat.beq id 5 then some ⟨mJ,qU,tB⟩ else none
theorem VS:∀ x,jW tP IH 50 (aP f218) FU EJ mK rI x=eW x:=by
 rintro⟨v0,v3,v4,v5,v6,v14,v15,v16,⟨⟩⟩
 kernel_rfl
theorem WL:eT tP 50 EJ ⟨mK,rI,nZ⟩:=eZ CR.callee aY.mixed _ (aQ (l:=[]) Y trivial) VS
theorem V0:∀ x,jW tP IH 50 (aP f218) FU sM mJ qU x=kQ x:=by
 rintro⟨v0,v3,v14,v15,v16,⟨⟩⟩
 kernel_rfl
theorem ZP:bG sM=[EJ]:=Y
theorem W2:eT tP 50 sM ⟨mJ,qU,tB⟩:=eZ CR.callee aY.mixed _ (aQ ZP ⟨eY (i:=8) Y rfl WL,trivial⟩) V0
abbrev vC:Ent:=⟨218,_,_,cX⟩
theorem vV:Ent.OK tP vC:=aLA aY CR func218 (c:=QM) Y (bZ:=aP f218) (lt:=FU) (aQ (l:=[sM]) Y ⟨eY (i:=5) Y rfl W2,trivial⟩) (by rintro⟨v0,⟨⟩⟩; kernel_rfl)
abbrev iT:List (Nat×Kd):=[(0,.list (.int .u64)),(6,.int .u64),(7,.own 180 (.int .u64)),(8,.list (.int .u64)),(9,.int .i64),(100000,.ar 180 (.int .u64))]
abbrev mA:List (Ex×List (Nat×Kd)):=[(.exit 0,[(6,.int .u64),(7,.own 180 (.int .u64)),(8,.list (.int .u64)),(9,.int .i64),(100000,.ar 180 (.int .u64))])]
def pJ(x:Shape.den iT):oS iT mA:=match x with
 | (v0,v6,v7,v8,v9,u00,()) =>
  bif !(ltI (v0.length:Int) (v7.length:Int)) then
   bif Nat.ble [0].length 1048576 then bif Nat.ble v7.length 1048576 then some (.inl (v0,v6,(v7++[0]),v8,v9,u00,())) else none else none
  else some (.inr ((v6,v7,v8,v9,u00,())))
def pE(x:Shape.den iT):oX mA:=bF pJ (2^64) x
abbrev iK:List (Nat×Kd):=[(6,.int .u64),(7,.own 180 (.int .u64)),(8,.list (.int .u64)),(9,.int .i64),(10,.own 180 (.int .u64)),(11,.int .i64),(13,.int .u64),(14,.int .u64),(100000,.ar 180 (.int .u64))]
abbrev lX:List (Ex×List (Nat×Kd)):=[(.exit 4,[(6,.int .u64),(7,.own 180 (.int .u64)),(8,.list (.int .u64)),(9,.int .i64),(10,.own 180 (.int .u64)),(11,.int .i64),(13,.int .u64),(100000,.ar 180 (.int .u64))])]
def kI(x:Shape.den iK):oS iK lX:=match x with
 | (v6,v7,v8,v9,v10,v11,v13,v14,u00,()) =>
  bif !(ltI v13 1000000000) then
   bif aF (aB .i64 (v9-1)) v8.length then some (.inl (v6,v7,v8,v9,v10,v11,(aB .u64 (v13-1)),(aB .u64 (v14+(v8.getD ((aB .i64 (v9-1)).toNat) 0))),u00,())) else none
  else bif ltI v14 1000000000 then
   bif aF (aB .i64 (v9-2)) v8.length then bif aF (aB .i64 ((aB .i64 (v11+v9))-2)) v7.length then bif Nat.blt ((aB .i64 ((aB .i64 (v11+v9))-2)).toNat) v7.length then bif ltI (aB .u64 ((aB .u64 (v14*1000000000))+(v7.getD ((aB .i64 ((aB .i64 (v11+v9))-2)).toNat) 0))) (aB .u64 (v13*(v8.getD ((aB .i64 (v9-2)).toNat) 0))) then
    bif aF (aB .i64 (v9-1)) v8.length then some (.inl (v6,v7,v8,v9,v10,v11,(aB .u64 (v13-1)),(aB .u64 (v14+(v8.getD ((aB .i64 (v9-1)).toNat) 0))),u00,())) else none
   else some (.inr ((v6,v7,v8,v9,v10,v11,v13,u00,()))) else none else none else none
  else some (.inr ((v6,v7,v8,v9,v10,v11,v13,u00,())))
def pD(x:Shape.den iK):oX lX:=bF kI (2^64) x
abbrev iM:List (Nat×Kd):=[(6,.int .u64),(7,.own 180 (.int .u64)),(8,.list (.int .u64)),(9,.int .i64),(10,.own 180 (.int .u64)),(11,.int .i64),(100000,.ar 180 (.int .u64))]
abbrev lV:List (Ex×List (Nat×Kd)):=[(.exit 2,[(6,.int .u64),(7,.own 180 (.int .u64)),(10,.own 180 (.int .u64)),(100000,.ar 180 (.int .u64))])]
def eF(x:Shape.den iM):oS iM lV:=match x with
 | (v6,v7,v8,v9,v10,v11,u00,()) =>
  bif !(ltI v11 0) then
   bif aF (aB .i64 (v11+v9)) v7.length then bif Nat.blt ((aB .i64 (v11+v9)).toNat) v7.length then bif aF (aB .i64 ((aB .i64 (v11+v9))-1)) v7.length then bif Nat.blt ((aB .i64 ((aB .i64 (v11+v9))-1)).toNat) v7.length then bif aF (aB .i64 (v9-1)) v8.length then bif eqI (v8.getD ((aB .i64 (v9-1)).toNat) 0) 0 then none else bif aF (aB .i64 (v9-1)) v8.length then bif eqI (v8.getD ((aB .i64 (v9-1)).toNat) 0) 0 then none else aC (pD (v6,v7,v8,v9,v10,v11,(aB .u64 ((aB .u64 ((aB .u64 ((v7.getD ((aB .i64 (v11+v9)).toNat) 0)*1000000000))+(v7.getD ((aB .i64 ((aB .i64 (v11+v9))-1)).toNat) 0))).tdiv (v8.getD ((aB .i64 (v9-1)).toNat) 0))),((aB .u64 ((aB .u64 ((v7.getD ((aB .i64 (v11+v9)).toNat) 0)*1000000000))+(v7.getD ((aB .i64 ((aB .i64 (v11+v9))-1)).toNat) 0))).tmod (v8.getD ((aB .i64 (v9-1)).toNat) 0)),u00,())) λz7 =>
   aC (aF9 (t:=(.int .u64)) (rets:=[.bool]) fJ z7.2.1 (z7.2.2.1,z7.2.2.2.2.2.2.1,z7.2.2.2.2.2.1,())) λy8 =>
   bif y8.1.1 then
    aC (WT (t:=(.int .u64)) dM y8.2 (z7.2.2.1,z7.2.2.2.2.2.1,())) λy9 =>
    bif aF z7.2.2.2.2.2.1 z7.2.2.2.2.1.length then bif Nat.blt z7.2.2.2.2.2.1.toNat z7.2.2.2.2.1.length then some (.inl (z7.1,y9,z7.2.2.1,z7.2.2.2.1,(z7.2.2.2.2.1.set z7.2.2.2.2.2.1.toNat (aB .u64 (z7.2.2.2.2.2.2.1-1))),(aB .i64 (z7.2.2.2.2.2.1-1)),z7.2.2.2.2.2.2.2.1,())) else none else none
   else bif aF z7.2.2.2.2.2.1 z7.2.2.2.2.1.length then bif Nat.blt z7.2.2.2.2.2.1.toNat z7.2.2.2.2.1.length then some (.inl (z7.1,y8.2,z7.2.2.1,z7.2.2.2.1,(z7.2.2.2.2.1.set z7.2.2.2.2.2.1.toNat z7.2.2.2.2.2.2.1),(aB .i64 (z7.2.2.2.2.2.1-1)),z7.2.2.2.2.2.2.2.1,())) else none else none else none else none else none else none else none else none
  else some (.inr ((v6,v7,v10,u00,())))
def pH(x:Shape.den iM):oX lV:=bF eF (2^64) x
def iI(u0:Unit)(x:aH [.list (.int .u64),.list (.int .u64)])(A:List (List Int)):Option ((aH [.list (.int .u64),.list (.int .u64)])×List (List Int)):=match x with
 | (v0,v1,()) =>
  bif aF (aB .i64 ((v1.length:Int)-1)) v1.length then bif eqI (aB .u64 ((v1.getD ((aB .i64 ((v1.length:Int)-1)).toNat) 0)+1)) 0 then none else aC (gM () (v0,(aB .u64 ((1000000000:Int).tdiv (aB .u64 ((v1.getD ((aB .i64 ((v1.length:Int)-1)).toNat) 0)+1)))),()) A) λy1 =>
  bif Nat.ble [0].length 1048576 then bif Nat.ble y1.1.length 1048576 then aC (gM () (v1,(aB .u64 ((1000000000:Int).tdiv (aB .u64 ((v1.getD ((aB .i64 ((v1.length:Int)-1)).toNat) 0)+1)))),()) y1.2) λy2 =>
  aC (pE (v0,(aB .u64 ((1000000000:Int).tdiv (aB .u64 ((v1.getD ((aB .i64 ((v1.length:Int)-1)).toNat) 0)+1)))),(y1.1++[0]),y2.1,(y2.1.length:Int),y2.2,())) λz3 =>
  bif !(ltI (aB .i64 ((z3.2.1.length:Int)-z3.2.2.2.1)) 0) then bif !(ltI (aB .i64 ((z3.2.1.length:Int)-z3.2.2.2.1)) (aB .i64 ((z3.2.1.length:Int)-z3.2.2.2.1))) then bif !(ltI 1048576 (aB .i64 ((z3.2.1.length:Int)-z3.2.2.2.1))) then aC (pH (z3.1,z3.2.1,z3.2.2.1,z3.2.2.2.1,(List.replicate ((aB .i64 ((z3.2.1.length:Int)-z3.2.2.2.1)).toNat) 0),(aB .i64 ((aB .i64 ((z3.2.1.length:Int)-z3.2.2.2.1))-1)),z3.2.2.2.2.1,())) λz10 =>
  aC (bL z10.2.1 (()) z10.2.2.2.1) λy11 =>
  aC (gF () (y11.1,z10.1,()) y11.2) λy12 =>
  aC (bL z10.2.2.1 (()) y12.2) λy13 =>
  some ((y13.1,y12.1.1,()),y13.2) else none else none else none else none else none else none
def pX:Code:=dJ f230
abbrev pQ:Env:=MU [] [C7,JT,CV,DE,iF]
theorem rP:gD tP pQ:=l5 trivial ⟨HT,RY,IG,IZ,iS,trivial⟩
def zL:Code:=iC pX 0
def mW:Code:=iC pX 1
def zN:Code:=iC mW 0
def o4(id:Nat):Option dN:=bif Nat.beq id 4 then some ⟨iT,mA,pE⟩ else bif Nat.beq id 12 then some ⟨iK,lX,pD⟩ else bif Nat.beq id 8 then some ⟨iM,lV,pH⟩ else none
theorem P1:∀ x,jW tP pQ 146 (aP f230) o4 zL iT mA x=pJ x:=by
 rintro⟨v0,v6,v7,v8,v9,u00,⟨⟩⟩
 kernel_rfl
theorem RL:eT tP 146 zL ⟨iT,mA,pE⟩:=eZ rP.callee aY.mixed _ (aQ (l:=[]) Y trivial) P1
theorem PG:∀ x,jW tP pQ 146 (aP f230) o4 zN iK lX x=kI x:=by
 rintro⟨v6,v7,v8,v9,v10,v11,v13,v14,u00,⟨⟩⟩
 kernel_rfl
theorem RC:eT tP 146 zN ⟨iK,lX,pD⟩:=eZ rP.callee aY.mixed _ (aQ (l:=[]) Y trivial) PG
theorem PW:∀ x,jW tP pQ 146 (aP f230) o4 mW iM lV x=eF x:=by
 rintro⟨v6,v7,v8,v9,v10,v11,u00,⟨⟩⟩
 kernel_rfl
theorem TD:bG mW=[zN]:=Y
theorem RR:eT tP 146 mW ⟨iM,lV,pH⟩:=eZ rP.callee aY.mixed _ (aQ TD ⟨eY (i:=12) Y rfl RC,trivial⟩) PW
theorem SH:bG pX=[zL,mW]:=Y
theorem T4:∀ l x A,HR tP pQ f230 (aP f230) o4 pX 180 (.int .u64) .none [.list (.int .u64),.list (.int .u64)] (.data [.list (.int .u64),.list (.int .u64)]) l x A=iI l x A:=by
 rintro u0 ⟨v0,v1,⟨⟩⟩ A
 kernel_rfl
theorem WS:MT tP 230 180 (.int .u64) .none [.list (.int .u64),.list (.int .u64)] (.data [.list (.int .u64),.list (.int .u64)]) iI:=zZ aY rP func230 (c:=pX) Y (bZ:=aP f230) (lt:=o4) (by rfl) (aQ SH ⟨eY (i:=4) Y rfl RL,eY (i:=8) Y rfl RR,trivial⟩) T4
abbrev K8:Shr:=(230,QL 0 (arH 180 (.int .u64) .none [.list (.int .u64),.list (.int .u64)] (.data [.list (.int .u64),.list (.int .u64)]) iI))
theorem TB:tQ tP K8:=qE (g:=230) (f:=arH 180 (.int .u64) .none [.list (.int .u64),.list (.int .u64)] (.data [.list (.int .u64),.list (.int .u64)]) iI) (CJ WS)
def fZ(x:aH [.str,.str]):oK [.str]:=match x with
 | (v0,v1,()) =>
  aC (uP (v0,v1,())) λy1 =>
  bif y1.2.2.1 then
   aC (yL ((aB .u64 (y1.1+y1.2.1)),())) λy2 =>
   some (y2.1,())
  else aC (eR () (v0,()) []) λy3 =>
  aC (eR () (v1,()) y3.2) λy4 =>
  bif ltI (y3.1.length:Int) (y4.1.length:Int) then
   bif Nat.ble [0].length 1048576 then bif Nat.ble y4.1.length 1048576 then bif !(ltI (aB .i64 ((aB .i64 (((y4.1++[0]).length:Int)-1))-(y3.1.length:Int))) 0) then bif !(ltI 1048576 (aB .i64 ((aB .i64 (((y4.1++[0]).length:Int)-1))-(y3.1.length:Int)))) then bif Nat.ble y3.1.length 1048576 then aC (WT (t:=(.int .u64)) dM (y4.1++[0]) ((y3.1++List.replicate (aB .i64 ((aB .i64 (((y4.1++[0]).length:Int)-1))-(y3.1.length:Int))).toNat (0:Ty.den (.int .u64))),0,())) λy5 =>
   aC (bL y5 (()) y4.2) λy6 =>
   aC (cX (y6.1,())) λy7 =>
   some (y7.1,()) else none else none else none else none else none
  else bif Nat.ble [0].length 1048576 then bif Nat.ble y3.1.length 1048576 then bif !(ltI (aB .i64 ((aB .i64 (((y3.1++[0]).length:Int)-1))-(y4.1.length:Int))) 0) then bif !(ltI 1048576 (aB .i64 ((aB .i64 (((y3.1++[0]).length:Int)-1))-(y4.1.length:Int)))) then bif Nat.ble y4.1.length 1048576 then aC (WT (t:=(.int .u64)) dM (y3.1++[0]) ((y4.1++List.replicate (aB .i64 ((aB .i64 (((y3.1++[0]).length:Int)-1))-(y4.1.length:Int))).toNat (0:Ty.den (.int .u64))),0,())) λy8 =>
  aC (bL y8 (()) y4.2) λy9 =>
  aC (cX (y9.1,())) λy10 =>
  some (y10.1,()) else none else none else none else none else none
def aAZ:Code:=dJ f181
abbrev aJM:Env:=MU [QW,K4,vC] [E4,C7,iF]
theorem aNV:gD tP aJM:=l5 ⟨NA,JF,vV,trivial⟩ ⟨DZ,HT,iS,trivial⟩
def aGL(id:Nat):Option dN:=none
theorem aK9:bG aAZ=[]:=Y
theorem aNW:∀ x,aGE tP aJM f181 (aP f181) aGL aAZ 180 (.int .u64) _ _ x=fZ x:=by
 rintro⟨v0,v1,⟨⟩⟩
 kernel_rfl
abbrev aVY:Ent:=⟨181,_,_,fZ⟩
theorem aB5:Ent.OK tP aVY:=aKC aY aNV func181 (c:=aAZ) Y (bZ:=aP f181) (lt:=aGL) (aQ aK9 trivial) aNW
def cY(x:aH [.str,.str]):oK [.str,.int .i64]:=match x with
 | (v0,v1,()) =>
  aC (gO (v0,v1,())) λy1 =>
  bif ltI y1.1 0 then
   some ((ByteArray.mk #[]),3,())
  else aC (uP (v0,v1,())) λy2 =>
  bif y2.2.2.1 then
   aC (yL ((aB .u64 (y2.1-y2.2.1)),())) λy3 =>
   some (y3.1,0,())
  else aC (eR () (v0,()) []) λy4 =>
  bif Nat.ble [0].length 1048576 then bif Nat.ble y4.1.length 1048576 then aC (eR () (v1,()) y4.2) λy5 =>
  aC (eR () (v1,()) y5.2) λy6 =>
  bif !(ltI (aB .i64 ((aB .i64 (((y4.1++[0]).length:Int)-1))-(y6.1.length:Int))) 0) then bif !(ltI 1048576 (aB .i64 ((aB .i64 (((y4.1++[0]).length:Int)-1))-(y6.1.length:Int)))) then bif Nat.ble y5.1.length 1048576 then aC (aF9 (t:=(.int .u64)) (rets:=[.bool]) fJ (y4.1++[0]) ((y5.1++List.replicate (aB .i64 ((aB .i64 (((y4.1++[0]).length:Int)-1))-(y6.1.length:Int))).toNat (0:Ty.den (.int .u64))),1,0,())) λy7 =>
  aC (bL y7.2 (()) y6.2) λy8 =>
  aC (cX (y8.1,())) λy9 =>
  some (y9.1,0,()) else none else none else none else none else none
def aBB:Code:=dJ f183
abbrev aI6:Env:=MU [ZD,QW,K4,vC] [E4,DE,iF]
theorem aOF:gD tP aI6:=l5 ⟨KH,NA,JF,vV,trivial⟩ ⟨DZ,IZ,iS,trivial⟩
def aGT(id:Nat):Option dN:=none
theorem aLN:bG aBB=[]:=Y
theorem aOA:∀ x,aGE tP aI6 f183 (aP f183) aGT aBB 180 (.int .u64) _ _ x=cY x:=by
 rintro⟨v0,v1,⟨⟩⟩
 kernel_rfl
abbrev aWF:Ent:=⟨183,_,_,cY⟩
theorem aB9:Ent.OK tP aWF:=aKC aY aOF func183 (c:=aBB) Y (bZ:=aP f183) (lt:=aGT) (aQ aLN trivial) aOA
def gA(x:aH [.str,.str]):oK [.str]:=match x with
 | (v0,v1,()) =>
  bif !(ltI 18 (aB .i64 ((v0.size:Int)+(v1.size:Int)))) then
   aC (uP (v0,v1,())) λy1 =>
   aC (yL ((aB .u64 (y1.1*y1.2.1)),())) λy2 =>
   some (y2.1,())
  else aC (eR () (v0,()) []) λy3 =>
  aC (eR () (v1,()) y3.2) λy4 =>
  aC (fO () (y3.1,y4.1,()) y4.2) λy5 =>
  aC (cX (y5.1,())) λy6 =>
  some (y6.1,())
def aAL:Code:=dJ f184
abbrev aJ1:Env:=MU [QW,K4,vC] [E4,BV]
theorem aNT:gD tP aJ1:=l5 ⟨NA,JF,vV,trivial⟩ ⟨DZ,GO,trivial⟩
def aGN(id:Nat):Option dN:=none
theorem aL5:bG aAL=[]:=Y
theorem aN5:∀ x,aGE tP aJ1 f184 (aP f184) aGN aAL 180 (.int .u64) _ _ x=gA x:=by
 rintro⟨v0,v1,⟨⟩⟩
 kernel_rfl
abbrev aWS:Ent:=⟨184,_,_,gA⟩
theorem aN1:Ent.OK tP aWS:=aKC aY aNT func184 (c:=aAL) Y (bZ:=aP f184) (lt:=aGN) (aQ aL5 trivial) aN5
def qI(x:aH [.str,.str]):oK [.str,.str,.int .i64]:=match x with
 | (v0,v1,()) =>
  bif eqS v1 (ByteArray.mk #[48]) then
   some ((ByteArray.mk #[]),(ByteArray.mk #[]),17,())
  else aC (uP (v0,v1,())) λy1 =>
  bif y1.2.2.1 then
   bif eqI y1.2.1 0 then none else aC (yL ((aB .u64 (y1.1.tdiv y1.2.1)),())) λy2 =>
   bif eqI y1.2.1 0 then none else aC (yL ((y1.1.tmod y1.2.1),())) λy3 =>
   some (y2.1,y3.1,0,())
  else aC (eR () (v0,()) []) λy4 =>
  aC (eR () (v1,()) y4.2) λy5 =>
  aC (vT (y4.1,y5.1,())) λy6 =>
  bif ltI y6.1 0 then
   some ((ByteArray.mk #[48]),v0,0,())
  else bif eqI (y5.1.length:Int) 1 then
   bif aF 0 y5.1.length then bif Nat.blt 0 y5.1.length then aC (gF () (y4.1,(y5.1.getD 0 0),()) y5.2) λy7 =>
   aC (cX (y7.1.1,())) λy8 =>
   aC (yL (y7.1.2.1,())) λy9 =>
   some (y8.1,y9.1,0,()) else none else none
  else aC (iI () (y4.1,y5.1,()) y5.2) λy10 =>
  aC (cX (y10.1.1,())) λy11 =>
  aC (cX (y10.1.2.1,())) λy12 =>
  some (y11.1,y12.1,0,())
def SN:Code:=dJ f205
abbrev aB6:Env:=MU [QW,K4,L3,vC] [E4,K8,CV]
theorem aHL:gD tP aB6:=l5 ⟨NA,JF,U1,vV,trivial⟩ ⟨DZ,TB,IG,trivial⟩
def Z1(id:Nat):Option dN:=none
theorem aF2:bG SN=[]:=Y
theorem aHA:∀ x,aGE tP aB6 f205 (aP f205) Z1 SN 180 (.int .u64) _ _ x=qI x:=by
 rintro⟨v0,v1,⟨⟩⟩
 kernel_rfl
abbrev aOE:Ent:=⟨205,_,_,qI⟩
theorem aG5:Ent.OK tP aOE:=aKC aY aHL func205 (c:=SN) Y (bZ:=aP f205) (lt:=Z1) (aQ aF2 trivial) aHA
def aBZ(x:aH [.str,.str]):oK [.str]:=match x with
 | (v0,v1,()) =>
  aC (uJ (v0,18,())) λy1 =>
  bif y1.2.1 then
   aC (uJ (v1,18,())) λy2 =>
   bif y2.2.1 then
    aC (qY ((aB .i64 (y1.1+y2.1)),())) λy3 =>
    some (y3.1,())
   else aC (cT (v0,())) λy4 =>
   aC (cT (v1,())) λy5 =>
   bif y4.1 then
    bif y5.1 then
     aC (fZ (y4.2.1,y5.2.1,())) λy6 =>
     aC (aA (y4.1,y6.1,())) λy7 =>
     some (y7.1,())
    else aC (gO (y4.2.1,y5.2.1,())) λy8 =>
    bif ltI y8.1 0 then
     aC (cY (y5.2.1,y4.2.1,())) λy9 =>
     aC (aA (y5.1,y9.1,())) λy10 =>
     some (y10.1,())
    else aC (cY (y4.2.1,y5.2.1,())) λy11 =>
    aC (aA (y4.1,y11.1,())) λy12 =>
    some (y12.1,())
   else bif y5.1 then
    aC (gO (y4.2.1,y5.2.1,())) λy13 =>
    bif ltI y13.1 0 then
     aC (cY (y5.2.1,y4.2.1,())) λy14 =>
     aC (aA (y5.1,y14.1,())) λy15 =>
     some (y15.1,())
    else aC (cY (y4.2.1,y5.2.1,())) λy16 =>
    aC (aA (y4.1,y16.1,())) λy17 =>
    some (y17.1,())
   else aC (fZ (y4.2.1,y5.2.1,())) λy18 =>
   aC (aA (y4.1,y18.1,())) λy19 =>
   some (y19.1,())
  else aC (cT (v0,())) λy20 =>
  aC (cT (v1,())) λy21 =>
  bif y20.1 then
   bif y21.1 then
    aC (fZ (y20.2.1,y21.2.1,())) λy22 =>
    aC (aA (y20.1,y22.1,())) λy23 =>
    some (y23.1,())
   else aC (gO (y20.2.1,y21.2.1,())) λy24 =>
   bif ltI y24.1 0 then
    aC (cY (y21.2.1,y20.2.1,())) λy25 =>
    aC (aA (y21.1,y25.1,())) λy26 =>
    some (y26.1,())
   else aC (cY (y20.2.1,y21.2.1,())) λy27 =>
   aC (aA (y20.1,y27.1,())) λy28 =>
   some (y28.1,())
  else bif y21.1 then
   aC (gO (y20.2.1,y21.2.1,())) λy29 =>
   bif ltI y29.1 0 then
    aC (cY (y21.2.1,y20.2.1,())) λy30 =>
    aC (aA (y21.1,y30.1,())) λy31 =>
    some (y31.1,())
   else aC (cY (y20.2.1,y21.2.1,())) λy32 =>
   aC (aA (y20.1,y32.1,())) λy33 =>
   some (y33.1,())
  else aC (fZ (y20.2.1,y21.2.1,())) λy34 =>
  aC (aA (y20.1,y34.1,())) λy35 =>
  some (y35.1,())
abbrev a2P:Ent:=⟨135,_,_,aBZ⟩
theorem aSB:Ent.OK tP a2P:=oI (aO (oV aB5 (oV KH (oV aB9 (oV M6 (oV OA (oV O5 (oV AR oW)))))))) func135 Y (by rintro⟨v0,v1,⟨⟩⟩; kernel_rfl)
def U2(x:aH [.str,.str]):oK [.str]:=match x with
 | (v0,v1,()) =>
  aC (UY (v1,())) λy1 =>
  aC (aBZ (v0,y1.1,())) λy2 =>
  some (y2.1,())
abbrev aH1:Ent:=⟨206,_,_,U2⟩
theorem aGI:Ent.OK tP aH1:=oI (aO (oV aSB (oV aGM oW))) func206 Y (by rintro⟨v0,v1,⟨⟩⟩; kernel_rfl)
def U4(x:aH [.str,.str]):oK [.str]:=match x with
 | (v0,v1,()) =>
  aC (uJ (v0,9,())) λy1 =>
  bif y1.2.1 then
   aC (uJ (v1,9,())) λy2 =>
   bif y2.2.1 then
    aC (qY ((aB .i64 (y1.1*y2.1)),())) λy3 =>
    some (y3.1,())
   else aC (cT (v0,())) λy4 =>
   aC (cT (v1,())) λy5 =>
   bif y4.1 then
    bif y5.1 then
     aC (gA (y4.2.1,y5.2.1,())) λy6 =>
     aC (aA (false,y6.1,())) λy7 =>
     some (y7.1,())
    else aC (gA (y4.2.1,y5.2.1,())) λy8 =>
    aC (aA (true,y8.1,())) λy9 =>
    some (y9.1,())
   else bif y5.1 then
    aC (gA (y4.2.1,y5.2.1,())) λy10 =>
    aC (aA (true,y10.1,())) λy11 =>
    some (y11.1,())
   else aC (gA (y4.2.1,y5.2.1,())) λy12 =>
   aC (aA (false,y12.1,())) λy13 =>
   some (y13.1,())
  else aC (cT (v0,())) λy14 =>
  aC (cT (v1,())) λy15 =>
  bif y14.1 then
   bif y15.1 then
    aC (gA (y14.2.1,y15.2.1,())) λy16 =>
    aC (aA (false,y16.1,())) λy17 =>
    some (y17.1,())
   else aC (gA (y14.2.1,y15.2.1,())) λy18 =>
   aC (aA (true,y18.1,())) λy19 =>
   some (y19.1,())
  else bif y15.1 then
   aC (gA (y14.2.1,y15.2.1,())) λy20 =>
   aC (aA (true,y20.1,())) λy21 =>
   some (y21.1,())
  else aC (gA (y14.2.1,y15.2.1,())) λy22 =>
  aC (aA (false,y22.1,())) λy23 =>
  some (y23.1,())
abbrev aHT:Ent:=⟨136,_,_,U4⟩
theorem aGJ:Ent.OK tP aHT:=oI (aO (oV aN1 (oV M6 (oV OA (oV O5 (oV AR oW)))))) func136 Y (by rintro⟨v0,v1,⟨⟩⟩; kernel_rfl)
def FG(x:aH [.str,.str]):oK [.str,.str,.int .i64]:=match x with
 | (v0,v1,()) =>
  bif eqS v1 (ByteArray.mk #[48]) then
   some ((ByteArray.mk #[]),(ByteArray.mk #[]),17,())
  else aC (uJ (v0,18,())) λy1 =>
  bif y1.2.1 then
   aC (uJ (v1,18,())) λy2 =>
   bif y2.2.1 then
    bif eqI y2.1 0 then none else bif eqI y2.1 0 then none else bif !(eqI (y1.1.tmod y2.1) 0) then
     bif ltI (y1.1.tmod y2.1) 0 then
      bif ltI y2.1 0 then
       aC (qY ((aB .i64 (y1.1.tdiv y2.1)),())) λy3 =>
       aC (qY ((y1.1.tmod y2.1),())) λy4 =>
       some (y3.1,y4.1,0,())
      else aC (qY ((aB .i64 ((aB .i64 (y1.1.tdiv y2.1))-1)),())) λy5 =>
      aC (qY ((aB .i64 ((y1.1.tmod y2.1)+y2.1)),())) λy6 =>
      some (y5.1,y6.1,0,())
     else bif ltI y2.1 0 then
      aC (qY ((aB .i64 ((aB .i64 (y1.1.tdiv y2.1))-1)),())) λy7 =>
      aC (qY ((aB .i64 ((y1.1.tmod y2.1)+y2.1)),())) λy8 =>
      some (y7.1,y8.1,0,())
     else aC (qY ((aB .i64 (y1.1.tdiv y2.1)),())) λy9 =>
     aC (qY ((y1.1.tmod y2.1),())) λy10 =>
     some (y9.1,y10.1,0,())
    else aC (qY ((aB .i64 (y1.1.tdiv y2.1)),())) λy11 =>
    aC (qY ((y1.1.tmod y2.1),())) λy12 =>
    some (y11.1,y12.1,0,())
   else aC (cT (v0,())) λy13 =>
   aC (cT (v1,())) λy14 =>
   aC (qI (y13.2.1,y14.2.1,())) λy15 =>
   bif !(eqI y15.2.2.1 0) then
    some ((ByteArray.mk #[]),(ByteArray.mk #[]),y15.2.2.1,())
   else bif y13.1 then
    bif y14.1 then
     bif y13.1 then
      bif y14.1 then
       aC (aA (false,y15.1,())) λy16 =>
       aC (aA (y14.1,y15.2.1,())) λy17 =>
       some (y16.1,y17.1,0,())
      else aC (aA (true,y15.1,())) λy18 =>
      aC (aA (y14.1,y15.2.1,())) λy19 =>
      some (y18.1,y19.1,0,())
     else bif y14.1 then
      aC (aA (true,y15.1,())) λy20 =>
      aC (aA (y14.1,y15.2.1,())) λy21 =>
      some (y20.1,y21.1,0,())
     else aC (aA (false,y15.1,())) λy22 =>
     aC (aA (y14.1,y15.2.1,())) λy23 =>
     some (y22.1,y23.1,0,())
    else bif !(eqS y15.2.1 (ByteArray.mk #[48])) then
     aC (fZ (y15.1,(ByteArray.mk #[49]),())) λy24 =>
     aC (cY (y14.2.1,y15.2.1,())) λy25 =>
     bif y13.1 then
      bif y14.1 then
       aC (aA (false,y24.1,())) λy26 =>
       aC (aA (y14.1,y25.1,())) λy27 =>
       some (y26.1,y27.1,0,())
      else aC (aA (true,y24.1,())) λy28 =>
      aC (aA (y14.1,y25.1,())) λy29 =>
      some (y28.1,y29.1,0,())
     else bif y14.1 then
      aC (aA (true,y24.1,())) λy30 =>
      aC (aA (y14.1,y25.1,())) λy31 =>
      some (y30.1,y31.1,0,())
     else aC (aA (false,y24.1,())) λy32 =>
     aC (aA (y14.1,y25.1,())) λy33 =>
     some (y32.1,y33.1,0,())
    else bif y13.1 then
     bif y14.1 then
      aC (aA (false,y15.1,())) λy34 =>
      aC (aA (y14.1,y15.2.1,())) λy35 =>
      some (y34.1,y35.1,0,())
     else aC (aA (true,y15.1,())) λy36 =>
     aC (aA (y14.1,y15.2.1,())) λy37 =>
     some (y36.1,y37.1,0,())
    else bif y14.1 then
     aC (aA (true,y15.1,())) λy38 =>
     aC (aA (y14.1,y15.2.1,())) λy39 =>
     some (y38.1,y39.1,0,())
    else aC (aA (false,y15.1,())) λy40 =>
    aC (aA (y14.1,y15.2.1,())) λy41 =>
    some (y40.1,y41.1,0,())
   else bif y14.1 then
    bif !(eqS y15.2.1 (ByteArray.mk #[48])) then
     aC (fZ (y15.1,(ByteArray.mk #[49]),())) λy42 =>
     aC (cY (y14.2.1,y15.2.1,())) λy43 =>
     bif y13.1 then
      bif y14.1 then
       aC (aA (false,y42.1,())) λy44 =>
       aC (aA (y14.1,y43.1,())) λy45 =>
       some (y44.1,y45.1,0,())
      else aC (aA (true,y42.1,())) λy46 =>
      aC (aA (y14.1,y43.1,())) λy47 =>
      some (y46.1,y47.1,0,())
     else bif y14.1 then
      aC (aA (true,y42.1,())) λy48 =>
      aC (aA (y14.1,y43.1,())) λy49 =>
      some (y48.1,y49.1,0,())
     else aC (aA (false,y42.1,())) λy50 =>
     aC (aA (y14.1,y43.1,())) λy51 =>
     some (y50.1,y51.1,0,())
    else bif y13.1 then
     bif y14.1 then
      aC (aA (false,y15.1,())) λy52 =>
      aC (aA (y14.1,y15.2.1,())) λy53 =>
      some (y52.1,y53.1,0,())
     else aC (aA (true,y15.1,())) λy54 =>
     aC (aA (y14.1,y15.2.1,())) λy55 =>
     some (y54.1,y55.1,0,())
    else bif y14.1 then
     aC (aA (true,y15.1,())) λy56 =>
     aC (aA (y14.1,y15.2.1,())) λy57 =>
     some (y56.1,y57.1,0,())
    else aC (aA (false,y15.1,())) λy58 =>
    aC (aA (y14.1,y15.2.1,())) λy59 =>
    some (y58.1,y59.1,0,())
   else bif y13.1 then
    bif y14.1 then
     aC (aA (false,y15.1,())) λy60 =>
     aC (aA (y14.1,y15.2.1,())) λy61 =>
     some (y60.1,y61.1,0,())
    else aC (aA (true,y15.1,())) λy62 =>
    aC (aA (y14.1,y15.2.1,())) λy63 =>
    some (y62.1,y63.1,0,())
   else bif y14.1 then
    aC (aA (true,y15.1,())) λy64 =>
    aC (aA (y14.1,y15.2.1,())) λy65 =>
    some (y64.1,y65.1,0,())
   else aC (aA (false,y15.1,())) λy66 =>
   aC (aA (y14.1,y15.2.1,())) λy67 =>
   some (y66.1,y67.1,0,())
  else aC (cT (v0,())) λy68 =>
  aC (cT (v1,())) λy69 =>
  aC (qI (y68.2.1,y69.2.1,())) λy70 =>
  bif !(eqI y70.2.2.1 0) then
   some ((ByteArray.mk #[]),(ByteArray.mk #[]),y70.2.2.1,())
  else bif y68.1 then
   bif y69.1 then
    bif y68.1 then
     bif y69.1 then
      aC (aA (false,y70.1,())) λy71 =>
      aC (aA (y69.1,y70.2.1,())) λy72 =>
      some (y71.1,y72.1,0,())
     else aC (aA (true,y70.1,())) λy73 =>
     aC (aA (y69.1,y70.2.1,())) λy74 =>
     some (y73.1,y74.1,0,())
    else bif y69.1 then
     aC (aA (true,y70.1,())) λy75 =>
     aC (aA (y69.1,y70.2.1,())) λy76 =>
     some (y75.1,y76.1,0,())
    else aC (aA (false,y70.1,())) λy77 =>
    aC (aA (y69.1,y70.2.1,())) λy78 =>
    some (y77.1,y78.1,0,())
   else bif !(eqS y70.2.1 (ByteArray.mk #[48])) then
    aC (fZ (y70.1,(ByteArray.mk #[49]),())) λy79 =>
    aC (cY (y69.2.1,y70.2.1,())) λy80 =>
    bif y68.1 then
     bif y69.1 then
      aC (aA (false,y79.1,())) λy81 =>
      aC (aA (y69.1,y80.1,())) λy82 =>
      some (y81.1,y82.1,0,())
     else aC (aA (true,y79.1,())) λy83 =>
     aC (aA (y69.1,y80.1,())) λy84 =>
     some (y83.1,y84.1,0,())
    else bif y69.1 then
     aC (aA (true,y79.1,())) λy85 =>
     aC (aA (y69.1,y80.1,())) λy86 =>
     some (y85.1,y86.1,0,())
    else aC (aA (false,y79.1,())) λy87 =>
    aC (aA (y69.1,y80.1,())) λy88 =>
    some (y87.1,y88.1,0,())
   else bif y68.1 then
    bif y69.1 then
     aC (aA (false,y70.1,())) λy89 =>
     aC (aA (y69.1,y70.2.1,())) λy90 =>
     some (y89.1,y90.1,0,())
    else aC (aA (true,y70.1,())) λy91 =>
    aC (aA (y69.1,y70.2.1,())) λy92 =>
    some (y91.1,y92.1,0,())
   else bif y69.1 then
    aC (aA (true,y70.1,())) λy93 =>
    aC (aA (y69.1,y70.2.1,())) λy94 =>
    some (y93.1,y94.1,0,())
   else aC (aA (false,y70.1,())) λy95 =>
   aC (aA (y69.1,y70.2.1,())) λy96 =>
   some (y95.1,y96.1,0,())
  else bif y69.1 then
   bif !(eqS y70.2.1 (ByteArray.mk #[48])) then
    aC (fZ (y70.1,(ByteArray.mk #[49]),())) λy97 =>
    aC (cY (y69.2.1,y70.2.1,())) λy98 =>
    bif y68.1 then
     bif y69.1 then
      aC (aA (false,y97.1,())) λy99 =>
      aC (aA (y69.1,y98.1,())) λy100 =>
      some (y99.1,y100.1,0,())
     else aC (aA (true,y97.1,())) λy101 =>
     aC (aA (y69.1,y98.1,())) λy102 =>
     some (y101.1,y102.1,0,())
    else bif y69.1 then
     aC (aA (true,y97.1,())) λy103 =>
     aC (aA (y69.1,y98.1,())) λy104 =>
     some (y103.1,y104.1,0,())
    else aC (aA (false,y97.1,())) λy105 =>
    aC (aA (y69.1,y98.1,())) λy106 =>
    some (y105.1,y106.1,0,())
   else bif y68.1 then
    bif y69.1 then
     aC (aA (false,y70.1,())) λy107 =>
     aC (aA (y69.1,y70.2.1,())) λy108 =>
     some (y107.1,y108.1,0,())
    else aC (aA (true,y70.1,())) λy109 =>
    aC (aA (y69.1,y70.2.1,())) λy110 =>
    some (y109.1,y110.1,0,())
   else bif y69.1 then
    aC (aA (true,y70.1,())) λy111 =>
    aC (aA (y69.1,y70.2.1,())) λy112 =>
    some (y111.1,y112.1,0,())
   else aC (aA (false,y70.1,())) λy113 =>
   aC (aA (y69.1,y70.2.1,())) λy114 =>
   some (y113.1,y114.1,0,())
  else bif y68.1 then
   bif y69.1 then
    aC (aA (false,y70.1,())) λy115 =>
    aC (aA (y69.1,y70.2.1,())) λy116 =>
    some (y115.1,y116.1,0,())
   else aC (aA (true,y70.1,())) λy117 =>
   aC (aA (y69.1,y70.2.1,())) λy118 =>
   some (y117.1,y118.1,0,())
  else bif y69.1 then
   aC (aA (true,y70.1,())) λy119 =>
   aC (aA (y69.1,y70.2.1,())) λy120 =>
   some (y119.1,y120.1,0,())
  else aC (aA (false,y70.1,())) λy121 =>
  aC (aA (y69.1,y70.2.1,())) λy122 =>
  some (y121.1,y122.1,0,())
abbrev XY:Ent:=⟨165,_,_,FG⟩
theorem Z0:Ent.OK tP XY:=oI (aO (oV aB5 (oV aG5 (oV aB9 (oV M6 (oV OA (oV O5 (oV AR oW)))))))) func165 Y (by rintro⟨v0,v1,⟨⟩⟩; kernel_rfl)
abbrev sV:List (Nat×Kd):=[(3,.own 110 .str),(9,.list TyE),(10,.int .i64),(11,.int .i64)]
abbrev xO:List (Ex×List (Nat×Kd)):=[(.exit 0,[(3,.own 110 .str)])]
def tH(x:Shape.den sV):oS sV xO:=match x with
 | (v3,v9,v10,v11,()) =>
  bif ltI v11 v10 then
   bif aF v11 v9.length then aC (qY ((v9.getD v11.toNat 0),())) λy2 =>
   bif Nat.ble [y2.1].length 1048576 then bif Nat.ble v3.length 1048576 then some (.inl ((v3++[y2.1]),v9,v10,(aB .i64 (v11+1)),())) else none else none else none
  else some (.inr ((v3,())))
def zO(x:Shape.den sV):oX xO:=bF tH (2^64) x
def rK(x:aH [.list TyE]):Option (List ByteArray):=match x with
 | (v0,()) =>
  bif !(ltI (v0.length:Int) 0) then bif !(ltI 1048576 (v0.length:Int)) then aC (zO ((List.replicate 0 ByteArray.empty),v0,(v0.length:Int),0,())) λz3 =>
  some z3.1 else none else none
def JA:Code:=dJ f119
abbrev O3:Env:=LY [aT0]
theorem SW:gD tP O3:=aO ⟨M6,trivial⟩
def LP:Code:=iC JA 0
def NI(id:Nat):Option dN:=bif Nat.beq id 3 then some ⟨sV,xO,zO⟩ else none
theorem aBJ:∀ x,jW tP O3 22 (aP f119) NI LP sV xO x=tH x:=by
 rintro⟨v3,v9,v10,v11,⟨⟩⟩
 kernel_rfl
theorem aCS:eT tP 22 LP ⟨sV,xO,zO⟩:=eZ SW.callee aY.mixed _ (aQ (l:=[]) Y trivial) aBJ
theorem aEL:bG JA=[LP]:=Y
theorem aF4:∀ x,aRG tP O3 f119 (aP f119) NI JA [.list TyE] 2 110 .str x=rK x:=by
 rintro⟨v0,⟨⟩⟩
 kernel_rfl
theorem aJ0:aMQ tP 119 [.list TyE] 110 .str rK:=aKB aY SW func119 (c:=JA) Y (bZ:=aP f119) (lt:=NI) (t:=2) Y (aQ aEL ⟨eY (i:=3) Y rfl aCS,trivial⟩) aF4
abbrev JO:Shr:=(119,a2B [.list TyE] 110 .str rK)
theorem KA:tQ tP JO:=aJK aJ0
abbrev mN:List (Nat×Kd):=[(0,.hnd 1),(1,.str),(10,.hnd 1),(11,.int .i64),(12,.int .i64),(100000,.ar 110 .str)]
abbrev rG:List (Ex×List (Nat×Kd)):=[(.exit 0,[(100000,.ar 110 .str)])]
def n8(x:Shape.den mN):oS mN rG:=match x with
 | (v0,v1,v10,v11,v12,u00,()) =>
  bif ltI v12 v11 then
   bif aF v12 v10.2.2 then bif Nat.blt ((v10.2.1+v12.toNat)*1) (cI u00 v10.1) then bif aF v12 v0.2.2 then bif Nat.blt ((v0.2.1+v12.toNat)*1) (cI u00 v0.1) then aC (U4 (v1,(cS u00 v10.1 ((v10.2.1+v12.toNat)*1) ByteArray.empty),())) λy3 =>
   aC (U2 ((cS u00 v0.1 ((v0.2.1+v12.toNat)*1) ByteArray.empty),y3.1,())) λy4 =>
   bif aF v12 v0.2.2 then bif Nat.blt ((v0.2.1+v12.toNat)*1) (cI u00 v0.1) then some (.inl ((v0.1,v0.2.1,v0.2.2),v1,(v10.1,v10.2.1,v10.2.2),v11,(aB .i64 (v12+1)),(wQ u00 v0.1 ((v0.2.1+v12.toNat)*1) y4.1),())) else none else none else none else none else none else none
  else some (.inr ((u00,())))
def tC(x:Shape.den mN):oX rG:=bF n8 (2^64) x
def gW(u0:Unit)(x:aH [.hnd 1,.str,.hnd 1])(A:List (List ByteArray)):Option ((aH [])×List (List ByteArray)):=match x with
 | (v0,v1,v2,()) =>
  bif eqS v1 (ByteArray.mk #[48]) then
   some ((()),A)
  else aC (tC ((v0.1,v0.2.1,v0.2.2),v1,(v2.1,v2.2.1,v2.2.2),((v2.2.2:Nat):Int),0,A,())) λz5 =>
  some ((()),z5.1)
def A6:Code:=dJ f166
abbrev IE:Env:=LY [aHT,aH1]
theorem LX:gD tP IE:=aO ⟨aGJ,aGI,trivial⟩
def EK:Code:=iC A6 0
def FZ(id:Nat):Option dN:=bif Nat.beq id 2 then some ⟨mN,rG,tC⟩ else none
theorem UX:∀ x,jW tP IE 29 (aP f166) FZ EK mN rG x=n8 x:=by
 rintro⟨v0,v1,v10,v11,v12,u00,⟨⟩⟩
 kernel_rfl
theorem WH:eT tP 29 EK ⟨mN,rG,tC⟩:=eZ LX.callee aY.mixed _ (aQ (l:=[]) Y trivial) UX
theorem X0:bG A6=[EK]:=Y
theorem ZI:∀ l x A,HR tP IE f166 (aP f166) FZ A6 110 .str .none [.hnd 1,.str,.hnd 1] (.data []) l x A=gW l x A:=by
 rintro u0 ⟨v0,v1,v2,⟨⟩⟩ A
 kernel_rfl
theorem aCP:MT tP 166 110 .str .none [.hnd 1,.str,.hnd 1] (.data []) gW:=zZ aY LX func166 (c:=A6) Y (bZ:=aP f166) (lt:=FZ) (by rfl) (aQ X0 ⟨eY (i:=2) Y rfl WH,trivial⟩) ZI
abbrev Q5:Shr:=(166,QL 0 (arH 110 .str .none [.hnd 1,.str,.hnd 1] (.data []) gW))
theorem ZV:tQ tP Q5:=qE (g:=166) (f:=arH 110 .str .none [.hnd 1,.str,.hnd 1] (.data []) gW) (CJ aCP)
abbrev mM:List (Nat×Kd):=[(0,.hnd 1),(1,.str),(10,.list .str),(11,.int .i64),(12,.int .i64),(100000,.ar 110 .str)]
abbrev qZ:List (Ex×List (Nat×Kd)):=[(.exit 0,[(100000,.ar 110 .str)])]
def JZ(x:Shape.den mM):oS mM qZ:=match x with
 | (v0,v1,v10,v11,v12,u00,()) =>
  bif ltI v12 v11 then
   bif aF v12 v10.length then bif aF v12 v0.2.2 then bif Nat.blt ((v0.2.1+v12.toNat)*1) (cI u00 v0.1) then aC (U4 (v1,(v10.getD v12.toNat ByteArray.empty),())) λy3 =>
   aC (U2 ((cS u00 v0.1 ((v0.2.1+v12.toNat)*1) ByteArray.empty),y3.1,())) λy4 =>
   bif aF v12 v0.2.2 then bif Nat.blt ((v0.2.1+v12.toNat)*1) (cI u00 v0.1) then some (.inl ((v0.1,v0.2.1,v0.2.2),v1,v10,v11,(aB .i64 (v12+1)),(wQ u00 v0.1 ((v0.2.1+v12.toNat)*1) y4.1),())) else none else none else none else none else none
  else some (.inr ((u00,())))
def AI(x:Shape.den mM):oX qZ:=bF JZ (2^64) x
def vD(u0:Unit)(x:aH [.hnd 1,.str,.list .str])(A:List (List ByteArray)):Option ((aH [])×List (List ByteArray)):=match x with
 | (v0,v1,v2,()) =>
  bif eqS v1 (ByteArray.mk #[48]) then
   some ((()),A)
  else aC (AI ((v0.1,v0.2.1,v0.2.2),v1,v2,(v2.length:Int),0,A,())) λz5 =>
  some ((()),z5.1)
def A0:Code:=dJ f166
abbrev H8:Env:=LY [aHT,aH1]
theorem MB:gD tP H8:=aO ⟨aGJ,aGI,trivial⟩
def D4:Code:=iC A0 0
def FO(id:Nat):Option dN:=bif Nat.beq id 2 then some ⟨mM,qZ,AI⟩ else none
theorem U9:∀ x,jW tP H8 29 (aP f166) FO D4 mM qZ x=JZ x:=by
 rintro⟨v0,v1,v10,v11,v12,u00,⟨⟩⟩
 kernel_rfl
theorem WM:eT tP 29 D4 ⟨mM,qZ,AI⟩:=eZ MB.callee aY.mixed _ (aQ (l:=[]) Y trivial) U9
theorem X6:bG A0=[D4]:=Y
theorem Z4:∀ l x A,HR tP H8 f166 (aP f166) FO A0 110 .str .none [.hnd 1,.str,.list .str] (.data []) l x A=vD l x A:=by
 rintro u0 ⟨v0,v1,v2,⟨⟩⟩ A
 kernel_rfl
theorem aCU:MT tP 166 110 .str .none [.hnd 1,.str,.list .str] (.data []) vD:=zZ aY MB func166 (c:=A0) Y (bZ:=aP f166) (lt:=FO) (by rfl) (aQ X6 ⟨eY (i:=2) Y rfl WM,trivial⟩) Z4
theorem aBG:aT9 tP 166 110 .str [.str,.list .str] (WT vD):=aFD aCU (by rfl) (by rfl)
abbrev ON:Shr:=(166,QL 1 (a2O 110 .str [.str,.list .str] (WT vD)))
theorem YO:tQ tP ON:=qE (aOI aBG)
abbrev kO:List (Nat×Kd):=[(0,.hnd 1),(4,.hnd 1),(5,.int .i64),(6,.int .i64),(100000,.ar 110 .str)]
abbrev nY:List (Ex×List (Nat×Kd)):=[(.exit 0,[(100000,.ar 110 .str)])]
def l4(x:Shape.den kO):oS kO nY:=match x with
 | (v0,v4,v5,v6,u00,()) =>
  bif ltI v6 v5 then
   bif aF v6 v4.2.2 then bif Nat.blt ((v4.2.1+v6.toNat)*1) (cI u00 v4.1) then aC (UY ((cS u00 v4.1 ((v4.2.1+v6.toNat)*1) ByteArray.empty),())) λy2 =>
   bif aF v6 v0.2.2 then bif Nat.blt ((v0.2.1+v6.toNat)*1) (cI u00 v0.1) then some (.inl ((v0.1,v0.2.1,v0.2.2),(v4.1,v4.2.1,v4.2.2),v5,(aB .i64 (v6+1)),(wQ u00 v0.1 ((v0.2.1+v6.toNat)*1) y2.1),())) else none else none else none else none
  else some (.inr ((u00,())))
def rQ(x:Shape.den kO):oX nY:=bF l4 (2^64) x
def eB(u0:Unit)(x:aH [.hnd 1])(A:List (List ByteArray)):Option ((aH [])×List (List ByteArray)):=match x with
 | (v0,()) =>
  aC (rQ ((v0.1,v0.2.1,v0.2.2),(v0.1,v0.2.1,v0.2.2),((v0.2.2:Nat):Int),0,A,())) λz3 =>
  some ((()),z3.1)
def xZ:Code:=dJ f168
abbrev ER:Env:=LY [aP9]
theorem J3:gD tP ER:=aO ⟨aGM,trivial⟩
def BI:Code:=iC xZ 0
def CP(id:Nat):Option dN:=bif Nat.beq id 1 then some ⟨kO,nY,rQ⟩ else none
theorem R6:∀ x,jW tP ER 17 (aP f168) CP BI kO nY x=l4 x:=by
 rintro⟨v0,v4,v5,v6,u00,⟨⟩⟩
 kernel_rfl
theorem TZ:eT tP 17 BI ⟨kO,nY,rQ⟩:=eZ J3.callee aY.mixed _ (aQ (l:=[]) Y trivial) R6
theorem UQ:bG xZ=[BI]:=Y
theorem WQ:∀ l x A,HR tP ER f168 (aP f168) CP xZ 110 .str .none [.hnd 1] (.data []) l x A=eB l x A:=by
 rintro u0 ⟨v0,⟨⟩⟩ A
 kernel_rfl
theorem Y4:MT tP 168 110 .str .none [.hnd 1] (.data []) eB:=zZ aY J3 func168 (c:=xZ) Y (bZ:=aP f168) (lt:=CP) (by rfl) (aQ UQ ⟨eY (i:=1) Y rfl TZ,trivial⟩) WQ
abbrev M7:Shr:=(168,QL 0 (arH 110 .str .none [.hnd 1] (.data []) eB))
theorem WX:tQ tP M7:=qE (g:=168) (f:=arH 110 .str .none [.hnd 1] (.data []) eB) (CJ Y4)
def AX(x:aH [.str]):oK [.bool]:=match x with
 | (v0,()) =>
  some (!(eqS v0 (ByteArray.mk #[48])),())
abbrev QP:Ent:=⟨209,_,_,AX⟩
theorem MA:Ent.OK tP QP:=oI (aO oW) func209 Y (by rintro⟨v0,⟨⟩⟩; kernel_rfl)
abbrev kW:List (Nat×Kd):=[(0,.list .str),(1,.fn 209),(7,.int .i64),(8,.int .i64)]
abbrev sF:List (Ex×List (Nat×Kd)):=[(.ret,[(4,.int .i64)]),(.exit 0,[])]
def CG(x:Shape.den kW):oS kW sF:=match x with
 | (v0,v1,v7,v8,()) =>
  bif ltI v8 v7 then
   bif aF v8 v0.length then aC (AX ((v0.getD v8.toNat ByteArray.empty),())) λy2 =>
   bif y2.1 then
    some (.inr (.inl (v8,())))
   else some (.inl (v0,(),v7,(aB .i64 (v8+1)),())) else none
  else some (.inr (.inr ((()))))
def rJ(x:Shape.den kW):oX sF:=bF CG (2^64) x
def uG(x:aH [.list .str,.fn 209]):oK [.int .i64]:=match x with
 | (v0,v1,()) =>
  aC (rJ (v0,(),(v0.length:Int),0,())) λz3 =>
  xJ z3 (λa4=>some (a4.1,())) λb5 =>
  some ((-1),())
abbrev G7:Ent:=⟨208,_,_,uG⟩
theorem D5:Ent.OK tP G7:=oU (aO (oV MA oW)) func208 2 (lp:=rJ) rfl Y (by rintro⟨v0,v1,v7,v8,⟨⟩⟩; kernel_rfl) (by rintro⟨v0,v1,⟨⟩⟩; kernel_rfl)
def D6(x:aH [.list .str]):oK [.int .i64]:=match x with
 | (v0,()) =>
  aC (uG (v0,(),())) λy1 =>
  some (y1.1,())
abbrev U3:Ent:=⟨169,_,_,D6⟩
theorem OU:Ent.OK tP U3:=oI (aO (oV D5 oW)) func169 Y (by rintro⟨v0,⟨⟩⟩; kernel_rfl)
abbrev cH:List (Nat×Kd):=[(0,.hnd 1),(1,.fn 209),(7,.int .i64),(8,.int .i64),(100000,.ar 110 .str)]
abbrev dC:List (Ex×List (Nat×Kd)):=[(.ret,[(4,.int .i64),(100000,.ar 110 .str)]),(.exit 0,[(100000,.ar 110 .str)])]
def bN(x:Shape.den cH):oS cH dC:=match x with
 | (v0,v1,v7,v8,u00,()) =>
  bif ltI v8 v7 then
   bif aF v8 v0.2.2 then bif Nat.blt ((v0.2.1+v8.toNat)*1) (cI u00 v0.1) then aC (AX ((cS u00 v0.1 ((v0.2.1+v8.toNat)*1) ByteArray.empty),())) λy2 =>
   bif y2.1 then
    some (.inr (.inl (v8,u00,())))
   else some (.inl ((v0.1,v0.2.1,v0.2.2),(),v7,(aB .i64 (v8+1)),u00,())) else none else none
  else some (.inr (.inr ((u00,()))))
def cU(x:Shape.den cH):oX dC:=bF bN (2^64) x
def cA(u0:Unit)(x:aH [.hnd 1,.fn 209])(A:List (List ByteArray)):Option ((aH [.int .i64])×List (List ByteArray)):=match x with
 | (v0,v1,()) =>
  aC (cU ((v0.1,v0.2.1,v0.2.2),(),((v0.2.2:Nat):Int),0,A,())) λz3 =>
  xJ z3 (λa4=>some ((a4.1,()),a4.2.1)) λb5 =>
  some (((-1),()),b5.1)
def fY:Code:=dJ f208
abbrev lT:Env:=LY [QP]
theorem rZ:gD tP lT:=aO ⟨MA,trivial⟩
def kX:Code:=iC fY 0
def lB(id:Nat):Option dN:=bif Nat.beq id 2 then some ⟨cH,dC,cU⟩ else none
theorem BR:∀ x,jW tP lT 19 (aP f208) lB kX cH dC x=bN x:=by
 rintro⟨v0,v1,v7,v8,u00,⟨⟩⟩
 kernel_rfl
theorem B4:eT tP 19 kX ⟨cH,dC,cU⟩:=eZ rZ.callee aY.mixed _ (aQ (l:=[]) Y trivial) BR
theorem C8:bG fY=[kX]:=Y
theorem DI:∀ l x A,HR tP lT f208 (aP f208) lB fY 110 .str .none [.hnd 1,.fn 209] (.data [.int .i64]) l x A=cA l x A:=by
 rintro u0 ⟨v0,v1,⟨⟩⟩ A
 kernel_rfl
theorem FB:MT tP 208 110 .str .none [.hnd 1,.fn 209] (.data [.int .i64]) cA:=zZ aY rZ func208 (c:=fY) Y (bZ:=aP f208) (lt:=lB) (by rfl) (aQ C8 ⟨eY (i:=2) Y rfl B4,trivial⟩) DI
abbrev tM:Shr:=(208,QL 0 (arH 110 .str .none [.hnd 1,.fn 209] (.data [.int .i64]) cA))
theorem DM:tQ tP tM:=qE (g:=208) (f:=arH 110 .str .none [.hnd 1,.fn 209] (.data [.int .i64]) cA) (CJ FB)
def kE(u0:Unit) (x:aH [.hnd 1]) (A:List (List ByteArray)):Option ((aH [.int .i64])×List (List ByteArray)):=match x with
 | (v0,()) =>
  aC (cA () ((v0.1,v0.2.1,v0.2.2),(),()) A) λy1 =>
  some ((y1.1.1,()),y1.2)
def HG:Code:=dJ f169
abbrev RP:Env:=MU [] [tM]
theorem YY:gD tP RP:=l5 trivial ⟨DM,trivial⟩
def OW(id:Nat):Option dN:=none
theorem XX:bG HG=[]:=Y
theorem ZT:∀ l x A,HR tP RP f169 (aP f169) OW HG 110 .str .none [.hnd 1] (.data [.int .i64]) l x A=kE l x A:=by
 rintro u0 ⟨v0,⟨⟩⟩ A
 kernel_rfl
theorem aCH:MT tP 169 110 .str .none [.hnd 1] (.data [.int .i64]) kE:=zZ aY YY func169 (c:=HG) Y (bZ:=aP f169) (lt:=OW) (by rfl) (aQ XX trivial) ZT
abbrev QS:Shr:=(169,QL 0 (arH 110 .str .none [.hnd 1] (.data [.int .i64]) kE))
theorem Z2:tQ tP QS:=qE (g:=169) (f:=arH 110 .str .none [.hnd 1] (.data [.int .i64]) kE) (CJ aCH)
abbrev lK:List (Nat×Kd):=[(4,.own 3 TyE),(12,.hnd 1),(13,.int .i64),(14,.int .i64),(100000,.ar 110 .str)]
abbrev pT:List (Ex×List (Nat×Kd)):=[(.ret,[(2,.list TyE),(3,.int .i64),(100000,.ar 110 .str)]),(.exit 0,[(4,.own 3 TyE),(100000,.ar 110 .str)])]
def jI(x:Shape.den lK):oS lK pT:=match x with
 | (v4,v12,v13,v14,u00,()) =>
  bif ltI v14 v13 then
   bif aF v14 v12.2.2 then bif Nat.blt ((v12.2.1+v14.toNat)*1) (cI u00 v12.1) then aC (JD ((cS u00 v12.1 ((v12.2.1+v14.toNat)*1) ByteArray.empty),())) λy2 =>
   bif y2.2.1 then
    bif ltI 1000000000 y2.1 then
     some (.inr (.inl ([],4,u00,())))
    else bif ltI y2.1 (-1000000000) then
     some (.inr (.inl ([],4,u00,())))
    else bif Nat.ble [y2.1].length 1048576 then bif Nat.ble v4.length 1048576 then some (.inl ((v4++[y2.1]),(v12.1,v12.2.1,v12.2.2),v13,(aB .i64 (v14+1)),u00,())) else none else none
   else some (.inr (.inl ([],4,u00,()))) else none else none
  else some (.inr (.inr ((v4,u00,()))))
def sK(x:Shape.den lK):oX pT:=bF jI (2^64) x
def lS(u0:Unit)(x:aH [.hnd 1])(A:List (List ByteArray)):Option ((aH [.list TyE,.int .i64])×List (List ByteArray)):=match x with
 | (v0,()) =>
  bif !(ltI ((v0.2.2:Nat):Int) 0) then bif !(ltI 1048576 ((v0.2.2:Nat):Int)) then aC (sK ((List.replicate 0 0),(v0.1,v0.2.1,v0.2.2),((v0.2.2:Nat):Int),0,A,())) λz3 =>
  xJ z3 (λa4=>some ((a4.1,a4.2.1,()),a4.2.2.1)) λb5 =>
  some ((b5.1,0,()),b5.2.1) else none else none
def zP:Code:=dJ f170
abbrev GF:Env:=LY [aKN]
theorem KV:gD tP GF:=aO ⟨aN8,trivial⟩
def CS:Code:=iC zP 0
def D3(id:Nat):Option dN:=bif Nat.beq id 3 then some ⟨lK,pT,sK⟩ else none
theorem TK:∀ x,jW tP GF 39 (aP f170) D3 CS lK pT x=jI x:=by
 rintro⟨v4,v12,v13,v14,u00,⟨⟩⟩
 kernel_rfl
theorem WA:eT tP 39 CS ⟨lK,pT,sK⟩:=eZ KV.callee aY.mixed _ (aQ (l:=[]) Y trivial) TK
theorem WJ:bG zP=[CS]:=Y
theorem X9:∀ l x A,HR tP GF f170 (aP f170) D3 zP 110 .str .none [.hnd 1] (.data [.list TyE,.int .i64]) l x A=lS l x A:=by
 rintro u0 ⟨v0,⟨⟩⟩ A
 kernel_rfl
theorem aAE:MT tP 170 110 .str .none [.hnd 1] (.data [.list TyE,.int .i64]) lS:=zZ aY KV func170 (c:=zP) Y (bZ:=aP f170) (lt:=D3) (by rfl) (aQ WJ ⟨eY (i:=3) Y rfl WA,trivial⟩) X9
abbrev OQ:Shr:=(170,QL 0 (arH 110 .str .none [.hnd 1] (.data [.list TyE,.int .i64]) lS))
theorem YR:tQ tP OQ:=qE (g:=170) (f:=arH 110 .str .none [.hnd 1] (.data [.list TyE,.int .i64]) lS) (CJ aAE)
abbrev nU:List (Nat×Kd):=[(3,.own 148 (.hnd 1)),(6,.list TyD),(7,.int .i64),(8,.int .i64),(100000,.ar 110 .str)]
abbrev sO:List (Ex×List (Nat×Kd)):=[(.exit 0,[(3,.own 148 (.hnd 1)),(100000,.ar 110 .str)])]
def eA(x:Shape.den nU):oS nU sO:=match x with
 | (v3,v6,v7,v8,u00,()) =>
  bif ltI v8 v7 then
   bif aF v8 v6.length then aC (rK ((v6.getD v8.toNat []),())) λy2 =>
   bif Nat.ble [(u00.length,0,y2.length)].length 1048576 then bif Nat.ble v3.length 1048576 then some (.inl ((v3++[(u00.length,0,y2.length)]),v6,v7,(aB .i64 (v8+1)),(u00++[y2]),())) else none else none else none
  else some (.inr ((v3,u00,())))
def p8(x:Shape.den nU):oX sO:=bF eA (2^64) x
def cV(u0:Unit)(x:aH [.list TyD])(A:List (List ByteArray)):Option ((List (Nat×Nat×Nat))×List (List ByteArray)):=match x with
 | (v0,()) =>
  aC (p8 ([],v0,(v0.length:Int),0,A,())) λz3 =>
  some (z3.1,z3.2.1)
def B8:Code:=dJ f129
abbrev J8:Env:=MU [] [JO]
theorem N6:gD tP J8:=l5 trivial ⟨KA,trivial⟩
def FK:Code:=iC B8 0
def IF(id:Nat):Option dN:=bif Nat.beq id 3 then some ⟨nU,sO,p8⟩ else none
theorem W3:∀ x,jW tP J8 19 (aP f129) IF FK nU sO x=eA x:=by
 rintro⟨v3,v6,v7,v8,u00,⟨⟩⟩
 kernel_rfl
theorem X5:eT tP 19 FK ⟨nU,sO,p8⟩:=eZ N6.callee aY.mixed _ (aQ (l:=[]) Y trivial) W3
theorem YZ:bG B8=[FK]:=Y
theorem aBM:∀ l x A,HR tP J8 f129 (aP f129) IF B8 110 .str .none [.list TyD] (.own 148 (.hnd 1)) l x A=cV l x A:=by
 rintro u0 ⟨v0,⟨⟩⟩ A
 kernel_rfl
theorem aDM:MT tP 129 110 .str .none [.list TyD] (.own 148 (.hnd 1)) cV:=zZ aY N6 func129 (c:=B8) Y (bZ:=aP f129) (lt:=IF) (by rfl) (aQ YZ ⟨eY (i:=3) Y rfl X5,trivial⟩) aBM
abbrev xI:Shr:=(129,QL 0 (arH 110 .str .none [.list TyD] (.own 148 (.hnd 1)) cV))
theorem yE:tQ tP xI:=qE (g:=129) (f:=arH 110 .str .none [.list TyD] (.own 148 (.hnd 1)) cV) (CJ aDM)
abbrev jG:List (Nat×Kd):=[(0,.own 148 (.hnd 1)),(1,.int .i64),(5,.int .i64),(6,.int .i64),(7,.int .i64),(8,.int .i64),(100000,.ar 110 .str)]
abbrev nF:List (Ex×List (Nat×Kd)):=[(.exit 4,[(0,.own 148 (.hnd 1)),(1,.int .i64),(5,.int .i64),(6,.int .i64),(7,.int .i64),(100000,.ar 110 .str)])]
def dQ(x:Shape.den jG):oS jG nF:=match x with
 | (v0,v1,v5,v6,v7,v8,u00,()) =>
  bif ltI v8 (v0.length:Int) then
   bif aF v8 v0.length then bif Nat.blt v8.toNat v0.length then bif aF v6 ((v0.getD v8.toNat (0,0,0)).2.2) then bif Nat.blt (((v0.getD v8.toNat (0,0,0)).2.1+v6.toNat)*1) (cI u00 ((v0.getD v8.toNat (0,0,0)).1)) then bif !(eqS (cS u00 ((v0.getD v8.toNat (0,0,0)).1) (((v0.getD v8.toNat (0,0,0)).2.1+v6.toNat)*1) ByteArray.empty) (ByteArray.mk #[48])) then
    bif ltI v7 0 then
     some (.inl (v0,v1,v5,v6,v8,(aB .i64 (v8+1)),u00,()))
    else bif aF v8 v0.length then bif Nat.blt v8.toNat v0.length then bif aF v6 ((v0.getD v8.toNat (0,0,0)).2.2) then bif Nat.blt (((v0.getD v8.toNat (0,0,0)).2.1+v6.toNat)*1) (cI u00 ((v0.getD v8.toNat (0,0,0)).1)) then aC (WC ((cS u00 ((v0.getD v8.toNat (0,0,0)).1) (((v0.getD v8.toNat (0,0,0)).2.1+v6.toNat)*1) ByteArray.empty),())) λy4 =>
    bif aF v7 v0.length then bif Nat.blt v7.toNat v0.length then bif aF v6 ((v0.getD v7.toNat (0,0,0)).2.2) then bif Nat.blt (((v0.getD v7.toNat (0,0,0)).2.1+v6.toNat)*1) (cI u00 ((v0.getD v7.toNat (0,0,0)).1)) then aC (WC ((cS u00 ((v0.getD v7.toNat (0,0,0)).1) (((v0.getD v7.toNat (0,0,0)).2.1+v6.toNat)*1) ByteArray.empty),())) λy5 =>
    aC (MY (y4.1,y5.1,())) λy6 =>
    bif ltI y6.1 0 then
     some (.inl (v0,v1,v5,v6,v8,(aB .i64 (v8+1)),u00,()))
    else some (.inl (v0,v1,v5,v6,v7,(aB .i64 (v8+1)),u00,())) else none else none else none else none else none else none else none else none
   else some (.inl (v0,v1,v5,v6,v7,(aB .i64 (v8+1)),u00,())) else none else none else none else none
  else some (.inr ((v0,v1,v5,v6,v7,u00,())))
def gR(x:Shape.den jG):oX nF:=bF dQ (2^64) x
abbrev jS:List (Nat×Kd):=[(0,.own 148 (.hnd 1)),(1,.int .i64),(5,.int .i64),(6,.int .i64),(9,.bool),(10,.int .i64),(100000,.ar 110 .str)]
abbrev mZ:List (Ex×List (Nat×Kd)):=[(.exit 6,[(0,.own 148 (.hnd 1)),(1,.int .i64),(5,.int .i64),(6,.int .i64),(9,.bool),(100000,.ar 110 .str)])]
def eS(x:Shape.den jS):oS jS mZ:=match x with
 | (v0,v1,v5,v6,v9,v10,u00,()) =>
  bif ltI v10 (v0.length:Int) then
   bif aF v10 v0.length then bif Nat.blt v10.toNat v0.length then bif aF v6 ((v0.getD v10.toNat (0,0,0)).2.2) then bif Nat.blt (((v0.getD v10.toNat (0,0,0)).2.1+v6.toNat)*1) (cI u00 ((v0.getD v10.toNat (0,0,0)).1)) then bif aF v5 v0.length then bif Nat.blt v5.toNat v0.length then bif aF v6 ((v0.getD v5.toNat (0,0,0)).2.2) then bif Nat.blt (((v0.getD v5.toNat (0,0,0)).2.1+v6.toNat)*1) (cI u00 ((v0.getD v5.toNat (0,0,0)).1)) then aC (FG ((cS u00 ((v0.getD v10.toNat (0,0,0)).1) (((v0.getD v10.toNat (0,0,0)).2.1+v6.toNat)*1) ByteArray.empty),(cS u00 ((v0.getD v5.toNat (0,0,0)).1) (((v0.getD v5.toNat (0,0,0)).2.1+v6.toNat)*1) ByteArray.empty),())) λy10 =>
   bif aF v10 v0.length then bif Nat.blt v10.toNat v0.length then bif aF v5 v0.length then bif Nat.blt v5.toNat v0.length then aC (gW () (((v0.getD v10.toNat (0,0,0)).1,(v0.getD v10.toNat (0,0,0)).2.1,(v0.getD v10.toNat (0,0,0)).2.2),y10.1,((v0.getD v5.toNat (0,0,0)).1,(v0.getD v5.toNat (0,0,0)).2.1,(v0.getD v5.toNat (0,0,0)).2.2),()) u00) λy11 =>
   bif v9 then
    some (.inl (v0,v1,v5,v6,true,(aB .i64 (v10+1)),y11.2,()))
   else some (.inl (v0,v1,v5,v6,!(eqS y10.2.1 (ByteArray.mk #[48])),(aB .i64 (v10+1)),y11.2,())) else none else none else none else none else none else none else none else none else none else none else none else none
  else some (.inr ((v0,v1,v5,v6,v9,u00,())))
def qC(x:Shape.den jS):oX mZ:=bF eS (2^64) x
abbrev jE:List (Nat×Kd):=[(0,.own 148 (.hnd 1)),(1,.int .i64),(5,.int .i64),(6,.int .i64),(142,.int .i64),(143,.int .i64),(100000,.ar 110 .str)]
abbrev mS:List (Ex×List (Nat×Kd)):=[(.exit 8,[(0,.own 148 (.hnd 1)),(1,.int .i64),(5,.int .i64),(6,.int .i64),(100000,.ar 110 .str)])]
def dP(x:Shape.den jE):oS jE mS:=match x with
 | (v0,v1,v5,v6,v142,v143,u00,()) =>
  bif ltI v143 v142 then
   bif aF v143 v0.length then bif Nat.blt v143.toNat v0.length then bif aF v6 ((v0.getD v143.toNat (0,0,0)).2.2) then bif Nat.blt (((v0.getD v143.toNat (0,0,0)).2.1+v6.toNat)*1) (cI u00 ((v0.getD v143.toNat (0,0,0)).1)) then bif aF v5 v0.length then bif Nat.blt v5.toNat v0.length then bif aF v6 ((v0.getD v5.toNat (0,0,0)).2.2) then bif Nat.blt (((v0.getD v5.toNat (0,0,0)).2.1+v6.toNat)*1) (cI u00 ((v0.getD v5.toNat (0,0,0)).1)) then aC (FG ((cS u00 ((v0.getD v143.toNat (0,0,0)).1) (((v0.getD v143.toNat (0,0,0)).2.1+v6.toNat)*1) ByteArray.empty),(cS u00 ((v0.getD v5.toNat (0,0,0)).1) (((v0.getD v5.toNat (0,0,0)).2.1+v6.toNat)*1) ByteArray.empty),())) λy17 =>
   bif aF v143 v0.length then bif Nat.blt v143.toNat v0.length then bif aF v5 v0.length then bif Nat.blt v5.toNat v0.length then aC (gW () (((v0.getD v143.toNat (0,0,0)).1,(v0.getD v143.toNat (0,0,0)).2.1,(v0.getD v143.toNat (0,0,0)).2.2),y17.1,((v0.getD v5.toNat (0,0,0)).1,(v0.getD v5.toNat (0,0,0)).2.1,(v0.getD v5.toNat (0,0,0)).2.2),()) u00) λy18 =>
   some (.inl (v0,v1,v5,v6,v142,(aB .i64 (v143+1)),y18.2,())) else none else none else none else none else none else none else none else none else none else none else none else none
  else some (.inr ((v0,v1,v5,v6,u00,())))
def bQ(x:Shape.den jE):oX mS:=bF dP (2^64) x
abbrev jJ:List (Nat×Kd):=[(0,.own 148 (.hnd 1)),(1,.int .i64),(5,.int .i64),(6,.int .i64),(100000,.ar 110 .str)]
abbrev nH:List (Ex×List (Nat×Kd)):=[(.exit 2,[(0,.own 148 (.hnd 1)),(1,.int .i64),(5,.int .i64),(6,.int .i64),(100000,.ar 110 .str)])]
def aX(x:Shape.den jJ):oS jJ nH:=match x with
 | (v0,v1,v5,v6,u00,()) =>
  aC (gR (v0,v1,v5,v6,(-1),v5,u00,())) λz21 =>
  bif ltI z21.2.2.2.2.1 0 then
   some (.inr ((z21.1,z21.2.1,z21.2.2.1,z21.2.2.2.1,z21.2.2.2.2.2.1,())))
  else bif aF z21.2.2.2.2.1 z21.1.length then bif Nat.blt z21.2.2.2.2.1.toNat z21.1.length then bif aF z21.2.2.1 z21.1.length then bif Nat.blt z21.2.2.1.toNat z21.1.length then bif aF z21.2.2.1 z21.1.length then bif Nat.blt z21.2.2.1.toNat z21.1.length then bif aF z21.2.2.2.2.1 (z21.1.set z21.2.2.1.toNat ((z21.1.getD z21.2.2.2.2.1.toNat (0,0,0)).1,(z21.1.getD z21.2.2.2.2.1.toNat (0,0,0)).2.1,(z21.1.getD z21.2.2.2.2.1.toNat (0,0,0)).2.2)).length then bif Nat.blt z21.2.2.2.2.1.toNat (z21.1.set z21.2.2.1.toNat ((z21.1.getD z21.2.2.2.2.1.toNat (0,0,0)).1,(z21.1.getD z21.2.2.2.2.1.toNat (0,0,0)).2.1,(z21.1.getD z21.2.2.2.2.1.toNat (0,0,0)).2.2)).length then aC (qC (((z21.1.set z21.2.2.1.toNat ((z21.1.getD z21.2.2.2.2.1.toNat (0,0,0)).1,(z21.1.getD z21.2.2.2.2.1.toNat (0,0,0)).2.1,(z21.1.getD z21.2.2.2.2.1.toNat (0,0,0)).2.2)).set z21.2.2.2.2.1.toNat ((z21.1.getD z21.2.2.1.toNat (0,0,0)).1,(z21.1.getD z21.2.2.1.toNat (0,0,0)).2.1,(z21.1.getD z21.2.2.1.toNat (0,0,0)).2.2)),z21.2.1,z21.2.2.1,z21.2.2.2.1,false,(aB .i64 (z21.2.2.1+1)),z21.2.2.2.2.2.1,())) λz22 =>
  bif z22.2.2.2.2.1 then
   some (.inl (z22.1,z22.2.1,z22.2.2.1,z22.2.2.2.1,z22.2.2.2.2.2.1,()))
  else bif aF z22.2.2.1 z22.1.length then bif Nat.blt z22.2.2.1.toNat z22.1.length then bif aF z22.2.2.2.1 ((z22.1.getD z22.2.2.1.toNat (0,0,0)).2.2) then bif Nat.blt (((z22.1.getD z22.2.2.1.toNat (0,0,0)).2.1+z22.2.2.2.1.toNat)*1) (cI z22.2.2.2.2.2.1 ((z22.1.getD z22.2.2.1.toNat (0,0,0)).1)) then aC (DV ((cS z22.2.2.2.2.2.1 ((z22.1.getD z22.2.2.1.toNat (0,0,0)).1) (((z22.1.getD z22.2.2.1.toNat (0,0,0)).2.1+z22.2.2.2.1.toNat)*1) ByteArray.empty),())) λy23 =>
  bif ltI y23.1 0 then
   bif aF z22.2.2.1 z22.1.length then bif Nat.blt z22.2.2.1.toNat z22.1.length then aC (eB () (((z22.1.getD z22.2.2.1.toNat (0,0,0)).1,(z22.1.getD z22.2.2.1.toNat (0,0,0)).2.1,(z22.1.getD z22.2.2.1.toNat (0,0,0)).2.2),()) z22.2.2.2.2.2.1) λy24 =>
   aC (bQ (z22.1,z22.2.1,z22.2.2.1,z22.2.2.2.1,z22.2.2.1,0,y24.2,())) λz25 =>
   some (.inr ((z25.1,z25.2.1,(aB .i64 (z25.2.2.1+1)),z25.2.2.2.1,z25.2.2.2.2.1,()))) else none else none
  else aC (bQ (z22.1,z22.2.1,z22.2.2.1,z22.2.2.2.1,z22.2.2.1,0,z22.2.2.2.2.2.1,())) λz26 =>
  some (.inr ((z26.1,z26.2.1,(aB .i64 (z26.2.2.1+1)),z26.2.2.2.1,z26.2.2.2.2.1,()))) else none else none else none else none else none else none else none else none else none else none else none else none
def eQ(x:Shape.den jJ):oX nH:=bF aX (2^64) x
abbrev jP:List (Nat×Kd):=[(0,.own 148 (.hnd 1)),(1,.int .i64),(5,.int .i64),(6,.int .i64),(100000,.ar 110 .str)]
abbrev nK:List (Ex×List (Nat×Kd)):=[(.exit 0,[(0,.own 148 (.hnd 1)),(5,.int .i64),(100000,.ar 110 .str)])]
def bT(x:Shape.den jP):oS jP nK:=match x with
 | (v0,v1,v5,v6,u00,()) =>
  bif ltI v6 v1 then
   bif ltI v5 (v0.length:Int) then
    aC (eQ (v0,v1,v5,v6,u00,())) λz28 =>
    some (.inl (z28.1,z28.2.1,z28.2.2.1,(aB .i64 (z28.2.2.2.1+1)),z28.2.2.2.2.1,()))
   else some (.inr ((v0,v5,u00,())))
  else some (.inr ((v0,v5,u00,())))
def kZ(x:Shape.den jP):oX nK:=bF bT (2^64) x
def cF(v0:List (Nat×Nat×Nat))(x:aH [.int .i64])(A:List (List ByteArray)):Option ((List (Nat×Nat×Nat))×List (List ByteArray)):=match x with
 | (v1,()) =>
  aC (kZ (v0,v1,0,0,A,())) λz29 =>
  bif Nat.beq z29.1.length 0 then
   bif !(ltI z29.2.1 0) then bif Nat.beq z29.2.1.toNat 0 then some (z29.1,z29.2.2.1) else none else none
  else bif !(ltI z29.2.1 0) then bif Nat.ble 0 z29.2.1.toNat then bif Nat.ble z29.2.1.toNat z29.1.length then bif Nat.blt 0 z29.1.length then some (z29.1.take (z29.2.1.toNat-0),z29.2.2.1) else none else none else none else none
def vZ:Code:=dJ f121
abbrev jL:Env:=MU [aP3,aDF,XY,aNN] [Q5,M7]
theorem jV:gD tP jL:=l5 ⟨aR6,aKA,Z0,aD2,trivial⟩ ⟨ZV,WX,trivial⟩
def nX:Code:=iC vZ 0
def gL:Code:=iC nX 0
def AJ:Code:=iC gL 0
def AL:Code:=iC gL 1
def AB:Code:=iC gL 2
def iE(id:Nat):Option dN:=bif Nat.beq id 7 then some ⟨jG,nF,gR⟩ else bif Nat.beq id 15 then some ⟨jS,mZ,qC⟩ else bif Nat.beq id 24 then some ⟨jE,mS,bQ⟩ else bif Nat.beq id 5 then some ⟨jJ,nH,eQ⟩ else bif Nat.beq id 3 then some ⟨jP,nK,kZ⟩ else none
theorem QK:∀ x,jW tP jL 181 (aP f121) iE AJ jG nF x=dQ x:=by
 rintro⟨v0,v1,v5,v6,v7,v8,u00,⟨⟩⟩
 kernel_rfl
theorem SG:eT tP 181 AJ ⟨jG,nF,gR⟩:=eZ jV.callee aY.mixed _ (aQ (l:=[]) Y trivial) QK
theorem Q0:∀ x,jW tP jL 181 (aP f121) iE AL jS mZ x=eS x:=by
 rintro⟨v0,v1,v5,v6,v9,v10,u00,⟨⟩⟩
 kernel_rfl
theorem R3:eT tP 181 AL ⟨jS,mZ,qC⟩:=eZ jV.callee aY.mixed _ (aQ (l:=[]) Y trivial) Q0
theorem RB:∀ x,jW tP jL 181 (aP f121) iE AB jE mS x=dP x:=by
 rintro⟨v0,v1,v5,v6,v142,v143,u00,⟨⟩⟩
 kernel_rfl
theorem SS:eT tP 181 AB ⟨jE,mS,bQ⟩:=eZ jV.callee aY.mixed _ (aQ (l:=[]) Y trivial) RB
theorem RA:∀ x,jW tP jL 181 (aP f121) iE gL jJ nH x=aX x:=by
 rintro⟨v0,v1,v5,v6,u00,⟨⟩⟩
 kernel_rfl
theorem VT:bG gL=[AJ,AL,AB]:=Y
theorem R1:eT tP 181 gL ⟨jJ,nH,eQ⟩:=eZ jV.callee aY.mixed _ (aQ VT ⟨eY (i:=7) Y rfl SG,eY (i:=15) Y rfl R3,eY (i:=24) Y rfl SS,trivial⟩) RA
theorem RN:∀ x,jW tP jL 181 (aP f121) iE nX jP nK x=bT x:=by
 rintro⟨v0,v1,v5,v6,u00,⟨⟩⟩
 kernel_rfl
theorem VH:bG nX=[gL]:=Y
theorem SC:eT tP 181 nX ⟨jP,nK,kZ⟩:=eZ jV.callee aY.mixed _ (aQ VH ⟨eY (i:=5) Y rfl R1,trivial⟩) RN
theorem TF:bG vZ=[nX]:=Y
theorem UW:∀ l x A,HR tP jL f121 (aP f121) iE vZ 110 .str (.own 148 (.hnd 1)) [.int .i64] (.own 148 (.hnd 1)) l x A=cF l x A:=by
 rintro u0 ⟨v1,⟨⟩⟩ A
 kernel_rfl
theorem YF:MT tP 121 110 .str (.own 148 (.hnd 1)) [.int .i64] (.own 148 (.hnd 1)) cF:=zZ aY jV func121 (c:=vZ) Y (bZ:=aP f121) (lt:=iE) (by rfl) (aQ TF ⟨eY (i:=3) Y rfl SC,trivial⟩) UW
abbrev mL:Shr:=(121,QL 1 (arH 110 .str (.own 148 (.hnd 1)) [.int .i64] (.own 148 (.hnd 1)) cF))
theorem nJ:tQ tP mL:=qE (g:=121) (f:=arH 110 .str (.own 148 (.hnd 1)) [.int .i64] (.own 148 (.hnd 1)) cF) (CJ YF)
def aL4(x:aH [.int .i64]):oK [.bool]:=match x with
 | (v0,()) =>
  bif !(ltI v0 (-1000000000)) then
   some (!(ltI 1000000000 v0),())
  else some (false,())
abbrev a6R:Ent:=⟨146,_,_,aL4⟩
theorem aU5:Ent.OK tP a6R:=oI (aO oW) func146 Y (by rintro⟨v0,⟨⟩⟩; kernel_rfl)
def aAY(x:aH [.int .i64]):oK [.bool]:=match x with
 | (v0,()) =>
  aC (aL4 (v0,())) λy1 =>
  bif y1.1 then
   some (false,())
  else some (true,())
abbrev aXG:Ent:=⟨145,_,_,aAY⟩
theorem aNR:Ent.OK tP aXG:=oI (aO (oV aU5 oW)) func145 Y (by rintro⟨v0,⟨⟩⟩; kernel_rfl)
abbrev rU:List (Nat×Kd):=[(0,.list TyE),(1,.fn 145),(7,.int .i64),(8,.int .i64)]
abbrev zY:List (Ex×List (Nat×Kd)):=[(.ret,[(4,.int .i64)]),(.exit 0,[])]
def fN(x:Shape.den rU):oS rU zY:=match x with
 | (v0,v1,v7,v8,()) =>
  bif ltI v8 v7 then
   bif aF v8 v0.length then aC (aAY ((v0.getD v8.toNat 0),())) λy2 =>
   bif y2.1 then
    some (.inr (.inl (v8,())))
   else some (.inl (v0,(),v7,(aB .i64 (v8+1)),())) else none
  else some (.inr (.inr ((()))))
def pS(x:Shape.den rU):oX zY:=bF fN (2^64) x
def tZ(x:aH [.list TyE,.fn 145]):oK [.int .i64]:=match x with
 | (v0,v1,()) =>
  aC (pS (v0,(),(v0.length:Int),0,())) λz3 =>
  xJ z3 (λa4=>some (a4.1,())) λb5 =>
  some ((-1),())
abbrev PR:Ent:=⟨197,_,_,tZ⟩
theorem MJ:Ent.OK tP PR:=oU (aO (oV aNR oW)) func197 2 (lp:=pS) rfl Y (by rintro⟨v0,v1,v7,v8,⟨⟩⟩; kernel_rfl) (by rintro⟨v0,v1,⟨⟩⟩; kernel_rfl)
def rY(x:aH [.list TyE,.fn 145]):oK [.bool]:=match x with
 | (v0,v1,()) =>
  aC (tZ (v0,(),())) λy1 =>
  some (!(ltI y1.1 0),())
abbrev MO:Ent:=⟨144,_,_,rY⟩
theorem KE:Ent.OK tP MO:=oI (aO (oV MJ oW)) func144 Y (by rintro⟨v0,v1,⟨⟩⟩; kernel_rfl)
def VD(x:aH [.list TyE]):oK [.int .i64]:=match x with
 | (v0,()) =>
  bif ltI 64 (v0.length:Int) then
   some (4,())
  else aC (rY (v0,(),())) λy1 =>
  bif y1.1 then
   some (4,())
  else some (0,())
abbrev a1J:Ent:=⟨103,_,_,VD⟩
theorem aSQ:Ent.OK tP a1J:=oI (aO (oV KE oW)) func103 Y (by rintro⟨v0,⟨⟩⟩; kernel_rfl)
abbrev PT:List (Nat×Kd):=[(1,.int .i64),(8,.list TyD),(9,.int .i64),(10,.int .i64)]
abbrev ZO:List (Ex×List (Nat×Kd)):=[(.ret,[(4,.int .i64)]),(.exit 0,[])]
def zK(x:Shape.den PT):oS PT ZO:=match x with
 | (v1,v8,v9,v10,()) =>
  bif ltI v10 v9 then
   bif aF v10 v8.length then aC (VD ((v8.getD v10.toNat []),())) λy2 =>
   bif !(eqI y2.1 0) then
    some (.inr (.inl (y2.1,())))
   else bif !(eqI ((v8.getD v10.toNat []).length:Int) v1) then
    some (.inr (.inl (5,())))
   else some (.inl (v1,v8,v9,(aB .i64 (v10+1)),())) else none
  else some (.inr (.inr ((()))))
def LQ(x:Shape.den PT):oX ZO:=bF zK (2^64) x
def P3(x:aH [.list TyD,.int .i64]):oK [.int .i64]:=match x with
 | (v0,v1,()) =>
  aC (LQ (v1,v0,(v0.length:Int),0,())) λz3 =>
  xJ z3 (λa4=>some (a4.1,())) λb5 =>
  some (0,())
abbrev aS1:Ent:=⟨177,_,_,P3⟩
theorem aLG:Ent.OK tP aS1:=oU (aO (oV aSQ oW)) func177 2 (lp:=LQ) rfl Y (by rintro⟨v1,v8,v9,v10,⟨⟩⟩; kernel_rfl) (by rintro⟨v0,v1,⟨⟩⟩; kernel_rfl)
def HW(x:aH [.int .i64,.list TyD]):oK [.int .i64]:=match x with
 | (v0,v1,()) =>
  bif ltI v0 0 then
   some (3,())
  else bif ltI 12 v0 then
   some (3,())
  else bif ltI 12 (v1.length:Int) then
   some (4,())
  else aC (P3 (v1,v0,())) λy1 =>
  some (y1.1,())
abbrev aC6:Ent:=⟨128,_,_,HW⟩
theorem XE:Ent.OK tP aC6:=oI (aO (oV aLG oW)) func128 Y (by rintro⟨v0,v1,⟨⟩⟩; kernel_rfl)
abbrev jT:List (Nat×Kd):=[(4,.bag 98 TyE 53 TyD none),(6,.bag 98 TyE 53 TyD none),(13,.own 148 (.hnd 1)),(14,.int .i64),(15,.int .i64),(100000,.ar 110 .str)]
abbrev mT:List (Ex×List (Nat×Kd)):=[(.ret,[(4,.bag 98 TyE 53 TyD none),(5,.int .i64),(100000,.ar 110 .str)]),(.exit 0,[(4,.bag 98 TyE 53 TyD none),(6,.bag 98 TyE 53 TyD none),(100000,.ar 110 .str)])]
def gQ(x:Shape.den jT):oS jT mT:=match x with
 | (v4,v6,v13,v14,v15,u00,()) =>
  bif ltI v15 v14 then
   bif aF v15 v13.length then bif Nat.blt v15.toNat v13.length then aC (lS () (((v13.getD v15.toNat (0,0,0)).1,(v13.getD v15.toNat (0,0,0)).2.1,(v13.getD v15.toNat (0,0,0)).2.2),()) u00) λy2 =>
   bif !(eqI y2.1.2.1 0) then
    some (.inr (.inl ((0,([],())),y2.1.2.1,y2.2,())))
   else bif Nat.ble [y2.1.1].length 1048576 then bif Nat.ble v6.2.1.length 1048576 then some (.inl ((v4.1,(v4.2.1,())),(v6.1,((v6.2.1++[y2.1.1]),())),v13,v14,(aB .i64 (v15+1)),y2.2,())) else none else none else none else none
  else some (.inr (.inr (((v4.1,(v4.2.1,())),(v6.1,(v6.2.1,())),u00,()))))
def qF(x:Shape.den jT):oX mT:=bF gQ (2^64) x
def cW(v0:List (Nat×Nat×Nat))(x:aH [.int .i64])(A:List (List ByteArray)):Option ((aH [.agg TyH,.int .i64])×List (List ByteArray)):=match x with
 | (v1,()) =>
  aC (qF ((0,([],())),(v1,([],())),v0,(v0.length:Int),0,A,())) λz3 =>
  xJ z3 (λa4=>some (((a4.1.1,a4.1.2.1),a4.2.1,()),a4.2.2.1)) λb5 =>
  some (((b5.2.1.1,b5.2.1.2.1),0,()),b5.2.2.1)
def vY:Code:=dJ f123
abbrev CD:Env:=MU [] [OQ]
theorem IA:gD tP CD:=l5 trivial ⟨YR,trivial⟩
def AD:Code:=inLoop (aML vY 0)
def BK(id:Nat):Option dN:=bif Nat.beq id 3 then some ⟨jT,mT,qF⟩ else none
def BH(id:Nat):Option dN:=none
theorem RD:∀ x,aL1 tP CD 36 (S1 f123) BK BH false [] AD jT mT x=gQ x:=by
 rintro⟨v4,v6,v13,v14,v15,u00,⟨⟩⟩
 kernel_rfl
theorem SA:UR tP 36 false [] (.loop AD) ⟨jT,mT,qF⟩:=aEA IA.callee aY.mixed _ (NB (l:=[]) Y trivial) RD
theorem TH:iB vY=[.loop AD]:=Y
theorem V5:∀ l x A,aRJ tP CD f123 (S1 f123) BK BH vY 110 .str (.own 148 (.hnd 1)) [.int .i64] (.data [.agg TyH,.int .i64]) l x A=cW l x A:=by
 rintro u0 ⟨v1,⟨⟩⟩ A
 kernel_rfl
theorem X8:MT tP 123 110 .str (.own 148 (.hnd 1)) [.int .i64] (.data [.agg TyH,.int .i64]) cW:=aXH aY IA func123 (c:=vY) Y (bZ:=S1 f123) (lt:=BK) (rt:=BH) (by rfl) (NB TH ⟨aDU (i:=3) Y rfl SA,trivial⟩) V5
abbrev mI:Shr:=(123,QL 1 (arH 110 .str (.own 148 (.hnd 1)) [.int .i64] (.data [.agg TyH,.int .i64]) cW))
theorem nC:tQ tP mI:=qE (g:=123) (f:=arH 110 .str (.own 148 (.hnd 1)) [.int .i64] (.data [.agg TyH,.int .i64]) cW) (CJ X8)
def vK(x:aH [.int .i64,.list TyD]):oK [.agg TyH,.int .i64]:=match x with
 | (v0,v1,()) =>
  aC (HW (v0,v1,())) λy1 =>
  bif !(eqI y1.1 0) then
   some ((0,[]),y1.1,())
  else aC (cV () (v1,()) []) λy2 =>
  aC (cF y2.1 (v0,()) y2.2) λy3 =>
  aC (cW y3.1 (v0,()) y3.2) λy4 =>
  some (y4.1.1,y4.1.2.1,())
def aEH:Code:=dJ f86
abbrev aMU:Env:=MU [aC6] [xI,mL,mI]
theorem aQP:gD tP aMU:=l5 ⟨XE,trivial⟩ ⟨yE,nJ,nC,trivial⟩
def aKS(id:Nat):Option dN:=none
theorem aN3:bG aEH=[]:=Y
theorem aPQ:∀ x,aGE tP aMU f86 (aP f86) aKS aEH 110 .str _ _ x=vK x:=by
 rintro⟨v0,v1,⟨⟩⟩
 kernel_rfl
abbrev aM9:Ent:=⟨86,_,_,vK⟩
theorem VN:Ent.OK tP aM9:=aKC aY aQP func86 (c:=aEH) Y (bZ:=aP f86) (lt:=aKS) (aQ aN3 trivial) aPQ
abbrev KK:List (Nat×Kd):=[(3,.own 110 .str),(9,.list TyE),(10,.int .i64),(11,.int .i64)]
abbrev S7:List (Ex×List (Nat×Kd)):=[(.exit 0,[(3,.own 110 .str)])]
def aCK(x:Shape.den KK):oS KK S7:=match x with
 | (v3,v9,v10,v11,()) =>
  bif ltI v11 v10 then
   bif aF v11 v9.length then aC (qY ((v9.getD v11.toNat 0),())) λy2 =>
   bif Nat.ble [y2.1].length 1048576 then bif Nat.ble v3.length 1048576 then some (.inl ((v3++[y2.1]),v9,v10,(aB .i64 (v11+1)),())) else none else none else none
  else some (.inr ((v3,())))
def FQ(x:Shape.den KK):oX S7:=bF aCK (2^64) x
def rC(x:aH [.list TyE]):oK [.list .str]:=match x with
 | (v0,()) =>
  bif !(ltI (v0.length:Int) 0) then bif !(ltI 1048576 (v0.length:Int)) then aC (FQ ((List.replicate 0 ByteArray.empty),v0,(v0.length:Int),0,())) λz3 =>
  some (z3.1,()) else none else none
abbrev O4:Ent:=⟨119,_,_,rC⟩
theorem S6:Ent.OK tP O4:=oU (aO (oV M6 oW)) func119 3 (lp:=FQ) rfl Y (by rintro⟨v3,v9,v10,v11,⟨⟩⟩; kernel_rfl) (by rintro⟨v0,⟨⟩⟩; kernel_rfl)
abbrev gG:List (Nat×Kd):=[(0,.val),(7,.list TyD),(8,.int .i64),(9,.int .i64)]
abbrev kG:List (Ex×List (Nat×Kd)):=[(.exit 0,[])]
def iW(x:Shape.den gG):Option (List (Value×aH [.int .i64,.list .str])×(Shape.den gG⊕eC kG)):=match x with
 | (v0,v7,v8,v9,()) =>
  bif ltI v9 v8 then
   bif aF v9 v7.length then aC (rC ((v7.getD v9.toNat []),())) λy3 =>
   aC (D6 (y3.1,())) λy4 =>
   outs [(v0,(y4.1,y3.1,()))] (some ([],.inl (v0,v7,v8,(aB .i64 (v9+1)),()))) else none
  else some ([],.inr ((())))
def mO(x:Shape.den gG):Option (List (Value×aH [.int .i64,.list .str])×eC kG):=aMJ iW (2^64) x
def zB(v0:Value)(x:aHO [TyH]):Option (List (Value×aH [.int .i64,.list .str])):=match x with
 | (v1,()) =>
  bCF (a3Y (mO (v0,v1.2,(v1.2.length:Int),0,())) λz5 =>
  some ([],()))
def sD:Code:=dJ f239
abbrev zI:Env:=MU [O4,U3] []
theorem DR:gD tP zI:=l5 ⟨S6,OU,trivial⟩ trivial
def lA:Code:=inLoop (aML sD 0)
def xX(id:Nat):Option dN:=none
def xQ(id:Nat):Option (aD5 (Value×aH [.int .i64,.list .str])):=bif Nat.beq id 1 then some ⟨gG,kG,mO⟩ else none
theorem OB:b8 lA=1:=Y
theorem Q9:iB lA=[]:=Y
theorem NU:∀ x,bBH tP zI 22 (aP f239) xX [.int .i64,.list .str] xQ lA gG kG x=iW x:=by
 rintro⟨v0,v7,v8,v9,⟨⟩⟩
 kernel_rfl
theorem OG:a4O tP 22 [.int .i64,.list .str] lA ⟨gG,kG,mO⟩:=bAI DR.callee aY.mixed _ (aX9 Q9 trivial) NU
theorem PU:iB sD=[.loop lA]:=Y
theorem Q7:∀ v0 x,bD8 tP zI f239 (aP f239) xX [.int .i64,.list .str] xQ sD [TyH] v0 x=zB v0 x:=by
 rintro v0 ⟨v1,⟨⟩⟩
 kernel_rfl
theorem RE {f:aHO [TyH]->Option (List (aH [.int .i64,.list .str]))}(h:∀ yv x all,f x=some all->zB yv x=some (all.map λe=>(yv,e))):aP8 tP 239 [TyH] [.int .i64,.list .str] f:=bCV aY DR func239 (c:=sD) Y Y (bZ:=aP f239) (lt:=xX) (li:=xQ) (aX9 PU ⟨bAG OB rfl rfl OG,trivial⟩) (λyv x all hx=>(Q7 yv x).trans (h yv x all hx))
def a3I:List (List Int)->Option (List (aH [.int .i64,.list .str]))
 | []=>some []
 | r::l=>aC (rC (r,())) λy=>aC (D6 (y.1,())) λz=>aC (a3I l) λrest=>some ((z.1,y.1,())::rest)
def aVT(x:aHO [TyH]):Option (List (aH [.int .i64,.list .str])):=match x with
 | ((_,b),())=>bif Nat.ble b.length 1048576 then a3I b else none
theorem aND(yv:Value)(l:List (List Int))(hl:l.length<=1048576):∀ (rest pre:List (List Int)) (all:List (aH [.int .i64,.list .str])) (N:Nat),a3I rest=some all->pre++rest=l->rest.length<N ->
  aMJ iW N (yv,l,(l.length:Int),(pre.length:Int),())=some (all.map λe=>(yv,e),())
 | [],pre,all,N+1,h,hp,_=>by
  obtain rfl:=oB h;rw[List.append_nil]at hp;subst hp;have h1:ltI (pre.length:Int) (pre.length:Int)=false:=by simp[aE]
  simp only[aMJ,iW,h1,oD];rfl
 | r::rest,pre,all,N+1,h,hp,hN=>by
  obtain⟨y,hy,h⟩:=CZ h;obtain⟨z,hz,h⟩:=CZ h;obtain⟨all',ha,h⟩:=CZ h;obtain rfl:=oB h;have hlen:l.length=pre.length+(rest.length+1):=by rw[<- hp]; simp
  have h1:ltI (pre.length:Int) (l.length:Int)=true:=by simp[aE]; omega
  have h2:aF (pre.length:Int) l.length=true:=by simp[aL]; omega
  have h3:l.getD ((pre.length:Int)).toNat []=r:=by rw[<- hp]; simp
  have h4:=aND yv l hl rest (pre++[r]) all' N ha (by rw[<- hp]; simp) (by simp at hN; omega);have h5:aB .i64 ((pre.length:Int)+1)=((pre++[r]).length:Int):=by rw[wrap64 Z Z]; simp
  simp only[aMJ,iW,h1,oC,h2,h3,hy,aD,hz,outs,h5];rw[h4];rfl
theorem a68:aP8 tP 239 [TyH] [.int .i64,.list .str] aVT:=by
 refine RE ?_;rintro yv ⟨⟨n,b⟩,⟨⟩⟩ all h;unfold aVT at h;dsimp only at h;obtain⟨hb,h⟩:=aI h;have hb:=oL hb;have:=aND yv b hb b [] all (2^64) h rfl Z;unfold zB;dsimp only;unfold mO;have h0:((([]:List (List Int)).length:Nat):Int)=0:=rfl;rw[h0]at this;rw[this];simp[a3Y,outs,bCF]
def aBV(x:aH [.int .i64]):oK [.bool]:=match x with
 | (v0,()) =>
  bif ltI 1000000000 v0 then
   some (true,())
  else some (ltI v0 (-1000000000),())
abbrev aXS:Ent:=⟨172,_,_,aBV⟩
theorem aOC:Ent.OK tP aXS:=oI (aO oW) func172 Y (by rintro⟨v0,⟨⟩⟩; kernel_rfl)
abbrev rT:List (Nat×Kd):=[(0,.list TyE),(1,.fn 172),(7,.int .i64),(8,.int .i64)]
abbrev zW:List (Ex×List (Nat×Kd)):=[(.ret,[(4,.int .i64)]),(.exit 0,[])]
def fP(x:Shape.den rT):oS rT zW:=match x with
 | (v0,v1,v7,v8,()) =>
  bif ltI v8 v7 then
   bif aF v8 v0.length then aC (aBV ((v0.getD v8.toNat 0),())) λy2 =>
   bif y2.1 then
    some (.inr (.inl (v8,())))
   else some (.inl (v0,(),v7,(aB .i64 (v8+1)),())) else none
  else some (.inr (.inr ((()))))
def p7(x:Shape.den rT):oX zW:=bF fP (2^64) x
def tV(x:aH [.list TyE,.fn 172]):oK [.int .i64]:=match x with
 | (v0,v1,()) =>
  aC (p7 (v0,(),(v0.length:Int),0,())) λz3 =>
  xJ z3 (λa4=>some (a4.1,())) λb5 =>
  some ((-1),())
abbrev O8:Ent:=⟨197,_,_,tV⟩
theorem MP:Ent.OK tP O8:=oU (aO (oV aOC oW)) func197 2 (lp:=p7) rfl Y (by rintro⟨v0,v1,v7,v8,⟨⟩⟩; kernel_rfl) (by rintro⟨v0,v1,⟨⟩⟩; kernel_rfl)
def lG(x:aH [.list TyE,.fn 172]):oK [.bool]:=match x with
 | (v0,v1,()) =>
  aC (tV (v0,(),())) λy1 =>
  some (!(ltI y1.1 0),())
abbrev MK:Ent:=⟨144,_,_,lG⟩
theorem KS:Ent.OK tP MK:=oI (aO (oV MP oW)) func144 Y (by rintro⟨v0,v1,⟨⟩⟩; kernel_rfl)
abbrev R2:List (Nat×Kd):=[(0,.list TyD),(8,.list TyD),(9,.int .i64),(10,.int .i64)]
abbrev aB7:List (Ex×List (Nat×Kd)):=[(.ret,[(2,.int .i64)]),(.exit 0,[])]
def AV(x:Shape.den R2):oS R2 aB7:=match x with
 | (v0,v8,v9,v10,()) =>
  bif ltI v10 v9 then
   bif aF v10 v8.length then bif ltI 12 ((v8.getD v10.toNat []).length:Int) then
    some (.inr (.inl (4,())))
   else bif aF 0 v0.length then bif !(eqI ((v8.getD v10.toNat []).length:Int) ((v0.getD 0 []).length:Int)) then
    some (.inr (.inl (5,())))
   else aC (lG ((v8.getD v10.toNat []),(),())) λy2 =>
   bif y2.1 then
    some (.inr (.inl (4,())))
   else some (.inl (v0,v8,v9,(aB .i64 (v10+1)),())) else none else none
  else some (.inr (.inr ((()))))
def NN(x:Shape.den R2):oX aB7:=bF AV (2^64) x
def T8(x:aH [.list TyD]):oK [.int .i64]:=match x with
 | (v0,()) =>
  bif ltI 12 (v0.length:Int) then
   some (4,())
  else aC (NN (v0,v0,(v0.length:Int),0,())) λz3 =>
  xJ z3 (λa4=>some (a4.1,())) λb5 =>
  some (0,())
abbrev aW8:Ent:=⟨125,_,_,T8⟩
theorem aN0:Ent.OK tP aW8:=oU (aO (oV KS oW)) func125 4 (lp:=NN) rfl Y (by rintro⟨v0,v8,v9,v10,⟨⟩⟩; kernel_rfl) (by rintro⟨v0,⟨⟩⟩; kernel_rfl)
def JB(x:aH [.int .i64]):oK [.bool]:=match x with
 | (v0,()) =>
  some (!(eqI v0 0),())
abbrev aL6:Ent:=⟨211,_,_,JB⟩
theorem aFZ:Ent.OK tP aL6:=oI (aO oW) func211 Y (by rintro⟨v0,⟨⟩⟩; kernel_rfl)
abbrev rW:List (Nat×Kd):=[(0,.list TyE),(1,.fn 211),(7,.int .i64),(8,.int .i64)]
abbrev zX:List (Ex×List (Nat×Kd)):=[(.ret,[(4,.int .i64)]),(.exit 0,[])]
def fM(x:Shape.den rW):oS rW zX:=match x with
 | (v0,v1,v7,v8,()) =>
  bif ltI v8 v7 then
   bif aF v8 v0.length then aC (JB ((v0.getD v8.toNat 0),())) λy2 =>
   bif y2.1 then
    some (.inr (.inl (v8,())))
   else some (.inl (v0,(),v7,(aB .i64 (v8+1)),())) else none
  else some (.inr (.inr ((()))))
def qA(x:Shape.den rW):oX zX:=bF fM (2^64) x
def tT(x:aH [.list TyE,.fn 211]):oK [.int .i64]:=match x with
 | (v0,v1,()) =>
  aC (qA (v0,(),(v0.length:Int),0,())) λz3 =>
  xJ z3 (λa4=>some (a4.1,())) λb5 =>
  some ((-1),())
abbrev O0:Ent:=⟨197,_,_,tT⟩
theorem MX:Ent.OK tP O0:=oU (aO (oV aFZ oW)) func197 2 (lp:=qA) rfl Y (by rintro⟨v0,v1,v7,v8,⟨⟩⟩; kernel_rfl) (by rintro⟨v0,v1,⟨⟩⟩; kernel_rfl)
def NS(x:aH [.list TyE]):oK [.int .i64]:=match x with
 | (v0,()) =>
  aC (tT (v0,(),())) λy1 =>
  some (y1.1,())
abbrev aQR:Ent:=⟨173,_,_,NS⟩
theorem aKF:Ent.OK tP aQR:=oI (aO (oV MX oW)) func173 Y (by rintro⟨v0,⟨⟩⟩; kernel_rfl)
def LU(x:aH [.list TyE,.ptr TyE,.ptr TyD]):oK [.bool]:=match x with
 | (v0,v1,v2,()) =>
  bif aF v1 v0.length then bif ltI (v0.getD v1.toNat 0) 0 then
   some (true,())
  else bif aF v1 v0.length then bif aF v1 v2.length then some (!(ltI (v0.getD v1.toNat 0) (v2.getD v1.toNat 0)),()) else none else none else none
abbrev aG2:Ent:=⟨174,_,_,LU⟩
theorem aCC:Ent.OK tP aG2:=oI (aO oW) func174 Y (by rintro⟨v0,v1,v2,⟨⟩⟩; kernel_rfl)
abbrev lR:List (Nat×Kd):=[(0,.list TyD),(1,.clo 174 [TyE,TyD]),(7,.int .i64),(8,.int .i64)]
abbrev tG:List (Ex×List (Nat×Kd)):=[(.ret,[(4,.int .i64)]),(.exit 0,[])]
def dI(x:Shape.den lR):oS lR tG:=match x with
 | (v0,v1,v7,v8,()) =>
  bif ltI v8 v7 then
   bif aF v8 v0.length then aC (LU ((v0.getD v8.toNat []),v1.1,v1.2.1,())) λy2 =>
   bif y2.1 then
    some (.inr (.inl (v8,())))
   else some (.inl (v0,(v1.1,v1.2.1,()),v7,(aB .i64 (v8+1)),())) else none
  else some (.inr (.inr ((()))))
def kU(x:Shape.den lR):oX tG:=bF dI (2^64) x
def nN(x:aH [.list TyD,.clo 174 [TyE,TyD]]):oK [.int .i64]:=match x with
 | (v0,v1,()) =>
  aC (kU (v0,(v1.1,v1.2.1,()),(v0.length:Int),0,())) λz3 =>
  xJ z3 (λa4=>some (a4.1,())) λb5 =>
  some ((-1),())
abbrev JN:Ent:=⟨100,_,_,nN⟩
theorem GC:Ent.OK tP JN:=oU (aO (oV aCC oW)) func100 2 (lp:=kU) rfl Y (by rintro⟨v0,v1,v7,v8,⟨⟩⟩; kernel_rfl) (by rintro⟨v0,v1,⟨⟩⟩; kernel_rfl)
def fW(x:aH [.list TyD,.clo 174 [TyE,TyD]]):oK [.bool]:=match x with
 | (v0,v1,()) =>
  aC (nN (v0,(v1.1,v1.2.1,()),())) λy1 =>
  some (!(ltI y1.1 0),())
abbrev GA:Ent:=⟨43,_,_,fW⟩
theorem DJ:Ent.OK tP GA:=oI (aO (oV GC oW)) func43 Y (by rintro⟨v0,v1,⟨⟩⟩; kernel_rfl)
abbrev LR:List (Nat×Kd):=[(0,.list TyD),(3,.int .i64),(7,.list TyD),(8,.int .i64),(9,.int .i64)]
abbrev VL:List (Ex×List (Nat×Kd)):=[(.ret,[(2,.bool)]),(.exit 0,[])]
def vM(x:Shape.den LR):oS LR VL:=match x with
 | (v0,v3,v7,v8,v9,()) =>
  bif ltI v9 v8 then
   bif aF v9 v7.length then aC (NS ((v7.getD v9.toNat []),())) λy3 =>
   bif !(ltI v3 y3.1) then
    some (.inr (.inl (false,())))
   else bif aF y3.1 (v7.getD v9.toNat []).length then bif ltI ((v7.getD v9.toNat []).getD y3.1.toNat 0) 0 then
    some (.inr (.inl (false,())))
   else bif !(ltI v9 0) then bif Nat.ble 0 v9.toNat then bif Nat.ble v9.toNat v0.length then aC (fW (((v0.drop 0).take (v9.toNat-0)),(y3.1,(v7.getD v9.toNat []),()),())) λy4 =>
   bif y4.1 then
    some (.inr (.inl (false,())))
   else some (.inl (v0,y3.1,v7,v8,(aB .i64 (v9+1)),())) else none else none else none else none else none
  else some (.inr (.inr ((()))))
def HS(x:Shape.den LR):oX VL:=bF vM (2^64) x
def LD(x:aH [.list TyD]):oK [.bool]:=match x with
 | (v0,()) =>
  aC (HS (v0,(-1),v0,(v0.length:Int),0,())) λz5 =>
  xJ z5 (λa6=>some (a6.1,())) λb7 =>
  some (true,())
abbrev aNY:Ent:=⟨126,_,_,LD⟩
theorem aHQ:Ent.OK tP aNY:=oU (aO (oV aKF (oV DJ oW))) func126 3 (lp:=HS) rfl Y (by rintro⟨v0,v3,v7,v8,v9,⟨⟩⟩; kernel_rfl) (by rintro⟨v0,⟨⟩⟩; kernel_rfl)
def R0(x:aH [.list TyD]):oK [.bool,.int .i64]:=match x with
 | (v0,()) =>
  aC (T8 (v0,())) λy1 =>
  bif !(eqI y1.1 0) then
   some (false,y1.1,())
  else aC (LD (v0,())) λy2 =>
  some (y2.1,0,())
abbrev aNX:Ent:=⟨71,_,_,R0⟩
theorem aGV:Ent.OK tP aNX:=oI (aO (oV aHQ (oV aN0 oW))) func71 Y (by rintro⟨v0,⟨⟩⟩; kernel_rfl)
def pU(x:aH [.agg TyH]):oK [.int .i64]:=match x with
 | (v0,()) =>
  aC (HW (v0.1,v0.2,())) λy1 =>
  bif !(eqI y1.1 0) then
   some (y1.1,())
  else aC (R0 (v0.2,())) λy2 =>
  bif !(eqI y2.2.1 0) then
   some (7,())
  else bif y2.1 then
   some (0,())
  else some (7,())
abbrev UP:Ent:=⟨73,_,_,pU⟩
theorem GY:Ent.OK tP UP:=oI (aO (oV aGV (oV XE oW))) func73 Y (by rintro⟨v0,⟨⟩⟩; kernel_rfl)
def a4K(x:aH [.agg TyH,.list TyE]):oK [.int .i64]:=match x with
 | (v0,v1,()) =>
  aC (pU (v0,())) λy1 =>
  bif !(eqI y1.1 0) then
   some (y1.1,())
  else aC (VD (v1,())) λy2 =>
  bif !(eqI y2.1 0) then
   some (y2.1,())
  else bif !(eqI (v1.length:Int) v0.1) then
   some (5,())
  else some (0,())
def MF(x:aH [.agg TyH]):oK [.clo 239 [TyH]]:=match x with
 | (v0,()) =>
  some ((v0,()),())
abbrev LZ:Ent:=⟨225,_,_,MF⟩
theorem WE:Ent.OK tP LZ:=oI (aO oW) func225 Y (by rintro⟨v0,⟨⟩⟩; kernel_rfl)
abbrev dL:List (Nat×Kd):=[(4,.bown 148 110 .str),(5,.bown 148 110 .str),(14,.clo 239 [TyH])]
abbrev jU:List (Ex×List (Nat×Kd)):=[(.normal,[(4,.bown 148 110 .str),(5,.bown 148 110 .str)])]
def E7(x:Shape.den dL)(e:aH [.int .i64,.list .str]):oS dL jU:=match x,e with
 | (v4,v5,v14,()),(e0,e1,()) =>
  bif aF e0 v4.length then bif Nat.blt e0.toNat v4.length then bif aF e0 e1.length then aC (FG ((v4.getD e0.toNat ByteArray.empty),(e1.getD e0.toNat ByteArray.empty),())) λy3 =>
  aC (WT (t:=.str) vD v4 (y3.1,e1,())) λy4 =>
  bif Nat.ble [y3.1].length 1048576 then bif Nat.ble v5.length 1048576 then some (.inl (y4,(v5++[y3.1]),(v14.1,()),())) else none else none else none else none else none
def GR(x:Shape.den dL):aHO [TyH]:=match x with
 | (v4,v5,v14,())=>(v14.1,())
def wZ(x:Shape.den dL):oX jU:=bCZ dL jU (λx=>aVT (GR x)) E7 x
def DC(x:aH [.agg TyH,.list TyE]):oK [.list .str,.list .str]:=match x with
 | (v0,v1,()) =>
  aC (rK (v1,())) λy1 =>
  aC (MF (v0,())) λy2 =>
  aC (wZ (y1,[],(y2.1.1,()),())) λz5 =>
  some (z5.1,z5.2.1,())
def vS:Code:=dJ f196
abbrev CX:Env:=MU [LZ,XY] [JO,ON]
theorem HP:gD tP CX:=l5 ⟨WE,Z0,trivial⟩ ⟨KA,YO,trivial⟩
def cB:Code:=aML vS 0
def W4:Code:=inLoop cB
def BP(id:Nat):Option dN:=none
def BS(id:Nat):Option dN:=bif Nat.beq id 5 then some ⟨dL,jU,wZ⟩ else none
theorem QI:b8 W4=5:=Y
theorem E3:cB=.rangeFunc (a0F cB) (a9V cB) (ZK cB) (inLoop cB):=Y
theorem RJ:∀ y e,aWZ tP CX 40 (S1 f196) BP BS (a9V cB).toList (ZK cB) (inLoop cB) [.int .i64,.list .str] dL jU y e=E7 y e:=by
 rintro⟨v4,v5,v14,⟨⟩⟩ ⟨e0,e1,⟨⟩⟩
 kernel_rfl
theorem TE:∀ x,a9G 239 [TyH] dL (a0F cB) x=some (GR x):=by
 rintro⟨v4,v5,v14,⟨⟩⟩
 kernel_rfl
theorem SU:UR tP 40 false [] cB ⟨dL,jU,wZ⟩:=a7I HP aY E3 func239 (c:=dJ f239) Y a68 Y (NB (l:=[]) Y trivial) TE RJ
theorem TN:iB vS=[cB]:=Y
theorem VB:∀ x,bD9 tP CX f196 (S1 f196) BP BS vS [.agg TyH,.list TyE] [.list .str,.list .str] x=DC x:=by
 rintro⟨v0,v1,⟨⟩⟩
 kernel_rfl
abbrev ZS:Ent:=⟨196,_,_,DC⟩
theorem UL:Ent.OK tP ZS:=bB0 aY HP func196 (c:=vS) Y (bZ:=S1 f196) (lt:=BP) (rt:=BS) (NB TN ⟨a00 E3 QI rfl SU,trivial⟩) VB
def pG(u0:Unit) (x:aH [.int .i64]) (A:List (List ByteArray)):Option ((List ByteArray)×List (List ByteArray)):=match x with
 | (v0,()) =>
  bif !(ltI v0 0) then bif !(ltI v0 v0) then bif !(ltI 1048576 v0) then aC (rK ((List.replicate v0.toNat 0),())) λy1 =>
  some (y1,A) else none else none else none
def M3:Code:=dJ f120
abbrev W8:Env:=MU [] [JO]
theorem aEX:gD tP W8:=l5 trivial ⟨KA,trivial⟩
def VJ(id:Nat):Option dN:=none
theorem aCG:bG M3=[]:=Y
theorem aEG:∀ l x A,HR tP W8 f120 (aP f120) VJ M3 110 .str .none [.int .i64] (.own 110 .str) l x A=pG l x A:=by
 rintro u0 ⟨v0,⟨⟩⟩ A
 kernel_rfl
theorem aHI:MT tP 120 110 .str .none [.int .i64] (.own 110 .str) pG:=zZ aY aEX func120 (c:=M3) Y (bZ:=aP f120) (lt:=VJ) (by rfl) (aQ aCG trivial) aEG
abbrev NR:Shr:=(120,QL 0 (arH 110 .str .none [.int .i64] (.own 110 .str) pG))
theorem QJ:tQ tP NR:=qE (g:=120) (f:=arH 110 .str .none [.int .i64] (.own 110 .str) pG) (CJ aHI)
abbrev iP:List (Nat×Kd):=[(1,.int .i64),(2,.int .i64),(7,.own 148 (.hnd 1)),(10,.list (.hnd 1)),(11,.int .i64),(12,.int .i64),(100000,.ar 110 .str)]
abbrev lY:List (Ex×List (Nat×Kd)):=[(.exit 0,[(2,.int .i64),(7,.own 148 (.hnd 1)),(100000,.ar 110 .str)])]
def gC(x:Shape.den iP):oS iP lY:=match x with
 | (v1,v2,v7,v10,v11,v12,u00,()) =>
  bif ltI v12 v11 then
   bif aF v12 v10.length then aC (kE () (((v10.getD v12.toNat (0,0,0)).1,(v10.getD v12.toNat (0,0,0)).2.1,(v10.getD v12.toNat (0,0,0)).2.2),()) u00) λy2 =>
   bif !(ltI y2.1.1 v1) then
    bif !(ltI v1 0) then bif Nat.ble v1.toNat ((v10.getD v12.toNat (0,0,0)).2.2) then bif Nat.ble ((v10.getD v12.toNat (0,0,0)).2.2) ((v10.getD v12.toNat (0,0,0)).2.2) then bif Nat.ble [((v10.getD v12.toNat (0,0,0)).1,((v10.getD v12.toNat (0,0,0)).2.1+v1.toNat),((v10.getD v12.toNat (0,0,0)).2.2-v1.toNat))].length 1048576 then bif Nat.ble v7.length 1048576 then some (.inl (v1,v2,(v7++[((v10.getD v12.toNat (0,0,0)).1,((v10.getD v12.toNat (0,0,0)).2.1+v1.toNat),((v10.getD v12.toNat (0,0,0)).2.2-v1.toNat))]),v10,v11,(aB .i64 (v12+1)),y2.2,())) else none else none else none else none else none
   else some (.inl (v1,v2,v7,v10,v11,(aB .i64 (v12+1)),y2.2,())) else none
  else some (.inr ((v2,v7,u00,())))
def kA(x:Shape.den iP):oX lY:=bF gC (2^64) x
def dH(u0:Unit)(x:aH [.list (.hnd 1),.int .i64,.int .i64])(A:List (List ByteArray)):Option ((List (Nat×Nat×Nat))×List (List ByteArray)):=match x with
 | (v0,v1,v2,()) =>
  aC (kA (v1,v2,[],v0,(v0.length:Int),0,A,())) λz3 =>
  aC (cF z3.2.1 (z3.1,()) z3.2.2.1) λy4 =>
  some y4
def uI:Code:=dJ f122
abbrev BQ:Env:=MU [] [QS,mL]
theorem GL:gD tP BQ:=l5 trivial ⟨Z2,nJ,trivial⟩
def yV:Code:=iC uI 0
def AH(id:Nat):Option dN:=bif Nat.beq id 3 then some ⟨iP,lY,kA⟩ else none
theorem PN:∀ x,jW tP BQ 30 (aP f122) AH yV iP lY x=gC x:=by
 rintro⟨v1,v2,v7,v10,v11,v12,u00,⟨⟩⟩
 kernel_rfl
theorem QY:eT tP 30 yV ⟨iP,lY,kA⟩:=eZ GL.callee aY.mixed _ (aQ (l:=[]) Y trivial) PN
theorem SI:bG uI=[yV]:=Y
theorem TC:∀ l x A,HR tP BQ f122 (aP f122) AH uI 110 .str .none [.list (.hnd 1),.int .i64,.int .i64] (.own 148 (.hnd 1)) l x A=dH l x A:=by
 rintro u0 ⟨v0,v1,v2,⟨⟩⟩ A
 kernel_rfl
theorem WN:MT tP 122 110 .str .none [.list (.hnd 1),.int .i64,.int .i64] (.own 148 (.hnd 1)) dH:=zZ aY GL func122 (c:=uI) Y (bZ:=aP f122) (lt:=AH) (by rfl) (aQ SI ⟨eY (i:=3) Y rfl QY,trivial⟩) TC
abbrev BC:Shr:=(122,QL 0 (arH 110 .str .none [.list (.hnd 1),.int .i64,.int .i64] (.own 148 (.hnd 1)) dH))
theorem GX:tQ tP BC:=qE (g:=122) (f:=arH 110 .str .none [.list (.hnd 1),.int .i64,.int .i64] (.own 148 (.hnd 1)) dH) (CJ WN)
abbrev iJ:List (Nat×Kd):=[(0,.list (.hnd 1)),(1,.int .i64),(5,.own 148 (.hnd 1)),(6,.int .i64),(7,.own 110 .str),(11,.int .i64),(12,.int .i64),(15,.list (.hnd 1)),(16,.int .i64),(17,.int .i64),(100000,.ar 110 .str)]
abbrev l7:List (Ex×List (Nat×Kd)):=[(.exit 2,[(0,.list (.hnd 1)),(1,.int .i64),(5,.own 148 (.hnd 1)),(6,.int .i64),(7,.own 110 .str),(11,.int .i64),(12,.int .i64),(100000,.ar 110 .str)])]
def kC(x:Shape.den iJ):oS iJ l7:=match x with
 | (v0,v1,v5,v6,v7,v11,v12,v15,v16,v17,u00,()) =>
  bif ltI v17 v16 then
   bif aF v17 v15.length then bif aF v6 ((v15.getD v17.toNat (0,0,0)).2.2) then bif Nat.blt (((v15.getD v17.toNat (0,0,0)).2.1+v6.toNat)*1) (cI u00 ((v15.getD v17.toNat (0,0,0)).1)) then bif Nat.ble [(cS u00 ((v15.getD v17.toNat (0,0,0)).1) (((v15.getD v17.toNat (0,0,0)).2.1+v6.toNat)*1) ByteArray.empty)].length 1048576 then bif Nat.ble v7.length 1048576 then some (.inl (v0,v1,v5,v6,(v7++[(cS u00 ((v15.getD v17.toNat (0,0,0)).1) (((v15.getD v17.toNat (0,0,0)).2.1+v6.toNat)*1) ByteArray.empty)]),v11,v12,v15,v16,(aB .i64 (v17+1)),u00,())) else none else none else none else none else none
  else some (.inr ((v0,v1,v5,v6,v7,v11,v12,u00,())))
def pC(x:Shape.den iJ):oX l7:=bF kC (2^64) x
abbrev iQ:List (Nat×Kd):=[(0,.list (.hnd 1)),(1,.int .i64),(5,.own 148 (.hnd 1)),(11,.int .i64),(12,.int .i64),(100000,.ar 110 .str)]
abbrev mC:List (Ex×List (Nat×Kd)):=[(.exit 0,[(0,.list (.hnd 1)),(1,.int .i64),(5,.own 148 (.hnd 1)),(100000,.ar 110 .str)])]
def kM(x:Shape.den iQ):oS iQ mC:=match x with
 | (v0,v1,v5,v11,v12,u00,()) =>
  bif ltI v12 v11 then
   aC (pC (v0,v1,v5,v12,[],v11,v12,v0,(v0.length:Int),0,u00,())) λz3 =>
   aC (pG () (z3.2.1,()) z3.2.2.2.2.2.2.2.1) λy4 =>
   bif aF z3.2.2.2.1 y4.1.length then bif Nat.blt z3.2.2.2.1.toNat y4.1.length then bif Nat.ble (y4.1.set z3.2.2.2.1.toNat (ByteArray.mk #[49])).length 1048576 then bif Nat.ble z3.2.2.2.2.1.length 1048576 then bif Nat.ble [(y4.2.length,0,(z3.2.2.2.2.1++(y4.1.set z3.2.2.2.1.toNat (ByteArray.mk #[49]))).length)].length 1048576 then bif Nat.ble z3.2.2.1.length 1048576 then some (.inl (z3.1,z3.2.1,(z3.2.2.1++[(y4.2.length,0,(z3.2.2.2.2.1++(y4.1.set z3.2.2.2.1.toNat (ByteArray.mk #[49]))).length)]),z3.2.2.2.2.2.1,(aB .i64 (z3.2.2.2.2.2.2.1+1)),(y4.2++[(z3.2.2.2.2.1++(y4.1.set z3.2.2.2.1.toNat (ByteArray.mk #[49])))]),())) else none else none else none else none else none else none
  else some (.inr ((v0,v1,v5,u00,())))
def kL(x:Shape.den iQ):oX mC:=bF kM (2^64) x
def bV(u0:Unit)(x:aH [.list (.hnd 1),.int .i64])(A:List (List ByteArray)):Option ((List (Nat×Nat×Nat))×List (List ByteArray)):=match x with
 | (v0,v1,()) =>
  aC (kL (v0,v1,[],v1,0,A,())) λz5 =>
  aC (cF z5.2.2.1 ((aB .i64 ((z5.1.length:Int)+z5.2.1)),()) z5.2.2.2.1) λy6 =>
  aC (dH () (y6.1,(z5.1.length:Int),z5.2.1,()) y6.2) λy7 =>
  some y7
def uH:Code:=dJ f130
abbrev uK:Env:=MU [] [BC,mL,NR]
theorem xV:gD tP uK:=l5 trivial ⟨GX,nJ,QJ,trivial⟩
def mU:Code:=iC uH 0
def yS:Code:=iC mU 0
def tE(id:Nat):Option dN:=bif Nat.beq id 7 then some ⟨iJ,l7,pC⟩ else bif Nat.beq id 3 then some ⟨iQ,mC,kL⟩ else none
theorem PE:∀ x,jW tP uK 51 (aP f130) tE yS iJ l7 x=kC x:=by
 rintro⟨v0,v1,v5,v6,v7,v11,v12,v15,v16,v17,u00,⟨⟩⟩
 kernel_rfl
theorem QQ:eT tP 51 yS ⟨iJ,l7,pC⟩:=eZ xV.callee aY.mixed _ (aQ (l:=[]) Y trivial) PE
theorem PA:∀ x,jW tP uK 51 (aP f130) tE mU iQ mC x=kM x:=by
 rintro⟨v0,v1,v5,v11,v12,u00,⟨⟩⟩
 kernel_rfl
theorem TW:bG mU=[yS]:=Y
theorem QO:eT tP 51 mU ⟨iQ,mC,kL⟩:=eZ xV.callee aY.mixed _ (aQ TW ⟨eY (i:=7) Y rfl QQ,trivial⟩) PA
theorem SM:bG uH=[mU]:=Y
theorem TX:∀ l x A,HR tP uK f130 (aP f130) tE uH 110 .str .none [.list (.hnd 1),.int .i64] (.own 148 (.hnd 1)) l x A=bV l x A:=by
 rintro u0 ⟨v0,v1,⟨⟩⟩ A
 kernel_rfl
theorem WK:MT tP 130 110 .str .none [.list (.hnd 1),.int .i64] (.own 148 (.hnd 1)) bV:=zZ aY xV func130 (c:=uH) Y (bZ:=aP f130) (lt:=tE) (by rfl) (aQ SM ⟨eY (i:=3) Y rfl QO,trivial⟩) TX
abbrev BM:Shr:=(130,QL 0 (arH 110 .str .none [.list (.hnd 1),.int .i64] (.own 148 (.hnd 1)) bV))
theorem GV:tQ tP BM:=qE (g:=130) (f:=arH 110 .str .none [.list (.hnd 1),.int .i64] (.own 148 (.hnd 1)) bV) (CJ WK)
def lZ(x:aH [.agg TyH]):oK [.agg TyH,.int .i64]:=match x with
 | (v0,()) =>
  aC (pU (v0,())) λy1 =>
  bif !(eqI y1.1 0) then
   some ((0,[]),y1.1,())
  else aC (cV () (v0.2,()) []) λy2 =>
  aC (bV () (y2.1,v0.1,()) y2.2) λy3 =>
  aC (bV () (y3.1,v0.1,()) y3.2) λy4 =>
  aC (cW y4.1 (v0.1,()) y4.2) λy5 =>
  some (y5.1.1,y5.1.2.1,())
def M4:Code:=dJ f74
abbrev XC:Env:=MU [UP] [xI,BM,mI]
theorem aDT:gD tP XC:=l5 ⟨GY,trivial⟩ ⟨yE,GV,nC,trivial⟩
def VZ(id:Nat):Option dN:=none
theorem aCV:bG M4=[]:=Y
theorem aDG:∀ x,aGE tP XC f74 (aP f74) VZ M4 110 .str _ _ x=lZ x:=by
 rintro⟨v0,⟨⟩⟩
 kernel_rfl
abbrev aKJ:Ent:=⟨74,_,_,lZ⟩
theorem HY:Ent.OK tP aKJ:=aKC aY aDT func74 (c:=M4) Y (bZ:=aP f74) (lt:=VZ) (aQ aCV trivial) aDG
def gV(x:aH [.agg TyH]):oK [.agg TyH,.int .i64]:=match x with
 | (v0,()) =>
  aC (pU (v0,())) λy1 =>
  bif !(eqI y1.1 0) then
   some ((0,[]),y1.1,())
  else aC (cV () (v0.2,()) []) λy2 =>
  aC (bV () (y2.1,v0.1,()) y2.2) λy3 =>
  aC (cW y3.1 (v0.1,()) y3.2) λy4 =>
  some (y4.1.1,y4.1.2.1,())
def IY:Code:=dJ f76
abbrev QZ:Env:=MU [UP] [xI,BM,mI]
theorem Z6:gD tP QZ:=l5 ⟨GY,trivial⟩ ⟨yE,GV,nC,trivial⟩
def OX(id:Nat):Option dN:=none
theorem YQ:bG IY=[]:=Y
theorem Y1:∀ x,aGE tP QZ f76 (aP f76) OX IY 110 .str _ _ x=gV x:=by
 rintro⟨v0,⟨⟩⟩
 kernel_rfl
abbrev aET:Ent:=⟨76,_,_,gV⟩
theorem DF:Ent.OK tP aET:=aKC aY Z6 func76 (c:=IY) Y (bZ:=aP f76) (lt:=OX) (aQ YQ trivial) Y1
abbrev xB:List (Nat×Kd):=[(0,.list TyE),(1,.list TyE),(12,.int .i64),(13,.int .i64)]
abbrev EU:List (Ex×List (Nat×Kd)):=[(.ret,[(4,.bool)]),(.exit 0,[])]
def fQ(x:Shape.den xB):oS xB EU:=match x with
 | (v0,v1,v12,v13,()) =>
  bif ltI v13 v12 then
   bif aF v13 v0.length then bif aF v13 v1.length then bif !(eqI (v0.getD v13.toNat 0) (v1.getD v13.toNat 0)) then
    some (.inr (.inl (false,())))
   else some (.inl (v0,v1,v12,(aB .i64 (v13+1)),())) else none else none
  else some (.inr (.inr ((()))))
def nP(x:Shape.den xB):oX EU:=bF fQ (2^64) x
def dS(x:aH [.list TyE,.list TyE]):oK [.bool]:=match x with
 | (v0,v1,()) =>
  bif !(eqI (v0.length:Int) (v1.length:Int)) then
   some (false,())
  else aC (nP (v0,v1,(v0.length:Int),0,())) λz1 =>
  xJ z1 (λa2=>some (a2.1,())) λb3 =>
  some (true,())
abbrev JV:Ent:=⟨62,_,_,dS⟩
theorem wN:Ent.OK tP JV:=oU (aO oW) func62 4 (lp:=nP) rfl Y (by rintro⟨v0,v1,v12,v13,⟨⟩⟩; kernel_rfl) (by rintro⟨v0,v1,⟨⟩⟩; kernel_rfl)
def aHM(x:aH [.list TyE,.list TyE]):oK [.bool]:=match x with
 | (v0,v1,()) =>
  aC (dS (v0,v1,())) λy1 =>
  some (y1.1,())
abbrev a2L:Ent:=⟨132,_,_,aHM⟩
theorem aR7:Ent.OK tP a2L:=oI (aO (oV wN oW)) func132 Y (by rintro⟨v0,v1,⟨⟩⟩; kernel_rfl)
abbrev dT:List (Nat×Kd):=[(1,.list TyD),(2,.fn 132),(15,.list TyD),(16,.int .i64),(17,.int .i64)]
abbrev jC:List (Ex×List (Nat×Kd)):=[(.ret,[(6,.bool)]),(.exit 0,[])]
def aV(x:Shape.den dT):oS dT jC:=match x with
 | (v1,v2,v15,v16,v17,()) =>
  bif ltI v17 v16 then
   bif aF v17 v15.length then bif aF v17 v1.length then aC (aHM ((v15.getD v17.toNat []),(v1.getD v17.toNat []),())) λy2 =>
   bif y2.1 then
    some (.inl (v1,(),v15,v16,(aB .i64 (v17+1)),()))
   else some (.inr (.inl (false,()))) else none else none
  else some (.inr (.inr ((()))))
def cD(x:Shape.den dT):oX jC:=bF aV (2^64) x
def aZ(x:aH [.list TyD,.list TyD,.fn 132]):oK [.bool]:=match x with
 | (v0,v1,v2,()) =>
  bif !(eqI (v0.length:Int) (v1.length:Int)) then
   some (false,())
  else aC (cD (v1,(),v0,(v0.length:Int),0,())) λz3 =>
  xJ z3 (λa4=>some (a4.1,())) λb5 =>
  some (true,())
abbrev uX:Ent:=⟨131,_,_,aZ⟩
theorem tJ:Ent.OK tP uX:=oU (aO (oV aR7 oW)) func131 4 (lp:=cD) rfl Y (by rintro⟨v1,v2,v15,v16,v17,⟨⟩⟩; kernel_rfl) (by rintro⟨v0,v1,v2,⟨⟩⟩; kernel_rfl)
def H7(x:aH [.agg TyH,.agg TyH]):oK [.bool]:=match x with
 | (v0,v1,()) =>
  bif eqI v0.1 v1.1 then
   aC (aZ (v0.2,v1.2,(),())) λy1 =>
   some (y1.1,())
  else some (false,())
abbrev aRR:Ent:=⟨75,_,_,H7⟩
theorem aKE:Ent.OK tP aRR:=oI (aO (oV tJ oW)) func75 Y (by rintro⟨v0,v1,⟨⟩⟩; kernel_rfl)
def QU(x:aH [.agg TyH,.list TyE]):oK [.bool]:=match x with
 | (v0,v1,()) =>
  aC (DC (v0,v1,())) λy1 =>
  aC (D6 (y1.1,())) λy2 =>
  some (ltI y2.1 0,())
abbrev aEM:Ent:=⟨143,_,_,QU⟩
theorem Y7:Ent.OK tP aEM:=oI (aO (oV UL (oV OU oW))) func143 Y (by rintro⟨v0,v1,⟨⟩⟩; kernel_rfl)
abbrev FH:List (Nat×Kd):=[(2,.ptr TyH),(3,.ptr TyH),(10,.list TyH),(11,.int .i64),(12,.int .i64)]
abbrev OO:List (Ex×List (Nat×Kd)):=[(.ret,[(4,.int .i64)]),(.exit 0,[(2,.ptr TyH),(3,.ptr TyH)])]
def rH(x:Shape.den FH):oS FH OO:=match x with
 | (v2,v3,v10,v11,v12,()) =>
  bif ltI v12 v11 then
   bif aF v12 v10.length then aC (pU (((v10.getD v12.toNat (0,[])).1,(v10.getD v12.toNat (0,[])).2),())) λy2 =>
   bif !(eqI y2.1 0) then
    some (.inr (.inl (y2.1,())))
   else some (.inl (v2,v3,v10,v11,(aB .i64 (v12+1)),())) else none
  else some (.inr (.inr ((v2,v3,()))))
def CI(x:Shape.den FH):oX OO:=bF rH (2^64) x
def tX(x:aH [.agg TyH,.agg TyH]):oK [.int .i64]:=match x with
 | (v0,v1,()) =>
  aC (CI (v0,v1,[v0,v1],([v0,v1].length:Int),0,())) λz3 =>
  xJ z3 (λa4=>some (a4.1,())) λb5 =>
  bif !(eqI b5.1.1 b5.2.1.1) then
   some (5,())
  else some (0,())
abbrev LH:Ent:=⟨117,_,_,tX⟩
theorem FM:Ent.OK tP LH:=oU (aO (oV GY oW)) func117 2 (lp:=CI) rfl Y (by rintro⟨v2,v3,v10,v11,v12,⟨⟩⟩; kernel_rfl) (by rintro⟨v0,v1,⟨⟩⟩; kernel_rfl)
def UU(x:aH [.list TyE,.ptr TyH]):oK [.bool]:=match x with
 | (v0,v1,()) =>
  aC (QU (v1,v0,())) λy1 =>
  bif y1.1 then
   some (false,())
  else some (true,())
abbrev aG7:Ent:=⟨171,_,_,UU⟩
theorem aCY:Ent.OK tP aG7:=oI (aO (oV Y7 oW)) func171 Y (by rintro⟨v0,v1,⟨⟩⟩; kernel_rfl)
abbrev lP:List (Nat×Kd):=[(0,.list TyD),(1,.clo 171 [TyH]),(7,.int .i64),(8,.int .i64)]
abbrev tO:List (Ex×List (Nat×Kd)):=[(.ret,[(4,.int .i64)]),(.exit 0,[])]
def D8(x:Shape.den lP):oS lP tO:=match x with
 | (v0,v1,v7,v8,()) =>
  bif ltI v8 v7 then
   bif aF v8 v0.length then aC (UU ((v0.getD v8.toNat []),v1.1,())) λy2 =>
   bif y2.1 then
    some (.inr (.inl (v8,())))
   else some (.inl (v0,(v1.1,()),v7,(aB .i64 (v8+1)),())) else none
  else some (.inr (.inr ((()))))
def sL(x:Shape.den lP):oX tO:=bF D8 (2^64) x
def vO(x:aH [.list TyD,.clo 171 [TyH]]):oK [.int .i64]:=match x with
 | (v0,v1,()) =>
  aC (sL (v0,(v1.1,()),(v0.length:Int),0,())) λz3 =>
  xJ z3 (λa4=>some (a4.1,())) λb5 =>
  some ((-1),())
abbrev JE:Ent:=⟨100,_,_,vO⟩
theorem FR:Ent.OK tP JE:=oU (aO (oV aCY oW)) func100 2 (lp:=sL) rfl Y (by rintro⟨v0,v1,v7,v8,⟨⟩⟩; kernel_rfl) (by rintro⟨v0,v1,⟨⟩⟩; kernel_rfl)
def tN(x:aH [.list TyD,.clo 171 [TyH]]):oK [.bool]:=match x with
 | (v0,v1,()) =>
  aC (vO (v0,(v1.1,()),())) λy1 =>
  some (!(ltI y1.1 0),())
abbrev FY:Ent:=⟨43,_,_,tN⟩
theorem DK:Ent.OK tP FY:=oI (aO (oV FR oW)) func43 Y (by rintro⟨v0,v1,⟨⟩⟩; kernel_rfl)
def aB3(x:aH [.agg TyH,.agg TyH]):oK [.bool,.int .i64]:=match x with
 | (v0,v1,()) =>
  aC (tX (v0,v1,())) λy1 =>
  bif !(eqI y1.1 0) then
   some (false,y1.1,())
  else aC (tN (v0.2,(v1,()),())) λy2 =>
  bif y2.1 then
   some (false,0,())
  else some (true,0,())
abbrev aN4:Ent:=⟨124,_,_,aB3⟩
theorem aHR:Ent.OK tP aN4:=oI (aO (oV FM (oV DK oW))) func124 Y (by rintro⟨v0,v1,⟨⟩⟩; kernel_rfl)
def ES(x:aH [.agg TyH,.agg TyH]):oK [.agg TyH,.int .i64]:=match x with
 | (v0,v1,()) =>
  aC (tX (v0,v1,())) λy1 =>
  bif !(eqI y1.1 0) then
   some ((0,[]),y1.1,())
  else aC (cV () (v0.2,()) []) λy2 =>
  aC (cV () (v1.2,()) y2.2) λy3 =>
  bif Nat.ble y3.1.length 1048576 then bif Nat.ble y2.1.length 1048576 then aC (cF (y2.1++y3.1) (v0.1,()) y3.2) λy4 =>
  aC (cW y4.1 (v0.1,()) y4.2) λy5 =>
  some (y5.1.1,y5.1.2.1,()) else none else none
def aAI:Code:=dJ f116
abbrev aIR:Env:=MU [LH] [xI,mL,mI]
theorem aNQ:gD tP aIR:=l5 ⟨FM,trivial⟩ ⟨yE,nJ,nC,trivial⟩
def aGH(id:Nat):Option dN:=none
theorem aLM:bG aAI=[]:=Y
theorem aN7:∀ x,aGE tP aIR f116 (aP f116) aGH aAI 110 .str _ _ x=ES x:=by
 rintro⟨v0,v1,⟨⟩⟩
 kernel_rfl
abbrev aV7:Ent:=⟨116,_,_,ES⟩
theorem aOB:Ent.OK tP aV7:=aKC aY aNQ func116 (c:=aAI) Y (bZ:=aP f116) (lt:=aGH) (aQ aLM trivial) aN7
end Go.PM
