/- Texts of one proof, joined (6). -/
import Derived.Test.YtmghkhgpkefgeaaGreatDoorQR5
set_option linter.unusedSimpArgs false
set_option linter.unusedVariables false
set_option maxRecDepth 100000
noncomputable section
namespace Go.PM
open Go Go.RowKit
section
variable {P:Program} {n0:Nat->Prop} {w w':World} {G G':Gd} {μ μ1:Mp} {H H1:Heap}
def OM(μ μ1:Mp)(h:Nat):Mp:=⟨λr=>if r<h then μ.loc r else μ1.loc (r-h),λr=>if r<h then μ.len r else μ1.len (r-h),λr=>if r<h then μ.sh r else μ1.sh (r-h)⟩
theorem yK {h r}(hr:r<h):(OM μ μ1 h).loc r=μ.loc r/\(OM μ μ1 h).len r=μ.len r/\(OM μ μ1 h).sh r=μ.sh r:=by simp[OM,hr]
theorem AQ {h r}(hr:h<=r):(OM μ μ1 h).loc r=μ1.loc (r-h)/\(OM μ μ1 h).len r=μ1.len (r-h)/\(OM μ μ1 h).sh r=μ1.sh (r-h):=by
 have:¬ r<h:=Z
 simp[OM,this]
theorem aVJ(hW:aR n0 G μ H w)(e:Ext (BV w) w G.bare aI w' G' μ1):Ext n0 w G μ w' (G'.with G) (OM μ μ1 H.length):={
 good:=e.good
 map:=λr b hr=>by
  rcases oG r H.length with hl|hl
  ·rw[(yK hl).1]; omega
  ·rw[(hW.top r hl).1]at hr; grind
 len:=λr b hr=>by
  rcases oG r H.length with hl|hl
  ·rw[(yK hl).2.1]; omega
  ·rw[(hW.top r hl).2]at hr; grind
 sh:=λr b hr=>by
  rcases oG r H.length with hl|hl
  ·exact(yK hl).2.2
  ·rw[(hW.top r hl).1]at hr; cases hr
 room:=e.room
 row:=λ_ _ h=>h
 os:=e.os
 tape:=e.tape
 output:=e.output
 size:=e.size
 old:=λb hb _=>e.old b hb (Nat.not_le.2 hb)
 new:=λb hb=>by
  rcases e.new b hb with h|h
  ·exact .inl h
  ·exact .inr (hW.base b h) }
theorem a2S(hW:aR n0 G μ H w)(e:Ext (BV w) w G.bare aI w' G' μ1)(h1:aR (BV w) G' μ1 H1 w')(ht:XK H1=true)(hp:∀ (r:Nat) k,H1[r]?=some (some k)->gL.noRows k.cells=true/\∀ t l,k.tag≠some ⟨.rows t,l⟩):aR n0 (G'.with G) (OM μ μ1 H.length) (H++H1) w':=by
 have e':=aVJ hW e;have key:∀ (r:Nat) (k:Blk),(H++H1)[r]?=some (some k)->(r<H.length/\H[r]?=some (some k))\/(H.length<=r/\H1[r-H.length]?=some (some k)):=by
  intro r k hr;rcases oG r H.length with hl|hl
  ·rw[List.getElem?_append_left hl]at hr; exact .inl ⟨hl,hr⟩
  ·rw[List.getElem?_append_right hl]at hr; exact .inr ⟨hl,hr⟩
 refine⟨?_,?_,?_,h1.lt,?_,λb hb=>hW.base b (oR e.size hb),hW.rows.step e'.toMono.aI e.size (λ_=>rfl) (λj b hj=>?_) (λr k t l hr hg htg=>?_)⟩
 case refine_5 =>
  have hlt:=(hW.rows.sep j b hj).1;refine⟨e.old b hlt (Nat.not_le.2 hlt),λhg=>?_,λr k hr hf hl=>?_⟩
  ·rcases e.new b hg with h|h
   ·exact h
   ·exact absurd hlt (Nat.not_lt.2 h)
  ·rcases key r k hr with ⟨hl2,hr⟩|⟨hl2,hr⟩
   ·rw[(yK hl2).1]at hl; exact⟨r,k,hr,hf,hl⟩
   ·rw[(AQ hl2).1]at hl;obtain⟨_,_,_,_,_,a5⟩:=h1.blk _ k b hr hl;exact absurd hlt (Nat.not_lt.2 (a5 hf).1)
 case refine_6 =>
  rcases key r k hr with ⟨hl2,hr⟩|⟨hl2,hr⟩
  ·exact⟨k,hr,rfl,rfl,rfl,(yK hl2).1⟩
  ·exact absurd htg ((hp _ k hr).2 t l)
 ·intro r k b hr hb;rcases key r k hr with ⟨hl,hr⟩|⟨hl,hr⟩
  ·rw[(yK hl).1]at hb;obtain⟨c,a1,a2,a3,a4,a5⟩:=hW.blk r k b hr hb;have hlt:=hW.rK hr hb;have ho:=e.old b hlt (Nat.not_le.2 hlt);rw[(yK hl).2.2];refine⟨c,ho.trans a1,aO.mono e'.toMono ho _ _ a2,a3,λhf=>(e.good b (a4 hf)).1,λhf=>⟨(a5 hf).1,λhg=>?_⟩⟩;rcases e.new b hg with h|h
   ·exact(a5 hf).2 h
   ·omega
  ·rw[(AQ hl).1]at hb;obtain⟨c,a1,a2,a3,a4,a5⟩:=h1.blk _ k b hr hb;rw[(AQ hl).2.2];refine⟨c,a1,?_,a3,a4,λhf=>⟨hW.base b (a5 hf).1,(a5 hf).2⟩⟩;refine yM (G:=G') (G':=G'.with G) (λb h=>h) _ _ _ _ (hp _ k hr).1 ?_;rcases YA ht hr with hg|hg
   ·obtain⟨g,hg⟩:=Option.isSome_iff_exists.1 hg;have:=(h1.tags _ k g hr hg).1;rw[this]at a2 ⊢;exact sW (kQ _ _) a2
   ·exact sW hg a2
 ·intro r k g hr hg;rcases key r k hr with ⟨hl,hr⟩|⟨hl,hr⟩
  ·rw[(yK hl).2.1]; exact hW.tags r k g hr hg
  ·rw[(AQ hl).2.1]; exact h1.tags _ k g hr hg
 ·intro r s k l b hr hs fk fl m1 m2;rcases key r k hr with ⟨hl,hr⟩|⟨hl,hr⟩ <;> rcases key s l hs with ⟨hl2,hs⟩|⟨hl2,hs⟩
  ·rw[(yK hl).1]at m1;rw[(yK hl2).1]at m2;exact hW.inj r s k l b hr hs fk fl m1 m2
  ·rw[(yK hl).1]at m1;rw[(AQ hl2).1]at m2;obtain⟨_,_,_,_,_,a5⟩:=h1.blk _ l b hs m2;have:=hW.rK hr m1;have:=(a5 fl).1;omega
  ·rw[(AQ hl).1]at m1;rw[(yK hl2).1]at m2;obtain⟨_,_,_,_,_,a5⟩:=h1.blk _ k b hr m1;have:=hW.rK hs m2;have:=(a5 fk).1;omega
  ·rw[(AQ hl).1]at m1;rw[(AQ hl2).1]at m2;have:=h1.inj _ _ k l b hr hs fk fl m1 m2;omega
 ·intro r hr;simp only[oH]at hr;have hl:H.length<=r:=Z
  rw[(AQ hl).1,(AQ hl).2.1];exact h1.top _ Z
theorem a3G {r sz v}(h:VR w' G' μ1 (.own r sz) v):VR w' G' (OM μ μ1 H.length) (.own (H.length+r) sz) v:=by
 have e:=AQ (μ:=μ) (μ1:=μ1) (h:=H.length) (r:=H.length+r) R;rw[VR]at h ⊢;grind
def aPR(P:Program) (g:FuncId) (args:List Kd) (e:TypeId) (ty:Ty) (f:aK args->Option (List ty.den)):Prop :=
 ∀ x l,f x=some l->∀ {n0 G μ w us},aR n0 G μ [] w->VRs w G μ (qM args x) us->DF P n0 w G μ g us.toArray (.own 0 ty.size) [some ⟨aJ ty l,e,true,false,some ⟨ty,l⟩⟩]
def bCE(t:Nat)(e:TypeId)(ty:Ty)(ex:Ex)(F:Frm)(H:Heap):Option (List ty.den):=match ex with
 | .exit _=>none
 | _=>match UB [(t,.own e ty)] F H with
  | some x=>some x.1
  | none=>none
def aWF(P:Program)(E:Env)(fn:Func)(cD:Nat)(lt:Nat->Option eF)(c:Code) args (t:Nat)(e:TypeId)(ty:Ty)(x:aK args):Option (List ty.den) :=
 bif Nat.ble (qM args x).length fn.ntmps then H7 P E fn.ntmps cD lt c (start cD 0 (qM args x)) [] (bCE t e ty) else none
theorem aTN {E} (hP:RE P) (hE:iK P E) {g:Nat} {fn} (hg:P.funcs[g]?=some fn) {c} (hc:fn.body=some c) {cD lt args} {t:Nat} (hr:fn.results.toList=[.tmp t]) {e ty f}
  (hl:∀ a∈bV c,∀ s,lt (cE a)=some s->eT P fn.ntmps a s) (hb:∀ x,aWF P E fn cD lt c args t e ty x=f x):aPR P g args e ty f:=by
 intro x l hy n0 G μ w us hW hv;rw[<- hb]at hy;unfold aWF at hy;obtain⟨hlen,hy⟩:=aH hy;obtain⟨⟨ex,F',H'⟩,h1,h2⟩:=rI hE.callee hP.mixed c _ _ _ _ hl hy;obtain⟨y,hex,hd,hyl⟩:∃ y,(ex=.normal\/ex=.ret)/\UB [(t,.own e ty)] F' H'=some y/\y.1=l:=by
  unfold bCE at h1;split at h1
  ·cases h1
  next hne=>
   split at h1
   ·rename_i y hy;simp only[oJ]at h1;refine⟨y,?_,hy,h1⟩;cases ex with
    | normal=>exact .inl rfl
    | ret=>exact .inr rfl
    | exit i=>exact absurd rfl (hne i)
   ·cases h1
 obtain⟨yl,⟨⟩⟩:=y;dsimp only at hyl;subst hyl;refine⟨enters hg (hP.names g fn hg) (by rw[hc]; rfl) _ _,calls_of_wp hg hc ?_⟩;have hI:I n0 w G μ fn.ntmps (start cD 0 (qM args x)) [] ⟨us.toArray++Array.replicate (fn.ntmps-us.toArray.size) undef,[]⟩ w:=⟨G,μ,Ext.refl _ _ _ _,hW,E5 (by simpa using hv) (oL hlen)⟩;refine wp_mono (h2 n0 w G μ _ w (λr=>hW.top r (Nat.zero_le _)) hI) ?_;rintro e0 a' w' ⟨rfl,hI'⟩
 obtain⟨G',μ',e',hW',hF'⟩:=H8 hd (λr=>hW.top r (Nat.zero_le _)) hI';have hvs:yV P (B0 [(t,.own e ty)] (yl,()) 0) (LN [(t,.own e ty)] (yl,())) fn.results.toList=some [.own 0 ty.size]:=by
  rw[hr];simp[yV,aKU,B0,DZ,dT]
 obtain⟨ws,h3,h4⟩:=vT (P:=P) hW' hF' hvs;have hres:(results fn a'.tmps).run P w'=.ok (if hh:ws.toArray.size=1 then ws.toArray[0] else .tuple ws.toArray) w':=by
  rw[I2,Array.mapM_eq_mapM_toList];simp only[Sem.run_bind,Sem.run_map,h3,Result.andThen_ok,Sem.run_pure]
 have hpost:a'.defers=[]/\∃ v,(results fn a'.tmps).run P w'=.ok v w'/\(∃ v' G'' μ'',Ending.returned v=.returned v'/\Ext n0 w G μ w' G'' μ''/\aR n0 G'' μ'' (LN [(t,.own e ty)] (yl,())) w'/\VR w' G'' μ'' (.own 0 ty.size) v') :=
  ⟨hF'.defers,_,hres,_,G',μ',rfl,e',hW',yY h4⟩
 rcases hex with rfl|rfl
 ·exact hpost
 ·exact hpost
def a6W(args:List Kd) (e:TypeId) (ty:Ty) (f:aK args->Option (List ty.den)) (qs:List PV) (H:Heap):Option aN6 :=
 bif eQ.noRefs qs&&(gL.noRows qs&&ty.plain) then match aOK args qs with
  | some x=>some ⟨List ty.den,f x,λl=>(.own H.length ty.size,H++[some ⟨aJ ty l,e,true,false,some ⟨ty,l⟩⟩])⟩
  | none=>none
 else none
def a5O(args:List Kd) (e:TypeId) (ty:Ty) (f:aK args->Option (List ty.den)) (qs:List PV) (H:Heap):Option aN6 :=
 match aVU (CE H (aTG qs)) qs with
 | some ps=>a6W args e ty f ps (CE H (aTG qs))
 | none=>none
theorem a68 {g args e ty f}(hf:aPR P g args e ty f):xI P (g,a6W args e ty f):=by
 intro qs H r h y hy n0 G μ w vs hW hv;dsimp only at h;unfold a6W at h;obtain⟨hn,h⟩:=aHF h;split at h
 next x hx=>
  have h:=oB h;subst h;simp only[oA]at hn;obtain⟨hn,hnr,hpl⟩:=hn;have hW0:aR (BV w) G.bare aI [] w:=⟨λr k b h=>by simp at h,λr k g h=>by simp at h,λr s k l b h=>by simp at h,hW.lt,λ_ _=>⟨rfl,rfl⟩,λ_ h=>h,vN.none _ _ (λ_=>rfl) _ _ (λr k h=>by simp at h)⟩;obtain⟨h1,h2⟩:=hf x y hy hW0 (KN args hx (yJ (G:=G) (G':=G.bare) (λb h=>h) _ _ _ hnr (dE _ _ hn hv)));refine⟨h1,h2.mono ?_⟩;rintro e' w' ⟨v',G',μ1,rfl,e1,e2,e3⟩
  refine⟨v',G'.with G,OM μ μ1 H.length,rfl,aVJ hW e1,a2S hW e1 e2 rfl (λr k hr=>?_),?_⟩
  ·cases r with
   | zero =>
    simp only[List.getElem?_cons_zero,oJ]at hr;subst hr;exact⟨CH _ hpl _,λt l h=>by obtain⟨rfl,_⟩:=h; cases hpl⟩
   | succ r=>simp at hr
  have:=a3G (H:=H) (μ:=μ) e3;rw[VR]at this ⊢;simpa using this
 ·cases h
theorem aSI {g args e ty f}(hf:aPR P g args e ty f):xI P (g,a5O args e ty f):=by
 intro qs H r h y hy n0 G μ w vs hW hv;dsimp only at h;unfold a5O at h;split at h
 next ps hps=>obtain⟨G1,e1,hW1⟩:=CU (aTG qs) H G hW;obtain⟨h1,h2⟩:=a68 hf ps _ r h y hy hW1 (aSH hW1 hps (VRs.mono e1.toMono _ _ hv)).aZ;refine⟨h1,h2.mono ?_⟩;rintro e' w' ⟨v',G',μ1,rfl,q1,q2,q3⟩;exact⟨v',G',μ1,rfl,e1.trans q1,q2,q3⟩
 grind
end
section
variable {P:Program} {n0:Nat->Prop} {w w':World} {G G':Gd} {μ μ1:Mp} {H H1:Heap}
theorem aVD(hW:aR n0 G μ H w) {r:Nat} (hr:H[r]?=some none) (k:Blk) (hf:k.frozen=false) (hg:k.grown=true)
  (hblk:∀ b,μ.loc r=some b->(∃ c,w.heap[b]?=some (.cells c k.ty (0,0))/\aO w G μ b (μ.sh r) k.cells)/\n0 b/\¬ G b/\(∀ s k1,H[s]?=some (some k1)->k1.frozen=false->μ.loc s≠some b)/\∀ j,G.row j≠some b)
  (htag:∀ g,k.tag=some g->k.cells=aJ g.t g.l/\μ.len r=some g.l.length):aR n0 G μ (H.set r (some k)) w:=by
 have hlt:r<H.length:=(oO.1 hr).1;have key:∀ s k1,(H.set r (some k))[s]?=some (some k1)->(s=r/\k1=k)\/(s≠r/\H[s]?=some (some k1)):=by
  intro s k1 hs
  by_cases e:r=s
  ·subst e;rw[List.getElem?_set_self hlt]at hs;exact .inl ⟨rfl,(oB (oB hs)).symm⟩
  ·rw[List.getElem?_set_ne e]at hs;exact .inr ⟨Ne.symm e,hs⟩
 refine⟨?_,?_,?_,hW.lt,λs hs=>hW.top s (by simpa using hs),hW.base,?_⟩
 ·intro s k1 b hs hb;rcases key s k1 hs with ⟨rfl,rfl⟩|⟨_,hs⟩
  ·obtain⟨⟨c,h1,h2⟩,h3,h4,_⟩:=hblk b hb;exact⟨c,h1,h2,λh=>(by rw[hg]at h; cases h),λh=>(by rw[hf]at h; cases h),λ_=>⟨h3,h4⟩⟩
  ·exact hW.blk s k1 b hs hb
 ·intro s k1 g hs h1;rcases key s k1 hs with ⟨rfl,rfl⟩|⟨_,hs⟩
  ·exact htag g h1
  ·exact hW.tags s k1 g hs h1
 ·intro s1 s2 k1 k2 b h1 h2 f1 f2 m1 m2;rcases key s1 k1 h1 with ⟨rfl,rfl⟩|⟨_,h3⟩
  ·rcases key s2 k2 h2 with ⟨rfl,rfl⟩|⟨_,h4⟩
   ·rfl
   ·exact absurd m2 ((hblk b m1).2.2.2.1 s2 k2 h4 f2)
  ·rcases key s2 k2 h2 with ⟨rfl,rfl⟩|⟨_,h4⟩
   ·exact absurd m1 ((hblk b m2).2.2.2.1 s1 k1 h3 f1)
   ·exact hW.inj s1 s2 k1 k2 b h3 h4 f1 f2 m1 m2
 ·refine⟨hW.rows.inj,?_,hW.rows.cel,?_,?_⟩
  ·intro j b hj;obtain⟨a1,a2,a3,a4⟩:=hW.rows.sep j b hj;refine⟨a1,a2,a3,λs k1 hs f1 m1=>?_⟩;rcases key s k1 hs with ⟨rfl,rfl⟩|⟨_,hs⟩
   ·exact(hblk b m1).2.2.2.2 j hj
   ·exact a4 s k1 hs f1 m1
  ·intro s k1 t l hs h1 h2;rcases key s k1 hs with ⟨rfl,rfl⟩|⟨_,hs⟩
   ·rw[hg]at h1; cases h1
   ·exact hW.rows.arn s k1 t l hs h1 h2
  ·intro s1 s2 k1 k2 t l t' l' h1 g1 t1 h2 g2 t2;rcases key s1 k1 h1 with ⟨rfl,rfl⟩|⟨_,h1⟩
   ·rw[hg]at g1; cases g1
   ·rcases key s2 k2 h2 with ⟨rfl,rfl⟩|⟨_,h2⟩
    ·rw[hg]at g2; cases g2
    ·exact hW.rows.one s1 s2 k1 k2 t l t' l' h1 g1 t1 h2 g2 t2
def aVO(P:Program) (g:FuncId) (e:TypeId) (t:Ty) (args:List Kd) (f:List t.den->aK args->Option (List t.den)):Prop :=
 ∀ l x l',f l x=some l'->∀ {n0 G μ H w us r},aR n0 G μ H w->H[r]?=some (some (owB e t l))->VRs w G μ (.own r t.size::qM args x) us->gL.noRows (qM args x)=true->DF P n0 w G μ g us.toArray (.tuple []) (H.set r (some (owB e t l')))
def X8 {t:Ty} {args:List Kd} (f:Unit->aK (.hnd t.size::args)->List (List t.den)->Option (aK []×List (List t.den))) (l:List t.den) (x:aK args):Option (List t.den):=match f () ((0,0,l.length),x) [l]with
 | some ((),[l'])=>bif Nat.beq l'.length l.length then some l' else none
 | _=>none
def aY9(P:Program) (g:FuncId) (e:TypeId) (t:Ty) (args rets:List Kd) (f:List t.den->aK args->Option (aK rets×List t.den)):Prop :=
 ∀ l x y l',f l x=some (y,l')->∀ {n0 G μ H w us r},aR n0 G μ H w->H[r]?=some (some (owB e t l))->VRs w G μ (.own r t.size::qM args x) us->gL.noRows (qM args x)=true->DF P n0 w G μ g us.toArray (aOW rets y) (H.set r (some (owB e t l')))
def aC1 {t:Ty} {args rets:List Kd} (f:Unit->aK (.hnd t.size::args)->List (List t.den)->Option (aK rets×List (List t.den))) (l:List t.den) (x:aK args):Option (aK rets×List t.den):=match f () ((0,0,l.length),x) [l]with
 | some (y,[l'])=>bif Nat.beq l'.length l.length then some (y,l') else none
 | _=>none
def a5F:List Kd->Bool
 | []=>true
 | [.bool]=>true
 | [.int _]=>true
 | _=>false
theorem a4N {rets}(h:a5F rets=true) y {w G G' μ μ' v}(hv:VR w G μ (aOW rets y) v):VR w G' μ' (aOW rets y) v:=by
 unfold a5F at h;split at h
 ·change VR w G μ (.tuple []) v at hv;change VR w G' μ' (.tuple []) v;obtain⟨vs,h1,h2⟩:=hv;exact⟨vs,h1,h2⟩
 ·obtain⟨b,⟨⟩⟩:=y;change VR w G μ (.lit (.bool b)) v at hv;change VR w G' μ' (.lit (.bool b)) v;exact hv
 next k=>obtain⟨b,⟨⟩⟩:=y;change VR w G μ (.lit (.int k b)) v at hv;change VR w G' μ' (.lit (.int k b)) v;exact hv
 grind
theorem aK8 {g:FuncId} {e:TypeId} {t:Ty} {args rets:List Kd} {f:Unit->aK (.hnd t.size::args)->List (List t.den)->Option (aK rets×List (List t.den))} (hf:OA P g e t .none (.hnd t.size::args) (.data rets) f) (hd:aFJ args=true) (hpl:t.plain=true) (hlr:a5F rets=true) (he:e≠SO:=by decide):aY9 P g e t args rets (aC1 f):=by
 intro l x yy l' hy n0 G μ H w us r hW hk hv hnr;unfold aC1 at hy;split at hy
 next y1 l1 hfl=>
  obtain⟨hlen,hy⟩:=aH hy;obtain⟨rfl,rfl⟩:=Prod.mk.inj (oB hy);have hlen:=oE hlen;have ht2:=(hW.tags r _ _ hk rfl).2;have hlt:r<H.length:=(oO.1 hk).1;obtain⟨rb,hrb⟩:∃ rb:Option Nat,rb=if l=[] then none else μ.loc r:=⟨_,rfl⟩
  have hrbl:∀ b,rb=some b->μ.loc r=some b/\l≠[]:=λb hb=>by
   rw[hrb]at hb;split at hb
   ·cases hb
   next hne=> exact⟨hb,hne⟩
  have hmine:∀ b,μ.loc r=some b->n0 b/\¬ G b:=λb hb=>by
   obtain⟨_,_,_,_,_,h6⟩:=hW.blk r _ b hk hb;exact h6 rfl
  have hrow:∀ j b,G.row j=some b->μ.loc r≠some b:=λj b hj=>(hW.rows.sep j b hj).2.2.2 r _ hk rfl
  obtain⟨u,us',rfl,q1,q2⟩:∃ u us',us=u::us'/\VR w G μ (.own r t.size) u/\VRs w G μ (qM args x) us':=by rw[VRs]at hv; exact hv
  have at0:∀ (s:Nat) (k1:Blk),([some (arB e t [l])]:Heap)[s]?=some (some k1)->s=0/\k1=arB e t [l]:=by
   intro s k1 hs;cases s with
   | zero=>simp only[List.getElem?_cons_zero,oJ]at hs; exact⟨rfl,hs.symm⟩
   | succ s=>simp at hs
  have hG0:∃ G0:Gd,G0=⟨G.ok,λj=>if j=0 then rb else none⟩:=⟨_,rfl⟩;obtain⟨G0,hG0⟩:=hG0;have hok:G0.ok=G.ok:=by rw[hG0]
  have hr0:∀ j b,G0.row j=some b->j=0/\rb=some b:=λj b hj=>by
   rw[hG0]at hj;dsimp only at hj;split at hj
   ·exact⟨‹_›,hj⟩
   ·cases hj
  have hW1:aR (λb=>w.heap.size<=b\/rb=some b) G0 ⟨λ_=>none,λs=>if s=0 then some 1 else none,λ_=>0⟩ [some (arB e t [l])] w:=by
   refine⟨λs k1 b hs hb=>(by cases hb),?_,λs1 s2 k1 k2 b _ _ _ _ m=>(by cases m),by rw[hok]; exact hW.lt,?_,λb hb=>.inl hb,?_⟩
   ·intro s k1 gg hs hg;obtain⟨rfl,rfl⟩:=at0 s k1 hs;cases hg;exact⟨rfl,rfl⟩
   ·intro s hs;have:s≠0:=by rintro rfl; simp at hs
    exact⟨rfl,by simp[this]⟩
   ·refine⟨λi j b h1 h2=>(hr0 i b h1).1.trans (hr0 j b h2).1.symm,λj b hj=>?_,λj b hj=>?_,λs k1 t1 l1 hs h1 h2=>?_,λs1 s2 k1 k2 t1 l1 t2 l2 h1 _ _ h2 _ _=>((at0 s1 k1 h1).1.trans (at0 s2 k2 h2).1.symm)⟩
    ·obtain⟨_,h2⟩:=hr0 j b hj;exact⟨hW.rK hk (hrbl b h2).1,.inr h2,by rw[hok]; exact(hmine b (hrbl b h2).1).2,λ_ _ _ _ h=>by cases h⟩
    ·obtain⟨_,h2⟩:=hr0 j b hj;obtain⟨c,h3,_⟩:=hW.blk r _ b hk (hrbl b h2).1;exact .inl ⟨c,_,_,h3⟩
    ·obtain⟨rfl,rfl⟩:=at0 s k1 hs;cases h2;refine⟨rfl,λj hj=>?_,λj row hj=>?_⟩
     ·rw[hG0];have:j≠0:=by rintro rfl; simp at hj
      simp[this]
     ·cases j with
      | zero =>
       simp only[List.getElem?_cons_zero,oJ]at hj;subst hj
       by_cases hl:l=[]
       ·exact .inl ⟨hl,he⟩
       ·right;rw[VR]at q1;obtain⟨n,z1,z2⟩:=q1;rw[ht2]at z1;obtain rfl:=oB z1;rcases z2 with ⟨z2,_⟩|⟨b,c,z2,_,_,_,z5⟩
        ·exact absurd (List.eq_nil_of_length_eq_zero z2) hl
        ·obtain⟨cc,a1,a2,_⟩:=hW.blk r _ b hk z2;rw[z5]at a2;refine⟨b,by rw[hG0,hrb]; simp[hl,z2],.inl ⟨he,cc,a1,?_⟩⟩;exact yM (G:=G) (G':=G0) (λb h=>by rw[hok]; exact h) _ _ _ _ (CH t hpl l) (sW (kQ _ _) a2)
      | succ j=>simp at hj
  have hsh:l≠[]->μ.sh r=0:=λhl=>by
   rw[VR]at q1;obtain⟨n,z1,z2⟩:=q1;rw[ht2]at z1;obtain rfl:=oB z1;rcases z2 with ⟨z2,_⟩|⟨_,_,_,_,_,_,z5⟩
   ·exact absurd (List.eq_nil_of_length_eq_zero z2) hl
   ·exact z5
  have hv1:VRs w G0 ⟨λ_=>none,λs=>if s=0 then some 1 else none,λ_=>0⟩ (Tk.none.pv 0++qM (.hnd t.size::args) ((0,0,l.length),x)) (u::us'):=by
   change VRs w G0 _ (.row 0 0 l.length t.size::qM args x) (u::us');rw[VRs];refine⟨u,us',rfl,?_,VRs.aZ (yJ (G:=G) (G':=G0) (λb h=>by rw[hok]; exact h) _ _ _ hnr (dE _ _ (QL args x hd) q2))⟩;rw[VR]at q1;rw[VR];obtain⟨n,z1,z2⟩:=q1;rw[ht2]at z1;obtain rfl:=oB z1;rcases z2 with ⟨z2,ao,rfl⟩|⟨b,c,z2,rfl,z3,z4⟩
   ·exact⟨ao,0,by rw[show l.length=0 from z2],by rw[show l.length=0 from z2]; exact oM _,.inl z2⟩
   ·obtain⟨z4,z5⟩:=z4;rw[z5];rw[z5]at z4;refine⟨_,c,rfl,z3,?_⟩
    by_cases hl:l=[]
    ·exact .inl (by rw[hl]; rfl)
    ·exact .inr ⟨b,by rw[hG0,hrb]; simp[hl,z2],by simp,by simpa using z4⟩
  obtain⟨c1,c2⟩:=hf () ((0,0,l.length),x) [l] y1 [l1] hfl (ra:=0) (r:=0) hW1 rfl ⟨λ_ _ h=>by cases h⟩ hv1;refine⟨c1,c2.mono ?_⟩;rintro e' w' ⟨v',G1,μ1,rfl,ee,hW',hvv⟩;have hb1:∀ b,rb=some b->G1.row 0=some b:=λb hb=>ee.row 0 b (by rw[hG0]; simp[hb])
  have hH1:(((T9 (Tk.none.ow () 0) [some (arB e t [l])]).set 0 none)++(some (arB e t [l1])::(An.data rets).hp y1):Heap)[1]?=some (some (arB e t [l1])):=rfl;have hn0:∀ b,b<w.heap.size->¬ n0 b->w'.heap[b]?=w.heap[b]?:=λb hb hn=>ee.old b hb (by
   rintro(h|h)
   ·exact Nat.not_le.2 hb h
   ·exact hn (hmine b (hrbl b h).1).1)
  have hgg:∀ b,G b->G0 b:=λb hb=>by rw[hok]; exact hb
  have e2:Ext n0 w G μ w' (G1.with G) μ:={
   good:=λb hb=>⟨(ee.good b (hgg b hb)).1,(ee.good b (hgg b hb)).2⟩
   map:=λ_ _ h=>h
   len:=λ_ _ h=>h
   room:=ee.room
   row:=λ_ _ h=>h
   os:=ee.os
   tape:=ee.tape
   output:=ee.output
   size:=ee.size
   old:=hn0
   new:=λb hb=>by
    rcases ee.new b hb with h|h|h
    ·rw[hok]at h; exact .inl h
    ·exact .inr (hW.base b h)
    ·exact .inr (hmine b (hrbl b h).1).1 }
  have hold:∀ b,b<w.heap.size->rb≠some b->w'.heap[b]?=w.heap[b]?/\(G1 b->G b):=λb hb hne =>
   ⟨ee.old b hb (by rintro(h|h); exact Nat.not_le.2 hb h; exact hne h),λhg=>by
    rcases ee.new b hg with h|h|h
    ·rw[hok]at h; exact h
    ·exact absurd hb (Nat.not_lt.2 h)
    ·exact absurd h hne⟩
  have hk2:aR n0 (G1.with G) μ (H.set r none) w':=by
   refine(sH hW r).cD e2 ⟨λ_=>rfl,λj b hj=>hold b (hW.rows.sep j b hj).1 λh=>hrow j b hj (hrbl b h).1⟩ ?_ (λb hb=>hW'.lt b hb);intro s k1 b hs hb;obtain⟨hs,hsr⟩:=tA hs;refine hold b (hW.rK hs hb) λh=>?_
   have hrb:=(hrbl b h).1;cases hf:k1.frozen with
   | false=>exact hsr (hW.inj s r k1 _ b hs hk hf rfl hb hrb)
   | true =>
    obtain⟨_,_,_,_,h5,_⟩:=hW.blk s k1 b hs hb;exact(hmine b hrb).2 (h5 hf)
  have hfin:aR n0 (G1.with G) μ (H.set r (some (owB e t l1))) w':=by
   have:=aVD hk2 (r:=r) (List.getElem?_set_self hlt) (owB e t l1) rfl rfl ?_ ?_
   ·rwa[List.set_set]at this
   ·intro b hb;have hcells:(∃ c,w'.heap[b]?=some (.cells c e (0,0))/\aO w' (G1.with G) μ b (μ.sh r) (aJ t l1))/\¬ G1 b:=by
     by_cases hl:l=[]
     ·have hl1:l1=[]:=List.eq_nil_of_length_eq_zero (by rw[hlen,hl]; rfl);have hne:rb≠some b:=λh=>(hrbl b h).2 hl
      obtain⟨o1,o2⟩:=hold b (hW.rK hk hb) hne;obtain⟨c,h3,_⟩:=hW.blk r _ b hk hb;refine⟨⟨c,o1.trans h3,?_⟩,λh=>(hmine b hb).2 (o2 h)⟩;rw[hl1]; simp[aJ,aO]
     ·have hbb:rb=some b:=by rw[hrb,if_neg hl]; exact hb
      have hrow1:=hb1 b hbb;obtain⟨_,_,a3⟩:=hW'.rows.arn 1 _ t [l1] hH1 rfl rfl;rcases a3 0 l1 rfl with h|⟨b',z1,z2⟩
      ·exact absurd (List.eq_nil_of_length_eq_zero (by rw[<- hlen,h.1]; rfl)) hl
      ·rw[hrow1]at z1;obtain rfl:=oB z1;obtain⟨c0,y1,_⟩:=hW.blk r _ b hk hb;obtain⟨c,z2,z3⟩:=z2.cells (.inr (e2.room b 0 ⟨c0,_,_,y1,Nat.zero_le _⟩));refine⟨⟨c,z2,?_⟩,(hW'.rows.sep 0 b hrow1).2.2.1⟩;rw[hsh hl];exact yM (G:=G1) (G':=G1.with G) (λb h=>h) _ _ _ _ (CH t hpl l1) (sW (kQ _ _) z3)
    refine⟨hcells.1,(hmine b hb).1,hcells.2,λs k1 hs hf hsb=>?_,λj hj=>hrow j b hj hb⟩;obtain⟨hs,hsr⟩:=tA hs;exact hsr (hW.inj s r k1 _ b hs hk hf rfl hsb hb)
   ·intro g hg;cases hg;exact⟨rfl,by rw[ht2,hlen]⟩
  refine⟨v',G1.with G,μ,rfl,e2,hfin,?_⟩;exact a4N hlr y1 hvv
 ·cases hy
theorem aII {g:FuncId}{e:TypeId}{t:Ty}{args:List Kd}{f:Unit->aK (.hnd t.size::args)->List (List t.den)->Option (aK []×List (List t.den))}(hf:OA P g e t .none (.hnd t.size::args) (.data []) f)(hd:aFJ args=true)(hpl:t.plain=true)(he:e≠SO:=by decide):aVO P g e t args (X8 f):=by
 intro l x l' hy n0 G μ H w us r hW hk hv hnr;refine aK8 hf hd hpl rfl he l x () l' ?_ hW hk hv hnr;unfold X8 at hy;unfold aC1;split at hy
 next l1 hfl=>obtain⟨hlen,hy⟩:=aH hy;obtain rfl:=oB hy;rw[hfl];show (bif Nat.beq l1.length l.length then some ((),l1) else none)=_;rw[hlen];rfl
 ·cases hy
def a0M(e:TypeId) (t:Ty) (args rets:List Kd) (f:List t.den->aK args->Option (aK rets×List t.den)) (qs:List PV) (H:Heap):Option aN6:=match aT7 e t H qs with
 | some (l,r,ps)=>match aOK args ps with
  | some x=>bif eQ.noRefs ps&&gL.noRows (qM args x) then some ⟨aK rets×List t.den,f l x,λz=>(aOW rets z.1,H.set r (some (owB e t z.2)))⟩ else none
  | none=>none
 | none=>none
theorem a5B {g e t args rets f}(hf:aY9 P g e t args rets f):xI P (g,a0M e t args rets f):=by
 intro qs H rh h y hy n0 G μ w vs hW hv;change a0M e t args rets f qs H=some rh at h;unfold a0M at h;split at h
 next l r ps hl=>
  split at h
  next x hx=>obtain⟨hb,h⟩:=aHF h;simp only[oJ]at h;subst h;simp only[oA]at hb;obtain⟨h0,rfl⟩:=Z4 hW hl;obtain⟨u,us,rfl,q1,q2⟩:=hv;exact hf l x y.1 y.2 hy hW h0 (⟨u,us,rfl,q1,(KN args hx (dE _ _ hb.1 q2)).aZ⟩) hb.2
  grind
 grind
def a2M(e:TypeId) (t:Ty) (args:List Kd) (f:List t.den->aK args->Option (List t.den)) (qs:List PV) (H:Heap):Option aN6:=match aT7 e t H qs with
 | some (l,r,ps)=>match aOK args ps with
  | some x=>bif eQ.noRefs ps&&gL.noRows (qM args x) then some ⟨List t.den,f l x,λl'=>(.tuple [],H.set r (some (owB e t l')))⟩ else none
  | none=>none
 | none=>none
theorem aQ4 {g e t args f}(hf:aVO P g e t args f):xI P (g,a2M e t args f):=by
 intro qs H rh h y hy n0 G μ w vs hW hv;change a2M e t args f qs H=some rh at h;unfold a2M at h;split at h
 next l r ps hl=>
  split at h
  next x hx=>obtain⟨hb,h⟩:=aHF h;simp only[oJ]at h;subst h;simp only[oA]at hb;obtain⟨h0,rfl⟩:=Z4 hW hl;obtain⟨u,us,rfl,q1,q2⟩:=hv;exact hf l x y hy hW h0 (⟨u,us,rfl,q1,(KN args hx (dE _ _ hb.1 q2)).aZ⟩) hb.2
  grind
 grind
end
def aZG(P:Program)(E:Env)(fn:Func)(cD:Nat)(lt rt:Nat->Option eF)(c:Code)(ae:TypeId)(t:Ty)(tk:Tk) args (an:An)(l:tk.den)(x:aK args)(A:List (List t.den)):Option (an.den×List (List t.den)) :=
 bif Nat.ble (tk.pv 0++qM args x).length fn.ntmps then HZ P E fn.ntmps cD lt rt false [] c (start cD 0 (tk.pv 0++qM args x)) (N5 (tk.ow l 0)++[some (arB ae t A)]) (a8T P fn.results.toList ae t an) else none
section
variable {P:Program} {n0:Nat->Prop} {w w':World} {G G1 G2:Gd} {μ μ2:Mp} {H H':Heap} {ae:TypeId} {t:Ty} {A B:List (List t.den)}
theorem a9J {E:Env} (hP:RE P) (hE:iK P E) {g:Nat} {fn:Func} (hg:P.funcs[g]?=some fn) {c:Code} (hc:fn.body=some c) {cD:Nat} {lt rt:Nat->Option eF} {ae:TypeId} {t:Ty} {tk:Tk} {args:List Kd} {an:An} {f:tk.den->aK args->List (List t.den)->Option (an.den×List (List t.den))}
  (hd:aFJ args=true) (hl:∀ a∈jG c,UJ P fn.ntmps lt rt false [] a) (hb:∀ l x A,aZG P E fn cD lt rt c ae t tk args an l x A=f l x A):OA P g ae t tk args an f:=by
 intro l x A y B hy n0 G μ H w us ra r hW har ho hv;rw[<- hb]at hy;unfold aZG at hy;obtain⟨hlen,hy⟩:=aH hy;obtain⟨⟨ex,F',H'⟩,h1,h2⟩:=pG hE.callee hP.mixed c _ _ _ _ hl hy;obtain⟨vs,B',hex,hvs,hB,hq,rfl⟩:∃ vs B',(ex=.normal\/ex=.ret)/\yV P F' H' fn.results.toList=some vs/\a2K ae t H'=some B'/\aS8 an (pE vs) H'=some y/\B'.2=B:=by
  unfold a8T at h1;split at h1
  ·cases h1
  next hne=>
   split at h1
   ·rename_i vs hvs;split at h1
    ·rename_i B' hB;split at h1
     ·rename_i y' hy';simp only[oJ,oP]at h1;obtain⟨rfl,h1⟩:=h1;refine⟨vs,B',?_,hvs,hB,hy',h1⟩;cases ex with
      | normal=>exact .inl rfl
      | ret=>exact .inr rfl
      | exit i=>exact absurd rfl (hne i)
     ·cases h1
    ·cases h1
   ·cases h1
 have hargs:VRs w G (mpA μ (tk.ow l r) A.length) (tk.pv 0++qM args x) us:=by
  have hn:=QL args x hd;cases tk with
  | none=>exact VRs.aZ (dE _ _ hn hv)
  | own e u =>
   change VRs w G μ (.own r u.size::qM args x) us at hv;change VRs w G _ (.own 0 u.size::qM args x) us;rw[VRs]at hv ⊢;obtain⟨v,us',rfl,q1,q2⟩:=hv;refine⟨v,us',rfl,?_,VRs.aZ (dE _ _ hn q2)⟩;rw[VR]at q1 ⊢;exact q1
 have howb:N5 (tk.ow l 0)=N5 (tk.ow l r):=by cases tk <;> rfl
 have hW1:=aE5 hW ho har;rw[<- howb]at hW1;have e0:Ext (wrA w G μ (tk.ow l r)) w G aI w G (mpA μ (tk.ow l r) A.length) :=
  ⟨⟨λb hb=>⟨hb,rfl⟩,λ_ _ h=>(by cases h),λ_ _ h=>(by cases h),λ_ _ h=>h,λ_ _ h=>h,λ_ _ h=>(by cases h)⟩,rfl,rfl,rfl,oM _,λ_ _ _=>rfl,λ_ h=>.inl h⟩
 refine⟨enters hg (hP.names g fn hg) (by rw[hc]; rfl) _ _,(callsIn_wide (n:=0)).1 (callsIn_of_wp_marks hg hc trivial ?_)⟩;have hI:I (wrA w G μ (tk.ow l r)) w G aI fn.ntmps (start cD 0 (tk.pv 0++qM args x)) (N5 (tk.ow l 0)++[some (arB ae t A)]) ⟨us.toArray++Array.replicate (fn.ntmps-us.toArray.size) undef,[]⟩ w :=
  ⟨G,_,e0,hW1,E5 (by simpa using hargs) (oL hlen)⟩
 refine wpIn_mono (h2 none 0 _ w G aI _ w (λ_=>rfl) (λr _=>⟨rfl,rfl⟩) hI.bBK) ?_;rintro e1 ⟨tm,ds⟩ w' ⟨rfl,hI',_⟩;have hend:∀ w',IM (wrA w G μ (tk.ow l r)) w G aI fn.ntmps F' H' { tmps:=tm,defers:=[] } w'->LeavesIn Fence.wide 0 P fn tm (λen w'=>∃ v' G'' μ'',en=.returned v'/\Ext n0 w G μ w' G'' μ''/\aR n0 G'' μ'' (((T9 (tk.ow l r) H).set ra none)++(some (arB ae t B'.2)::an.hp y)) w'/\VR w' G'' μ'' (an.pv y (H.length+1)) v') [] .returning w':=by
  rintro w' ⟨G1,μ1,ee,hW',hF',_⟩;obtain⟨ws,h3,h4⟩:=vT (P:=P) hW' hF' hvs;have hres:(results fn tm).run P w'=.ok (if hh:ws.toArray.size=1 then ws.toArray[0] else .tuple ws.toArray) w':=by
   rw[I2,Array.mapM_eq_mapM_toList];simp only[Sem.run_bind,Sem.run_map,h3,Result.andThen_ok,Sem.run_pure]
  have hrb:=aEL hW' hB;obtain⟨G2,μ3,b1,b2,b3⟩:∃ G2 μ3,Ext n0 w G μ w' G2 μ3/\aR n0 G2 μ3 (((T9 (tk.ow l r) H).set ra none)++(some (arB ae t B'.2)::an.hp y)) w'/\VR w' G2 μ3 (an.pv y (H.length+1)) (if hh:ws.toArray.size=1 then ws.toArray[0] else .tuple ws.toArray):=by
   have hvr:=yY h4;cases an with
   | data rets =>
    simp only[aS8]at hq;split at hq
    ·rename_i q hq';have hb:=aBW (G2:=⟨λb=>G1 b\/∃ s k,H'[s]?=some (some k)/\k.frozen=false/\μ1.loc s=some b,G1.row⟩) hW ho har ee hW' hrb (os:=none) ⟨λ_ _ _ h=>by cases h⟩ (λ_=>rfl) (λb hb=>.inl hb) (λb hb=>by
      rcases hb with h|⟨s,k,z1,z2,z3⟩
      ·exact .inl h
      ·exact .inr ⟨s,k,z1,z2,z3,λ_ _ _ h=>by cases h⟩)
     refine⟨_,_,hb.1,hb.2,?_⟩;have:=JE (G':=⟨λb=>G1 b\/∃ s k,H'[s]?=some (some k)/\k.frozen=false/\μ1.loc s=some b,G1.row⟩) hW' (λ_ _ h=>h) (λb hb=>.inl hb) (λs k1 b hs _ hb=>by
      obtain⟨_,_,_,_,g5,_⟩:=hW'.blk s k1 b hs hb;cases hf:k1.frozen with
      | true=>exact .inl (g5 hf)
      | false=>exact .inr ⟨s,k1,hs,hf,hb⟩) depth _ q _ hq' hvr
     exact(aBY hq this).aZ
    ·cases hq
   | own e u =>
    simp only[aS8]at hq;obtain⟨r1,l0,hos,hvv⟩:=aNP hW' hq hvr;have hb:=aBW (G2:=G1) hW ho har ee hW' hrb hos (λ_=>rfl) (λb hb=>hb) (λb hb=>.inl hb);refine⟨_,_,hb.1,hb.2,hvv _ _ _ ?_ ?_ ?_⟩
    ·have h1:¬ H.length+1<H.length:=Z
     simp[nZ,h1,a1E]
    ·have h1:¬ H.length+1<H.length:=Z
     simp[nZ,h1,aZR]
    ·have h1:¬ H.length+1<H.length:=Z
     simp[nZ,h1,shS]
   | str t1 e u t2 =>
    simp only[aS8]at hq;obtain⟨r1,hos,hvv⟩:=aK0 hW' hq hvr;have hb:=aBW (G2:=⟨λb=>G1 b\/∃ s k,H'[s]?=some (some k)/\k.frozen=false/\μ1.loc s=some b/\s≠r1,G1.row⟩) hW ho har ee hW' hrb hos (λ_=>rfl) (λb hb=>.inl hb) (λb hb=>by
     rcases hb with h|⟨s,k,z1,z2,z3,z4⟩
     ·exact .inl h
     ·exact .inr ⟨s,k,z1,z2,z3,λ_ _ _ h=>by cases h; exact z4⟩)
    refine⟨_,_,hb.1,hb.2,hvv ⟨λb=>G1 b\/∃ s k,H'[s]?=some (some k)/\k.frozen=false/\μ1.loc s=some b/\s≠r1,G1.row⟩ (λ_ _ h=>h) (λb hb=>.inl hb) (λs k b z1 z2 z3 z4=>.inr ⟨s,k,z1,z2,z4,z3⟩) _ _ ?_ ?_ ?_⟩
    ·have h1:¬ H.length+1<H.length:=Z
     simp[nZ,h1,a1E]
    ·have h1:¬ H.length+1<H.length:=Z
     simp[nZ,h1,aZR]
    ·have h1:¬ H.length+1<H.length:=Z
     simp[nZ,h1,shS]
  exact⟨_,hres,_,G2,μ3,rfl,b1,b2,b3⟩
 rcases hex with rfl|rfl
 ·exact B9 (λb hb=>(aE5 hW ho har).base b hb) hend ds w' hI'
 ·exact B9 (λb hb=>(aE5 hW ho har).base b hb) hend ds w' hI'
end
def aYN(P:Program)(E:Env)(fn:Func)(cD:Nat)(lt rt:Nat->Option eF)(c:Code)(ae:TypeId)(t:Ty) args rets (x:aK args):Option (aK rets) :=
 bif Nat.ble (qM args x).length fn.ntmps then HZ P E fn.ntmps cD lt rt false [] c (start cD 0 (qM args x)) [some (arB ae t [])] (aWP P fn.results.toList rets) else none
section
variable {P:Program}
theorem bBR {E} (hP:RE P) (hE:iK P E) {g:Nat} {fn} (hg:P.funcs[g]?=some fn) {c} (hc:fn.body=some c) {cD lt rt ae t args rets f}
  (hl:∀ a∈jG c,UJ P fn.ntmps lt rt false [] a) (hb:∀ x,aYN P E fn cD lt rt c ae t args rets x=f x):ZM P g args rets f:=by
 intro x y hy;rw[<- hb]at hy;unfold aYN at hy;obtain⟨hlen,hy⟩:=aH hy;obtain⟨⟨ex,F',H'⟩,h1,h2⟩:=pG hE.callee hP.mixed c _ _ _ _ hl hy;obtain⟨vs,q,hex,hvs,hq,hd⟩:∃ vs q,(ex=.normal\/ex=.ret)/\yV P F' H' fn.results.toList=some vs/\aX6 H' (pE vs)=some q/\aU2 rets q=some y:=by
  unfold aWP at h1;split at h1
  ·cases h1
  next hne=>
   split at h1
   ·rename_i vs hvs;split at h1
    ·rename_i q hq;refine⟨vs,q,?_,hvs,hq,h1⟩;cases ex with
     | normal=>exact .inl rfl
     | ret=>exact .inr rfl
     | exit i=>exact absurd rfl (hne i)
    ·cases h1
   ·cases h1
 obtain⟨hq1,hq2⟩:=QZ hq;intro w G us hlt hv;have at0:∀ (s:Nat) (k1:Blk),([some (arB ae t [])]:Heap)[s]?=some (some k1)->s=0/\k1=arB ae t []:=by
  intro s k1 hs;cases s with
  | zero=>simp only[List.getElem?_cons_zero,oJ]at hs; exact⟨rfl,hs.symm⟩
  | succ s=>simp at hs
 have hW:aR (BV w) (Gd.of G) ⟨λ_=>none,λr=>if r=0 then some 0 else none,λ_=>0⟩ [some (arB ae t [])] w:=by
  refine⟨(λr k b h hb=>by cases hb),(λr k g h hg=>?_),(λr s k l b h _ _ _ hb=>by cases hb),hlt,(λr hr=>⟨rfl,?_⟩),λ_ h=>h,⟨(λ_ _ _ h=>by cases h),(λ_ _ h=>by cases h),(λ_ _ h=>by cases h),(λr k u l h hgr ht=>?_),(λr s k k' u l u' l' h1 g1 t1 h2 g2 t2=>by rw[(at0 r k h1).1,(at0 s k' h2).1])⟩⟩
  ·obtain⟨rfl,rfl⟩:=at0 r k h;cases hg;exact⟨rfl,rfl⟩
  ·have:r≠0:=by rintro rfl; simp at hr
   simp[this]
  ·obtain⟨rfl,rfl⟩:=at0 r k h;cases ht;exact⟨rfl,λ_ _=>rfl,λj row hj=>by simp at hj⟩
 have e0:Ext (BV w) w (Gd.of G) aI w (Gd.of G) ⟨λ_=>none,λr=>if r=0 then some 0 else none,λ_=>0⟩ :=
  ⟨⟨λb hb=>⟨hb,rfl⟩,λ_ _ h=>(by cases h),λ_ _ h=>(by cases h),λ_ _ h=>h,λ_ _ h=>h,λ_ _ h=>(by cases h)⟩,rfl,rfl,rfl,oM _,λ_ _ _=>rfl,λ_ h=>.inl h⟩
 refine⟨enters hg (hP.names g fn hg) (by rw[hc]; rfl) _ _,(callsIn_wide (n:=0)).1 (callsIn_of_wp_marks hg hc trivial ?_)⟩;have hI:I (BV w) w (Gd.of G) aI fn.ntmps (start cD 0 (qM args x)) [some (arB ae t [])] ⟨us++Array.replicate (fn.ntmps-us.size) undef,[]⟩ w:=⟨Gd.of G,_,e0,hW,E5 hv.aZ (oL hlen)⟩;refine wpIn_mono (h2 none 0 _ w (Gd.of G) aI _ w (λ_=>rfl) (λr _=>⟨rfl,rfl⟩) hI.bBK) ?_;rintro e1 ⟨tm,ds⟩ w' ⟨rfl,hI',_⟩
 have hend:∀ w',IM (BV w) w (Gd.of G) aI fn.ntmps F' H' { tmps:=tm,defers:=[] } w'->LeavesIn Fence.wide 0 P fn tm (λen w'=>∃ v' G',en=.returned v'/\Ext (BV w) w (Gd.of G) aI w' (Gd.of G') aI/\(∀ b,G' b->b<w'.heap.size)/\VR w' (Gd.of G') aI (aOW rets y) v') [] .returning w':=by
  rintro w' ⟨G1,μ1,e1,e2,hF',_⟩;obtain⟨ws,h3,h4⟩:=vT (P:=P) e2 hF' hvs;have hres:(results fn tm).run P w'=.ok (if hh:ws.toArray.size=1 then ws.toArray[0] else .tuple ws.toArray) w':=by
   rw[I2,Array.mapM_eq_mapM_toList];simp only[Sem.run_bind,Sem.run_map,h3,Result.andThen_ok,Sem.run_pure]
  have hval:=SQ (G:=⟨λb=>G1 b\/∃ r k,H'[r]?=some (some k)/\μ1.loc r=some b,G1.row⟩) (G':=Gd.of λb=>G1 b\/∃ r k,H'[r]?=some (some k)/\μ1.loc r=some b) (λb h=>h) _ _ _ hq2
    (JE (G':=⟨λb=>G1 b\/∃ r k,H'[r]?=some (some k)/\μ1.loc r=some b,G1.row⟩) e2 (λ_ _ h=>h) (λb hb=>.inl hb) (λr k b hr _ hb=>.inr ⟨r,k,hr,hb⟩) depth _ q _ hq1 (yY h4))
  have hext:Ext (BV w) w (Gd.of G) aI w' (Gd.of λb=>G1 b\/∃ r k,H'[r]?=some (some k)/\μ1.loc r=some b) aI:={
   good:=λb hb=>⟨.inl (e1.good b hb).1,(e1.good b hb).2⟩
   map:=λ_ _ h=>h
   len:=λ_ _ h=>h
   room:=e1.room
   row:=λ_ _ h=>h
   os:=e1.os
   tape:=e1.tape
   output:=e1.output
   size:=e1.size
   old:=e1.old
   new:=λb hb=>by
    rcases hb with hb|⟨r,k,hr,hb⟩
    ·exact e1.new b hb
    ·obtain⟨c,_,_,_,g5,g6⟩:=e2.blk r k b hr hb;cases hf:k.frozen with
     | true=>exact e1.new b (g5 hf)
     | false=>exact .inr (g6 hf).1 }
  have hlt':∀ b,(G1 b\/∃ r k,H'[r]?=some (some k)/\μ1.loc r=some b)->b<w'.heap.size:=by
   rintro b (hb|⟨r,k,hr,hb⟩)
   ·exact e2.lt b hb
   ·exact e2.rK hr hb
  exact⟨_,hres,_,_,rfl,hext,hlt',aBY hd hval⟩
 rcases hex with rfl|rfl
 ·exact B9 (λb hb=>hW.base b hb) hend ds w' hI'
 ·exact B9 (λb hb=>hW.base b hb) hend ds w' hI'
end
open Go Go.RowKit Go.Proofs Tryz
set_option maxHeartbeats 4000000
def cU(x:aK [.str]):oK [.bool,.str]:=match x with
 | (v0,()) =>
  bif ltI 0 (v0.size:Int) then
   bif aF 0 v0.size then bif eqI (aN1 v0 0) 45 then
    bif Nat.ble 1 v0.size then bif Nat.ble v0.size v0.size then some (true,(v0.extract 1 v0.size),()) else none else none
   else some (false,v0,()) else none
  else some (false,v0,())
abbrev aSE:Ent:=⟨179,_,_,cU⟩
theorem yL:Ent.OK tP aSE:=oI (aQ oW) func179 Y (by rintro⟨v0,⟨⟩⟩; kernel_rfl)
def aA(x:aK [.bool,.str]):oK [.str]:=match x with
 | (v0,v1,()) =>
  bif v0 then
   bif !(eqS v1 (ByteArray.mk #[48])) then
    bif Nat.ble ((ByteArray.mk #[45]).size+v1.size) 9223372036854775807 then some (((ByteArray.mk #[45])++v1),()) else none
   else some (v1,())
  else some (v1,())
abbrev aW4:Ent:=⟨180,_,_,aA⟩
theorem KY:Ent.OK tP aW4:=oI (aQ oW) func180 Y (by rintro⟨v0,v1,⟨⟩⟩; kernel_rfl)
def sP(x:aK [.str,.int .i64]):oK [.int .i64,.bool]:=match x with
 | (v0,v1,()) =>
  bif ltI v1 (v0.size:Int) then
   some (0,false,())
  else aB (IF (v0,())) λy1 =>
  some (y1.1,true,())
abbrev aO1:Ent:=⟨178,_,_,sP⟩
theorem LQ:Ent.OK tP aO1:=oI (aQ (oV aH9 oW)) func178 Y (by rintro⟨v0,v1,⟨⟩⟩; kernel_rfl)
def pL(x:aK [.int .i64]):oK [.str]:=match x with
 | (v0,()) =>
  aB (ID (v0,())) λy1 =>
  some (y1.1,())
abbrev aP1:Ent:=⟨137,_,_,pL⟩
theorem J5:Ent.OK tP aP1:=oI (aQ (oV aID oW)) func137 Y (by rintro⟨v0,⟨⟩⟩; kernel_rfl)
def BW(x:aK [.str]):oK [.int .i64]:=match x with
 | (v0,()) =>
  bif eqS v0 (ByteArray.mk #[48]) then
   some (0,())
  else bif aF 0 v0.size then bif eqI (aN1 v0 0) 45 then
   some ((-1),())
  else some (1,()) else none
abbrev aJQ:Ent:=⟨167,_,_,BW⟩
theorem aAZ:Ent.OK tP aJQ:=oI (aQ oW) func167 Y (by rintro⟨v0,⟨⟩⟩; kernel_rfl)
def vV(x:aK [.int .u64]):oK [.str]:=match x with
 | (v0,()) =>
  aB (uR (v0,10,())) λy1 =>
  some (y1.1,())
abbrev NK:Ent:=⟨214,_,_,vV⟩
theorem J9:Ent.OK tP NK:=oI (aQ (oV YF oW)) func214 Y (by rintro⟨v0,⟨⟩⟩; kernel_rfl)
def FQ(x:aK [.str]):oK [.int .u64,.bool]:=match x with
 | (v0,()) =>
  aB (wV (v0,10,64,())) λy1 =>
  some (y1.1,true,())
abbrev aMV:Ent:=⟨234,_,_,FQ⟩
theorem aF2:Ent.OK tP aMV:=oI (aQ (oV ZG oW)) func234 Y (by rintro⟨v0,⟨⟩⟩; kernel_rfl)
def sV(x:aK [.str,.str]):oK [.int .u64,.int .u64,.bool]:=match x with
 | (v0,v1,()) =>
  bif ltI 18 (v0.size:Int) then
   some (0,0,false,())
  else bif ltI 18 (v1.size:Int) then
   some (0,0,false,())
  else aB (FQ (v0,())) λy1 =>
  aB (FQ (v1,())) λy2 =>
  some (y1.1,y2.1,true,())
abbrev IC:Ent:=⟨213,_,_,sV⟩
theorem GH:Ent.OK tP IC:=oI (aQ (oV aF2 oW)) func213 Y (by rintro⟨v0,v1,⟨⟩⟩; kernel_rfl)
def gB(x:aK [.str,.str]):oK [.int .i64]:=match x with
 | (v0,v1,()) =>
  bif !(eqI (v0.size:Int) (v1.size:Int)) then
   some ((if (if (-1)<(aC .i64 ((v0.size:Int)-(v1.size:Int))) then (aC .i64 ((v0.size:Int)-(v1.size:Int))) else (-1))<1 then (if (-1)<(aC .i64 ((v0.size:Int)-(v1.size:Int))) then (aC .i64 ((v0.size:Int)-(v1.size:Int))) else (-1)) else 1),())
  else bif ltS v0 v1 then
   some ((-1),())
  else bif !(ltS v0 v1||eqS v0 v1) then
   some (1,())
  else some (0,())
abbrev V8:Ent:=⟨182,_,_,gB⟩
theorem HJ:Ent.OK tP V8:=oI (aQ oW) func182 Y (by rintro⟨v0,v1,⟨⟩⟩; kernel_rfl)
def JY(x:aK [.str,.str]):oK [.int .i64]:=match x with
 | (v0,v1,()) =>
  aB (BW (v0,())) λy1 =>
  aB (BW (v1,())) λy2 =>
  bif !(eqI y1.1 y2.1) then
   bif ltI y1.1 y2.1 then
    some ((-1),())
   else some (1,())
  else aB (cU (v0,())) λy3 =>
  aB (cU (v1,())) λy4 =>
  bif y3.1 then
   aB (gB (y4.2.1,y3.2.1,())) λy5 =>
   some (y5.1,())
  else aB (gB (y3.2.1,y4.2.1,())) λy6 =>
  some (y6.1,())
abbrev aAD:Ent:=⟨163,_,_,JY⟩
theorem aGR:Ent.OK tP aAD:=oI (aQ (oV HJ (oV aAZ (oV yL oW)))) func163 Y (by rintro⟨v0,v1,⟨⟩⟩; kernel_rfl)
def RR(x:aK [.str]):oK [.str]:=match x with
 | (v0,()) =>
  aB (cU (v0,())) λy1 =>
  bif y1.1 then
   aB (aA (false,y1.2.1,())) λy2 =>
   some (y2.1,())
  else aB (aA (true,y1.2.1,())) λy3 =>
  some (y3.1,())
abbrev aL8:Ent:=⟨207,_,_,RR⟩
theorem aDA:Ent.OK tP aL8:=oI (aQ (oV KY (oV yL oW))) func207 Y (by rintro⟨v0,⟨⟩⟩; kernel_rfl)
def S4(x:aK [.str]):oK [.str]:=match x with
 | (v0,()) =>
  aB (cU (v0,())) λy1 =>
  some (y1.2.1,())
abbrev aL1:Ent:=⟨164,_,_,S4⟩
theorem aN3:Ent.OK tP aL1:=oI (aQ (oV yL oW)) func164 Y (by rintro⟨v0,⟨⟩⟩; kernel_rfl)
abbrev fF:List (Nat×Kd):=[(0,.hnd 1),(2,.int .i64),(3,.int .i64),(100000,.ar 5 (.int .u8))]
abbrev iU:List (Ex×List (Nat×Kd)):=[(.exit 0,[(100000,.ar 5 (.int .u8))])]
def gJ(x:Shape.den fF):oS fF iU:=match x with
 | (v0,v2,v3,u00,()) =>
  bif ltI v2 v3 then
   bif aF v3 v0.2.2 then bif Nat.blt ((v0.2.1+v3.toNat)*1) (cT u00 v0.1) then bif aF v2 v0.2.2 then bif Nat.blt ((v0.2.1+v2.toNat)*1) (cT u00 v0.1) then bif aF v2 v0.2.2 then bif Nat.blt ((v0.2.1+v2.toNat)*1) (cT u00 v0.1) then bif aF v3 v0.2.2 then bif Nat.blt ((v0.2.1+v3.toNat)*1) (cT (xX u00 v0.1 ((v0.2.1+v2.toNat)*1) (dC u00 v0.1 ((v0.2.1+v3.toNat)*1) 0)) v0.1) then some (.inl ((v0.1,v0.2.1,v0.2.2),(aC .i64 (v2+1)),(aC .i64 (v3-1)),(xX (xX u00 v0.1 ((v0.2.1+v2.toNat)*1) (dC u00 v0.1 ((v0.2.1+v3.toNat)*1) 0)) v0.1 ((v0.2.1+v3.toNat)*1) (dC u00 v0.1 ((v0.2.1+v2.toNat)*1) 0)),())) else none else none else none else none else none else none else none else none
  else some (.inr ((u00,())))
def lA(x:Shape.den fF):oX iU:=bH gJ (2^64) x
def eY(u0:Unit)(x:aK [.hnd 1])(A:List (List Int)):Option ((aK [])×List (List Int)):=match x with
 | (v0,()) =>
  aB (lA ((v0.1,v0.2.1,v0.2.2),0,(aC .i64 (((v0.2.2:Nat):Int)-1)),A,())) λz1 =>
  some ((()),z1.1)
def p6:Code:=eB f236
abbrev vQ:Env:=K9 []
theorem AK:iK tP vQ:=aQ trivial
def tM:Code:=iG p6 0
def uM(id:Nat):Option eF:=bif Nat.beq id 1 then some ⟨fF,iU,lA⟩ else none
theorem JR:∀ x,j8 tP vQ 28 (aS f236) uM tM fF iU x=gJ x:=by
 rintro⟨v0,v2,v3,u00,⟨⟩⟩
 kernel_rfl
theorem KF:eT tP 28 tM ⟨fF,iU,lA⟩:=fI AK.callee bT.mixed _ (aT (l:=[]) Y trivial) JR
theorem K7:bV p6=[tM]:=Y
theorem LY:∀ l x A,IB tP vQ f236 (aS f236) uM p6 5 (.int .u8) .none [.hnd 1] (.data []) l x A=eY l x A:=by
 rintro u0 ⟨v0,⟨⟩⟩ A
 kernel_rfl
theorem PH:OA tP 236 5 (.int .u8) .none [.hnd 1] (.data []) eY:=AM bT AK func236 (c:=p6) Y (cD:=aS f236) (lt:=uM) (by rfl) (aT K7 ⟨fG (i:=1) Y rfl KF,trivial⟩) LY
theorem M5:aVO tP 236 5 (.int .u8) [] (X8 eY):=aII PH (by rfl) (by rfl)
abbrev C6:Shr:=(236,TD 1 (a2M 5 (.int .u8) [] (X8 eY)))
theorem K8:xI tP C6:=sT (aQ4 M5)
abbrev zJ:List (Nat×Kd):=[(0,.list (.int .u64))]
abbrev IA:List (Ex×List (Nat×Kd)):=[(.exit 0,[(0,.list (.int .u64))])]
def wZ(x:Shape.den zJ):oS zJ IA:=match x with
 | (v0,()) =>
  bif ltI 0 (v0.length:Int) then
   bif aF (aC .i64 ((v0.length:Int)-1)) v0.length then bif eqI (v0.getD ((aC .i64 ((v0.length:Int)-1)).toNat) 0) 0 then
    bif !(ltI (aC .i64 ((v0.length:Int)-1)) 0) then bif Nat.ble 0 ((aC .i64 ((v0.length:Int)-1)).toNat) then bif Nat.ble ((aC .i64 ((v0.length:Int)-1)).toNat) v0.length then some (.inl (((v0.drop 0).take ((aC .i64 ((v0.length:Int)-1)).toNat-0)),())) else none else none else none
   else some (.inr ((v0,()))) else none
  else some (.inr ((v0,())))
def FY(x:Shape.den zJ):oX IA:=bH wZ (2^64) x
def xO(x:aK [.list (.int .u64)]):oK [.list (.int .u64)]:=match x with
 | (v0,()) =>
  aB (FY (v0,())) λz1 =>
  some (z1.1,())
abbrev LD:Ent:=⟨217,_,_,xO⟩
theorem VE:Ent.OK tP LD:=oU (aQ oW) func217 1 (lp:=FY) rfl Y (by rintro⟨v0,⟨⟩⟩; kernel_rfl) (by rintro⟨v0,⟨⟩⟩; kernel_rfl)
abbrev gV:List (Nat×Kd):=[(0,.own 180 (.int .u64)),(100000,.ar 180 (.int .u64))]
abbrev lJ:List (Ex×List (Nat×Kd)):=[(.exit 0,[(0,.own 180 (.int .u64)),(100000,.ar 180 (.int .u64))])]
def jO(x:Shape.den gV):oS gV lJ:=match x with
 | (v0,u00,()) =>
  bif ltI 0 (v0.length:Int) then
   bif aF (aC .i64 ((v0.length:Int)-1)) v0.length then bif Nat.blt ((aC .i64 ((v0.length:Int)-1)).toNat) v0.length then bif eqI (v0.getD ((aC .i64 ((v0.length:Int)-1)).toNat) 0) 0 then
    bif !(ltI (aC .i64 ((v0.length:Int)-1)) 0) then bif Nat.ble 0 ((aC .i64 ((v0.length:Int)-1)).toNat) then bif Nat.ble ((aC .i64 ((v0.length:Int)-1)).toNat) v0.length then bif Nat.blt 0 v0.length then some (.inl ((v0.take ((aC .i64 ((v0.length:Int)-1)).toNat-0)),u00,())) else none else none else none else none
   else some (.inr ((v0,u00,()))) else none else none
  else some (.inr ((v0,u00,())))
def tN(x:Shape.den gV):oX lJ:=bH jO (2^64) x
def bN(v0:List Int)(x:aK [])(A:List (List Int)):Option ((List Int)×List (List Int)):=match x with
 | (()) =>
  aB (tN (v0,A,())) λz1 =>
  some (z1.1,z1.2.1)
def sY:Code:=eB f217
abbrev zC:Env:=K9 []
theorem D7:iK tP zC:=aQ trivial
def xE:Code:=iG sY 0
def yB(id:Nat):Option eF:=bif Nat.beq id 1 then some ⟨gV,lJ,tN⟩ else none
theorem MN:∀ x,j8 tP zC 21 (aS f217) yB xE gV lJ x=jO x:=by
 rintro⟨v0,u00,⟨⟩⟩
 kernel_rfl
theorem M4:eT tP 21 xE ⟨gV,lJ,tN⟩:=fI D7.callee bT.mixed _ (aT (l:=[]) Y trivial) MN
theorem OW:bV sY=[xE]:=Y
theorem QS:∀ l x A,IB tP zC f217 (aS f217) yB sY 180 (.int .u64) (.own 180 (.int .u64)) [] (.own 180 (.int .u64)) l x A=bN l x A:=by
 rintro u0 ⟨⟨⟩⟩ A
 kernel_rfl
theorem TJ:OA tP 217 180 (.int .u64) (.own 180 (.int .u64)) [] (.own 180 (.int .u64)) bN:=AM bT D7 func217 (c:=sY) Y (cD:=aS f217) (lt:=yB) (by rfl) (aT OW ⟨fG (i:=1) Y rfl M4,trivial⟩) QS
abbrev gN:Shr:=(217,TD 1 (arH 180 (.int .u64) (.own 180 (.int .u64)) [] (.own 180 (.int .u64)) bN))
theorem iC:xI tP gN:=sT (g:=217) (f:=arH 180 (.int .u64) (.own 180 (.int .u64)) [] (.own 180 (.int .u64)) bN) (ER TJ)
abbrev sK:List (Nat×Kd):=[(0,.str),(3,.own 180 (.int .u64)),(4,.int .i64),(5,.int .u64),(25,.list (.int .u8)),(26,.int .i64),(27,.int .i64),(100000,.ar 180 (.int .u64))]
abbrev xA:List (Ex×List (Nat×Kd)):=[(.exit 2,[(0,.str),(3,.own 180 (.int .u64)),(4,.int .i64),(5,.int .u64),(100000,.ar 180 (.int .u64))])]
def tD(x:Shape.den sK):oS sK xA:=match x with
 | (v0,v3,v4,v5,v25,v26,v27,u00,()) =>
  bif ltI v27 v26 then
   bif aF v27 v25.length then some (.inl (v0,v3,v4,(aC .u64 ((aC .u64 (10*v5))+(IntKind.wrap .u64 (aC .u8 ((v25.getD v27.toNat 0)-48))))),v25,v26,(aC .i64 (v27+1)),u00,())) else none
  else some (.inr ((v0,v3,v4,v5,u00,())))
def yO(x:Shape.den sK):oX xA:=bH tD (2^64) x
abbrev sJ:List (Nat×Kd):=[(0,.str),(3,.own 180 (.int .u64)),(4,.int .i64),(100000,.ar 180 (.int .u64))]
abbrev wO:List (Ex×List (Nat×Kd)):=[(.exit 0,[(3,.own 180 (.int .u64)),(100000,.ar 180 (.int .u64))])]
def tR(x:Shape.den sJ):oS sJ wO:=match x with
 | (v0,v3,v4,u00,()) =>
  bif ltI 0 v4 then
   bif !(ltI (if 0<(aC .i64 (v4-9)) then (aC .i64 (v4-9)) else 0) 0) then bif !(ltI v4 0) then bif Nat.ble ((if 0<(aC .i64 (v4-9)) then (aC .i64 (v4-9)) else 0).toNat) v4.toNat then bif Nat.ble v4.toNat v0.size then aB (yO (v0,v3,v4,0,(U5 (v0.extract ((if 0<(aC .i64 (v4-9)) then (aC .i64 (v4-9)) else 0).toNat) v4.toNat)),((U5 (v0.extract ((if 0<(aC .i64 (v4-9)) then (aC .i64 (v4-9)) else 0).toNat) v4.toNat)).length:Int),0,u00,())) λz2 =>
   bif Nat.ble [z2.2.2.2.1].length 1048576 then bif Nat.ble z2.2.1.length 1048576 then some (.inl (z2.1,(z2.2.1++[z2.2.2.2.1]),(aC .i64 (z2.2.2.1-9)),z2.2.2.2.2.1,())) else none else none else none else none else none else none
  else some (.inr ((v3,u00,())))
def yT(x:Shape.den sJ):oX wO:=bH tR (2^64) x
def eK(u0:Unit)(x:aK [.str])(A:List (List Int)):Option ((List Int)×List (List Int)):=match x with
 | (v0,()) =>
  bif !(ltI (aC .i64 ((aC .i64 ((v0.size:Int).tdiv 9))+1)) 0) then bif !(ltI 1048576 (aC .i64 ((aC .i64 ((v0.size:Int).tdiv 9))+1))) then aB (yT (v0,(List.replicate 0 0),(v0.size:Int),A,())) λz3 =>
  aB (bN z3.1 (()) z3.2.1) λy4 =>
  some y4 else none else none
def IH:Code:=eB f215
abbrev II:Env:=OB [] [gN]
theorem IV:iK tP II:=o9 trivial ⟨iC,trivial⟩
def yR:Code:=iG IH 0
def KT:Code:=iG yR 0
def GM(id:Nat):Option eF:=bif Nat.beq id 7 then some ⟨sK,xA,yO⟩ else bif Nat.beq id 3 then some ⟨sJ,wO,yT⟩ else none
theorem ZE:∀ x,j8 tP II 44 (aS f215) GM KT sK xA x=tD x:=by
 rintro⟨v0,v3,v4,v5,v25,v26,v27,u00,⟨⟩⟩
 kernel_rfl
theorem aBE:eT tP 44 KT ⟨sK,xA,yO⟩:=fI IV.callee bT.mixed _ (aT (l:=[]) Y trivial) ZE
theorem Z0:∀ x,j8 tP II 44 (aS f215) GM yR sJ wO x=tR x:=by
 rintro⟨v0,v3,v4,u00,⟨⟩⟩
 kernel_rfl
theorem aEC:bV yR=[KT]:=Y
theorem aAF:eT tP 44 yR ⟨sJ,wO,yT⟩:=fI IV.callee bT.mixed _ (aT aEC ⟨fG (i:=7) Y rfl aBE,trivial⟩) Z0
theorem aCK:bV IH=[yR]:=Y
theorem aE0:∀ l x A,IB tP II f215 (aS f215) GM IH 180 (.int .u64) .none [.str] (.own 180 (.int .u64)) l x A=eK l x A:=by
 rintro u0 ⟨v0,⟨⟩⟩ A
 kernel_rfl
theorem aH8:OA tP 215 180 (.int .u64) .none [.str] (.own 180 (.int .u64)) eK:=AM bT IV func215 (c:=IH) Y (cD:=aS f215) (lt:=GM) (by rfl) (aT aCK ⟨fG (i:=3) Y rfl aAF,trivial⟩) aE0
abbrev CY:Shr:=(215,TD 0 (arH 180 (.int .u64) .none [.str] (.own 180 (.int .u64)) eK))
theorem BZ:xI tP CY:=sT (g:=215) (f:=arH 180 (.int .u64) .none [.str] (.own 180 (.int .u64)) eK) (ER aH8)
abbrev wQ:List (Nat×Kd):=[(0,.list (.int .u64)),(1,.list (.int .u64)),(5,.int .i64)]
abbrev FF:List (Ex×List (Nat×Kd)):=[(.ret,[(4,.int .i64)]),(.exit 0,[])]
def o6(x:Shape.den wQ):oS wQ FF:=match x with
 | (v0,v1,v5,()) =>
  bif !(ltI v5 0) then
   bif aF v5 v0.length then bif aF v5 v1.length then bif ltI (v0.getD v5.toNat 0) (v1.getD v5.toNat 0) then
    some (.inr (.inl ((-1),())))
   else bif aF v5 v0.length then bif aF v5 v1.length then bif ltI (v1.getD v5.toNat 0) (v0.getD v5.toNat 0) then
    some (.inr (.inl (1,())))
   else some (.inl (v0,v1,(aC .i64 (v5-1)),())) else none else none else none else none
  else some (.inr (.inr ((()))))
def CW(x:Shape.den wQ):oX FF:=bH o6 (2^64) x
def tW(x:aK [.list (.int .u64),.list (.int .u64)]):oK [.int .i64]:=match x with
 | (v0,v1,()) =>
  bif !(eqI (v0.length:Int) (v1.length:Int)) then
   some ((if (if (-1)<(aC .i64 ((v0.length:Int)-(v1.length:Int))) then (aC .i64 ((v0.length:Int)-(v1.length:Int))) else (-1))<1 then (if (-1)<(aC .i64 ((v0.length:Int)-(v1.length:Int))) then (aC .i64 ((v0.length:Int)-(v1.length:Int))) else (-1)) else 1),())
  else aB (CW (v0,v1,(aC .i64 ((v0.length:Int)-1)),())) λz1 =>
  l9 z1 (λa2=>some (a2.1,())) λb3 =>
  some (0,())
abbrev I9:Ent:=⟨228,_,_,tW⟩
theorem RW:Ent.OK tP I9:=oU (aQ oW) func228 4 (lp:=CW) rfl Y (by rintro⟨v0,v1,v5,⟨⟩⟩; kernel_rfl) (by rintro⟨v0,v1,⟨⟩⟩; kernel_rfl)
abbrev gY:List (Nat×Kd):=[(1,.list (.int .u64)),(5,.own 180 (.int .u64)),(6,.int .i64),(7,.int .u64),(8,.int .u64),(17,.list (.int .u64)),(18,.int .i64),(19,.int .i64),(24,.list (.int .u64)),(25,.int .i64),(26,.int .i64),(100000,.ar 180 (.int .u64))]
abbrev kZ:List (Ex×List (Nat×Kd)):=[(.exit 2,[(1,.list (.int .u64)),(5,.own 180 (.int .u64)),(6,.int .i64),(8,.int .u64),(17,.list (.int .u64)),(18,.int .i64),(19,.int .i64),(100000,.ar 180 (.int .u64))])]
def jK(x:Shape.den gY):oS gY kZ:=match x with
 | (v1,v5,v6,v7,v8,v17,v18,v19,v24,v25,v26,u00,()) =>
  bif ltI v26 v25 then
   bif aF v26 v24.length then bif aF (aC .i64 (v6+v26)) v5.length then bif Nat.blt ((aC .i64 (v6+v26)).toNat) v5.length then bif aF (aC .i64 (v6+v26)) v5.length then bif Nat.blt ((aC .i64 (v6+v26)).toNat) v5.length then some (.inl (v1,(v5.set ((aC .i64 (v6+v26)).toNat) ((aC .u64 (v8+(aC .u64 ((v5.getD ((aC .i64 (v6+v26)).toNat) 0)+(aC .u64 (v7*(v24.getD v26.toNat 0))))))).tmod 1000000000)),v6,v7,(aC .u64 ((aC .u64 (v8+(aC .u64 ((v5.getD ((aC .i64 (v6+v26)).toNat) 0)+(aC .u64 (v7*(v24.getD v26.toNat 0))))))).tdiv 1000000000)),v17,v18,v19,v24,v25,(aC .i64 (v26+1)),u00,())) else none else none else none else none else none
  else some (.inr ((v1,v5,v6,v8,v17,v18,v19,u00,())))
def nJ(x:Shape.den gY):oX kZ:=bH jK (2^64) x
abbrev iB:List (Nat×Kd):=[(1,.list (.int .u64)),(5,.own 180 (.int .u64)),(17,.list (.int .u64)),(18,.int .i64),(19,.int .i64),(100000,.ar 180 (.int .u64))]
abbrev lH:List (Ex×List (Nat×Kd)):=[(.exit 0,[(5,.own 180 (.int .u64)),(100000,.ar 180 (.int .u64))])]
def jQ(x:Shape.den iB):oS iB lH:=match x with
 | (v1,v5,v17,v18,v19,u00,()) =>
  bif ltI v19 v18 then
   bif aF v19 v17.length then aB (nJ (v1,v5,v19,(v17.getD v19.toNat 0),0,v17,v18,v19,v1,(v1.length:Int),0,u00,())) λz2 =>
   bif aF (aC .i64 (z2.2.2.1+(z2.1.length:Int))) z2.2.1.length then bif Nat.blt ((aC .i64 (z2.2.2.1+(z2.1.length:Int))).toNat) z2.2.1.length then some (.inl (z2.1,(z2.2.1.set ((aC .i64 (z2.2.2.1+(z2.1.length:Int))).toNat) z2.2.2.2.1),z2.2.2.2.2.1,z2.2.2.2.2.2.1,(aC .i64 (z2.2.2.2.2.2.2.1+1)),z2.2.2.2.2.2.2.2.1,())) else none else none else none
  else some (.inr ((v5,u00,())))
def nH(x:Shape.den iB):oX lH:=bH jQ (2^64) x
def fB(u0:Unit)(x:aK [.list (.int .u64),.list (.int .u64)])(A:List (List Int)):Option ((List Int)×List (List Int)):=match x with
 | (v0,v1,()) =>
  bif !(ltI (aC .i64 ((v0.length:Int)+(v1.length:Int))) 0) then bif !(ltI (aC .i64 ((v0.length:Int)+(v1.length:Int))) (aC .i64 ((v0.length:Int)+(v1.length:Int)))) then bif !(ltI 1048576 (aC .i64 ((v0.length:Int)+(v1.length:Int)))) then aB (nH (v1,(List.replicate ((aC .i64 ((v0.length:Int)+(v1.length:Int))).toNat) 0),v0,(v0.length:Int),0,A,())) λz3 =>
  aB (bN z3.1 (()) z3.2.1) λy4 =>
  some y4 else none else none else none
def sR:Code:=eB f220
abbrev sU:Env:=OB [] [gN]
theorem vM:iK tP sU:=o9 trivial ⟨iC,trivial⟩
def mC:Code:=iG sR 0
def wE:Code:=iG mC 0
def rQ(id:Nat):Option eF:=bif Nat.beq id 7 then some ⟨gY,kZ,nJ⟩ else bif Nat.beq id 3 then some ⟨iB,lH,nH⟩ else none
theorem L5:∀ x,j8 tP sU 63 (aS f220) rQ wE gY kZ x=jK x:=by
 rintro⟨v1,v5,v6,v7,v8,v17,v18,v19,v24,v25,v26,u00,⟨⟩⟩
 kernel_rfl
theorem MZ:eT tP 63 wE ⟨gY,kZ,nJ⟩:=fI vM.callee bT.mixed _ (aT (l:=[]) Y trivial) L5
theorem L8:∀ x,j8 tP sU 63 (aS f220) rQ mC iB lH x=jQ x:=by
 rintro⟨v1,v5,v17,v18,v19,u00,⟨⟩⟩
 kernel_rfl
theorem QW:bV mC=[wE]:=Y
theorem OG:eT tP 63 mC ⟨iB,lH,nH⟩:=fI vM.callee bT.mixed _ (aT QW ⟨fG (i:=7) Y rfl MZ,trivial⟩) L8
theorem O4:bV sR=[mC]:=Y
theorem QQ:∀ l x A,IB tP sU f220 (aS f220) rQ sR 180 (.int .u64) .none [.list (.int .u64),.list (.int .u64)] (.own 180 (.int .u64)) l x A=fB l x A:=by
 rintro u0 ⟨v0,v1,⟨⟩⟩ A
 kernel_rfl
theorem TM:OA tP 220 180 (.int .u64) .none [.list (.int .u64),.list (.int .u64)] (.own 180 (.int .u64)) fB:=AM bT vM func220 (c:=sR) Y (cD:=aS f220) (lt:=rQ) (by rfl) (aT O4 ⟨fG (i:=3) Y rfl OG,trivial⟩) QQ
abbrev zS:Shr:=(220,TD 0 (arH 180 (.int .u64) .none [.list (.int .u64),.list (.int .u64)] (.own 180 (.int .u64)) fB))
theorem D8:xI tP zS:=sT (g:=220) (f:=arH 180 (.int .u64) .none [.list (.int .u64),.list (.int .u64)] (.own 180 (.int .u64)) fB) (ER TM)
def fW(u0:Unit) (x:aK [.list (.int .u64),.int .u64]) (A:List (List Int)):Option ((List Int)×List (List Int)):=match x with
 | (v0,v1,()) =>
  aB (xO ([v1],())) λy1 =>
  aB (fB () (v0,y1.1,()) A) λy2 =>
  some y2
def xZ:Code:=eB f240
abbrev G6:Env:=OB [LD] [zS]
theorem PG:iK tP G6:=o9 ⟨VE,trivial⟩ ⟨D8,trivial⟩
def FD(id:Nat):Option eF:=none
theorem M3:bV xZ=[]:=Y
theorem OT:∀ l x A,IB tP G6 f240 (aS f240) FD xZ 180 (.int .u64) .none [.list (.int .u64),.int .u64] (.own 180 (.int .u64)) l x A=fW l x A:=by
 rintro u0 ⟨v0,v1,⟨⟩⟩ A
 kernel_rfl
theorem R7:OA tP 240 180 (.int .u64) .none [.list (.int .u64),.int .u64] (.own 180 (.int .u64)) fW:=AM bT PG func240 (c:=xZ) Y (cD:=aS f240) (lt:=FD) (by rfl) (aT M3 trivial) OT
abbrev GU:Shr:=(240,TD 0 (arH 180 (.int .u64) .none [.list (.int .u64),.int .u64] (.own 180 (.int .u64)) fW))
theorem OL:xI tP GU:=sT (g:=240) (f:=arH 180 (.int .u64) .none [.list (.int .u64),.int .u64] (.own 180 (.int .u64)) fW) (ER R7)
abbrev iN:List (Nat×Kd):=[(0,.list (.int .u64)),(1,.int .u64),(6,.own 180 (.int .u64)),(7,.int .u64),(8,.int .i64),(100000,.ar 180 (.int .u64))]
abbrev l6:List (Ex×List (Nat×Kd)):=[(.exit 0,[(6,.own 180 (.int .u64)),(7,.int .u64),(100000,.ar 180 (.int .u64))])]
def kA(x:Shape.den iN):oS iN l6:=match x with
 | (v0,v1,v6,v7,v8,u00,()) =>
  bif !(ltI v8 0) then
   bif aF v8 v0.length then bif eqI v1 0 then none else bif aF v8 v6.length then bif Nat.blt v8.toNat v6.length then bif eqI v1 0 then none else some (.inl (v0,v1,(v6.set v8.toNat (aC .u64 ((aC .u64 ((aC .u64 (v7*1000000000))+(v0.getD v8.toNat 0))).tdiv v1))),((aC .u64 ((aC .u64 (v7*1000000000))+(v0.getD v8.toNat 0))).tmod v1),(aC .i64 (v8-1)),u00,())) else none else none else none
  else some (.inr ((v6,v7,u00,())))
def pA(x:Shape.den iN):oX l6:=bH kA (2^64) x
def fP(u0:Unit)(x:aK [.list (.int .u64),.int .u64])(A:List (List Int)):Option ((aK [.list (.int .u64),.int .u64])×List (List Int)):=match x with
 | (v0,v1,()) =>
  bif !(ltI (v0.length:Int) 0) then bif !(ltI (v0.length:Int) (v0.length:Int)) then bif !(ltI 1048576 (v0.length:Int)) then aB (pA (v0,v1,(List.replicate ((v0.length:Int).toNat) 0),0,(aC .i64 ((v0.length:Int)-1)),A,())) λz1 =>
  aB (bN z1.1 (()) z1.2.2.1) λy2 =>
  some ((y2.1,z1.2.1,()),y2.2) else none else none else none
def uF:Code:=eB f229
abbrev BD:Env:=OB [] [gN]
theorem EN:iK tP BD:=o9 trivial ⟨iC,trivial⟩
def xU:Code:=iG uF 0
def zD(id:Nat):Option eF:=bif Nat.beq id 4 then some ⟨iN,l6,pA⟩ else none
theorem N1:∀ x,j8 tP BD 38 (aS f229) zD xU iN l6 x=kA x:=by
 rintro⟨v0,v1,v6,v7,v8,u00,⟨⟩⟩
 kernel_rfl
theorem PB:eT tP 38 xU ⟨iN,l6,pA⟩:=fI EN.callee bT.mixed _ (aT (l:=[]) Y trivial) N1
theorem P7:bV uF=[xU]:=Y
theorem SC:∀ l x A,IB tP BD f229 (aS f229) zD uF 180 (.int .u64) .none [.list (.int .u64),.int .u64] (.data [.list (.int .u64),.int .u64]) l x A=fP l x A:=by
 rintro u0 ⟨v0,v1,⟨⟩⟩ A
 kernel_rfl
theorem U4:OA tP 229 180 (.int .u64) .none [.list (.int .u64),.int .u64] (.data [.list (.int .u64),.int .u64]) fP:=AM bT EN func229 (c:=uF) Y (cD:=aS f229) (lt:=zD) (by rfl) (aT P7 ⟨fG (i:=4) Y rfl PB,trivial⟩) SC
abbrev AX:Shr:=(229,TD 0 (arH 180 (.int .u64) .none [.list (.int .u64),.int .u64] (.data [.list (.int .u64),.int .u64]) fP))
theorem FJ:xI tP AX:=sT (g:=229) (f:=arH 180 (.int .u64) .none [.list (.int .u64),.int .u64] (.data [.list (.int .u64),.int .u64]) fP) (ER U4)
abbrev fY:List (Nat×Kd):=[(0,.hnd 1),(1,.list (.int .u64)),(2,.int .u64),(3,.int .i64),(9,.int .i64),(10,.int .u64),(11,.int .i64),(100000,.ar 180 (.int .u64))]
abbrev jX:List (Ex×List (Nat×Kd)):=[(.exit 0,[(9,.int .i64),(100000,.ar 180 (.int .u64))])]
def eX(x:Shape.den fY):oS fY jX:=match x with
 | (v0,v1,v2,v3,v9,v10,v11,u00,()) =>
  bif !(ltI (v1.length:Int) v11) then
   bif ltI v11 (v1.length:Int) then
    bif aF v11 v1.length then bif aF (aC .i64 (v3+v11)) v0.2.2 then bif Nat.blt ((v0.2.1+(aC .i64 (v3+v11)).toNat)*1) (cT u00 v0.1) then bif ltI (aC .i64 ((aC .i64 ((IntKind.wrap .i64 (dC u00 v0.1 ((v0.2.1+(aC .i64 (v3+v11)).toNat)*1) 0))-(IntKind.wrap .i64 ((aC .u64 (v10+(aC .u64 (v2*(v1.getD v11.toNat 0))))).tmod 1000000000))))-v9)) 0 then
     bif aF (aC .i64 (v3+v11)) v0.2.2 then bif Nat.blt ((v0.2.1+(aC .i64 (v3+v11)).toNat)*1) (cT u00 v0.1) then some (.inl ((v0.1,v0.2.1,v0.2.2),v1,v2,v3,1,(aC .u64 ((aC .u64 (v10+(aC .u64 (v2*(v1.getD v11.toNat 0))))).tdiv 1000000000)),(aC .i64 (v11+1)),(xX u00 v0.1 ((v0.2.1+(aC .i64 (v3+v11)).toNat)*1) (IntKind.wrap .u64 (aC .i64 ((aC .i64 ((aC .i64 ((IntKind.wrap .i64 (dC u00 v0.1 ((v0.2.1+(aC .i64 (v3+v11)).toNat)*1) 0))-(IntKind.wrap .i64 ((aC .u64 (v10+(aC .u64 (v2*(v1.getD v11.toNat 0))))).tmod 1000000000))))-v9))+1000000000)))),())) else none else none
    else bif aF (aC .i64 (v3+v11)) v0.2.2 then bif Nat.blt ((v0.2.1+(aC .i64 (v3+v11)).toNat)*1) (cT u00 v0.1) then some (.inl ((v0.1,v0.2.1,v0.2.2),v1,v2,v3,0,(aC .u64 ((aC .u64 (v10+(aC .u64 (v2*(v1.getD v11.toNat 0))))).tdiv 1000000000)),(aC .i64 (v11+1)),(xX u00 v0.1 ((v0.2.1+(aC .i64 (v3+v11)).toNat)*1) (IntKind.wrap .u64 (aC .i64 ((aC .i64 ((IntKind.wrap .i64 (dC u00 v0.1 ((v0.2.1+(aC .i64 (v3+v11)).toNat)*1) 0))-(IntKind.wrap .i64 ((aC .u64 (v10+(aC .u64 (v2*(v1.getD v11.toNat 0))))).tmod 1000000000))))-v9)))),())) else none else none else none else none else none
   else bif aF (aC .i64 (v3+v11)) v0.2.2 then bif Nat.blt ((v0.2.1+(aC .i64 (v3+v11)).toNat)*1) (cT u00 v0.1) then bif ltI (aC .i64 ((aC .i64 ((IntKind.wrap .i64 (dC u00 v0.1 ((v0.2.1+(aC .i64 (v3+v11)).toNat)*1) 0))-(IntKind.wrap .i64 (v10.tmod 1000000000))))-v9)) 0 then
    bif aF (aC .i64 (v3+v11)) v0.2.2 then bif Nat.blt ((v0.2.1+(aC .i64 (v3+v11)).toNat)*1) (cT u00 v0.1) then some (.inl ((v0.1,v0.2.1,v0.2.2),v1,v2,v3,1,(aC .u64 (v10.tdiv 1000000000)),(aC .i64 (v11+1)),(xX u00 v0.1 ((v0.2.1+(aC .i64 (v3+v11)).toNat)*1) (IntKind.wrap .u64 (aC .i64 ((aC .i64 ((aC .i64 ((IntKind.wrap .i64 (dC u00 v0.1 ((v0.2.1+(aC .i64 (v3+v11)).toNat)*1) 0))-(IntKind.wrap .i64 (v10.tmod 1000000000))))-v9))+1000000000)))),())) else none else none
   else bif aF (aC .i64 (v3+v11)) v0.2.2 then bif Nat.blt ((v0.2.1+(aC .i64 (v3+v11)).toNat)*1) (cT u00 v0.1) then some (.inl ((v0.1,v0.2.1,v0.2.2),v1,v2,v3,0,(aC .u64 (v10.tdiv 1000000000)),(aC .i64 (v11+1)),(xX u00 v0.1 ((v0.2.1+(aC .i64 (v3+v11)).toNat)*1) (IntKind.wrap .u64 (aC .i64 ((aC .i64 ((IntKind.wrap .i64 (dC u00 v0.1 ((v0.2.1+(aC .i64 (v3+v11)).toNat)*1) 0))-(IntKind.wrap .i64 (v10.tmod 1000000000))))-v9)))),())) else none else none else none else none
  else some (.inr ((v9,u00,())))
def qA(x:Shape.den fY):oX jX:=bH eX (2^64) x
def eW(u0:Unit)(x:aK [.hnd 1,.list (.int .u64),.int .u64,.int .i64])(A:List (List Int)):Option ((aK [.bool])×List (List Int)):=match x with
 | (v0,v1,v2,v3,()) =>
  aB (qA ((v0.1,v0.2.1,v0.2.2),v1,v2,v3,0,0,0,A,())) λz1 =>
  some ((ltI 0 z1.1,()),z1.2.1)
def vL:Code:=eB f219
abbrev B6:Env:=K9 []
theorem G8:iK tP B6:=aQ trivial
def zB:Code:=iG vL 0
def BI(id:Nat):Option eF:=bif Nat.beq id 4 then some ⟨fY,jX,qA⟩ else none
theorem O1:∀ x,j8 tP B6 59 (aS f219) BI zB fY jX x=eX x:=by
 rintro⟨v0,v1,v2,v3,v9,v10,v11,u00,⟨⟩⟩
 kernel_rfl
theorem QI:eT tP 59 zB ⟨fY,jX,qA⟩:=fI G8.callee bT.mixed _ (aT (l:=[]) Y trivial) O1
theorem SN:bV vL=[zB]:=Y
theorem TL:∀ l x A,IB tP B6 f219 (aS f219) BI vL 180 (.int .u64) .none [.hnd 1,.list (.int .u64),.int .u64,.int .i64] (.data [.bool]) l x A=eW l x A:=by
 rintro u0 ⟨v0,v1,v2,v3,⟨⟩⟩ A
 kernel_rfl
theorem VO:OA tP 219 180 (.int .u64) .none [.hnd 1,.list (.int .u64),.int .u64,.int .i64] (.data [.bool]) eW:=AM bT G8 func219 (c:=vL) Y (cD:=aS f219) (lt:=BI) (by rfl) (aT SN ⟨fG (i:=4) Y rfl QI,trivial⟩) TL
theorem U9:aY9 tP 219 180 (.int .u64) [.list (.int .u64),.int .u64,.int .i64] [.bool] (aC1 eW):=aK8 VO (by rfl) (by rfl) (by rfl)
abbrev BG:Shr:=(219,TD 1 (a0M 180 (.int .u64) [.list (.int .u64),.int .u64,.int .i64] [.bool] (aC1 eW)))
theorem FX:xI tP BG:=sT (a5B U9)
abbrev j3:List (Nat×Kd):=[(0,.hnd 1),(1,.list (.int .u64)),(2,.int .i64),(6,.int .u64),(7,.int .i64),(100000,.ar 180 (.int .u64))]
abbrev mV:List (Ex×List (Nat×Kd)):=[(.exit 0,[(100000,.ar 180 (.int .u64))])]
def eV(x:Shape.den j3):oS j3 mV:=match x with
 | (v0,v1,v2,v6,v7,u00,()) =>
  bif !(ltI (v1.length:Int) v7) then
   bif aF (aC .i64 (v2+v7)) v0.2.2 then bif Nat.blt ((v0.2.1+(aC .i64 (v2+v7)).toNat)*1) (cT u00 v0.1) then bif ltI v7 (v1.length:Int) then
    bif aF v7 v1.length then bif aF (aC .i64 (v2+v7)) v0.2.2 then bif Nat.blt ((v0.2.1+(aC .i64 (v2+v7)).toNat)*1) (cT u00 v0.1) then some (.inl ((v0.1,v0.2.1,v0.2.2),v1,v2,(aC .u64 ((aC .u64 ((aC .u64 (v6+(dC u00 v0.1 ((v0.2.1+(aC .i64 (v2+v7)).toNat)*1) 0)))+(v1.getD v7.toNat 0))).tdiv 1000000000)),(aC .i64 (v7+1)),(xX u00 v0.1 ((v0.2.1+(aC .i64 (v2+v7)).toNat)*1) ((aC .u64 ((aC .u64 (v6+(dC u00 v0.1 ((v0.2.1+(aC .i64 (v2+v7)).toNat)*1) 0)))+(v1.getD v7.toNat 0))).tmod 1000000000)),())) else none else none else none
   else bif aF (aC .i64 (v2+v7)) v0.2.2 then bif Nat.blt ((v0.2.1+(aC .i64 (v2+v7)).toNat)*1) (cT u00 v0.1) then some (.inl ((v0.1,v0.2.1,v0.2.2),v1,v2,(aC .u64 ((aC .u64 (v6+(dC u00 v0.1 ((v0.2.1+(aC .i64 (v2+v7)).toNat)*1) 0))).tdiv 1000000000)),(aC .i64 (v7+1)),(xX u00 v0.1 ((v0.2.1+(aC .i64 (v2+v7)).toNat)*1) ((aC .u64 (v6+(dC u00 v0.1 ((v0.2.1+(aC .i64 (v2+v7)).toNat)*1) 0))).tmod 1000000000)),())) else none else none else none else none
  else some (.inr ((u00,())))
def p8(x:Shape.den j3):oX mV:=bH eV (2^64) x
def dG(u0:Unit)(x:aK [.hnd 1,.list (.int .u64),.int .i64])(A:List (List Int)):Option ((aK [])×List (List Int)):=match x with
 | (v0,v1,v2,()) =>
  aB (p8 ((v0.1,v0.2.1,v0.2.2),v1,v2,0,0,A,())) λz1 =>
  some ((()),z1.1)
def vF:Code:=eB f216
abbrev BX:Env:=K9 []
theorem GV:iK tP BX:=aQ trivial
def zH:Code:=iG vF 0
def BC(id:Nat):Option eF:=bif Nat.beq id 2 then some ⟨j3,mV,p8⟩ else none
theorem O3:∀ x,j8 tP BX 41 (aS f216) BC zH j3 mV x=eV x:=by
 rintro⟨v0,v1,v2,v6,v7,u00,⟨⟩⟩
 kernel_rfl
theorem QY:eT tP 41 zH ⟨j3,mV,p8⟩:=fI GV.callee bT.mixed _ (aT (l:=[]) Y trivial) O3
theorem S1:bV vF=[zH]:=Y
theorem TH:∀ l x A,IB tP BX f216 (aS f216) BC vF 180 (.int .u64) .none [.hnd 1,.list (.int .u64),.int .i64] (.data []) l x A=dG l x A:=by
 rintro u0 ⟨v0,v1,v2,⟨⟩⟩ A
 kernel_rfl
theorem VP:OA tP 216 180 (.int .u64) .none [.hnd 1,.list (.int .u64),.int .i64] (.data []) dG:=AM bT GV func216 (c:=vF) Y (cD:=aS f216) (lt:=BC) (by rfl) (aT S1 ⟨fG (i:=2) Y rfl QY,trivial⟩) TH
theorem U3:aVO tP 216 180 (.int .u64) [.list (.int .u64),.int .i64] (X8 dG):=aII VP (by rfl) (by rfl)
abbrev BA:Shr:=(216,TD 1 (a2M 180 (.int .u64) [.list (.int .u64),.int .i64] (X8 dG)))
theorem E3:xI tP BA:=sT (aQ4 U3)
abbrev lQ:List (Nat×Kd):=[(0,.list (.int .u64)),(3,.own 5 (.int .u8)),(4,.int .i64),(5,.int .u64),(6,.int .i64),(14,.list (.int .u64)),(15,.int .i64),(16,.int .i64)]
abbrev pX:List (Ex×List (Nat×Kd)):=[(.exit 2,[(0,.list (.int .u64)),(3,.own 5 (.int .u8)),(14,.list (.int .u64)),(15,.int .i64),(16,.int .i64)])]
def eP(x:Shape.den lQ):oS lQ pX:=match x with
 | (v0,v3,v4,v5,v6,v14,v15,v16,()) =>
  bif ltI v6 9 then
   bif ltI (aC .i64 (v4+1)) (v0.length:Int) then
    bif Nat.ble [(IntKind.wrap .u8 (aC .u64 (48+(v5.tmod 10))))].length 1048576 then bif Nat.ble v3.length 1048576 then some (.inl (v0,(v3++[(IntKind.wrap .u8 (aC .u64 (48+(v5.tmod 10))))]),v4,(aC .u64 (v5.tdiv 10)),(aC .i64 (v6+1)),v14,v15,v16,())) else none else none
   else bif ltI 0 v5 then
    bif Nat.ble [(IntKind.wrap .u8 (aC .u64 (48+(v5.tmod 10))))].length 1048576 then bif Nat.ble v3.length 1048576 then some (.inl (v0,(v3++[(IntKind.wrap .u8 (aC .u64 (48+(v5.tmod 10))))]),v4,(aC .u64 (v5.tdiv 10)),(aC .i64 (v6+1)),v14,v15,v16,())) else none else none
   else some (.inr ((v0,v3,v14,v15,v16,())))
  else some (.inr ((v0,v3,v14,v15,v16,())))
def mT(x:Shape.den lQ):oX pX:=bH eP (2^64) x
abbrev lP:List (Nat×Kd):=[(0,.list (.int .u64)),(3,.own 5 (.int .u8)),(14,.list (.int .u64)),(15,.int .i64),(16,.int .i64)]
abbrev pH:List (Ex×List (Nat×Kd)):=[(.exit 0,[(3,.own 5 (.int .u8))])]
def jZ(x:Shape.den lP):oS lP pH:=match x with
 | (v0,v3,v14,v15,v16,()) =>
  bif ltI v16 v15 then
   bif aF v16 v14.length then aB (mT (v0,v3,v16,(v14.getD v16.toNat 0),0,v14,v15,v16,())) λz2 =>
   some (.inl (z2.1,z2.2.1,z2.2.2.1,z2.2.2.2.1,(aC .i64 (z2.2.2.2.2.1+1)),())) else none
  else some (.inr ((v3,())))
def rO(x:Shape.den lP):oX pH:=bH jZ (2^64) x
def cX(x:aK [.list (.int .u64)]):oK [.str]:=match x with
 | (v0,()) =>
  bif eqI (v0.length:Int) 0 then
   some ((ByteArray.mk #[48]),())
  else bif !(ltI (aC .i64 (9*(v0.length:Int))) 0) then bif !(ltI 1048576 (aC .i64 (9*(v0.length:Int)))) then aB (rO (v0,(List.replicate 0 0),v0,(v0.length:Int),0,())) λz3 =>
  aB (X8 (t:=(.int .u8)) eY z3.1 (())) λy4 =>
  some ((aLL y4),()) else none else none
def M9:Code:=eB f218
abbrev FK:Env:=OB [] [C6]
theorem AV:iK tP FK:=o9 trivial ⟨K8,trivial⟩
def qZ:Code:=iG M9 0
def CI:Code:=iG qZ 0
def DM(id:Nat):Option eF:=bif Nat.beq id 8 then some ⟨lQ,pX,mT⟩ else bif Nat.beq id 5 then some ⟨lP,pH,rO⟩ else none
theorem SL:∀ x,j8 tP FK 50 (aS f218) DM CI lQ pX x=eP x:=by
 rintro⟨v0,v3,v4,v5,v6,v14,v15,v16,⟨⟩⟩
 kernel_rfl
theorem TE:eT tP 50 CI ⟨lQ,pX,mT⟩:=fI AV.callee bT.mixed _ (aT (l:=[]) Y trivial) SL
theorem SV:∀ x,j8 tP FK 50 (aS f218) DM qZ lP pH x=jZ x:=by
 rintro⟨v0,v3,v14,v15,v16,⟨⟩⟩
 kernel_rfl
theorem WK:bV qZ=[CI]:=Y
theorem TQ:eT tP 50 qZ ⟨lP,pH,rO⟩:=fI AV.callee bT.mixed _ (aT WK ⟨fG (i:=8) Y rfl TE,trivial⟩) SV
abbrev tG:Ent:=⟨218,_,_,cX⟩
theorem tZ:Ent.OK tP tG:=aD2 bT AV func218 (c:=M9) Y (cD:=aS f218) (lt:=DM) (aT (l:=[qZ]) Y ⟨fG (i:=5) Y rfl TQ,trivial⟩) (by rintro⟨v0,⟨⟩⟩; kernel_rfl)
abbrev iD:List (Nat×Kd):=[(0,.list (.int .u64)),(6,.int .u64),(7,.own 180 (.int .u64)),(8,.list (.int .u64)),(9,.int .i64),(100000,.ar 180 (.int .u64))]
abbrev lI:List (Ex×List (Nat×Kd)):=[(.exit 0,[(6,.int .u64),(7,.own 180 (.int .u64)),(8,.list (.int .u64)),(9,.int .i64),(100000,.ar 180 (.int .u64))])]
def nI(x:Shape.den iD):oS iD lI:=match x with
 | (v0,v6,v7,v8,v9,u00,()) =>
  bif !(ltI (v0.length:Int) (v7.length:Int)) then
   bif Nat.ble [0].length 1048576 then bif Nat.ble v7.length 1048576 then some (.inl (v0,v6,(v7++[0]),v8,v9,u00,())) else none else none
  else some (.inr ((v6,v7,v8,v9,u00,())))
def nE(x:Shape.den iD):oX lI:=bH nI (2^64) x
abbrev gR:List (Nat×Kd):=[(6,.int .u64),(7,.own 180 (.int .u64)),(8,.list (.int .u64)),(9,.int .i64),(10,.own 180 (.int .u64)),(11,.int .i64),(13,.int .u64),(14,.int .u64),(100000,.ar 180 (.int .u64))]
abbrev lB:List (Ex×List (Nat×Kd)):=[(.exit 4,[(6,.int .u64),(7,.own 180 (.int .u64)),(8,.list (.int .u64)),(9,.int .i64),(10,.own 180 (.int .u64)),(11,.int .i64),(13,.int .u64),(100000,.ar 180 (.int .u64))])]
def jT(x:Shape.den gR):oS gR lB:=match x with
 | (v6,v7,v8,v9,v10,v11,v13,v14,u00,()) =>
  bif !(ltI v13 1000000000) then
   bif aF (aC .i64 (v9-1)) v8.length then some (.inl (v6,v7,v8,v9,v10,v11,(aC .u64 (v13-1)),(aC .u64 (v14+(v8.getD ((aC .i64 (v9-1)).toNat) 0))),u00,())) else none
  else bif ltI v14 1000000000 then
   bif aF (aC .i64 (v9-2)) v8.length then bif aF (aC .i64 ((aC .i64 (v11+v9))-2)) v7.length then bif Nat.blt ((aC .i64 ((aC .i64 (v11+v9))-2)).toNat) v7.length then bif ltI (aC .u64 ((aC .u64 (v14*1000000000))+(v7.getD ((aC .i64 ((aC .i64 (v11+v9))-2)).toNat) 0))) (aC .u64 (v13*(v8.getD ((aC .i64 (v9-2)).toNat) 0))) then
    bif aF (aC .i64 (v9-1)) v8.length then some (.inl (v6,v7,v8,v9,v10,v11,(aC .u64 (v13-1)),(aC .u64 (v14+(v8.getD ((aC .i64 (v9-1)).toNat) 0))),u00,())) else none
   else some (.inr ((v6,v7,v8,v9,v10,v11,v13,u00,()))) else none else none else none
  else some (.inr ((v6,v7,v8,v9,v10,v11,v13,u00,())))
def nC(x:Shape.den gR):oX lB:=bH jT (2^64) x
abbrev gW:List (Nat×Kd):=[(6,.int .u64),(7,.own 180 (.int .u64)),(8,.list (.int .u64)),(9,.int .i64),(10,.own 180 (.int .u64)),(11,.int .i64),(100000,.ar 180 (.int .u64))]
abbrev k9:List (Ex×List (Nat×Kd)):=[(.exit 2,[(6,.int .u64),(7,.own 180 (.int .u64)),(10,.own 180 (.int .u64)),(100000,.ar 180 (.int .u64))])]
def dZ(x:Shape.den gW):oS gW k9:=match x with
 | (v6,v7,v8,v9,v10,v11,u00,()) =>
  bif !(ltI v11 0) then
   bif aF (aC .i64 (v11+v9)) v7.length then bif Nat.blt ((aC .i64 (v11+v9)).toNat) v7.length then bif aF (aC .i64 ((aC .i64 (v11+v9))-1)) v7.length then bif Nat.blt ((aC .i64 ((aC .i64 (v11+v9))-1)).toNat) v7.length then bif aF (aC .i64 (v9-1)) v8.length then bif eqI (v8.getD ((aC .i64 (v9-1)).toNat) 0) 0 then none else bif aF (aC .i64 (v9-1)) v8.length then bif eqI (v8.getD ((aC .i64 (v9-1)).toNat) 0) 0 then none else aB (nC (v6,v7,v8,v9,v10,v11,(aC .u64 ((aC .u64 ((aC .u64 ((v7.getD ((aC .i64 (v11+v9)).toNat) 0)*1000000000))+(v7.getD ((aC .i64 ((aC .i64 (v11+v9))-1)).toNat) 0))).tdiv (v8.getD ((aC .i64 (v9-1)).toNat) 0))),((aC .u64 ((aC .u64 ((v7.getD ((aC .i64 (v11+v9)).toNat) 0)*1000000000))+(v7.getD ((aC .i64 ((aC .i64 (v11+v9))-1)).toNat) 0))).tmod (v8.getD ((aC .i64 (v9-1)).toNat) 0)),u00,())) λz7 =>
   aB (aC1 (t:=(.int .u64)) (rets:=[.bool]) eW z7.2.1 (z7.2.2.1,z7.2.2.2.2.2.2.1,z7.2.2.2.2.2.1,())) λy8 =>
   bif y8.1.1 then
    aB (X8 (t:=(.int .u64)) dG y8.2 (z7.2.2.1,z7.2.2.2.2.2.1,())) λy9 =>
    bif aF z7.2.2.2.2.2.1 z7.2.2.2.2.1.length then bif Nat.blt z7.2.2.2.2.2.1.toNat z7.2.2.2.2.1.length then some (.inl (z7.1,y9,z7.2.2.1,z7.2.2.2.1,(z7.2.2.2.2.1.set z7.2.2.2.2.2.1.toNat (aC .u64 (z7.2.2.2.2.2.2.1-1))),(aC .i64 (z7.2.2.2.2.2.1-1)),z7.2.2.2.2.2.2.2.1,())) else none else none
   else bif aF z7.2.2.2.2.2.1 z7.2.2.2.2.1.length then bif Nat.blt z7.2.2.2.2.2.1.toNat z7.2.2.2.2.1.length then some (.inl (z7.1,y8.2,z7.2.2.1,z7.2.2.2.1,(z7.2.2.2.2.1.set z7.2.2.2.2.2.1.toNat z7.2.2.2.2.2.2.1),(aC .i64 (z7.2.2.2.2.2.1-1)),z7.2.2.2.2.2.2.2.1,())) else none else none else none else none else none else none else none else none
  else some (.inr ((v6,v7,v10,u00,())))
def nG(x:Shape.den gW):oX k9:=bH dZ (2^64) x
def gO(u0:Unit)(x:aK [.list (.int .u64),.list (.int .u64)])(A:List (List Int)):Option ((aK [.list (.int .u64),.list (.int .u64)])×List (List Int)):=match x with
 | (v0,v1,()) =>
  bif aF (aC .i64 ((v1.length:Int)-1)) v1.length then bif eqI (aC .u64 ((v1.getD ((aC .i64 ((v1.length:Int)-1)).toNat) 0)+1)) 0 then none else aB (fW () (v0,(aC .u64 ((1000000000:Int).tdiv (aC .u64 ((v1.getD ((aC .i64 ((v1.length:Int)-1)).toNat) 0)+1)))),()) A) λy1 =>
  bif Nat.ble [0].length 1048576 then bif Nat.ble y1.1.length 1048576 then aB (fW () (v1,(aC .u64 ((1000000000:Int).tdiv (aC .u64 ((v1.getD ((aC .i64 ((v1.length:Int)-1)).toNat) 0)+1)))),()) y1.2) λy2 =>
  aB (nE (v0,(aC .u64 ((1000000000:Int).tdiv (aC .u64 ((v1.getD ((aC .i64 ((v1.length:Int)-1)).toNat) 0)+1)))),(y1.1++[0]),y2.1,(y2.1.length:Int),y2.2,())) λz3 =>
  bif !(ltI (aC .i64 ((z3.2.1.length:Int)-z3.2.2.2.1)) 0) then bif !(ltI (aC .i64 ((z3.2.1.length:Int)-z3.2.2.2.1)) (aC .i64 ((z3.2.1.length:Int)-z3.2.2.2.1))) then bif !(ltI 1048576 (aC .i64 ((z3.2.1.length:Int)-z3.2.2.2.1))) then aB (nG (z3.1,z3.2.1,z3.2.2.1,z3.2.2.2.1,(List.replicate ((aC .i64 ((z3.2.1.length:Int)-z3.2.2.2.1)).toNat) 0),(aC .i64 ((aC .i64 ((z3.2.1.length:Int)-z3.2.2.2.1))-1)),z3.2.2.2.2.1,())) λz10 =>
  aB (bN z10.2.1 (()) z10.2.2.2.1) λy11 =>
  aB (fP () (y11.1,z10.1,()) y11.2) λy12 =>
  aB (bN z10.2.2.1 (()) y12.2) λy13 =>
  some ((y13.1,y12.1.1,()),y13.2) else none else none else none else none else none else none
def nY:Code:=eB f230
abbrev nN:Env:=OB [] [BA,GU,AX,BG,gN]
theorem qC:iK tP nN:=o9 trivial ⟨E3,OL,FJ,FX,iC,trivial⟩
def xG:Code:=iG nY 0
def l5:Code:=iG nY 1
def xK:Code:=iG l5 0
def mW(id:Nat):Option eF:=bif Nat.beq id 4 then some ⟨iD,lI,nE⟩ else bif Nat.beq id 12 then some ⟨gR,lB,nC⟩ else bif Nat.beq id 8 then some ⟨gW,k9,nG⟩ else none
theorem MO:∀ x,j8 tP nN 146 (aS f230) mW xG iD lI x=nI x:=by
 rintro⟨v0,v6,v7,v8,v9,u00,⟨⟩⟩
 kernel_rfl
theorem N6:eT tP 146 xG ⟨iD,lI,nE⟩:=fI qC.callee bT.mixed _ (aT (l:=[]) Y trivial) MO
theorem L3:∀ x,j8 tP nN 146 (aS f230) mW xK gR lB x=jT x:=by
 rintro⟨v6,v7,v8,v9,v10,v11,v13,v14,u00,⟨⟩⟩
 kernel_rfl
theorem NY:eT tP 146 xK ⟨gR,lB,nC⟩:=fI qC.callee bT.mixed _ (aT (l:=[]) Y trivial) L3
theorem MJ:∀ x,j8 tP nN 146 (aS f230) mW l5 gW k9 x=dZ x:=by
 rintro⟨v6,v7,v8,v9,v10,v11,u00,⟨⟩⟩
 kernel_rfl
theorem P4:bV l5=[xK]:=Y
theorem OE:eT tP 146 l5 ⟨gW,k9,nG⟩:=fI qC.callee bT.mixed _ (aT P4 ⟨fG (i:=12) Y rfl NY,trivial⟩) MJ
theorem O7:bV nY=[xG,l5]:=Y
theorem QT:∀ l x A,IB tP nN f230 (aS f230) mW nY 180 (.int .u64) .none [.list (.int .u64),.list (.int .u64)] (.data [.list (.int .u64),.list (.int .u64)]) l x A=gO l x A:=by
 rintro u0 ⟨v0,v1,⟨⟩⟩ A
 kernel_rfl
theorem TK:OA tP 230 180 (.int .u64) .none [.list (.int .u64),.list (.int .u64)] (.data [.list (.int .u64),.list (.int .u64)]) gO:=AM bT qC func230 (c:=nY) Y (cD:=aS f230) (lt:=mW) (by rfl) (aT O7 ⟨fG (i:=4) Y rfl N6,fG (i:=8) Y rfl OE,trivial⟩) QT
abbrev IE:Shr:=(230,TD 0 (arH 180 (.int .u64) .none [.list (.int .u64),.list (.int .u64)] (.data [.list (.int .u64),.list (.int .u64)]) gO))
theorem P1:xI tP IE:=sT (g:=230) (f:=arH 180 (.int .u64) .none [.list (.int .u64),.list (.int .u64)] (.data [.list (.int .u64),.list (.int .u64)]) gO) (ER TK)
def fM(x:aK [.str,.str]):oK [.str]:=match x with
 | (v0,v1,()) =>
  aB (sV (v0,v1,())) λy1 =>
  bif y1.2.2.1 then
   aB (vV ((aC .u64 (y1.1+y1.2.1)),())) λy2 =>
   some (y2.1,())
  else aB (eK () (v0,()) []) λy3 =>
  aB (eK () (v1,()) y3.2) λy4 =>
  bif ltI (y3.1.length:Int) (y4.1.length:Int) then
   bif Nat.ble [0].length 1048576 then bif Nat.ble y4.1.length 1048576 then bif !(ltI (aC .i64 ((aC .i64 (((y4.1++[0]).length:Int)-1))-(y3.1.length:Int))) 0) then bif !(ltI 1048576 (aC .i64 ((aC .i64 (((y4.1++[0]).length:Int)-1))-(y3.1.length:Int)))) then bif Nat.ble y3.1.length 1048576 then aB (X8 (t:=(.int .u64)) dG (y4.1++[0]) ((y3.1++List.replicate (aC .i64 ((aC .i64 (((y4.1++[0]).length:Int)-1))-(y3.1.length:Int))).toNat (0:Ty.den (.int .u64))),0,())) λy5 =>
   aB (bN y5 (()) y4.2) λy6 =>
   aB (cX (y6.1,())) λy7 =>
   some (y7.1,()) else none else none else none else none else none
  else bif Nat.ble [0].length 1048576 then bif Nat.ble y3.1.length 1048576 then bif !(ltI (aC .i64 ((aC .i64 (((y3.1++[0]).length:Int)-1))-(y4.1.length:Int))) 0) then bif !(ltI 1048576 (aC .i64 ((aC .i64 (((y3.1++[0]).length:Int)-1))-(y4.1.length:Int)))) then bif Nat.ble y4.1.length 1048576 then aB (X8 (t:=(.int .u64)) dG (y3.1++[0]) ((y4.1++List.replicate (aC .i64 ((aC .i64 (((y3.1++[0]).length:Int)-1))-(y4.1.length:Int))).toNat (0:Ty.den (.int .u64))),0,())) λy8 =>
  aB (bN y8 (()) y4.2) λy9 =>
  aB (cX (y9.1,())) λy10 =>
  some (y10.1,()) else none else none else none else none else none
def X0:Code:=eB f181
abbrev aF4:Env:=OB [NK,IC,tG] [CY,BA,gN]
theorem aJX:iK tP aF4:=o9 ⟨J9,GH,tZ,trivial⟩ ⟨BZ,E3,iC,trivial⟩
def aC9(id:Nat):Option eF:=none
theorem aHJ:bV X0=[]:=Y
theorem aJY:∀ x,aFL tP aF4 f181 (aS f181) aC9 X0 180 (.int .u64) _ _ x=fM x:=by
 rintro⟨v0,v1,⟨⟩⟩
 kernel_rfl
abbrev aRY:Ent:=⟨181,_,_,fM⟩
theorem Y6:Ent.OK tP aRY:=aJL bT aJX func181 (c:=X0) Y (cD:=aS f181) (lt:=aC9) (aT aHJ trivial) aJY
def cY(x:aK [.str,.str]):oK [.str,.int .i64]:=match x with
 | (v0,v1,()) =>
  aB (gB (v0,v1,())) λy1 =>
  bif ltI y1.1 0 then
   some ((ByteArray.mk #[]),3,())
  else aB (sV (v0,v1,())) λy2 =>
  bif y2.2.2.1 then
   aB (vV ((aC .u64 (y2.1-y2.2.1)),())) λy3 =>
   some (y3.1,0,())
  else aB (eK () (v0,()) []) λy4 =>
  bif Nat.ble [0].length 1048576 then bif Nat.ble y4.1.length 1048576 then aB (eK () (v1,()) y4.2) λy5 =>
  aB (eK () (v1,()) y5.2) λy6 =>
  bif !(ltI (aC .i64 ((aC .i64 (((y4.1++[0]).length:Int)-1))-(y6.1.length:Int))) 0) then bif !(ltI 1048576 (aC .i64 ((aC .i64 (((y4.1++[0]).length:Int)-1))-(y6.1.length:Int)))) then bif Nat.ble y5.1.length 1048576 then aB (aC1 (t:=(.int .u64)) (rets:=[.bool]) eW (y4.1++[0]) ((y5.1++List.replicate (aC .i64 ((aC .i64 (((y4.1++[0]).length:Int)-1))-(y6.1.length:Int))).toNat (0:Ty.den (.int .u64))),1,0,())) λy7 =>
  aB (bN y7.2 (()) y6.2) λy8 =>
  aB (cX (y8.1,())) λy9 =>
  some (y9.1,0,()) else none else none else none else none else none
def YD:Code:=eB f183
abbrev aFO:Env:=OB [V8,NK,IC,tG] [CY,BG,gN]
theorem aKI:iK tP aFO:=o9 ⟨HJ,J9,GH,tZ,trivial⟩ ⟨BZ,FX,iC,trivial⟩
def aDH(id:Nat):Option eF:=none
theorem aHV:bV YD=[]:=Y
theorem aKD:∀ x,aFL tP aFO f183 (aS f183) aDH YD 180 (.int .u64) _ _ x=cY x:=by
 rintro⟨v0,v1,⟨⟩⟩
 kernel_rfl
abbrev aSF:Ent:=⟨183,_,_,cY⟩
theorem ZB:Ent.OK tP aSF:=aJL bT aKI func183 (c:=YD) Y (cD:=aS f183) (lt:=aDH) (aT aHV trivial) aKD
def fN(x:aK [.str,.str]):oK [.str]:=match x with
 | (v0,v1,()) =>
  bif !(ltI 18 (aC .i64 ((v0.size:Int)+(v1.size:Int)))) then
   aB (sV (v0,v1,())) λy1 =>
   aB (vV ((aC .u64 (y1.1*y1.2.1)),())) λy2 =>
   some (y2.1,())
  else aB (eK () (v0,()) []) λy3 =>
  aB (eK () (v1,()) y3.2) λy4 =>
  aB (fB () (y3.1,y4.1,()) y4.2) λy5 =>
  aB (cX (y5.1,())) λy6 =>
  some (y6.1,())
def XM:Code:=eB f184
abbrev aGJ:Env:=OB [NK,IC,tG] [CY,zS]
theorem aJV:iK tP aGJ:=o9 ⟨J9,GH,tZ,trivial⟩ ⟨BZ,D8,trivial⟩
def aDC(id:Nat):Option eF:=none
theorem aIB:bV XM=[]:=Y
theorem aJ7:∀ x,aFL tP aGJ f184 (aS f184) aDC XM 180 (.int .u64) _ _ x=fN x:=by
 rintro⟨v0,v1,⟨⟩⟩
 kernel_rfl
abbrev aSX:Ent:=⟨184,_,_,fN⟩
theorem aJ2:Ent.OK tP aSX:=aJL bT aJV func184 (c:=XM) Y (cD:=aS f184) (lt:=aDC) (aT aIB trivial) aJ7
def o8(x:aK [.str,.str]):oK [.str,.str,.int .i64]:=match x with
 | (v0,v1,()) =>
  bif eqS v1 (ByteArray.mk #[48]) then
   some ((ByteArray.mk #[]),(ByteArray.mk #[]),17,())
  else aB (sV (v0,v1,())) λy1 =>
  bif y1.2.2.1 then
   bif eqI y1.2.1 0 then none else aB (vV ((aC .u64 (y1.1.tdiv y1.2.1)),())) λy2 =>
   bif eqI y1.2.1 0 then none else aB (vV ((y1.1.tmod y1.2.1),())) λy3 =>
   some (y2.1,y3.1,0,())
  else aB (eK () (v0,()) []) λy4 =>
  aB (eK () (v1,()) y4.2) λy5 =>
  aB (tW (y4.1,y5.1,())) λy6 =>
  bif ltI y6.1 0 then
   some ((ByteArray.mk #[48]),v0,0,())
  else bif eqI (y5.1.length:Int) 1 then
   bif aF 0 y5.1.length then bif Nat.blt 0 y5.1.length then aB (fP () (y4.1,(y5.1.getD 0 0),()) y5.2) λy7 =>
   aB (cX (y7.1.1,())) λy8 =>
   aB (vV (y7.1.2.1,())) λy9 =>
   some (y8.1,y9.1,0,()) else none else none
  else aB (gO () (y4.1,y5.1,()) y5.2) λy10 =>
  aB (cX (y10.1.1,())) λy11 =>
  aB (cX (y10.1.2.1,())) λy12 =>
  some (y11.1,y12.1,0,())
def PD:Code:=eB f205
abbrev Y8:Env:=OB [NK,IC,I9,tG] [CY,IE,AX]
theorem aD8:iK tP Y8:=o9 ⟨J9,GH,RW,tZ,trivial⟩ ⟨BZ,P1,FJ,trivial⟩
def WX(id:Nat):Option eF:=none
theorem aCT:bV PD=[]:=Y
theorem aDV:∀ x,aFL tP Y8 f205 (aS f205) WX PD 180 (.int .u64) _ _ x=o8 x:=by
 rintro⟨v0,v1,⟨⟩⟩
 kernel_rfl
abbrev aKH:Ent:=⟨205,_,_,o8⟩
theorem aDS:Ent.OK tP aKH:=aJL bT aD8 func205 (c:=PD) Y (cD:=aS f205) (lt:=WX) (aT aCT trivial) aDV
def YZ(x:aK [.str,.str]):oK [.str]:=match x with
 | (v0,v1,()) =>
  aB (sP (v0,18,())) λy1 =>
  bif y1.2.1 then
   aB (sP (v1,18,())) λy2 =>
   bif y2.2.1 then
    aB (pL ((aC .i64 (y1.1+y2.1)),())) λy3 =>
    some (y3.1,())
   else aB (cU (v0,())) λy4 =>
   aB (cU (v1,())) λy5 =>
   bif y4.1 then
    bif y5.1 then
     aB (fM (y4.2.1,y5.2.1,())) λy6 =>
     aB (aA (y4.1,y6.1,())) λy7 =>
     some (y7.1,())
    else aB (gB (y4.2.1,y5.2.1,())) λy8 =>
    bif ltI y8.1 0 then
     aB (cY (y5.2.1,y4.2.1,())) λy9 =>
     aB (aA (y5.1,y9.1,())) λy10 =>
     some (y10.1,())
    else aB (cY (y4.2.1,y5.2.1,())) λy11 =>
    aB (aA (y4.1,y11.1,())) λy12 =>
    some (y12.1,())
   else bif y5.1 then
    aB (gB (y4.2.1,y5.2.1,())) λy13 =>
    bif ltI y13.1 0 then
     aB (cY (y5.2.1,y4.2.1,())) λy14 =>
     aB (aA (y5.1,y14.1,())) λy15 =>
     some (y15.1,())
    else aB (cY (y4.2.1,y5.2.1,())) λy16 =>
    aB (aA (y4.1,y16.1,())) λy17 =>
    some (y17.1,())
   else aB (fM (y4.2.1,y5.2.1,())) λy18 =>
   aB (aA (y4.1,y18.1,())) λy19 =>
   some (y19.1,())
  else aB (cU (v0,())) λy20 =>
  aB (cU (v1,())) λy21 =>
  bif y20.1 then
   bif y21.1 then
    aB (fM (y20.2.1,y21.2.1,())) λy22 =>
    aB (aA (y20.1,y22.1,())) λy23 =>
    some (y23.1,())
   else aB (gB (y20.2.1,y21.2.1,())) λy24 =>
   bif ltI y24.1 0 then
    aB (cY (y21.2.1,y20.2.1,())) λy25 =>
    aB (aA (y21.1,y25.1,())) λy26 =>
    some (y26.1,())
   else aB (cY (y20.2.1,y21.2.1,())) λy27 =>
   aB (aA (y20.1,y27.1,())) λy28 =>
   some (y28.1,())
  else bif y21.1 then
   aB (gB (y20.2.1,y21.2.1,())) λy29 =>
   bif ltI y29.1 0 then
    aB (cY (y21.2.1,y20.2.1,())) λy30 =>
    aB (aA (y21.1,y30.1,())) λy31 =>
    some (y31.1,())
   else aB (cY (y20.2.1,y21.2.1,())) λy32 =>
   aB (aA (y20.1,y32.1,())) λy33 =>
   some (y33.1,())
  else aB (fM (y20.2.1,y21.2.1,())) λy34 =>
  aB (aA (y20.1,y34.1,())) λy35 =>
  some (y35.1,())
abbrev aYT:Ent:=⟨135,_,_,YZ⟩
theorem aN9:Ent.OK tP aYT:=oI (aQ (oV Y6 (oV HJ (oV ZB (oV J5 (oV KY (oV LQ (oV yL oW)))))))) func135 Y (by rintro⟨v0,v1,⟨⟩⟩; kernel_rfl)
def RX(x:aK [.str,.str]):oK [.str]:=match x with
 | (v0,v1,()) =>
  aB (RR (v1,())) λy1 =>
  aB (YZ (v0,y1.1,())) λy2 =>
  some (y2.1,())
abbrev aEO:Ent:=⟨206,_,_,RX⟩
theorem aC6:Ent.OK tP aEO:=oI (aQ (oV aN9 (oV aDA oW))) func206 Y (by rintro⟨v0,v1,⟨⟩⟩; kernel_rfl)
def RZ(x:aK [.str,.str]):oK [.str]:=match x with
 | (v0,v1,()) =>
  aB (sP (v0,9,())) λy1 =>
  bif y1.2.1 then
   aB (sP (v1,9,())) λy2 =>
   bif y2.2.1 then
    aB (pL ((aC .i64 (y1.1*y2.1)),())) λy3 =>
    some (y3.1,())
   else aB (cU (v0,())) λy4 =>
   aB (cU (v1,())) λy5 =>
   bif y4.1 then
    bif y5.1 then
     aB (fN (y4.2.1,y5.2.1,())) λy6 =>
     aB (aA (false,y6.1,())) λy7 =>
     some (y7.1,())
    else aB (fN (y4.2.1,y5.2.1,())) λy8 =>
    aB (aA (true,y8.1,())) λy9 =>
    some (y9.1,())
   else bif y5.1 then
    aB (fN (y4.2.1,y5.2.1,())) λy10 =>
    aB (aA (true,y10.1,())) λy11 =>
    some (y11.1,())
   else aB (fN (y4.2.1,y5.2.1,())) λy12 =>
   aB (aA (false,y12.1,())) λy13 =>
   some (y13.1,())
  else aB (cU (v0,())) λy14 =>
  aB (cU (v1,())) λy15 =>
  bif y14.1 then
   bif y15.1 then
    aB (fN (y14.2.1,y15.2.1,())) λy16 =>
    aB (aA (false,y16.1,())) λy17 =>
    some (y17.1,())
   else aB (fN (y14.2.1,y15.2.1,())) λy18 =>
   aB (aA (true,y18.1,())) λy19 =>
   some (y19.1,())
  else bif y15.1 then
   aB (fN (y14.2.1,y15.2.1,())) λy20 =>
   aB (aA (true,y20.1,())) λy21 =>
   some (y21.1,())
  else aB (fN (y14.2.1,y15.2.1,())) λy22 =>
  aB (aA (false,y22.1,())) λy23 =>
  some (y23.1,())
abbrev aEG:Ent:=⟨136,_,_,RZ⟩
theorem aC7:Ent.OK tP aEG:=oI (aQ (oV aJ2 (oV J5 (oV KY (oV LQ (oV yL oW)))))) func136 Y (by rintro⟨v0,v1,⟨⟩⟩; kernel_rfl)
def DA(x:aK [.str,.str]):oK [.str,.str,.int .i64]:=match x with
 | (v0,v1,()) =>
  bif eqS v1 (ByteArray.mk #[48]) then
   some ((ByteArray.mk #[]),(ByteArray.mk #[]),17,())
  else aB (sP (v0,18,())) λy1 =>
  bif y1.2.1 then
   aB (sP (v1,18,())) λy2 =>
   bif y2.2.1 then
    bif eqI y2.1 0 then none else bif eqI y2.1 0 then none else bif !(eqI (y1.1.tmod y2.1) 0) then
     bif ltI (y1.1.tmod y2.1) 0 then
      bif ltI y2.1 0 then
       aB (pL ((aC .i64 (y1.1.tdiv y2.1)),())) λy3 =>
       aB (pL ((y1.1.tmod y2.1),())) λy4 =>
       some (y3.1,y4.1,0,())
      else aB (pL ((aC .i64 ((aC .i64 (y1.1.tdiv y2.1))-1)),())) λy5 =>
      aB (pL ((aC .i64 ((y1.1.tmod y2.1)+y2.1)),())) λy6 =>
      some (y5.1,y6.1,0,())
     else bif ltI y2.1 0 then
      aB (pL ((aC .i64 ((aC .i64 (y1.1.tdiv y2.1))-1)),())) λy7 =>
      aB (pL ((aC .i64 ((y1.1.tmod y2.1)+y2.1)),())) λy8 =>
      some (y7.1,y8.1,0,())
     else aB (pL ((aC .i64 (y1.1.tdiv y2.1)),())) λy9 =>
     aB (pL ((y1.1.tmod y2.1),())) λy10 =>
     some (y9.1,y10.1,0,())
    else aB (pL ((aC .i64 (y1.1.tdiv y2.1)),())) λy11 =>
    aB (pL ((y1.1.tmod y2.1),())) λy12 =>
    some (y11.1,y12.1,0,())
   else aB (cU (v0,())) λy13 =>
   aB (cU (v1,())) λy14 =>
   aB (o8 (y13.2.1,y14.2.1,())) λy15 =>
   bif !(eqI y15.2.2.1 0) then
    some ((ByteArray.mk #[]),(ByteArray.mk #[]),y15.2.2.1,())
   else bif y13.1 then
    bif y14.1 then
     bif y13.1 then
      bif y14.1 then
       aB (aA (false,y15.1,())) λy16 =>
       aB (aA (y14.1,y15.2.1,())) λy17 =>
       some (y16.1,y17.1,0,())
      else aB (aA (true,y15.1,())) λy18 =>
      aB (aA (y14.1,y15.2.1,())) λy19 =>
      some (y18.1,y19.1,0,())
     else bif y14.1 then
      aB (aA (true,y15.1,())) λy20 =>
      aB (aA (y14.1,y15.2.1,())) λy21 =>
      some (y20.1,y21.1,0,())
     else aB (aA (false,y15.1,())) λy22 =>
     aB (aA (y14.1,y15.2.1,())) λy23 =>
     some (y22.1,y23.1,0,())
    else bif !(eqS y15.2.1 (ByteArray.mk #[48])) then
     aB (fM (y15.1,(ByteArray.mk #[49]),())) λy24 =>
     aB (cY (y14.2.1,y15.2.1,())) λy25 =>
     bif y13.1 then
      bif y14.1 then
       aB (aA (false,y24.1,())) λy26 =>
       aB (aA (y14.1,y25.1,())) λy27 =>
       some (y26.1,y27.1,0,())
      else aB (aA (true,y24.1,())) λy28 =>
      aB (aA (y14.1,y25.1,())) λy29 =>
      some (y28.1,y29.1,0,())
     else bif y14.1 then
      aB (aA (true,y24.1,())) λy30 =>
      aB (aA (y14.1,y25.1,())) λy31 =>
      some (y30.1,y31.1,0,())
     else aB (aA (false,y24.1,())) λy32 =>
     aB (aA (y14.1,y25.1,())) λy33 =>
     some (y32.1,y33.1,0,())
    else bif y13.1 then
     bif y14.1 then
      aB (aA (false,y15.1,())) λy34 =>
      aB (aA (y14.1,y15.2.1,())) λy35 =>
      some (y34.1,y35.1,0,())
     else aB (aA (true,y15.1,())) λy36 =>
     aB (aA (y14.1,y15.2.1,())) λy37 =>
     some (y36.1,y37.1,0,())
    else bif y14.1 then
     aB (aA (true,y15.1,())) λy38 =>
     aB (aA (y14.1,y15.2.1,())) λy39 =>
     some (y38.1,y39.1,0,())
    else aB (aA (false,y15.1,())) λy40 =>
    aB (aA (y14.1,y15.2.1,())) λy41 =>
    some (y40.1,y41.1,0,())
   else bif y14.1 then
    bif !(eqS y15.2.1 (ByteArray.mk #[48])) then
     aB (fM (y15.1,(ByteArray.mk #[49]),())) λy42 =>
     aB (cY (y14.2.1,y15.2.1,())) λy43 =>
     bif y13.1 then
      bif y14.1 then
       aB (aA (false,y42.1,())) λy44 =>
       aB (aA (y14.1,y43.1,())) λy45 =>
       some (y44.1,y45.1,0,())
      else aB (aA (true,y42.1,())) λy46 =>
      aB (aA (y14.1,y43.1,())) λy47 =>
      some (y46.1,y47.1,0,())
     else bif y14.1 then
      aB (aA (true,y42.1,())) λy48 =>
      aB (aA (y14.1,y43.1,())) λy49 =>
      some (y48.1,y49.1,0,())
     else aB (aA (false,y42.1,())) λy50 =>
     aB (aA (y14.1,y43.1,())) λy51 =>
     some (y50.1,y51.1,0,())
    else bif y13.1 then
     bif y14.1 then
      aB (aA (false,y15.1,())) λy52 =>
      aB (aA (y14.1,y15.2.1,())) λy53 =>
      some (y52.1,y53.1,0,())
     else aB (aA (true,y15.1,())) λy54 =>
     aB (aA (y14.1,y15.2.1,())) λy55 =>
     some (y54.1,y55.1,0,())
    else bif y14.1 then
     aB (aA (true,y15.1,())) λy56 =>
     aB (aA (y14.1,y15.2.1,())) λy57 =>
     some (y56.1,y57.1,0,())
    else aB (aA (false,y15.1,())) λy58 =>
    aB (aA (y14.1,y15.2.1,())) λy59 =>
    some (y58.1,y59.1,0,())
   else bif y13.1 then
    bif y14.1 then
     aB (aA (false,y15.1,())) λy60 =>
     aB (aA (y14.1,y15.2.1,())) λy61 =>
     some (y60.1,y61.1,0,())
    else aB (aA (true,y15.1,())) λy62 =>
    aB (aA (y14.1,y15.2.1,())) λy63 =>
    some (y62.1,y63.1,0,())
   else bif y14.1 then
    aB (aA (true,y15.1,())) λy64 =>
    aB (aA (y14.1,y15.2.1,())) λy65 =>
    some (y64.1,y65.1,0,())
   else aB (aA (false,y15.1,())) λy66 =>
   aB (aA (y14.1,y15.2.1,())) λy67 =>
   some (y66.1,y67.1,0,())
  else aB (cU (v0,())) λy68 =>
  aB (cU (v1,())) λy69 =>
  aB (o8 (y68.2.1,y69.2.1,())) λy70 =>
  bif !(eqI y70.2.2.1 0) then
   some ((ByteArray.mk #[]),(ByteArray.mk #[]),y70.2.2.1,())
  else bif y68.1 then
   bif y69.1 then
    bif y68.1 then
     bif y69.1 then
      aB (aA (false,y70.1,())) λy71 =>
      aB (aA (y69.1,y70.2.1,())) λy72 =>
      some (y71.1,y72.1,0,())
     else aB (aA (true,y70.1,())) λy73 =>
     aB (aA (y69.1,y70.2.1,())) λy74 =>
     some (y73.1,y74.1,0,())
    else bif y69.1 then
     aB (aA (true,y70.1,())) λy75 =>
     aB (aA (y69.1,y70.2.1,())) λy76 =>
     some (y75.1,y76.1,0,())
    else aB (aA (false,y70.1,())) λy77 =>
    aB (aA (y69.1,y70.2.1,())) λy78 =>
    some (y77.1,y78.1,0,())
   else bif !(eqS y70.2.1 (ByteArray.mk #[48])) then
    aB (fM (y70.1,(ByteArray.mk #[49]),())) λy79 =>
    aB (cY (y69.2.1,y70.2.1,())) λy80 =>
    bif y68.1 then
     bif y69.1 then
      aB (aA (false,y79.1,())) λy81 =>
      aB (aA (y69.1,y80.1,())) λy82 =>
      some (y81.1,y82.1,0,())
     else aB (aA (true,y79.1,())) λy83 =>
     aB (aA (y69.1,y80.1,())) λy84 =>
     some (y83.1,y84.1,0,())
    else bif y69.1 then
     aB (aA (true,y79.1,())) λy85 =>
     aB (aA (y69.1,y80.1,())) λy86 =>
     some (y85.1,y86.1,0,())
    else aB (aA (false,y79.1,())) λy87 =>
    aB (aA (y69.1,y80.1,())) λy88 =>
    some (y87.1,y88.1,0,())
   else bif y68.1 then
    bif y69.1 then
     aB (aA (false,y70.1,())) λy89 =>
     aB (aA (y69.1,y70.2.1,())) λy90 =>
     some (y89.1,y90.1,0,())
    else aB (aA (true,y70.1,())) λy91 =>
    aB (aA (y69.1,y70.2.1,())) λy92 =>
    some (y91.1,y92.1,0,())
   else bif y69.1 then
    aB (aA (true,y70.1,())) λy93 =>
    aB (aA (y69.1,y70.2.1,())) λy94 =>
    some (y93.1,y94.1,0,())
   else aB (aA (false,y70.1,())) λy95 =>
   aB (aA (y69.1,y70.2.1,())) λy96 =>
   some (y95.1,y96.1,0,())
  else bif y69.1 then
   bif !(eqS y70.2.1 (ByteArray.mk #[48])) then
    aB (fM (y70.1,(ByteArray.mk #[49]),())) λy97 =>
    aB (cY (y69.2.1,y70.2.1,())) λy98 =>
    bif y68.1 then
     bif y69.1 then
      aB (aA (false,y97.1,())) λy99 =>
      aB (aA (y69.1,y98.1,())) λy100 =>
      some (y99.1,y100.1,0,())
     else aB (aA (true,y97.1,())) λy101 =>
     aB (aA (y69.1,y98.1,())) λy102 =>
     some (y101.1,y102.1,0,())
    else bif y69.1 then
     aB (aA (true,y97.1,())) λy103 =>
     aB (aA (y69.1,y98.1,())) λy104 =>
     some (y103.1,y104.1,0,())
    else aB (aA (false,y97.1,())) λy105 =>
    aB (aA (y69.1,y98.1,())) λy106 =>
    some (y105.1,y106.1,0,())
   else bif y68.1 then
    bif y69.1 then
     aB (aA (false,y70.1,())) λy107 =>
     aB (aA (y69.1,y70.2.1,())) λy108 =>
     some (y107.1,y108.1,0,())
    else aB (aA (true,y70.1,())) λy109 =>
    aB (aA (y69.1,y70.2.1,())) λy110 =>
    some (y109.1,y110.1,0,())
   else bif y69.1 then
    aB (aA (true,y70.1,())) λy111 =>
    aB (aA (y69.1,y70.2.1,())) λy112 =>
    some (y111.1,y112.1,0,())
   else aB (aA (false,y70.1,())) λy113 =>
   aB (aA (y69.1,y70.2.1,())) λy114 =>
   some (y113.1,y114.1,0,())
  else bif y68.1 then
   bif y69.1 then
    aB (aA (false,y70.1,())) λy115 =>
    aB (aA (y69.1,y70.2.1,())) λy116 =>
    some (y115.1,y116.1,0,())
   else aB (aA (true,y70.1,())) λy117 =>
   aB (aA (y69.1,y70.2.1,())) λy118 =>
   some (y117.1,y118.1,0,())
  else bif y69.1 then
   aB (aA (true,y70.1,())) λy119 =>
   aB (aA (y69.1,y70.2.1,())) λy120 =>
   some (y119.1,y120.1,0,())
  else aB (aA (false,y70.1,())) λy121 =>
  aB (aA (y69.1,y70.2.1,())) λy122 =>
  some (y121.1,y122.1,0,())
abbrev UP:Ent:=⟨165,_,_,DA⟩
theorem WV:Ent.OK tP UP:=oI (aQ (oV Y6 (oV aDS (oV ZB (oV J5 (oV KY (oV LQ (oV yL oW)))))))) func165 Y (by rintro⟨v0,v1,⟨⟩⟩; kernel_rfl)
end Go.PM
namespace Go.PM
open Go Go.RowKit Go.Proofs Tryz
set_option maxHeartbeats 4000000
abbrev rH:List (Nat×Kd):=[(3,.own 110 .str),(9,.list TyE),(10,.int .i64),(11,.int .i64)]
abbrev uZ:List (Ex×List (Nat×Kd)):=[(.exit 0,[(3,.own 110 .str)])]
def rU(x:Shape.den rH):oS rH uZ:=match x with
 | (v3,v9,v10,v11,()) =>
  bif ltI v11 v10 then
   bif aF v11 v9.length then aB (pL ((v9.getD v11.toNat 0),())) λy2 =>
   bif Nat.ble [y2.1].length 1048576 then bif Nat.ble v3.length 1048576 then some (.inl ((v3++[y2.1]),v9,v10,(aC .i64 (v11+1)),())) else none else none else none
  else some (.inr ((v3,())))
def xL(x:Shape.den rH):oX uZ:=bH rU (2^64) x
def pZ(x:aK [.list TyE]):Option (List ByteArray):=match x with
 | (v0,()) =>
  bif !(ltI (v0.length:Int) 0) then bif !(ltI 1048576 (v0.length:Int)) then aB (xL ((List.replicate 0 ByteArray.empty),v0,(v0.length:Int),0,())) λz3 =>
  some z3.1 else none else none
def GA:Code:=eB f119
abbrev LO:Env:=K9 [aP1]
theorem PL:iK tP LO:=aQ ⟨J5,trivial⟩
def IW:Code:=iG GA 0
def KC(id:Nat):Option eF:=bif Nat.beq id 3 then some ⟨rH,uZ,xL⟩ else none
theorem YK:∀ x,j8 tP LO 22 (aS f119) KC IW rH uZ x=rU x:=by
 rintro⟨v3,v9,v10,v11,⟨⟩⟩
 kernel_rfl
theorem ZT:eT tP 22 IW ⟨rH,uZ,xL⟩:=fI PL.callee bT.mixed _ (aT (l:=[]) Y trivial) YK
theorem aBF:bV GA=[IW]:=Y
theorem aCW:∀ x,aWF tP LO f119 (aS f119) KC GA [.list TyE] 2 110 .str x=pZ x:=by
 rintro⟨v0,⟨⟩⟩
 kernel_rfl
theorem aGI:aPR tP 119 [.list TyE] 110 .str pZ:=aTN bT PL func119 (c:=GA) Y (cD:=aS f119) (lt:=KC) (t:=2) Y (aT aBF ⟨fG (i:=3) Y rfl ZT,trivial⟩) aCW
abbrev GO:Shr:=(119,a5O [.list TyE] 110 .str pZ)
theorem HE:xI tP GO:=aSI aGI
abbrev lT:List (Nat×Kd):=[(0,.hnd 1),(1,.str),(10,.hnd 1),(11,.int .i64),(12,.int .i64),(100000,.ar 110 .str)]
abbrev pV:List (Ex×List (Nat×Kd)):=[(.exit 0,[(100000,.ar 110 .str)])]
def mU(x:Shape.den lT):oS lT pV:=match x with
 | (v0,v1,v10,v11,v12,u00,()) =>
  bif ltI v12 v11 then
   bif aF v12 v10.2.2 then bif Nat.blt ((v10.2.1+v12.toNat)*1) (cT u00 v10.1) then bif aF v12 v0.2.2 then bif Nat.blt ((v0.2.1+v12.toNat)*1) (cT u00 v0.1) then aB (RZ (v1,(dC u00 v10.1 ((v10.2.1+v12.toNat)*1) ByteArray.empty),())) λy3 =>
   aB (RX ((dC u00 v0.1 ((v0.2.1+v12.toNat)*1) ByteArray.empty),y3.1,())) λy4 =>
   bif aF v12 v0.2.2 then bif Nat.blt ((v0.2.1+v12.toNat)*1) (cT u00 v0.1) then some (.inl ((v0.1,v0.2.1,v0.2.2),v1,(v10.1,v10.2.1,v10.2.2),v11,(aC .i64 (v12+1)),(xX u00 v0.1 ((v0.2.1+v12.toNat)*1) y4.1),())) else none else none else none else none else none else none
  else some (.inr ((u00,())))
def rP(x:Shape.den lT):oX pV:=bH mU (2^64) x
def gI(u0:Unit)(x:aK [.hnd 1,.str,.hnd 1])(A:List (List ByteArray)):Option ((aK [])×List (List ByteArray)):=match x with
 | (v0,v1,v2,()) =>
  bif eqS v1 (ByteArray.mk #[48]) then
   some ((()),A)
  else aB (rP ((v0.1,v0.2.1,v0.2.2),v1,(v2.1,v2.2.1,v2.2.2),((v2.2.2:Nat):Int),0,A,())) λz5 =>
  some ((()),z5.1)
def yU:Code:=eB f166
abbrev FH:Env:=K9 [aEG,aEO]
theorem I4:iK tP FH:=aQ ⟨aC7,aC6,trivial⟩
def CJ:Code:=iG yU 0
def DQ(id:Nat):Option eF:=bif Nat.beq id 2 then some ⟨lT,pV,rP⟩ else none
theorem RQ:∀ x,j8 tP FH 29 (aS f166) DQ CJ lT pV x=mU x:=by
 rintro⟨v0,v1,v10,v11,v12,u00,⟨⟩⟩
 kernel_rfl
theorem S9:eT tP 29 CJ ⟨lT,pV,rP⟩:=fI I4.callee bT.mixed _ (aT (l:=[]) Y trivial) RQ
theorem UR:bV yU=[CJ]:=Y
theorem WC:∀ l x A,IB tP FH f166 (aS f166) DQ yU 110 .str .none [.hnd 1,.str,.hnd 1] (.data []) l x A=gI l x A:=by
 rintro u0 ⟨v0,v1,v2,⟨⟩⟩ A
 kernel_rfl
theorem ZQ:OA tP 166 110 .str .none [.hnd 1,.str,.hnd 1] (.data []) gI:=AM bT I4 func166 (c:=yU) Y (cD:=aS f166) (lt:=DQ) (by rfl) (aT UR ⟨fG (i:=2) Y rfl S9,trivial⟩) WC
abbrev NR:Shr:=(166,TD 0 (arH 110 .str .none [.hnd 1,.str,.hnd 1] (.data []) gI))
theorem WR:xI tP NR:=sT (g:=166) (f:=arH 110 .str .none [.hnd 1,.str,.hnd 1] (.data []) gI) (ER ZQ)
abbrev lS:List (Nat×Kd):=[(0,.hnd 1),(1,.str),(10,.list .str),(11,.int .i64),(12,.int .i64),(100000,.ar 110 .str)]
abbrev pM:List (Ex×List (Nat×Kd)):=[(.exit 0,[(100000,.ar 110 .str)])]
def G7(x:Shape.den lS):oS lS pM:=match x with
 | (v0,v1,v10,v11,v12,u00,()) =>
  bif ltI v12 v11 then
   bif aF v12 v10.length then bif aF v12 v0.2.2 then bif Nat.blt ((v0.2.1+v12.toNat)*1) (cT u00 v0.1) then aB (RZ (v1,(v10.getD v12.toNat ByteArray.empty),())) λy3 =>
   aB (RX ((dC u00 v0.1 ((v0.2.1+v12.toNat)*1) ByteArray.empty),y3.1,())) λy4 =>
   bif aF v12 v0.2.2 then bif Nat.blt ((v0.2.1+v12.toNat)*1) (cT u00 v0.1) then some (.inl ((v0.1,v0.2.1,v0.2.2),v1,v10,v11,(aC .i64 (v12+1)),(xX u00 v0.1 ((v0.2.1+v12.toNat)*1) y4.1),())) else none else none else none else none else none
  else some (.inr ((u00,())))
def yD(x:Shape.den lS):oX pM:=bH G7 (2^64) x
def tH(u0:Unit)(x:aK [.hnd 1,.str,.list .str])(A:List (List ByteArray)):Option ((aK [])×List (List ByteArray)):=match x with
 | (v0,v1,v2,()) =>
  bif eqS v1 (ByteArray.mk #[48]) then
   some ((()),A)
  else aB (yD ((v0.1,v0.2.1,v0.2.2),v1,v2,(v2.length:Int),0,A,())) λz5 =>
  some ((()),z5.1)
def yS:Code:=eB f166
abbrev FC:Env:=K9 [aEG,aEO]
theorem JG:iK tP FC:=aQ ⟨aC7,aC6,trivial⟩
def B2:Code:=iG yS 0
def DI(id:Nat):Option eF:=bif Nat.beq id 2 then some ⟨lS,pM,yD⟩ else none
theorem R4:∀ x,j8 tP FC 29 (aS f166) DI B2 lS pM x=G7 x:=by
 rintro⟨v0,v1,v10,v11,v12,u00,⟨⟩⟩
 kernel_rfl
theorem TF:eT tP 29 B2 ⟨lS,pM,yD⟩:=fI JG.callee bT.mixed _ (aT (l:=[]) Y trivial) R4
theorem UY:bV yS=[B2]:=Y
theorem W2:∀ l x A,IB tP FC f166 (aS f166) DI yS 110 .str .none [.hnd 1,.str,.list .str] (.data []) l x A=tH l x A:=by
 rintro u0 ⟨v0,v1,v2,⟨⟩⟩ A
 kernel_rfl
theorem ZV:OA tP 166 110 .str .none [.hnd 1,.str,.list .str] (.data []) tH:=AM bT JG func166 (c:=yS) Y (cD:=aS f166) (lt:=DI) (by rfl) (aT UY ⟨fG (i:=2) Y rfl TF,trivial⟩) W2
theorem YH:aVO tP 166 110 .str [.str,.list .str] (X8 tH):=aII ZV (by rfl) (by rfl)
abbrev LA:Shr:=(166,TD 1 (a2M 110 .str [.str,.list .str] (X8 tH)))
theorem VH:xI tP LA:=sT (aQ4 YH)
abbrev jY:List (Nat×Kd):=[(0,.hnd 1),(4,.hnd 1),(5,.int .i64),(6,.int .i64),(100000,.ar 110 .str)]
abbrev mS:List (Ex×List (Nat×Kd)):=[(.exit 0,[(100000,.ar 110 .str)])]
def lF(x:Shape.den jY):oS jY mS:=match x with
 | (v0,v4,v5,v6,u00,()) =>
  bif ltI v6 v5 then
   bif aF v6 v4.2.2 then bif Nat.blt ((v4.2.1+v6.toNat)*1) (cT u00 v4.1) then aB (RR ((dC u00 v4.1 ((v4.2.1+v6.toNat)*1) ByteArray.empty),())) λy2 =>
   bif aF v6 v0.2.2 then bif Nat.blt ((v0.2.1+v6.toNat)*1) (cT u00 v0.1) then some (.inl ((v0.1,v0.2.1,v0.2.2),(v4.1,v4.2.1,v4.2.2),v5,(aC .i64 (v6+1)),(xX u00 v0.1 ((v0.2.1+v6.toNat)*1) y2.1),())) else none else none else none else none
  else some (.inr ((u00,())))
def qD(x:Shape.den jY):oX mS:=bH lF (2^64) x
def dX(u0:Unit)(x:aK [.hnd 1])(A:List (List ByteArray)):Option ((aK [])×List (List ByteArray)):=match x with
 | (v0,()) =>
  aB (qD ((v0.1,v0.2.1,v0.2.2),(v0.1,v0.2.1,v0.2.2),((v0.2.2:Nat):Int),0,A,())) λz3 =>
  some ((()),z3.1)
def vK:Code:=eB f168
abbrev CQ:Env:=K9 [aL8]
theorem G9:iK tP CQ:=aQ ⟨aDA,trivial⟩
def zG:Code:=iG vK 0
def AU(id:Nat):Option eF:=bif Nat.beq id 1 then some ⟨jY,mS,qD⟩ else none
theorem OV:∀ x,j8 tP CQ 17 (aS f168) AU zG jY mS x=lF x:=by
 rintro⟨v0,v4,v5,v6,u00,⟨⟩⟩
 kernel_rfl
theorem QR:eT tP 17 zG ⟨jY,mS,qD⟩:=fI G9.callee bT.mixed _ (aT (l:=[]) Y trivial) OV
theorem RJ:bV vK=[zG]:=Y
theorem TI:∀ l x A,IB tP CQ f168 (aS f168) AU vK 110 .str .none [.hnd 1] (.data []) l x A=dX l x A:=by
 rintro u0 ⟨v0,⟨⟩⟩ A
 kernel_rfl
theorem VX:OA tP 168 110 .str .none [.hnd 1] (.data []) dX:=AM bT G9 func168 (c:=vK) Y (cD:=aS f168) (lt:=AU) (by rfl) (aT RJ ⟨fG (i:=1) Y rfl QR,trivial⟩) TI
abbrev J6:Shr:=(168,TD 0 (arH 110 .str .none [.hnd 1] (.data []) dX))
theorem TO:xI tP J6:=sT (g:=168) (f:=arH 110 .str .none [.hnd 1] (.data []) dX) (ER VX)
def yP(x:aK [.str]):oK [.bool]:=match x with
 | (v0,()) =>
  some (!(eqS v0 (ByteArray.mk #[48])),())
abbrev NC:Ent:=⟨209,_,_,yP⟩
theorem JF:Ent.OK tP NC:=oI (aQ oW) func209 Y (by rintro⟨v0,⟨⟩⟩; kernel_rfl)
abbrev j6:List (Nat×Kd):=[(0,.list .str),(1,.fn 209),(7,.int .i64),(8,.int .i64)]
abbrev qS:List (Ex×List (Nat×Kd)):=[(.ret,[(4,.int .i64)]),(.exit 0,[])]
def AO(x:Shape.den j6):oS j6 qS:=match x with
 | (v0,v1,v7,v8,()) =>
  bif ltI v8 v7 then
   bif aF v8 v0.length then aB (yP ((v0.getD v8.toNat ByteArray.empty),())) λy2 =>
   bif y2.1 then
    some (.inr (.inl (v8,())))
   else some (.inl (v0,(),v7,(aC .i64 (v8+1)),())) else none
  else some (.inr (.inr ((()))))
def pY(x:Shape.den j6):oX qS:=bH AO (2^64) x
def sM(x:aK [.list .str,.fn 209]):oK [.int .i64]:=match x with
 | (v0,v1,()) =>
  aB (pY (v0,(),(v0.length:Int),0,())) λz3 =>
  l9 z3 (λa4=>some (a4.1,())) λb5 =>
  some ((-1),())
abbrev EH:Ent:=⟨208,_,_,sM⟩
theorem B4:Ent.OK tP EH:=oU (aQ (oV JF oW)) func208 2 (lp:=pY) rfl Y (by rintro⟨v0,v1,v7,v8,⟨⟩⟩; kernel_rfl) (by rintro⟨v0,v1,⟨⟩⟩; kernel_rfl)
def B5(x:aK [.list .str]):oK [.int .i64]:=match x with
 | (v0,()) =>
  aB (sM (v0,(),())) λy1 =>
  some (y1.1,())
abbrev RY:Ent:=⟨169,_,_,B5⟩
theorem LG:Ent.OK tP RY:=oI (aQ (oV B4 oW)) func169 Y (by rintro⟨v0,⟨⟩⟩; kernel_rfl)
abbrev cK:List (Nat×Kd):=[(0,.hnd 1),(1,.fn 209),(7,.int .i64),(8,.int .i64),(100000,.ar 110 .str)]
abbrev dA:List (Ex×List (Nat×Kd)):=[(.ret,[(4,.int .i64),(100000,.ar 110 .str)]),(.exit 0,[(100000,.ar 110 .str)])]
def bQ(x:Shape.den cK):oS cK dA:=match x with
 | (v0,v1,v7,v8,u00,()) =>
  bif ltI v8 v7 then
   bif aF v8 v0.2.2 then bif Nat.blt ((v0.2.1+v8.toNat)*1) (cT u00 v0.1) then aB (yP ((dC u00 v0.1 ((v0.2.1+v8.toNat)*1) ByteArray.empty),())) λy2 =>
   bif y2.1 then
    some (.inr (.inl (v8,u00,())))
   else some (.inl ((v0.1,v0.2.1,v0.2.2),(),v7,(aC .i64 (v8+1)),u00,())) else none else none
  else some (.inr (.inr ((u00,()))))
def cV(x:Shape.den cK):oX dA:=bH bQ (2^64) x
def cB(u0:Unit)(x:aK [.hnd 1,.fn 209])(A:List (List ByteArray)):Option ((aK [.int .i64])×List (List ByteArray)):=match x with
 | (v0,v1,()) =>
  aB (cV ((v0.1,v0.2.1,v0.2.2),(),((v0.2.2:Nat):Int),0,A,())) λz3 =>
  l9 z3 (λa4=>some ((a4.1,()),a4.2.1)) λb5 =>
  some (((-1),()),b5.1)
def fL:Code:=eB f208
abbrev kY:Env:=K9 [NC]
theorem qL:iK tP kY:=aQ ⟨JF,trivial⟩
def j7:Code:=iG fL 0
def kF(id:Nat):Option eF:=bif Nat.beq id 2 then some ⟨cK,dA,cV⟩ else none
theorem zP:∀ x,j8 tP kY 19 (aS f208) kF j7 cK dA x=bQ x:=by
 rintro⟨v0,v1,v7,v8,u00,⟨⟩⟩
 kernel_rfl
theorem zZ:eT tP 19 j7 ⟨cK,dA,cV⟩:=fI qL.callee bT.mixed _ (aT (l:=[]) Y trivial) zP
theorem BB:bV fL=[j7]:=Y
theorem BK:∀ l x A,IB tP kY f208 (aS f208) kF fL 110 .str .none [.hnd 1,.fn 209] (.data [.int .i64]) l x A=cB l x A:=by
 rintro u0 ⟨v0,v1,⟨⟩⟩ A
 kernel_rfl
theorem C5:OA tP 208 110 .str .none [.hnd 1,.fn 209] (.data [.int .i64]) cB:=AM bT qL func208 (c:=fL) Y (cD:=aS f208) (lt:=kF) (by rfl) (aT BB ⟨fG (i:=2) Y rfl zZ,trivial⟩) BK
abbrev rZ:Shr:=(208,TD 0 (arH 110 .str .none [.hnd 1,.fn 209] (.data [.int .i64]) cB))
theorem BO:xI tP rZ:=sT (g:=208) (f:=arH 110 .str .none [.hnd 1,.fn 209] (.data [.int .i64]) cB) (ER C5)
def jP(u0:Unit) (x:aK [.hnd 1]) (A:List (List ByteArray)):Option ((aK [.int .i64])×List (List ByteArray)):=match x with
 | (v0,()) =>
  aB (cB () ((v0.1,v0.2.1,v0.2.2),(),()) A) λy1 =>
  some ((y1.1.1,()),y1.2)
def EO:Code:=eB f169
abbrev OC:Env:=OB [] [rZ]
theorem VQ:iK tP OC:=o9 trivial ⟨BO,trivial⟩
def LI(id:Nat):Option eF:=none
theorem UO:bV EO=[]:=Y
theorem WO:∀ l x A,IB tP OC f169 (aS f169) LI EO 110 .str .none [.hnd 1] (.data [.int .i64]) l x A=jP l x A:=by
 rintro u0 ⟨v0,⟨⟩⟩ A
 kernel_rfl
theorem ZI:OA tP 169 110 .str .none [.hnd 1] (.data [.int .i64]) jP:=AM bT VQ func169 (c:=EO) Y (cD:=aS f169) (lt:=LI) (by rfl) (aT UO trivial) WO
abbrev NF:Shr:=(169,TD 0 (arH 110 .str .none [.hnd 1] (.data [.int .i64]) jP))
theorem WY:xI tP NF:=sT (g:=169) (f:=arH 110 .str .none [.hnd 1] (.data [.int .i64]) jP) (ER ZI)
abbrev kP:List (Nat×Kd):=[(4,.own 3 TyE),(12,.hnd 1),(13,.int .i64),(14,.int .i64),(100000,.ar 110 .str)]
abbrev nR:List (Ex×List (Nat×Kd)):=[(.ret,[(2,.list TyE),(3,.int .i64),(100000,.ar 110 .str)]),(.exit 0,[(4,.own 3 TyE),(100000,.ar 110 .str)])]
def iS(x:Shape.den kP):oS kP nR:=match x with
 | (v4,v12,v13,v14,u00,()) =>
  bif ltI v14 v13 then
   bif aF v14 v12.2.2 then bif Nat.blt ((v12.2.1+v14.toNat)*1) (cT u00 v12.1) then aB (GF ((dC u00 v12.1 ((v12.2.1+v14.toNat)*1) ByteArray.empty),())) λy2 =>
   bif y2.2.1 then
    bif ltI 1000000000 y2.1 then
     some (.inr (.inl ([],4,u00,())))
    else bif ltI y2.1 (-1000000000) then
     some (.inr (.inl ([],4,u00,())))
    else bif Nat.ble [y2.1].length 1048576 then bif Nat.ble v4.length 1048576 then some (.inl ((v4++[y2.1]),(v12.1,v12.2.1,v12.2.2),v13,(aC .i64 (v14+1)),u00,())) else none else none
   else some (.inr (.inl ([],4,u00,()))) else none else none
  else some (.inr (.inr ((v4,u00,()))))
def qX(x:Shape.den kP):oX nR:=bH iS (2^64) x
def kX(u0:Unit)(x:aK [.hnd 1])(A:List (List ByteArray)):Option ((aK [.list TyE,.int .i64])×List (List ByteArray)):=match x with
 | (v0,()) =>
  bif !(ltI ((v0.2.2:Nat):Int) 0) then bif !(ltI 1048576 ((v0.2.2:Nat):Int)) then aB (qX ((List.replicate 0 0),(v0.1,v0.2.1,v0.2.2),((v0.2.2:Nat):Int),0,A,())) λz3 =>
  l9 z3 (λa4=>some ((a4.1,a4.2.1,()),a4.2.2.1)) λb5 =>
  some ((b5.1,0,()),b5.2.1) else none else none
def xM:Code:=eB f170
abbrev DX:Env:=K9 [aG2]
theorem H6:iK tP DX:=aQ ⟨aKB,trivial⟩
def AW:Code:=iG xM 0
def B1(id:Nat):Option eF:=bif Nat.beq id 3 then some ⟨kP,nR,qX⟩ else none
theorem QB:∀ x,j8 tP DX 39 (aS f170) B1 AW kP nR x=iS x:=by
 rintro⟨v4,v12,v13,v14,u00,⟨⟩⟩
 kernel_rfl
theorem S3:eT tP 39 AW ⟨kP,nR,qX⟩:=fI H6.callee bT.mixed _ (aT (l:=[]) Y trivial) QB
theorem TB:bV xM=[AW]:=Y
theorem U1:∀ l x A,IB tP DX f170 (aS f170) B1 xM 110 .str .none [.hnd 1] (.data [.list TyE,.int .i64]) l x A=kX l x A:=by
 rintro u0 ⟨v0,⟨⟩⟩ A
 kernel_rfl
theorem XF:OA tP 170 110 .str .none [.hnd 1] (.data [.list TyE,.int .i64]) kX:=AM bT H6 func170 (c:=xM) Y (cD:=aS f170) (lt:=B1) (by rfl) (aT TB ⟨fG (i:=3) Y rfl S3,trivial⟩) U1
abbrev LC:Shr:=(170,TD 0 (arH 110 .str .none [.hnd 1] (.data [.list TyE,.int .i64]) kX))
theorem VK:xI tP LC:=sT (g:=170) (f:=arH 110 .str .none [.hnd 1] (.data [.list TyE,.int .i64]) kX) (ER XF)
abbrev mO:List (Nat×Kd):=[(3,.own 148 (.hnd 1)),(6,.list TyD),(7,.int .i64),(8,.int .i64),(100000,.ar 110 .str)]
abbrev rA:List (Ex×List (Nat×Kd)):=[(.exit 0,[(3,.own 148 (.hnd 1)),(100000,.ar 110 .str)])]
def kR(x:Shape.den mO):oS mO rA:=match x with
 | (v3,v6,v7,v8,u00,()) =>
  bif ltI v8 v7 then
   bif aF v8 v6.length then aB (pZ ((v6.getD v8.toNat []),())) λy2 =>
   bif Nat.ble [(u00.length,0,y2.length)].length 1048576 then bif Nat.ble v3.length 1048576 then some (.inl ((v3++[(u00.length,0,y2.length)]),v6,v7,(aC .i64 (v8+1)),(u00++[y2]),())) else none else none else none
  else some (.inr ((v3,u00,())))
def sX(x:Shape.den mO):oX rA:=bH kR (2^64) x
def dV(u0:Unit)(x:aK [.list TyD])(A:List (List ByteArray)):Option ((List (Nat×Nat×Nat))×List (List ByteArray)):=match x with
 | (v0,()) =>
  aB (sX ([],v0,(v0.length:Int),0,A,())) λz3 =>
  some (z3.1,z3.2.1)
def AE:Code:=eB f129
abbrev HD:Env:=OB [] [GO]
theorem KU:iK tP HD:=o9 trivial ⟨HE,trivial⟩
def DE:Code:=iG AE 0
def FI(id:Nat):Option eF:=bif Nat.beq id 3 then some ⟨mO,rA,sX⟩ else none
theorem TR:∀ x,j8 tP HD 19 (aS f129) FI DE mO rA x=kR x:=by
 rintro⟨v3,v6,v7,v8,u00,⟨⟩⟩
 kernel_rfl
theorem UX:eT tP 19 DE ⟨mO,rA,sX⟩:=fI KU.callee bT.mixed _ (aT (l:=[]) Y trivial) TR
theorem VS:bV AE=[DE]:=Y
theorem YN:∀ l x A,IB tP HD f129 (aS f129) FI AE 110 .str .none [.list TyD] (.own 148 (.hnd 1)) l x A=dV l x A:=by
 rintro u0 ⟨v0,⟨⟩⟩ A
 kernel_rfl
theorem aAJ:OA tP 129 110 .str .none [.list TyD] (.own 148 (.hnd 1)) dV:=AM bT KU func129 (c:=AE) Y (cD:=aS f129) (lt:=FI) (by rfl) (aT VS ⟨fG (i:=3) Y rfl UX,trivial⟩) YN
abbrev uV:Shr:=(129,TD 0 (arH 110 .str .none [.list TyD] (.own 148 (.hnd 1)) dV))
theorem vP:xI tP uV:=sT (g:=129) (f:=arH 110 .str .none [.list TyD] (.own 148 (.hnd 1)) dV) (ER aAJ)
abbrev iQ:List (Nat×Kd):=[(0,.own 148 (.hnd 1)),(1,.int .i64),(5,.int .i64),(6,.int .i64),(7,.int .i64),(8,.int .i64),(100000,.ar 110 .str)]
abbrev mD:List (Ex×List (Nat×Kd)):=[(.exit 4,[(0,.own 148 (.hnd 1)),(1,.int .i64),(5,.int .i64),(6,.int .i64),(7,.int .i64),(100000,.ar 110 .str)])]
def dJ(x:Shape.den iQ):oS iQ mD:=match x with
 | (v0,v1,v5,v6,v7,v8,u00,()) =>
  bif ltI v8 (v0.length:Int) then
   bif aF v8 v0.length then bif Nat.blt v8.toNat v0.length then bif aF v6 ((v0.getD v8.toNat (0,0,0)).2.2) then bif Nat.blt (((v0.getD v8.toNat (0,0,0)).2.1+v6.toNat)*1) (cT u00 ((v0.getD v8.toNat (0,0,0)).1)) then bif !(eqS (dC u00 ((v0.getD v8.toNat (0,0,0)).1) (((v0.getD v8.toNat (0,0,0)).2.1+v6.toNat)*1) ByteArray.empty) (ByteArray.mk #[48])) then
    bif ltI v7 0 then
     some (.inl (v0,v1,v5,v6,v8,(aC .i64 (v8+1)),u00,()))
    else bif aF v8 v0.length then bif Nat.blt v8.toNat v0.length then bif aF v6 ((v0.getD v8.toNat (0,0,0)).2.2) then bif Nat.blt (((v0.getD v8.toNat (0,0,0)).2.1+v6.toNat)*1) (cT u00 ((v0.getD v8.toNat (0,0,0)).1)) then aB (S4 ((dC u00 ((v0.getD v8.toNat (0,0,0)).1) (((v0.getD v8.toNat (0,0,0)).2.1+v6.toNat)*1) ByteArray.empty),())) λy4 =>
    bif aF v7 v0.length then bif Nat.blt v7.toNat v0.length then bif aF v6 ((v0.getD v7.toNat (0,0,0)).2.2) then bif Nat.blt (((v0.getD v7.toNat (0,0,0)).2.1+v6.toNat)*1) (cT u00 ((v0.getD v7.toNat (0,0,0)).1)) then aB (S4 ((dC u00 ((v0.getD v7.toNat (0,0,0)).1) (((v0.getD v7.toNat (0,0,0)).2.1+v6.toNat)*1) ByteArray.empty),())) λy5 =>
    aB (JY (y4.1,y5.1,())) λy6 =>
    bif ltI y6.1 0 then
     some (.inl (v0,v1,v5,v6,v8,(aC .i64 (v8+1)),u00,()))
    else some (.inl (v0,v1,v5,v6,v7,(aC .i64 (v8+1)),u00,())) else none else none else none else none else none else none else none else none
   else some (.inl (v0,v1,v5,v6,v7,(aC .i64 (v8+1)),u00,())) else none else none else none else none
  else some (.inr ((v0,v1,v5,v6,v7,u00,())))
def gF(x:Shape.den iQ):oX mD:=bH dJ (2^64) x
abbrev jC:List (Nat×Kd):=[(0,.own 148 (.hnd 1)),(1,.int .i64),(5,.int .i64),(6,.int .i64),(9,.bool),(10,.int .i64),(100000,.ar 110 .str)]
abbrev l7:List (Ex×List (Nat×Kd)):=[(.exit 6,[(0,.own 148 (.hnd 1)),(1,.int .i64),(5,.int .i64),(6,.int .i64),(9,.bool),(100000,.ar 110 .str)])]
def eL(x:Shape.den jC):oS jC l7:=match x with
 | (v0,v1,v5,v6,v9,v10,u00,()) =>
  bif ltI v10 (v0.length:Int) then
   bif aF v10 v0.length then bif Nat.blt v10.toNat v0.length then bif aF v6 ((v0.getD v10.toNat (0,0,0)).2.2) then bif Nat.blt (((v0.getD v10.toNat (0,0,0)).2.1+v6.toNat)*1) (cT u00 ((v0.getD v10.toNat (0,0,0)).1)) then bif aF v5 v0.length then bif Nat.blt v5.toNat v0.length then bif aF v6 ((v0.getD v5.toNat (0,0,0)).2.2) then bif Nat.blt (((v0.getD v5.toNat (0,0,0)).2.1+v6.toNat)*1) (cT u00 ((v0.getD v5.toNat (0,0,0)).1)) then aB (DA ((dC u00 ((v0.getD v10.toNat (0,0,0)).1) (((v0.getD v10.toNat (0,0,0)).2.1+v6.toNat)*1) ByteArray.empty),(dC u00 ((v0.getD v5.toNat (0,0,0)).1) (((v0.getD v5.toNat (0,0,0)).2.1+v6.toNat)*1) ByteArray.empty),())) λy10 =>
   bif aF v10 v0.length then bif Nat.blt v10.toNat v0.length then bif aF v5 v0.length then bif Nat.blt v5.toNat v0.length then aB (gI () (((v0.getD v10.toNat (0,0,0)).1,(v0.getD v10.toNat (0,0,0)).2.1,(v0.getD v10.toNat (0,0,0)).2.2),y10.1,((v0.getD v5.toNat (0,0,0)).1,(v0.getD v5.toNat (0,0,0)).2.1,(v0.getD v5.toNat (0,0,0)).2.2),()) u00) λy11 =>
   bif v9 then
    some (.inl (v0,v1,v5,v6,true,(aC .i64 (v10+1)),y11.2,()))
   else some (.inl (v0,v1,v5,v6,!(eqS y10.2.1 (ByteArray.mk #[48])),(aC .i64 (v10+1)),y11.2,())) else none else none else none else none else none else none else none else none else none else none else none else none
  else some (.inr ((v0,v1,v5,v6,v9,u00,())))
def o4(x:Shape.den jC):oX l7:=bH eL (2^64) x
abbrev iO:List (Nat×Kd):=[(0,.own 148 (.hnd 1)),(1,.int .i64),(5,.int .i64),(6,.int .i64),(142,.int .i64),(143,.int .i64),(100000,.ar 110 .str)]
abbrev lW:List (Ex×List (Nat×Kd)):=[(.exit 8,[(0,.own 148 (.hnd 1)),(1,.int .i64),(5,.int .i64),(6,.int .i64),(100000,.ar 110 .str)])]
def dI(x:Shape.den iO):oS iO lW:=match x with
 | (v0,v1,v5,v6,v142,v143,u00,()) =>
  bif ltI v143 v142 then
   bif aF v143 v0.length then bif Nat.blt v143.toNat v0.length then bif aF v6 ((v0.getD v143.toNat (0,0,0)).2.2) then bif Nat.blt (((v0.getD v143.toNat (0,0,0)).2.1+v6.toNat)*1) (cT u00 ((v0.getD v143.toNat (0,0,0)).1)) then bif aF v5 v0.length then bif Nat.blt v5.toNat v0.length then bif aF v6 ((v0.getD v5.toNat (0,0,0)).2.2) then bif Nat.blt (((v0.getD v5.toNat (0,0,0)).2.1+v6.toNat)*1) (cT u00 ((v0.getD v5.toNat (0,0,0)).1)) then aB (DA ((dC u00 ((v0.getD v143.toNat (0,0,0)).1) (((v0.getD v143.toNat (0,0,0)).2.1+v6.toNat)*1) ByteArray.empty),(dC u00 ((v0.getD v5.toNat (0,0,0)).1) (((v0.getD v5.toNat (0,0,0)).2.1+v6.toNat)*1) ByteArray.empty),())) λy17 =>
   bif aF v143 v0.length then bif Nat.blt v143.toNat v0.length then bif aF v5 v0.length then bif Nat.blt v5.toNat v0.length then aB (gI () (((v0.getD v143.toNat (0,0,0)).1,(v0.getD v143.toNat (0,0,0)).2.1,(v0.getD v143.toNat (0,0,0)).2.2),y17.1,((v0.getD v5.toNat (0,0,0)).1,(v0.getD v5.toNat (0,0,0)).2.1,(v0.getD v5.toNat (0,0,0)).2.2),()) u00) λy18 =>
   some (.inl (v0,v1,v5,v6,v142,(aC .i64 (v143+1)),y18.2,())) else none else none else none else none else none else none else none else none else none else none else none else none
  else some (.inr ((v0,v1,v5,v6,u00,())))
def bW(x:Shape.den iO):oX lW:=bH dI (2^64) x
abbrev iT:List (Nat×Kd):=[(0,.own 148 (.hnd 1)),(1,.int .i64),(5,.int .i64),(6,.int .i64),(100000,.ar 110 .str)]
abbrev mF:List (Ex×List (Nat×Kd)):=[(.exit 2,[(0,.own 148 (.hnd 1)),(1,.int .i64),(5,.int .i64),(6,.int .i64),(100000,.ar 110 .str)])]
def bD(x:Shape.den iT):oS iT mF:=match x with
 | (v0,v1,v5,v6,u00,()) =>
  aB (gF (v0,v1,v5,v6,(-1),v5,u00,())) λz21 =>
  bif ltI z21.2.2.2.2.1 0 then
   some (.inr ((z21.1,z21.2.1,z21.2.2.1,z21.2.2.2.1,z21.2.2.2.2.2.1,())))
  else bif aF z21.2.2.2.2.1 z21.1.length then bif Nat.blt z21.2.2.2.2.1.toNat z21.1.length then bif aF z21.2.2.1 z21.1.length then bif Nat.blt z21.2.2.1.toNat z21.1.length then bif aF z21.2.2.1 z21.1.length then bif Nat.blt z21.2.2.1.toNat z21.1.length then bif aF z21.2.2.2.2.1 (z21.1.set z21.2.2.1.toNat ((z21.1.getD z21.2.2.2.2.1.toNat (0,0,0)).1,(z21.1.getD z21.2.2.2.2.1.toNat (0,0,0)).2.1,(z21.1.getD z21.2.2.2.2.1.toNat (0,0,0)).2.2)).length then bif Nat.blt z21.2.2.2.2.1.toNat (z21.1.set z21.2.2.1.toNat ((z21.1.getD z21.2.2.2.2.1.toNat (0,0,0)).1,(z21.1.getD z21.2.2.2.2.1.toNat (0,0,0)).2.1,(z21.1.getD z21.2.2.2.2.1.toNat (0,0,0)).2.2)).length then aB (o4 (((z21.1.set z21.2.2.1.toNat ((z21.1.getD z21.2.2.2.2.1.toNat (0,0,0)).1,(z21.1.getD z21.2.2.2.2.1.toNat (0,0,0)).2.1,(z21.1.getD z21.2.2.2.2.1.toNat (0,0,0)).2.2)).set z21.2.2.2.2.1.toNat ((z21.1.getD z21.2.2.1.toNat (0,0,0)).1,(z21.1.getD z21.2.2.1.toNat (0,0,0)).2.1,(z21.1.getD z21.2.2.1.toNat (0,0,0)).2.2)),z21.2.1,z21.2.2.1,z21.2.2.2.1,false,(aC .i64 (z21.2.2.1+1)),z21.2.2.2.2.2.1,())) λz22 =>
  bif z22.2.2.2.2.1 then
   some (.inl (z22.1,z22.2.1,z22.2.2.1,z22.2.2.2.1,z22.2.2.2.2.2.1,()))
  else bif aF z22.2.2.1 z22.1.length then bif Nat.blt z22.2.2.1.toNat z22.1.length then bif aF z22.2.2.2.1 ((z22.1.getD z22.2.2.1.toNat (0,0,0)).2.2) then bif Nat.blt (((z22.1.getD z22.2.2.1.toNat (0,0,0)).2.1+z22.2.2.2.1.toNat)*1) (cT z22.2.2.2.2.2.1 ((z22.1.getD z22.2.2.1.toNat (0,0,0)).1)) then aB (BW ((dC z22.2.2.2.2.2.1 ((z22.1.getD z22.2.2.1.toNat (0,0,0)).1) (((z22.1.getD z22.2.2.1.toNat (0,0,0)).2.1+z22.2.2.2.1.toNat)*1) ByteArray.empty),())) λy23 =>
  bif ltI y23.1 0 then
   bif aF z22.2.2.1 z22.1.length then bif Nat.blt z22.2.2.1.toNat z22.1.length then aB (dX () (((z22.1.getD z22.2.2.1.toNat (0,0,0)).1,(z22.1.getD z22.2.2.1.toNat (0,0,0)).2.1,(z22.1.getD z22.2.2.1.toNat (0,0,0)).2.2),()) z22.2.2.2.2.2.1) λy24 =>
   aB (bW (z22.1,z22.2.1,z22.2.2.1,z22.2.2.2.1,z22.2.2.1,0,y24.2,())) λz25 =>
   some (.inr ((z25.1,z25.2.1,(aC .i64 (z25.2.2.1+1)),z25.2.2.2.1,z25.2.2.2.2.1,()))) else none else none
  else aB (bW (z22.1,z22.2.1,z22.2.2.1,z22.2.2.2.1,z22.2.2.1,0,z22.2.2.2.2.2.1,())) λz26 =>
  some (.inr ((z26.1,z26.2.1,(aC .i64 (z26.2.2.1+1)),z26.2.2.2.1,z26.2.2.2.2.1,()))) else none else none else none else none else none else none else none else none else none else none else none else none
def eJ(x:Shape.den iT):oX mF:=bH bD (2^64) x
abbrev iX:List (Nat×Kd):=[(0,.own 148 (.hnd 1)),(1,.int .i64),(5,.int .i64),(6,.int .i64),(100000,.ar 110 .str)]
abbrev mI:List (Ex×List (Nat×Kd)):=[(.exit 0,[(0,.own 148 (.hnd 1)),(5,.int .i64),(100000,.ar 110 .str)])]
def bY(x:Shape.den iX):oS iX mI:=match x with
 | (v0,v1,v5,v6,u00,()) =>
  bif ltI v6 v1 then
   bif ltI v5 (v0.length:Int) then
    aB (eJ (v0,v1,v5,v6,u00,())) λz28 =>
    some (.inl (z28.1,z28.2.1,z28.2.2.1,(aC .i64 (z28.2.2.2.1+1)),z28.2.2.2.2.1,()))
   else some (.inr ((v0,v5,u00,())))
  else some (.inr ((v0,v5,u00,())))
def j9(x:Shape.den iX):oX mI:=bH bY (2^64) x
def cI(v0:List (Nat×Nat×Nat))(x:aK [.int .i64])(A:List (List ByteArray)):Option ((List (Nat×Nat×Nat))×List (List ByteArray)):=match x with
 | (v1,()) =>
  aB (j9 (v0,v1,0,0,A,())) λz29 =>
  bif Nat.beq z29.1.length 0 then
   bif !(ltI z29.2.1 0) then bif Nat.beq z29.2.1.toNat 0 then some (z29.1,z29.2.2.1) else none else none
  else bif !(ltI z29.2.1 0) then bif Nat.ble 0 z29.2.1.toNat then bif Nat.ble z29.2.1.toNat z29.1.length then bif Nat.blt 0 z29.1.length then some (z29.1.take (z29.2.1.toNat-0),z29.2.2.1) else none else none else none else none
def uE:Code:=eB f121
abbrev iV:Env:=OB [aL1,aAD,UP,aJQ] [NR,J6]
theorem jH:iK tP iV:=o9 ⟨aN3,aGR,WV,aAZ,trivial⟩ ⟨WR,TO,trivial⟩
def mR:Code:=iG uE 0
def fV:Code:=iG mR 0
def yE:Code:=iG fV 0
def yG:Code:=iG fV 1
def xW:Code:=iG fV 2
def gM(id:Nat):Option eF:=bif Nat.beq id 7 then some ⟨iQ,mD,gF⟩ else bif Nat.beq id 15 then some ⟨jC,l7,o4⟩ else bif Nat.beq id 24 then some ⟨iO,lW,bW⟩ else bif Nat.beq id 5 then some ⟨iT,mF,eJ⟩ else bif Nat.beq id 3 then some ⟨iX,mI,j9⟩ else none
theorem M8:∀ x,j8 tP iV 181 (aS f121) gM yE iQ mD x=dJ x:=by
 rintro⟨v0,v1,v5,v6,v7,v8,u00,⟨⟩⟩
 kernel_rfl
theorem O6:eT tP 181 yE ⟨iQ,mD,gF⟩:=fI jH.callee bT.mixed _ (aT (l:=[]) Y trivial) M8
theorem NP:∀ x,j8 tP iV 181 (aS f121) gM yG jC l7 x=eL x:=by
 rintro⟨v0,v1,v5,v6,v9,v10,u00,⟨⟩⟩
 kernel_rfl
theorem OS:eT tP 181 yG ⟨jC,l7,o4⟩:=fI jH.callee bT.mixed _ (aT (l:=[]) Y trivial) NP
theorem NX:∀ x,j8 tP iV 181 (aS f121) gM xW iO lW x=dI x:=by
 rintro⟨v0,v1,v5,v6,v142,v143,u00,⟨⟩⟩
 kernel_rfl
theorem PI:eT tP 181 xW ⟨iO,lW,bW⟩:=fI jH.callee bT.mixed _ (aT (l:=[]) Y trivial) NX
theorem NW:∀ x,j8 tP iV 181 (aS f121) gM fV iT mF x=bD x:=by
 rintro⟨v0,v1,v5,v6,u00,⟨⟩⟩
 kernel_rfl
theorem SM:bV fV=[yE,yG,xW]:=Y
theorem OO:eT tP 181 fV ⟨iT,mF,eJ⟩:=fI jH.callee bT.mixed _ (aT SM ⟨fG (i:=7) Y rfl O6,fG (i:=15) Y rfl OS,fG (i:=24) Y rfl PI,trivial⟩) NW
theorem N8:∀ x,j8 tP iV 181 (aS f121) gM mR iX mI x=bY x:=by
 rintro⟨v0,v1,v5,v6,u00,⟨⟩⟩
 kernel_rfl
theorem SB:bV mR=[fV]:=Y
theorem O2:eT tP 181 mR ⟨iX,mI,j9⟩:=fI jH.callee bT.mixed _ (aT SB ⟨fG (i:=5) Y rfl OO,trivial⟩) N8
theorem P6:bV uE=[mR]:=Y
theorem RP:∀ l x A,IB tP iV f121 (aS f121) gM uE 110 .str (.own 148 (.hnd 1)) [.int .i64] (.own 148 (.hnd 1)) l x A=cI l x A:=by
 rintro u0 ⟨v1,⟨⟩⟩ A
 kernel_rfl
theorem U7:OA tP 121 110 .str (.own 148 (.hnd 1)) [.int .i64] (.own 148 (.hnd 1)) cI:=AM bT jH func121 (c:=uE) Y (cD:=aS f121) (lt:=gM) (by rfl) (aT P6 ⟨fG (i:=3) Y rfl O2,trivial⟩) RP
abbrev lR:Shr:=(121,TD 1 (arH 110 .str (.own 148 (.hnd 1)) [.int .i64] (.own 148 (.hnd 1)) cI))
theorem mH:xI tP lR:=sT (g:=121) (f:=arH 110 .str (.own 148 (.hnd 1)) [.int .i64] (.own 148 (.hnd 1)) cI) (ER U7)
end Go.PM
namespace Go.PM
open Go Go.RowKit Go.Proofs Tryz
set_option maxHeartbeats 4000000
def aIA(x:aK [.int .i64]):oK [.bool]:=match x with
 | (v0,()) =>
  bif !(ltI v0 (-1000000000)) then
   some (!(ltI 1000000000 v0),())
  else some (false,())
abbrev a2D:Ent:=⟨146,_,_,aIA⟩
theorem aQ6:Ent.OK tP a2D:=oI (aQ oW) func146 Y (by rintro⟨v0,⟨⟩⟩; kernel_rfl)
def XZ(x:aK [.int .i64]):oK [.bool]:=match x with
 | (v0,()) =>
  aB (aIA (v0,())) λy1 =>
  bif y1.1 then
   some (false,())
  else some (true,())
abbrev aTL:Ent:=⟨145,_,_,XZ⟩
theorem aJU:Ent.OK tP aTL:=oI (aQ (oV aQ6 oW)) func145 Y (by rintro⟨v0,⟨⟩⟩; kernel_rfl)
abbrev qF:List (Nat×Kd):=[(0,.list TyE),(1,.fn 145),(7,.int .i64),(8,.int .i64)]
abbrev xT:List (Ex×List (Nat×Kd)):=[(.ret,[(4,.int .i64)]),(.exit 0,[])]
def fA(x:Shape.den qF):oS qF xT:=match x with
 | (v0,v1,v7,v8,()) =>
  bif ltI v8 v7 then
   bif aF v8 v0.length then aB (XZ ((v0.getD v8.toNat 0),())) λy2 =>
   bif y2.1 then
    some (.inr (.inl (v8,())))
   else some (.inl (v0,(),v7,(aC .i64 (v8+1)),())) else none
  else some (.inr (.inr ((()))))
def nP(x:Shape.den qF):oX xT:=bH fA (2^64) x
def sI(x:aK [.list TyE,.fn 145]):oK [.int .i64]:=match x with
 | (v0,v1,()) =>
  aB (nP (v0,(),(v0.length:Int),0,())) λz3 =>
  l9 z3 (λa4=>some (a4.1,())) λb5 =>
  some ((-1),())
abbrev MF:Ent:=⟨197,_,_,sI⟩
theorem JO:Ent.OK tP MF:=oU (aQ (oV aJU oW)) func197 2 (lp:=nP) rfl Y (by rintro⟨v0,v1,v7,v8,⟨⟩⟩; kernel_rfl) (by rintro⟨v0,v1,⟨⟩⟩; kernel_rfl)
def qK(x:aK [.list TyE,.fn 145]):oK [.bool]:=match x with
 | (v0,v1,()) =>
  aB (sI (v0,(),())) λy1 =>
  some (!(ltI y1.1 0),())
abbrev JS:Ent:=⟨144,_,_,qK⟩
theorem HG:Ent.OK tP JS:=oI (aQ (oV JO oW)) func144 Y (by rintro⟨v0,v1,⟨⟩⟩; kernel_rfl)
def R8(x:aK [.list TyE]):oK [.int .i64]:=match x with
 | (v0,()) =>
  bif ltI 64 (v0.length:Int) then
   some (4,())
  else aB (qK (v0,(),())) λy1 =>
  bif y1.1 then
   some (4,())
  else some (0,())
abbrev aXS:Ent:=⟨103,_,_,R8⟩
theorem aOO:Ent.OK tP aXS:=oI (aQ (oV HG oW)) func103 Y (by rintro⟨v0,⟨⟩⟩; kernel_rfl)
abbrev MH:List (Nat×Kd):=[(1,.int .i64),(8,.list TyD),(9,.int .i64),(10,.int .i64)]
abbrev WJ:List (Ex×List (Nat×Kd)):=[(.ret,[(4,.int .i64)]),(.exit 0,[])]
def xF(x:Shape.den MH):oS MH WJ:=match x with
 | (v1,v8,v9,v10,()) =>
  bif ltI v10 v9 then
   bif aF v10 v8.length then aB (R8 ((v8.getD v10.toNat []),())) λy2 =>
   bif !(eqI y2.1 0) then
    some (.inr (.inl (y2.1,())))
   else bif !(eqI ((v8.getD v10.toNat []).length:Int) v1) then
    some (.inr (.inl (5,())))
   else some (.inl (v1,v8,v9,(aC .i64 (v10+1)),())) else none
  else some (.inr (.inr ((()))))
def IX(x:Shape.den MH):oX WJ:=bH xF (2^64) x
def MP(x:aK [.list TyD,.int .i64]):oK [.int .i64]:=match x with
 | (v0,v1,()) =>
  aB (IX (v1,v0,(v0.length:Int),0,())) λz3 =>
  l9 z3 (λa4=>some (a4.1,())) λb5 =>
  some (0,())
abbrev aO0:Ent:=⟨177,_,_,MP⟩
theorem aHP:Ent.OK tP aO0:=oU (aQ (oV aOO oW)) func177 2 (lp:=IX) rfl Y (by rintro⟨v1,v8,v9,v10,⟨⟩⟩; kernel_rfl) (by rintro⟨v0,v1,⟨⟩⟩; kernel_rfl)
def E6(x:aK [.int .i64,.list TyD]):oK [.int .i64]:=match x with
 | (v0,v1,()) =>
  bif ltI v0 0 then
   some (3,())
  else bif ltI 12 v0 then
   some (3,())
  else bif ltI 12 (v1.length:Int) then
   some (4,())
  else aB (MP (v1,v0,())) λy1 =>
  some (y1.1,())
abbrev Z5:Ent:=⟨128,_,_,E6⟩
theorem T4:Ent.OK tP Z5:=oI (aQ (oV aHP oW)) func128 Y (by rintro⟨v0,v1,⟨⟩⟩; kernel_rfl)
abbrev jE:List (Nat×Kd):=[(4,.bag 98 TyE 53 TyD none),(6,.bag 98 TyE 53 TyD none),(13,.own 148 (.hnd 1)),(14,.int .i64),(15,.int .i64),(100000,.ar 110 .str)]
abbrev lX:List (Ex×List (Nat×Kd)):=[(.ret,[(4,.bag 98 TyE 53 TyD none),(5,.int .i64),(100000,.ar 110 .str)]),(.exit 0,[(4,.bag 98 TyE 53 TyD none),(6,.bag 98 TyE 53 TyD none),(100000,.ar 110 .str)])]
def gD(x:Shape.den jE):oS jE lX:=match x with
 | (v4,v6,v13,v14,v15,u00,()) =>
  bif ltI v15 v14 then
   bif aF v15 v13.length then bif Nat.blt v15.toNat v13.length then aB (kX () (((v13.getD v15.toNat (0,0,0)).1,(v13.getD v15.toNat (0,0,0)).2.1,(v13.getD v15.toNat (0,0,0)).2.2),()) u00) λy2 =>
   bif !(eqI y2.1.2.1 0) then
    some (.inr (.inl ((0,([],())),y2.1.2.1,y2.2,())))
   else bif Nat.ble [y2.1.1].length 1048576 then bif Nat.ble v6.2.1.length 1048576 then some (.inl ((v4.1,(v4.2.1,())),(v6.1,((v6.2.1++[y2.1.1]),())),v13,v14,(aC .i64 (v15+1)),y2.2,())) else none else none else none else none
  else some (.inr (.inr (((v4.1,(v4.2.1,())),(v6.1,(v6.2.1,())),u00,()))))
def o5(x:Shape.den jE):oX lX:=bH gD (2^64) x
def cW(v0:List (Nat×Nat×Nat))(x:aK [.int .i64])(A:List (List ByteArray)):Option ((aK [.agg TyH,.int .i64])×List (List ByteArray)):=match x with
 | (v1,()) =>
  aB (o5 ((0,([],())),(v1,([],())),v0,(v0.length:Int),0,A,())) λz3 =>
  l9 z3 (λa4=>some (((a4.1.1,a4.1.2.1),a4.2.1,()),a4.2.2.1)) λb5 =>
  some (((b5.2.1.1,b5.2.1.2.1),0,()),b5.2.2.1)
def uD:Code:=eB f123
abbrev AJ:Env:=OB [] [LC]
theorem FE:iK tP AJ:=o9 trivial ⟨VK,trivial⟩
def xY:Code:=inLoop (aUG uD 0)
def zI(id:Nat):Option eF:=bif Nat.beq id 3 then some ⟨jE,lX,o5⟩ else none
def zF(id:Nat):Option eF:=none
theorem NZ:∀ x,aSQ tP AJ 36 (aDB f123) zI zF false [] xY jE lX x=gD x:=by
 rintro⟨v4,v6,v13,v14,v15,u00,⟨⟩⟩
 kernel_rfl
theorem OZ:VW tP 36 false [] (.loop xY) ⟨jE,lX,o5⟩:=aM1 FE.callee bT.mixed _ (XL (l:=[]) Y trivial) NZ
theorem P8:jG uD=[.loop xY]:=Y
theorem SY:∀ l x A,aZG tP AJ f123 (aDB f123) zI zF uD 110 .str (.own 148 (.hnd 1)) [.int .i64] (.data [.agg TyH,.int .i64]) l x A=cW l x A:=by
 rintro u0 ⟨v1,⟨⟩⟩ A
 kernel_rfl
theorem U0:OA tP 123 110 .str (.own 148 (.hnd 1)) [.int .i64] (.data [.agg TyH,.int .i64]) cW:=a9J bT FE func123 (c:=uD) Y (cD:=aDB f123) (lt:=zI) (rt:=zF) (by rfl) (XL P8 ⟨aL9 (i:=3) Y rfl OZ,trivial⟩) SY
abbrev lO:Shr:=(123,TD 1 (arH 110 .str (.own 148 (.hnd 1)) [.int .i64] (.data [.agg TyH,.int .i64]) cW))
theorem mB:xI tP lO:=sT (g:=123) (f:=arH 110 .str (.own 148 (.hnd 1)) [.int .i64] (.data [.agg TyH,.int .i64]) cW) (ER U0)
def tO(x:aK [.int .i64,.list TyD]):oK [.agg TyH,.int .i64]:=match x with
 | (v0,v1,()) =>
  aB (E6 (v0,v1,())) λy1 =>
  bif !(eqI y1.1 0) then
   some ((0,[]),y1.1,())
  else aB (dV () (v1,()) []) λy2 =>
  aB (cI y2.1 (v0,()) y2.2) λy3 =>
  aB (cW y3.1 (v0,()) y3.2) λy4 =>
  some (y4.1.1,y4.1.2.1,())
def aBB:Code:=eB f86
abbrev aIY:Env:=OB [Z5] [uV,lR,lO]
theorem aMR:iK tP aIY:=o9 ⟨T4,trivial⟩ ⟨vP,mH,mB,trivial⟩
def aG5(id:Nat):Option eF:=none
theorem aJ4:bV aBB=[]:=Y
theorem aLP:∀ x,aFL tP aIY f86 (aS f86) aG5 aBB 110 .str _ _ x=tO x:=by
 rintro⟨v0,v1,⟨⟩⟩
 kernel_rfl
abbrev aJD:Ent:=⟨86,_,_,tO⟩
theorem SH:Ent.OK tP aJD:=aJL bT aMR func86 (c:=aBB) Y (cD:=aS f86) (lt:=aG5) (aT aJ4 trivial) aLP
end Go.PM
namespace Go.PM
open Go Go.RowKit Go.Proofs Tryz
set_option maxHeartbeats 4000000
abbrev HM:List (Nat×Kd):=[(3,.own 110 .str),(9,.list TyE),(10,.int .i64),(11,.int .i64)]
abbrev PX:List (Ex×List (Nat×Kd)):=[(.exit 0,[(3,.own 110 .str)])]
def ZL(x:Shape.den HM):oS HM PX:=match x with
 | (v3,v9,v10,v11,()) =>
  bif ltI v11 v10 then
   bif aF v11 v9.length then aB (pL ((v9.getD v11.toNat 0),())) λy2 =>
   bif Nat.ble [y2.1].length 1048576 then bif Nat.ble v3.length 1048576 then some (.inl ((v3++[y2.1]),v9,v10,(aC .i64 (v11+1)),())) else none else none else none
  else some (.inr ((v3,())))
def DK(x:Shape.den HM):oX PX:=bH ZL (2^64) x
def pQ(x:aK [.list TyE]):oK [.list .str]:=match x with
 | (v0,()) =>
  bif !(ltI (v0.length:Int) 0) then bif !(ltI 1048576 (v0.length:Int)) then aB (DK ((List.replicate 0 ByteArray.empty),v0,(v0.length:Int),0,())) λz3 =>
  some (z3.1,()) else none else none
abbrev LP:Ent:=⟨119,_,_,pQ⟩
theorem PW:Ent.OK tP LP:=oU (aQ (oV J5 oW)) func119 3 (lp:=DK) rfl Y (by rintro⟨v3,v9,v10,v11,⟨⟩⟩; kernel_rfl) (by rintro⟨v0,⟨⟩⟩; kernel_rfl)
abbrev fR:List (Nat×Kd):=[(0,.val),(7,.list TyD),(8,.int .i64),(9,.int .i64)]
abbrev jS:List (Ex×List (Nat×Kd)):=[(.exit 0,[])]
def iF(x:Shape.den fR):Option (List (Value×aK [.int .i64,.list .str])×(Shape.den fR⊕fQ jS)):=match x with
 | (v0,v7,v8,v9,()) =>
  bif ltI v9 v8 then
   bif aF v9 v7.length then aB (pQ ((v7.getD v9.toNat []),())) λy3 =>
   aB (B5 (y3.1,())) λy4 =>
   outs [(v0,(y4.1,y3.1,()))] (some ([],.inl (v0,v7,v8,(aC .i64 (v9+1)),()))) else none
  else some ([],.inr ((())))
def lU(x:Shape.den fR):Option (List (Value×aK [.int .i64,.list .str])×fQ jS):=aIP iF (2^64) x
def wT(v0:Value)(x:aEB [TyH]):Option (List (Value×aK [.int .i64,.list .str])):=match x with
 | (v1,()) =>
  a8H (aZZ (lU (v0,v1.2,(v1.2.length:Int),0,())) λz5 =>
  some ([],()))
def qQ:Code:=eB f239
abbrev xD:Env:=OB [LP,RY] []
theorem BS:iK tP xD:=o9 ⟨PW,LG,trivial⟩ trivial
def kE:Code:=inLoop (aUG qQ 0)
def vH(id:Nat):Option eF:=none
def vA(id:Nat):Option (aA2 (Value×aK [.int .i64,.list .str])):=bif Nat.beq id 1 then some ⟨fR,jS,lU⟩ else none
theorem KZ:cE kE=1:=Y
theorem NV:jG kE=[]:=Y
theorem KM:∀ x,a7H tP xD 22 (aS f239) vH [.int .i64,.list .str] vA kE fR jS x=iF x:=by
 rintro⟨v0,v7,v8,v9,⟨⟩⟩
 kernel_rfl
theorem K6:a0I tP 22 [.int .i64,.list .str] kE ⟨fR,jS,lU⟩:=a6F BS.callee bT.mixed _ (aUI NV trivial) KM
theorem MI:jG qQ=[.loop kE]:=Y
theorem NT:∀ v0 x,bAI tP xD f239 (aS f239) vH [.int .i64,.list .str] vA qQ [TyH] v0 x=wT v0 x:=by
 rintro v0 ⟨v1,⟨⟩⟩
 kernel_rfl
theorem N0 {f:aEB [TyH]->Option (List (aK [.int .i64,.list .str]))}(h:∀ yv x all,f x=some all->wT yv x=some (all.map λe=>(yv,e))):aL7 tP 239 [TyH] [.int .i64,.list .str] f:=a83 bT BS func239 (c:=qQ) Y Y (cD:=aS f239) (lt:=vH) (li:=vA) (aUI MI ⟨a6D KZ rfl rfl K6,trivial⟩) (λyv x all hx=>(NT yv x).trans (h yv x all hx))
def aZJ:List (List Int)->Option (List (aK [.int .i64,.list .str]))
 | []=>some []
 | r::l=>aB (pQ (r,())) λy=>aB (B5 (y.1,())) λz=>aB (aZJ l) λrest=>some ((z.1,y.1,())::rest)
def aRT(x:aEB [TyH]):Option (List (aK [.int .i64,.list .str])):=match x with
 | ((_,b),())=>bif Nat.ble b.length 1048576 then aZJ b else none
theorem aJH(yv:Value)(l:List (List Int))(hl:l.length<=1048576):∀ (rest pre:List (List Int)) (all:List (aK [.int .i64,.list .str])) (N:Nat),aZJ rest=some all->pre++rest=l->rest.length<N ->
  aIP iF N (yv,l,(l.length:Int),(pre.length:Int),())=some (all.map λe=>(yv,e),())
 | [],pre,all,N+1,h,hp,_=>by
  obtain rfl:=oB h;rw[List.append_nil]at hp;subst hp;have h1:ltI (pre.length:Int) (pre.length:Int)=false:=by simp[aE]
  simp only[aIP,iF,h1,oD];rfl
 | r::rest,pre,all,N+1,h,hp,hN=>by
  obtain⟨y,hy,h⟩:=A4 h;obtain⟨z,hz,h⟩:=A4 h;obtain⟨all',ha,h⟩:=A4 h;obtain rfl:=oB h;have hlen:l.length=pre.length+(rest.length+1):=by rw[<- hp]; simp
  have h1:ltI (pre.length:Int) (l.length:Int)=true:=by simp[aE]; omega
  have h2:aF (pre.length:Int) l.length=true:=by simp[aL]; omega
  have h3:l.getD ((pre.length:Int)).toNat []=r:=by rw[<- hp]; simp
  have h4:=aJH yv l hl rest (pre++[r]) all' N ha (by rw[<- hp]; simp) (by simp at hN; omega);have h5:aC .i64 ((pre.length:Int)+1)=((pre++[r]).length:Int):=by rw[wrap64 Z Z]; simp
  simp only[aIP,iF,h1,oC,h2,h3,hy,aD,hz,outs,h5];rw[h4];rfl
theorem a2Q:aL7 tP 239 [TyH] [.int .i64,.list .str] aRT:=by
 refine N0 ?_;rintro yv ⟨⟨n,b⟩,⟨⟩⟩ all h;unfold aRT at h;dsimp only at h;obtain⟨hb,h⟩:=aH h;have hb:=oL hb;have:=aJH yv b hb b [] all (2^64) h rfl Z;unfold wT;dsimp only;unfold lU;have h0:((([]:List (List Int)).length:Nat):Int)=0:=rfl;rw[h0]at this;rw[this];simp[aZZ,outs,a8H]
end Go.PM
namespace Go.PM
open Go Go.RowKit Go.Proofs Tryz
set_option maxHeartbeats 4000000
def YW(x:aK [.int .i64]):oK [.bool]:=match x with
 | (v0,()) =>
  bif ltI 1000000000 v0 then
   some (true,())
  else some (ltI v0 (-1000000000),())
abbrev aT0:Ent:=⟨172,_,_,YW⟩
theorem aKF:Ent.OK tP aT0:=oI (aQ oW) func172 Y (by rintro⟨v0,⟨⟩⟩; kernel_rfl)
abbrev qE:List (Nat×Kd):=[(0,.list TyE),(1,.fn 172),(7,.int .i64),(8,.int .i64)]
abbrev xQ:List (Ex×List (Nat×Kd)):=[(.ret,[(4,.int .i64)]),(.exit 0,[])]
def fC(x:Shape.den qE):oS qE xQ:=match x with
 | (v0,v1,v7,v8,()) =>
  bif ltI v8 v7 then
   bif aF v8 v0.length then aB (YW ((v0.getD v8.toNat 0),())) λy2 =>
   bif y2.1 then
    some (.inr (.inl (v8,())))
   else some (.inl (v0,(),v7,(aC .i64 (v8+1)),())) else none
  else some (.inr (.inr ((()))))
def n9(x:Shape.den qE):oX xQ:=bH fC (2^64) x
def sE(x:aK [.list TyE,.fn 172]):oK [.int .i64]:=match x with
 | (v0,v1,()) =>
  aB (n9 (v0,(),(v0.length:Int),0,())) λz3 =>
  l9 z3 (λa4=>some (a4.1,())) λb5 =>
  some ((-1),())
abbrev LU:Ent:=⟨197,_,_,sE⟩
theorem JT:Ent.OK tP LU:=oU (aQ (oV aKF oW)) func197 2 (lp:=n9) rfl Y (by rintro⟨v0,v1,v7,v8,⟨⟩⟩; kernel_rfl) (by rintro⟨v0,v1,⟨⟩⟩; kernel_rfl)
def kL(x:aK [.list TyE,.fn 172]):oK [.bool]:=match x with
 | (v0,v1,()) =>
  aB (sE (v0,(),())) λy1 =>
  some (!(ltI y1.1 0),())
abbrev JP:Ent:=⟨144,_,_,kL⟩
theorem HX:Ent.OK tP JP:=oI (aQ (oV JT oW)) func144 Y (by rintro⟨v0,v1,⟨⟩⟩; kernel_rfl)
abbrev OP:List (Nat×Kd):=[(0,.list TyD),(8,.list TyD),(9,.int .i64),(10,.int .i64)]
abbrev Y9:List (Ex×List (Nat×Kd)):=[(.ret,[(2,.int .i64)]),(.exit 0,[])]
def yN(x:Shape.den OP):oS OP Y9:=match x with
 | (v0,v8,v9,v10,()) =>
  bif ltI v10 v9 then
   bif aF v10 v8.length then bif ltI 12 ((v8.getD v10.toNat []).length:Int) then
    some (.inr (.inl (4,())))
   else bif aF 0 v0.length then bif !(eqI ((v8.getD v10.toNat []).length:Int) ((v0.getD 0 []).length:Int)) then
    some (.inr (.inl (5,())))
   else aB (kL ((v8.getD v10.toNat []),(),())) λy2 =>
   bif y2.1 then
    some (.inr (.inl (4,())))
   else some (.inl (v0,v8,v9,(aC .i64 (v10+1)),())) else none else none
  else some (.inr (.inr ((()))))
def KH(x:Shape.den OP):oX Y9:=bH yN (2^64) x
def QX(x:aK [.list TyD]):oK [.int .i64]:=match x with
 | (v0,()) =>
  bif ltI 12 (v0.length:Int) then
   some (4,())
  else aB (KH (v0,v0,(v0.length:Int),0,())) λz3 =>
  l9 z3 (λa4=>some (a4.1,())) λb5 =>
  some (0,())
abbrev aTC:Ent:=⟨125,_,_,QX⟩
theorem aJ1:Ent.OK tP aTC:=oU (aQ (oV HX oW)) func125 4 (lp:=KH) rfl Y (by rintro⟨v0,v8,v9,v10,⟨⟩⟩; kernel_rfl) (by rintro⟨v0,⟨⟩⟩; kernel_rfl)
def GC(x:aK [.int .i64]):oK [.bool]:=match x with
 | (v0,()) =>
  some (!(eqI v0 0),())
abbrev aIC:Ent:=⟨211,_,_,GC⟩
theorem aCQ:Ent.OK tP aIC:=oI (aQ oW) func211 Y (by rintro⟨v0,⟨⟩⟩; kernel_rfl)
abbrev qI:List (Nat×Kd):=[(0,.list TyE),(1,.fn 211),(7,.int .i64),(8,.int .i64)]
abbrev xS:List (Ex×List (Nat×Kd)):=[(.ret,[(4,.int .i64)]),(.exit 0,[])]
def eZ(x:Shape.den qI):oS qI xS:=match x with
 | (v0,v1,v7,v8,()) =>
  bif ltI v8 v7 then
   bif aF v8 v0.length then aB (GC ((v0.getD v8.toNat 0),())) λy2 =>
   bif y2.1 then
    some (.inr (.inl (v8,())))
   else some (.inl (v0,(),v7,(aC .i64 (v8+1)),())) else none
  else some (.inr (.inr ((()))))
def o3(x:Shape.den qI):oX xS:=bH eZ (2^64) x
def sD(x:aK [.list TyE,.fn 211]):oK [.int .i64]:=match x with
 | (v0,v1,()) =>
  aB (o3 (v0,(),(v0.length:Int),0,())) λz3 =>
  l9 z3 (λa4=>some (a4.1,())) λb5 =>
  some ((-1),())
abbrev LM:Ent:=⟨197,_,_,sD⟩
theorem JX:Ent.OK tP LM:=oU (aQ (oV aCQ oW)) func197 2 (lp:=o3) rfl Y (by rintro⟨v0,v1,v7,v8,⟨⟩⟩; kernel_rfl) (by rintro⟨v0,v1,⟨⟩⟩; kernel_rfl)
def KL(x:aK [.list TyE]):oK [.int .i64]:=match x with
 | (v0,()) =>
  aB (sD (v0,(),())) λy1 =>
  some (y1.1,())
abbrev aMT:Ent:=⟨173,_,_,KL⟩
theorem aGU:Ent.OK tP aMT:=oI (aQ (oV JX oW)) func173 Y (by rintro⟨v0,⟨⟩⟩; kernel_rfl)
def I1(x:aK [.list TyE,.ptr TyE,.ptr TyD]):oK [.bool]:=match x with
 | (v0,v1,v2,()) =>
  bif aF v1 v0.length then bif ltI (v0.getD v1.toNat 0) 0 then
   some (true,())
  else bif aF v1 v0.length then bif aF v1 v2.length then some (!(ltI (v0.getD v1.toNat 0) (v2.getD v1.toNat 0)),()) else none else none else none
abbrev aDP:Ent:=⟨174,_,_,I1⟩
theorem ZD:Ent.OK tP aDP:=oI (aQ oW) func174 Y (by rintro⟨v0,v1,v2,⟨⟩⟩; kernel_rfl)
abbrev kW:List (Nat×Kd):=[(0,.list TyD),(1,.clo 174 [TyE,TyD]),(7,.int .i64),(8,.int .i64)]
abbrev rT:List (Ex×List (Nat×Kd)):=[(.ret,[(4,.int .i64)]),(.exit 0,[])]
def dD(x:Shape.den kW):oS kW rT:=match x with
 | (v0,v1,v7,v8,()) =>
  bif ltI v8 v7 then
   bif aF v8 v0.length then aB (I1 ((v0.getD v8.toNat []),v1.1,v1.2.1,())) λy2 =>
   bif y2.1 then
    some (.inr (.inl (v8,())))
   else some (.inl (v0,(v1.1,v1.2.1,()),v7,(aC .i64 (v8+1)),())) else none
  else some (.inr (.inr ((()))))
def j5(x:Shape.den kW):oX rT:=bH dD (2^64) x
def mK(x:aK [.list TyD,.clo 174 [TyE,TyD]]):oK [.int .i64]:=match x with
 | (v0,v1,()) =>
  aB (j5 (v0,(v1.1,v1.2.1,()),(v0.length:Int),0,())) λz3 =>
  l9 z3 (λa4=>some (a4.1,())) λb5 =>
  some ((-1),())
abbrev GN:Ent:=⟨100,_,_,mK⟩
theorem DU:Ent.OK tP GN:=oU (aQ (oV ZD oW)) func100 2 (lp:=j5) rfl Y (by rintro⟨v0,v1,v7,v8,⟨⟩⟩; kernel_rfl) (by rintro⟨v0,v1,⟨⟩⟩; kernel_rfl)
def fK(x:aK [.list TyD,.clo 174 [TyE,TyD]]):oK [.bool]:=match x with
 | (v0,v1,()) =>
  aB (mK (v0,(v1.1,v1.2.1,()),())) λy1 =>
  some (!(ltI y1.1 0),())
abbrev DT:Ent:=⟨43,_,_,fK⟩
theorem BL:Ent.OK tP DT:=oI (aQ (oV DU oW)) func43 Y (by rintro⟨v0,v1,⟨⟩⟩; kernel_rfl)
abbrev IY:List (Nat×Kd):=[(0,.list TyD),(3,.int .i64),(7,.list TyD),(8,.int .i64),(9,.int .i64)]
abbrev SF:List (Ex×List (Nat×Kd)):=[(.ret,[(2,.bool)]),(.exit 0,[])]
def tQ(x:Shape.den IY):oS IY SF:=match x with
 | (v0,v3,v7,v8,v9,()) =>
  bif ltI v9 v8 then
   bif aF v9 v7.length then aB (KL ((v7.getD v9.toNat []),())) λy3 =>
   bif !(ltI v3 y3.1) then
    some (.inr (.inl (false,())))
   else bif aF y3.1 (v7.getD v9.toNat []).length then bif ltI ((v7.getD v9.toNat []).getD y3.1.toNat 0) 0 then
    some (.inr (.inl (false,())))
   else bif !(ltI v9 0) then bif Nat.ble 0 v9.toNat then bif Nat.ble v9.toNat v0.length then aB (fK (((v0.drop 0).take (v9.toNat-0)),(y3.1,(v7.getD v9.toNat []),()),())) λy4 =>
   bif y4.1 then
    some (.inr (.inl (false,())))
   else some (.inl (v0,y3.1,v7,v8,(aC .i64 (v9+1)),())) else none else none else none else none else none
  else some (.inr (.inr ((()))))
def E0(x:Shape.den IY):oX SF:=bH tQ (2^64) x
def IJ(x:aK [.list TyD]):oK [.bool]:=match x with
 | (v0,()) =>
  aB (E0 (v0,(-1),v0,(v0.length:Int),0,())) λz5 =>
  l9 z5 (λa6=>some (a6.1,())) λb7 =>
  some (true,())
abbrev aJ0:Ent:=⟨126,_,_,IJ⟩
theorem aED:Ent.OK tP aJ0:=oU (aQ (oV aGU (oV BL oW))) func126 3 (lp:=E0) rfl Y (by rintro⟨v0,v3,v7,v8,v9,⟨⟩⟩; kernel_rfl) (by rintro⟨v0,⟨⟩⟩; kernel_rfl)
def ON(x:aK [.list TyD]):oK [.bool,.int .i64]:=match x with
 | (v0,()) =>
  aB (QX (v0,())) λy1 =>
  bif !(eqI y1.1 0) then
   some (false,y1.1,())
  else aB (IJ (v0,())) λy2 =>
  some (y2.1,0,())
abbrev aJZ:Ent:=⟨71,_,_,ON⟩
theorem aDJ:Ent.OK tP aJZ:=oI (aQ (oV aED (oV aJ1 oW))) func71 Y (by rintro⟨v0,⟨⟩⟩; kernel_rfl)
def nV(x:aK [.agg TyH]):oK [.int .i64]:=match x with
 | (v0,()) =>
  aB (E6 (v0.1,v0.2,())) λy1 =>
  bif !(eqI y1.1 0) then
   some (y1.1,())
  else aB (ON (v0.2,())) λy2 =>
  bif !(eqI y2.2.1 0) then
   some (7,())
  else bif y2.1 then
   some (0,())
  else some (7,())
abbrev RI:Ent:=⟨73,_,_,nV⟩
theorem EE:Ent.OK tP RI:=oI (aQ (oV aDJ (oV T4 oW))) func73 Y (by rintro⟨v0,⟨⟩⟩; kernel_rfl)
def a0E(x:aK [.agg TyH,.list TyE]):oK [.int .i64]:=match x with
 | (v0,v1,()) =>
  aB (nV (v0,())) λy1 =>
  bif !(eqI y1.1 0) then
   some (y1.1,())
  else aB (R8 (v1,())) λy2 =>
  bif !(eqI y2.1 0) then
   some (y2.1,())
  else bif !(eqI (v1.length:Int) v0.1) then
   some (5,())
  else some (0,())
def JK(x:aK [.agg TyH]):oK [.clo 239 [TyH]]:=match x with
 | (v0,()) =>
  some ((v0,()),())
abbrev I5:Ent:=⟨225,_,_,JK⟩
theorem S6:Ent.OK tP I5:=oI (aQ oW) func225 Y (by rintro⟨v0,⟨⟩⟩; kernel_rfl)
abbrev dF:List (Nat×Kd):=[(4,.bown 148 110 .str),(5,.bown 148 110 .str),(14,.clo 239 [TyH])]
abbrev jF:List (Ex×List (Nat×Kd)):=[(.normal,[(4,.bown 148 110 .str),(5,.bown 148 110 .str)])]
def C1(x:Shape.den dF)(e:aK [.int .i64,.list .str]):oS dF jF:=match x,e with
 | (v4,v5,v14,()),(e0,e1,()) =>
  bif aF e0 v4.length then bif Nat.blt e0.toNat v4.length then bif aF e0 e1.length then aB (DA ((v4.getD e0.toNat ByteArray.empty),(e1.getD e0.toNat ByteArray.empty),())) λy3 =>
  aB (X8 (t:=.str) tH v4 (y3.1,e1,())) λy4 =>
  bif Nat.ble [y3.1].length 1048576 then bif Nat.ble v5.length 1048576 then some (.inl (y4,(v5++[y3.1]),(v14.1,()),())) else none else none else none else none else none
def EA(x:Shape.den dF):aEB [TyH]:=match x with
 | (v4,v5,v14,())=>(v14.1,())
def uL(x:Shape.den dF):oX jF:=a89 dF jF (λx=>aRT (EA x)) C1 x
def BE(x:aK [.agg TyH,.list TyE]):oK [.list .str,.list .str]:=match x with
 | (v0,v1,()) =>
  aB (pZ (v1,())) λy1 =>
  aB (JK (v0,())) λy2 =>
  aB (uL (y1,[],(y2.1.1,()),())) λz5 =>
  some (z5.1,z5.2.1,())
def tV:Code:=eB f196
abbrev AZ:Env:=OB [I5,UP] [GO,LA]
theorem EY:iK tP AZ:=o9 ⟨S6,WV,trivial⟩ ⟨HE,VH,trivial⟩
def cC:Code:=aUG tV 0
def TS:Code:=inLoop cC
def zN(id:Nat):Option eF:=none
def zQ(id:Nat):Option eF:=bif Nat.beq id 5 then some ⟨dF,jF,uL⟩ else none
theorem M6:cE TS=5:=Y
theorem CX:cC=.rangeFunc (aWM cC) (a5N cC) (WE cC) (inLoop cC):=Y
theorem N4:∀ y e,aS5 tP AZ 40 (aDB f196) zN zQ (a5N cC).toList (WE cC) (inLoop cC) [.int .i64,.list .str] dF jF y e=C1 y e:=by
 rintro⟨v4,v5,v14,⟨⟩⟩ ⟨e0,e1,⟨⟩⟩
 kernel_rfl
theorem P5:∀ x,a5C 239 [TyH] dF (aWM cC) x=some (EA x):=by
 rintro⟨v4,v5,v14,⟨⟩⟩
 kernel_rfl
theorem PJ:VW tP 40 false [] cC ⟨dF,jF,uL⟩:=a2Z EY bT CX func239 (c:=eB f239) Y a2Q Y (XL (l:=[]) Y trivial) P5 N4
theorem QE:jG tV=[cC]:=Y
theorem R6:∀ x,bAJ tP AZ f196 (aDB f196) zN zQ tV [.agg TyH,.list TyE] [.list .str,.list .str] x=BE x:=by
 rintro⟨v0,v1,⟨⟩⟩
 kernel_rfl
abbrev WN:Ent:=⟨196,_,_,BE⟩
theorem RD:Ent.OK tP WN:=a7Y bT EY func196 (c:=tV) Y (cD:=aDB f196) (lt:=zN) (rt:=zQ) (XL QE ⟨aW9 CX M6 rfl PJ,trivial⟩) R6
end Go.PM
namespace Go.PM
open Go Go.RowKit Go.Proofs Tryz
set_option maxHeartbeats 4000000
def nF(u0:Unit) (x:aK [.int .i64]) (A:List (List ByteArray)):Option ((List ByteArray)×List (List ByteArray)):=match x with
 | (v0,()) =>
  bif !(ltI v0 0) then bif !(ltI v0 v0) then bif !(ltI 1048576 v0) then aB (pZ ((List.replicate v0.toNat 0),())) λy1 =>
  some (y1,A) else none else none else none
def J0:Code:=eB f120
abbrev TX:Env:=OB [] [GO]
theorem aBQ:iK tP TX:=o9 trivial ⟨HE,trivial⟩
def SD(id:Nat):Option eF:=none
theorem ZH:bV J0=[]:=Y
theorem aBA:∀ l x A,IB tP TX f120 (aS f120) SD J0 110 .str .none [.int .i64] (.own 110 .str) l x A=nF l x A:=by
 rintro u0 ⟨v0,⟨⟩⟩ A
 kernel_rfl
theorem aD4:OA tP 120 110 .str .none [.int .i64] (.own 110 .str) nF:=AM bT aBQ func120 (c:=J0) Y (cD:=aS f120) (lt:=SD) (by rfl) (aT ZH trivial) aBA
abbrev KK:Shr:=(120,TD 0 (arH 110 .str .none [.int .i64] (.own 110 .str) nF))
theorem M7:xI tP KK:=sT (g:=120) (f:=arH 110 .str .none [.int .i64] (.own 110 .str) nF) (ER aD4)
abbrev hO:List (Nat×Kd):=[(1,.int .i64),(2,.int .i64),(7,.own 148 (.hnd 1)),(10,.list (.hnd 1)),(11,.int .i64),(12,.int .i64),(100000,.ar 110 .str)]
abbrev lD:List (Ex×List (Nat×Kd)):=[(.exit 0,[(2,.int .i64),(7,.own 148 (.hnd 1)),(100000,.ar 110 .str)])]
def fO(x:Shape.den hO):oS hO lD:=match x with
 | (v1,v2,v7,v10,v11,v12,u00,()) =>
  bif ltI v12 v11 then
   bif aF v12 v10.length then aB (jP () (((v10.getD v12.toNat (0,0,0)).1,(v10.getD v12.toNat (0,0,0)).2.1,(v10.getD v12.toNat (0,0,0)).2.2),()) u00) λy2 =>
   bif !(ltI y2.1.1 v1) then
    bif !(ltI v1 0) then bif Nat.ble v1.toNat ((v10.getD v12.toNat (0,0,0)).2.2) then bif Nat.ble ((v10.getD v12.toNat (0,0,0)).2.2) ((v10.getD v12.toNat (0,0,0)).2.2) then bif Nat.ble [((v10.getD v12.toNat (0,0,0)).1,((v10.getD v12.toNat (0,0,0)).2.1+v1.toNat),((v10.getD v12.toNat (0,0,0)).2.2-v1.toNat))].length 1048576 then bif Nat.ble v7.length 1048576 then some (.inl (v1,v2,(v7++[((v10.getD v12.toNat (0,0,0)).1,((v10.getD v12.toNat (0,0,0)).2.1+v1.toNat),((v10.getD v12.toNat (0,0,0)).2.2-v1.toNat))]),v10,v11,(aC .i64 (v12+1)),y2.2,())) else none else none else none else none else none
   else some (.inl (v1,v2,v7,v10,v11,(aC .i64 (v12+1)),y2.2,())) else none
  else some (.inr ((v2,v7,u00,())))
def jL(x:Shape.den hO):oX lD:=bH fO (2^64) x
def dB(u0:Unit)(x:aK [.list (.hnd 1),.int .i64,.int .i64])(A:List (List ByteArray)):Option ((List (Nat×Nat×Nat))×List (List ByteArray)):=match x with
 | (v0,v1,v2,()) =>
  aB (jL (v1,v2,[],v0,(v0.length:Int),0,A,())) λz3 =>
  aB (cI z3.2.1 (z3.1,()) z3.2.2.1) λy4 =>
  some y4
def sO:Code:=eB f122
abbrev zO:Env:=OB [] [NF,lR]
theorem D5:iK tP zO:=o9 trivial ⟨WY,mH,trivial⟩
def wJ:Code:=iG sO 0
def yC(id:Nat):Option eF:=bif Nat.beq id 3 then some ⟨hO,lD,jL⟩ else none
theorem MC:∀ x,j8 tP zO 30 (aS f122) yC wJ hO lD x=fO x:=by
 rintro⟨v1,v2,v7,v10,v11,v12,u00,⟨⟩⟩
 kernel_rfl
theorem NM:eT tP 30 wJ ⟨hO,lD,jL⟩:=fI D5.callee bT.mixed _ (aT (l:=[]) Y trivial) MC
theorem O8:bV sO=[wJ]:=Y
theorem P3:∀ l x A,IB tP zO f122 (aS f122) yC sO 110 .str .none [.list (.hnd 1),.int .i64,.int .i64] (.own 148 (.hnd 1)) l x A=dB l x A:=by
 rintro u0 ⟨v0,v1,v2,⟨⟩⟩ A
 kernel_rfl
theorem TG:OA tP 122 110 .str .none [.list (.hnd 1),.int .i64,.int .i64] (.own 148 (.hnd 1)) dB:=AM bT D5 func122 (c:=sO) Y (cD:=aS f122) (lt:=yC) (by rfl) (aT O8 ⟨fG (i:=3) Y rfl NM,trivial⟩) P3
abbrev zA:Shr:=(122,TD 0 (arH 110 .str .none [.list (.hnd 1),.int .i64,.int .i64] (.own 148 (.hnd 1)) dB))
theorem ED:xI tP zA:=sT (g:=122) (f:=arH 110 .str .none [.list (.hnd 1),.int .i64,.int .i64] (.own 148 (.hnd 1)) dB) (ER TG)
abbrev gQ:List (Nat×Kd):=[(0,.list (.hnd 1)),(1,.int .i64),(5,.own 148 (.hnd 1)),(6,.int .i64),(7,.own 110 .str),(11,.int .i64),(12,.int .i64),(15,.list (.hnd 1)),(16,.int .i64),(17,.int .i64),(100000,.ar 110 .str)]
abbrev lG:List (Ex×List (Nat×Kd)):=[(.exit 2,[(0,.list (.hnd 1)),(1,.int .i64),(5,.own 148 (.hnd 1)),(6,.int .i64),(7,.own 110 .str),(11,.int .i64),(12,.int .i64),(100000,.ar 110 .str)])]
def jN(x:Shape.den gQ):oS gQ lG:=match x with
 | (v0,v1,v5,v6,v7,v11,v12,v15,v16,v17,u00,()) =>
  bif ltI v17 v16 then
   bif aF v17 v15.length then bif aF v6 ((v15.getD v17.toNat (0,0,0)).2.2) then bif Nat.blt (((v15.getD v17.toNat (0,0,0)).2.1+v6.toNat)*1) (cT u00 ((v15.getD v17.toNat (0,0,0)).1)) then bif Nat.ble [(dC u00 ((v15.getD v17.toNat (0,0,0)).1) (((v15.getD v17.toNat (0,0,0)).2.1+v6.toNat)*1) ByteArray.empty)].length 1048576 then bif Nat.ble v7.length 1048576 then some (.inl (v0,v1,v5,v6,(v7++[(dC u00 ((v15.getD v17.toNat (0,0,0)).1) (((v15.getD v17.toNat (0,0,0)).2.1+v6.toNat)*1) ByteArray.empty)]),v11,v12,v15,v16,(aC .i64 (v17+1)),u00,())) else none else none else none else none else none
  else some (.inr ((v0,v1,v5,v6,v7,v11,v12,u00,())))
def nB(x:Shape.den gQ):oX lG:=bH jN (2^64) x
abbrev iA:List (Nat×Kd):=[(0,.list (.hnd 1)),(1,.int .i64),(5,.own 148 (.hnd 1)),(11,.int .i64),(12,.int .i64),(100000,.ar 110 .str)]
abbrev lL:List (Ex×List (Nat×Kd)):=[(.exit 0,[(0,.list (.hnd 1)),(1,.int .i64),(5,.own 148 (.hnd 1)),(100000,.ar 110 .str)])]
def jW(x:Shape.den iA):oS iA lL:=match x with
 | (v0,v1,v5,v11,v12,u00,()) =>
  bif ltI v12 v11 then
   aB (nB (v0,v1,v5,v12,[],v11,v12,v0,(v0.length:Int),0,u00,())) λz3 =>
   aB (nF () (z3.2.1,()) z3.2.2.2.2.2.2.2.1) λy4 =>
   bif aF z3.2.2.2.1 y4.1.length then bif Nat.blt z3.2.2.2.1.toNat y4.1.length then bif Nat.ble (y4.1.set z3.2.2.2.1.toNat (ByteArray.mk #[49])).length 1048576 then bif Nat.ble z3.2.2.2.2.1.length 1048576 then bif Nat.ble [(y4.2.length,0,(z3.2.2.2.2.1++(y4.1.set z3.2.2.2.1.toNat (ByteArray.mk #[49]))).length)].length 1048576 then bif Nat.ble z3.2.2.1.length 1048576 then some (.inl (z3.1,z3.2.1,(z3.2.2.1++[(y4.2.length,0,(z3.2.2.2.2.1++(y4.1.set z3.2.2.2.1.toNat (ByteArray.mk #[49]))).length)]),z3.2.2.2.2.2.1,(aC .i64 (z3.2.2.2.2.2.2.1+1)),(y4.2++[(z3.2.2.2.2.1++(y4.1.set z3.2.2.2.1.toNat (ByteArray.mk #[49])))]),())) else none else none else none else none else none else none
  else some (.inr ((v0,v1,v5,u00,())))
def jV(x:Shape.den iA):oX lL:=bH jW (2^64) x
def bZ(u0:Unit)(x:aK [.list (.hnd 1),.int .i64])(A:List (List ByteArray)):Option ((List (Nat×Nat×Nat))×List (List ByteArray)):=match x with
 | (v0,v1,()) =>
  aB (jV (v0,v1,[],v1,0,A,())) λz5 =>
  aB (cI z5.2.2.1 ((aC .i64 ((z5.1.length:Int)+z5.2.1)),()) z5.2.2.2.1) λy6 =>
  aB (dB () (y6.1,(z5.1.length:Int),z5.2.1,()) y6.2) λy7 =>
  some y7
def sN:Code:=eB f130
abbrev sQ:Env:=OB [] [zA,lR,KK]
theorem vE:iK tP sQ:=o9 trivial ⟨ED,mH,M7,trivial⟩
def lY:Code:=iG sN 0
def vZ:Code:=iG lY 0
def rR(id:Nat):Option eF:=bif Nat.beq id 7 then some ⟨gQ,lG,nB⟩ else bif Nat.beq id 3 then some ⟨iA,lL,jV⟩ else none
theorem L0:∀ x,j8 tP sQ 51 (aS f130) rR vZ gQ lG x=jN x:=by
 rintro⟨v0,v1,v5,v6,v7,v11,v12,v15,v16,v17,u00,⟨⟩⟩
 kernel_rfl
theorem ND:eT tP 51 vZ ⟨gQ,lG,nB⟩:=fI vE.callee bT.mixed _ (aT (l:=[]) Y trivial) L0
theorem LW:∀ x,j8 tP sQ 51 (aS f130) rR lY iA lL x=jW x:=by
 rintro⟨v0,v1,v5,v11,v12,u00,⟨⟩⟩
 kernel_rfl
theorem QO:bV lY=[vZ]:=Y
theorem NB:eT tP 51 lY ⟨iA,lL,jV⟩:=fI vE.callee bT.mixed _ (aT QO ⟨fG (i:=7) Y rfl ND,trivial⟩) LW
theorem PC:bV sN=[lY]:=Y
theorem QP:∀ l x A,IB tP sQ f130 (aS f130) rR sN 110 .str .none [.list (.hnd 1),.int .i64] (.own 148 (.hnd 1)) l x A=bZ l x A:=by
 rintro u0 ⟨v0,v1,⟨⟩⟩ A
 kernel_rfl
theorem TC:OA tP 130 110 .str .none [.list (.hnd 1),.int .i64] (.own 148 (.hnd 1)) bZ:=AM bT vE func130 (c:=sN) Y (cD:=aS f130) (lt:=rR) (by rfl) (aT PC ⟨fG (i:=3) Y rfl NB,trivial⟩) QP
abbrev zK:Shr:=(130,TD 0 (arH 110 .str .none [.list (.hnd 1),.int .i64] (.own 148 (.hnd 1)) bZ))
theorem EC:xI tP zK:=sT (g:=130) (f:=arH 110 .str .none [.list (.hnd 1),.int .i64] (.own 148 (.hnd 1)) bZ) (ER TC)
def lE(x:aK [.agg TyH]):oK [.agg TyH,.int .i64]:=match x with
 | (v0,()) =>
  aB (nV (v0,())) λy1 =>
  bif !(eqI y1.1 0) then
   some ((0,[]),y1.1,())
  else aB (dV () (v0.2,()) []) λy2 =>
  aB (bZ () (y2.1,v0.1,()) y2.2) λy3 =>
  aB (bZ () (y3.1,v0.1,()) y3.2) λy4 =>
  aB (cW y4.1 (v0.1,()) y4.2) λy5 =>
  some (y5.1.1,y5.1.2.1,())
def J3:Code:=eB f74
abbrev T0:Env:=OB [RI] [uV,zK,lO]
theorem aAQ:iK tP T0:=o9 ⟨EE,trivial⟩ ⟨vP,EC,mB,trivial⟩
def SU(id:Nat):Option eF:=none
theorem ZW:bV J3=[]:=Y
theorem aAE:∀ x,aFL tP T0 f74 (aS f74) SU J3 110 .str _ _ x=lE x:=by
 rintro⟨v0,⟨⟩⟩
 kernel_rfl
abbrev aGY:Ent:=⟨74,_,_,lE⟩
theorem E8:Ent.OK tP aGY:=aJL bT aAQ func74 (c:=J3) Y (cD:=aS f74) (lt:=SU) (aT ZW trivial) aAE
def gH(x:aK [.agg TyH]):oK [.agg TyH,.int .i64]:=match x with
 | (v0,()) =>
  aB (nV (v0,())) λy1 =>
  bif !(eqI y1.1 0) then
   some ((0,[]),y1.1,())
  else aB (dV () (v0.2,()) []) λy2 =>
  aB (bZ () (y2.1,v0.1,()) y2.2) λy3 =>
  aB (cW y3.1 (v0.1,()) y3.2) λy4 =>
  some (y4.1.1,y4.1.2.1,())
def FW:Code:=eB f76
abbrev NN:Env:=OB [RI] [uV,zK,lO]
theorem W5:iK tP NN:=o9 ⟨EE,trivial⟩ ⟨vP,EC,mB,trivial⟩
def LJ(id:Nat):Option eF:=none
theorem VJ:bV FW=[]:=Y
theorem VU:∀ x,aFL tP NN f76 (aS f76) LJ FW 110 .str _ _ x=gH x:=by
 rintro⟨v0,⟨⟩⟩
 kernel_rfl
abbrev aBM:Ent:=⟨76,_,_,gH⟩
theorem BH:Ent.OK tP aBM:=aJL bT W5 func76 (c:=FW) Y (cD:=aS f76) (lt:=LJ) (aT VJ trivial) VU
end Go.PM
namespace Go.PM
open Go Go.RowKit Go.Proofs Tryz
set_option maxHeartbeats 4000000
abbrev uN:List (Nat×Kd):=[(0,.list TyE),(1,.list TyE),(12,.int .i64),(13,.int .i64)]
abbrev CS:List (Ex×List (Nat×Kd)):=[(.ret,[(4,.bool)]),(.exit 0,[])]
def fE(x:Shape.den uN):oS uN CS:=match x with
 | (v0,v1,v12,v13,()) =>
  bif ltI v13 v12 then
   bif aF v13 v0.length then bif aF v13 v1.length then bif !(eqI (v0.getD v13.toNat 0) (v1.getD v13.toNat 0)) then
    some (.inr (.inl (false,())))
   else some (.inl (v0,v1,v12,(aC .i64 (v13+1)),())) else none else none
  else some (.inr (.inr ((()))))
def mL(x:Shape.den uN):oX CS:=bH fE (2^64) x
def dL(x:aK [.list TyE,.list TyE]):oK [.bool]:=match x with
 | (v0,v1,()) =>
  bif !(eqI (v0.length:Int) (v1.length:Int)) then
   some (false,())
  else aB (mL (v0,v1,(v0.length:Int),0,())) λz1 =>
  l9 z1 (λa2=>some (a2.1,())) λb3 =>
  some (true,())
abbrev GX:Ent:=⟨62,_,_,dL⟩
theorem uH:Ent.OK tP GX:=oU (aQ oW) func62 4 (lp:=mL) rfl Y (by rintro⟨v0,v1,v12,v13,⟨⟩⟩; kernel_rfl) (by rintro⟨v0,v1,⟨⟩⟩; kernel_rfl)
def aD9(x:aK [.list TyE,.list TyE]):oK [.bool]:=match x with
 | (v0,v1,()) =>
  aB (dL (v0,v1,())) λy1 =>
  some (y1.1,())
abbrev aYQ:Ent:=⟨132,_,_,aD9⟩
theorem aN4:Ent.OK tP aYQ:=oI (aQ (oV uH oW)) func132 Y (by rintro⟨v0,v1,⟨⟩⟩; kernel_rfl)
abbrev dO:List (Nat×Kd):=[(1,.list TyD),(2,.fn 132),(15,.list TyD),(16,.int .i64),(17,.int .i64)]
abbrev iJ:List (Ex×List (Nat×Kd)):=[(.ret,[(6,.bool)]),(.exit 0,[])]
def aW(x:Shape.den dO):oS dO iJ:=match x with
 | (v1,v2,v15,v16,v17,()) =>
  bif ltI v17 v16 then
   bif aF v17 v15.length then bif aF v17 v1.length then aB (aD9 ((v15.getD v17.toNat []),(v1.getD v17.toNat []),())) λy2 =>
   bif y2.1 then
    some (.inl (v1,(),v15,v16,(aC .i64 (v17+1)),()))
   else some (.inr (.inl (false,()))) else none else none
  else some (.inr (.inr ((()))))
def cG(x:Shape.den dO):oX iJ:=bH aW (2^64) x
def bE(x:aK [.list TyD,.list TyD,.fn 132]):oK [.bool]:=match x with
 | (v0,v1,v2,()) =>
  bif !(eqI (v0.length:Int) (v1.length:Int)) then
   some (false,())
  else aB (cG (v1,(),v0,(v0.length:Int),0,())) λz3 =>
  l9 z3 (λa4=>some (a4.1,())) λb5 =>
  some (true,())
abbrev tC:Ent:=⟨131,_,_,bE⟩
theorem rW:Ent.OK tP tC:=oU (aQ (oV aN4 oW)) func131 4 (lp:=cG) rfl Y (by rintro⟨v1,v2,v15,v16,v17,⟨⟩⟩; kernel_rfl) (by rintro⟨v0,v1,v2,⟨⟩⟩; kernel_rfl)
def FB(x:aK [.agg TyH,.agg TyH]):oK [.bool]:=match x with
 | (v0,v1,()) =>
  bif eqI v0.1 v1.1 then
   aB (bE (v0.2,v1.2,(),())) λy1 =>
   some (y1.1,())
  else some (false,())
abbrev aNN:Ent:=⟨75,_,_,FB⟩
theorem aGT:Ent.OK tP aNN:=oI (aQ (oV rW oW)) func75 Y (by rintro⟨v0,v1,⟨⟩⟩; kernel_rfl)
def NI(x:aK [.agg TyH,.list TyE]):oK [.bool]:=match x with
 | (v0,v1,()) =>
  aB (BE (v0,v1,())) λy1 =>
  aB (B5 (y1.1,())) λy2 =>
  some (ltI y2.1 0,())
abbrev aBG:Ent:=⟨143,_,_,NI⟩
theorem V0:Ent.OK tP aBG:=oI (aQ (oV RD (oV LG oW))) func143 Y (by rintro⟨v0,v1,⟨⟩⟩; kernel_rfl)
abbrev DB:List (Nat×Kd):=[(2,.ptr TyH),(3,.ptr TyH),(10,.list TyH),(11,.int .i64),(12,.int .i64)]
abbrev LB:List (Ex×List (Nat×Kd)):=[(.ret,[(4,.int .i64)]),(.exit 0,[(2,.ptr TyH),(3,.ptr TyH)])]
def pW(x:Shape.den DB):oS DB LB:=match x with
 | (v2,v3,v10,v11,v12,()) =>
  bif ltI v12 v11 then
   bif aF v12 v10.length then aB (nV (((v10.getD v12.toNat (0,[])).1,(v10.getD v12.toNat (0,[])).2),())) λy2 =>
   bif !(eqI y2.1 0) then
    some (.inr (.inl (y2.1,())))
   else some (.inl (v2,v3,v10,v11,(aC .i64 (v12+1)),())) else none
  else some (.inr (.inr ((v2,v3,()))))
def AP(x:Shape.den DB):oX LB:=bH pW (2^64) x
def sG(x:aK [.agg TyH,.agg TyH]):oK [.int .i64]:=match x with
 | (v0,v1,()) =>
  aB (AP (v0,v1,[v0,v1],([v0,v1].length:Int),0,())) λz3 =>
  l9 z3 (λa4=>some (a4.1,())) λb5 =>
  bif !(eqI b5.1.1 b5.2.1.1) then
   some (5,())
  else some (0,())
abbrev IN:Ent:=⟨117,_,_,sG⟩
theorem DG:Ent.OK tP IN:=oU (aQ (oV EE oW)) func117 2 (lp:=AP) rfl Y (by rintro⟨v2,v3,v10,v11,v12,⟨⟩⟩; kernel_rfl) (by rintro⟨v0,v1,⟨⟩⟩; kernel_rfl)
def RN(x:aK [.list TyE,.ptr TyH]):oK [.bool]:=match x with
 | (v0,v1,()) =>
  aB (NI (v1,v0,())) λy1 =>
  bif y1.1 then
   some (false,())
  else some (true,())
abbrev aDU:Ent:=⟨171,_,_,RN⟩
theorem ZZ:Ent.OK tP aDU:=oI (aQ (oV V0 oW)) func171 Y (by rintro⟨v0,v1,⟨⟩⟩; kernel_rfl)
abbrev kU:List (Nat×Kd):=[(0,.list TyD),(1,.clo 171 [TyH]),(7,.int .i64),(8,.int .i64)]
abbrev sA:List (Ex×List (Nat×Kd)):=[(.ret,[(4,.int .i64)]),(.exit 0,[])]
def B7(x:Shape.den kU):oS kU sA:=match x with
 | (v0,v1,v7,v8,()) =>
  bif ltI v8 v7 then
   bif aF v8 v0.length then aB (RN ((v0.getD v8.toNat []),v1.1,())) λy2 =>
   bif y2.1 then
    some (.inr (.inl (v8,())))
   else some (.inl (v0,(v1.1,()),v7,(aC .i64 (v8+1)),())) else none
  else some (.inr (.inr ((()))))
def qY(x:Shape.den kU):oX sA:=bH B7 (2^64) x
def tS(x:aK [.list TyD,.clo 171 [TyH]]):oK [.int .i64]:=match x with
 | (v0,v1,()) =>
  aB (qY (v0,(v1.1,()),(v0.length:Int),0,())) λz3 =>
  l9 z3 (λa4=>some (a4.1,())) λb5 =>
  some ((-1),())
abbrev GG:Ent:=⟨100,_,_,tS⟩
theorem DL:Ent.OK tP GG:=oU (aQ (oV ZZ oW)) func100 2 (lp:=qY) rfl Y (by rintro⟨v0,v1,v7,v8,⟨⟩⟩; kernel_rfl) (by rintro⟨v0,v1,⟨⟩⟩; kernel_rfl)
def r9(x:aK [.list TyD,.clo 171 [TyH]]):oK [.bool]:=match x with
 | (v0,v1,()) =>
  aB (tS (v0,(v1.1,()),())) λy1 =>
  some (!(ltI y1.1 0),())
abbrev DP:Ent:=⟨43,_,_,r9⟩
theorem BM:Ent.OK tP DP:=oI (aQ (oV DL oW)) func43 Y (by rintro⟨v0,v1,⟨⟩⟩; kernel_rfl)
def Y4(x:aK [.agg TyH,.agg TyH]):oK [.bool,.int .i64]:=match x with
 | (v0,v1,()) =>
  aB (sG (v0,v1,())) λy1 =>
  bif !(eqI y1.1 0) then
   some (false,y1.1,())
  else aB (r9 (v0.2,(v1,()),())) λy2 =>
  bif y2.1 then
   some (false,0,())
  else some (true,0,())
abbrev aJ6:Ent:=⟨124,_,_,Y4⟩
theorem aEE:Ent.OK tP aJ6:=oI (aQ (oV DG (oV BM oW))) func124 Y (by rintro⟨v0,v1,⟨⟩⟩; kernel_rfl)
end Go.PM
namespace Go.PM
open Go Go.RowKit Go.Proofs Tryz
set_option maxHeartbeats 4000000
def Y2(x:aK [.agg TyH,.agg TyH]):oK [.agg TyH,.int .i64]:=match x with
 | (v0,v1,()) =>
  aB (sG (v0,v1,())) λy1 =>
  bif !(eqI y1.1 0) then
   some ((0,[]),y1.1,())
  else aB (dV () (v0.2,()) []) λy2 =>
  aB (dV () (v1.2,()) y2.2) λy3 =>
  bif Nat.ble y3.1.length 1048576 then bif Nat.ble y2.1.length 1048576 then aB (cI (y2.1++y3.1) (v0.1,()) y3.2) λy4 =>
  aB (cW y4.1 (v0.1,()) y4.2) λy5 =>
  some (y5.1.1,y5.1.2.1,()) else none else none
def XI:Code:=eB f116
abbrev aFA:Env:=OB [IN] [uV,lR,lO]
theorem aJT:iK tP aFA:=o9 ⟨DG,trivial⟩ ⟨vP,mH,mB,trivial⟩
def aC5(id:Nat):Option eF:=none
theorem aHU:bV XI=[]:=Y
theorem aKA:∀ x,aFL tP aFA f116 (aS f116) aC5 XI 110 .str _ _ x=Y2 x:=by
 rintro⟨v0,v1,⟨⟩⟩
 kernel_rfl
abbrev aR7:Ent:=⟨116,_,_,Y2⟩
theorem aKE:Ent.OK tP aR7:=aJL bT aJT func116 (c:=XI) Y (cD:=aS f116) (lt:=aC5) (aT aHU trivial) aKA
end Go.PM
