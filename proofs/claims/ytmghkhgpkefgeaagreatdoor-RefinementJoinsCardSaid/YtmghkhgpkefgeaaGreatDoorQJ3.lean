/- Texts of one proof, joined (3). -/
import Derived.Scope
import Derived.Test.YtmghkhgpkefgeaaGreatDoorQJ2
set_option linter.unusedSimpArgs false
set_option linter.unusedVariables false
noncomputable section
namespace Go.PM
open Go Go.RowKit
structure a41 where
 slots:List Nat
 own:List (Nat×TypeId×Option Ty)
 base:Nat
def below(m:Nat):PV->Bool
 | .hptr r _=>Nat.blt r m
 | .hs r _ _ _ _=>Nat.blt r m
 | .own r _=>Nat.blt r m
 | .op r _ _ _=>Nat.blt r m
 | .win r _ _ _=>Nat.blt r m
 | .agg cs|.tuple cs=>belows m cs
 | .clo _ f c=>belows m f&&belows m c
 | _=>true
where belows (m:Nat):List PV->Bool
 | []=>true
 | p::ps=>below m p&&belows m ps
def aPB(s n:Nat):PV->PV
 | .win r lo m sz=>bif Nat.beq r s then .win n lo m sz else .win r lo m sz
 | p=>p
def aRF(s n:Nat):Frm->Frm
 | []=>[]
 | (t,p)::r=>(t,aPB s n p)::aRF s n r
def aQG(t:Nat) (e:TypeId) (ty:Ty) (F:Frm) (H:Heap) (k:Frm->Heap->Option (Frm×Heap)):Option (Frm×Heap):=match cV F t with
 | .lit (.slice none m c)=>bif Nat.beq m 0&&Nat.beq c 0 then k ((t,.own H.length ty.size)::F) (H++[some ⟨aG ty [],e,true,false,some ⟨ty,[]⟩⟩]) else none
 | .tl _ [] (some 0) _=>k ((t,.own H.length ty.size)::F) (H++[some ⟨aG ty [],e,true,false,some ⟨ty,[]⟩⟩])
 | .own s sz=>match jS H s with
  | some kb=>match kb.tag with
   | some g=>match HG g.t ty g.l with
    | some l=>bif Nat.beq sz ty.size&&!kb.frozen&&Nat.beq kb.ty e&&kb.grown then k ((t,.own H.length sz)::aRF s H.length F) (H.set s none++[some ⟨aG ty l,e,true,false,some ⟨ty,l⟩⟩]) else none
    | none=>none
   | none=>none
  | none=>none
 | _=>none
def CQ:List (Nat×TypeId×Option Ty)->Frm->Heap->Option (Frm×Heap)
 | [],F,H=>some (F,H)
 | (t,e,none)::r,F,H=>match cV F t with
  | .hptr s off=>match jS H s with
   | some k=>bif Nat.beq k.ty e&&!k.tag.isSome then CQ r ((t,.hptr H.length off)::F) (H.set s none++[some k]) else none
   | none=>none
  | _=>none
 | (_,e,some (.rows _))::r,F,H=>match aAA 0 H with
  | some (s,k)=>match k.tag with
   | some ⟨.rows _,_⟩=>bif Nat.beq k.ty e&&!k.frozen then CQ r F (H.set s none++[some k]) else none
   | _=>none
  | none=>none
 | (t,e,some ty)::r,F,H=>aQG t e ty F H (CQ r)
def aKE(m d:Nat):PV->Option PV
 | .own r sz=>bif Nat.blt r m then some (.own r sz) else bif Nat.ble (m+d) r then some (.own (r-d) sz) else none
 | .hptr r off=>bif Nat.blt r m then some (.hptr r off) else bif Nat.ble (m+d) r then some (.hptr (r-d) off) else none
 | .win r lo n sz=>bif Nat.blt r m then some (.win r lo n sz) else bif Nat.ble (m+d) r then some (.win (r-d) lo n sz) else none
 | p=>bif below m p then some p else none
def aJI(m d:Nat)(F:Frm):List Nat->Option Frm
 | []=>some []
 | t::r=>match aKE m d (cV F t),aJI m d F r with
  | some p,some F'=>some ((t,p)::F')
  | _,_=>none
def RY(m:Nat):List (Option Blk)->Bool
 | []=>true
 | none::r=>RY m r
 | some k::r=>(k.tag.isSome||below.belows m k.cells)&&RY m r
def WG:List (Option Blk)->Bool
 | []=>true
 | none::r=>WG r
 | some k::r=>(k.tag.isSome||eB.noRefs k.cells)&&WG r
def tidy(pl:a41)(F:Frm)(H:Heap):Option (Frm×Heap) :=
 bif Nat.ble pl.base H.length then match CQ pl.own F H with
  | some (F1,H1)=>bif RY pl.base (H1.take pl.base)&&WG (H1.drop (pl.base+(H.length-pl.base))) then match aJI pl.base (H.length-pl.base) F1 pl.slots with
   | some F2=>some (F2,H1.take pl.base++H1.drop (pl.base+(H.length-pl.base)))
   | none=>none
   else none
  | none=>none
 else none
section
variable {P:Program} {n0:Nat->Prop} {w wi:World} {G Gi:Gd} {μ μi μ':Mp} {H:Heap} {F:Frm} {a:Act} {nt:Nat}
mutual
theorem Y7 {m:Nat} (h:∀ r,r<m->μ'.loc r=μ.loc r/\μ'.len r=μ.len r):∀ (p:PV) (v:Value),below m p=true->VR w G μ p v->VR w G μ' p v
 | .lit u,v,_,hv=>by rw[VR]at hv ⊢; exact hv
 | .vals ..,v,_,hv=>by rw[VR]at hv ⊢; exact hv
 | .iptr _,v,_,hv=>by rw[VR]at hv ⊢; exact hv
 | .tl ..,v,_,hv=>by rw[VR]at hv ⊢; exact hv
 | .tp ..,v,_,hv=>by rw[VR]at hv ⊢; exact hv
 | .row ..,v,_,hv=>by rw[VR]at hv ⊢; exact hv
 | .rp ..,v,_,hv=>by rw[VR]at hv ⊢; exact hv
 | .mp _,v,_,hv=>by rw[VR]at hv ⊢; exact hv
 | .junk,v,_,hv=>by rw[VR]; trivial
 | .hptr r off,v,hb,hv=>by
  have:=h r (fB (by simpa only[below]using hb));rw[VR]at hv ⊢; rw[this.1]; exact hv
 | .hs r off l c s,v,hb,hv=>by
  have:=h r (fB (by simpa only[below]using hb));rw[VR]at hv ⊢; rw[this.1]; exact hv
 | .own r s,v,hb,hv=>by
  have:=h r (fB (by simpa only[below]using hb));rw[VR]at hv ⊢; rw[this.1,this.2]; exact hv
 | .op r i off s,v,hb,hv=>by
  have:=h r (fB (by simpa only[below]using hb));rw[VR]at hv ⊢; rw[this.1]; exact hv
 | .win r lo n s,v,hb,hv=>by
  have:=h r (fB (by simpa only[below]using hb));rw[VR]at hv ⊢; rw[this.1,this.2]; exact hv
 | .agg cs,v,hb,hv=>by
  rw[VR]at hv ⊢;obtain⟨vs,h1,h2⟩:=hv;exact⟨vs,h1,ON h cs _ (by simpa only[below]using hb) h2⟩
 | .tuple cs,v,hb,hv=>by
  rw[VR]at hv ⊢;obtain⟨vs,h1,h2⟩:=hv;exact⟨vs,h1,ON h cs _ (by simpa only[below]using hb) h2⟩
 | .clo fn f c,v,hb,hv=>by
  rw[VR]at hv ⊢;simp only[below,oA]at hb;obtain⟨fs,cs,h1,h2,h3⟩:=hv;exact⟨fs,cs,h1,ON h f _ hb.1 h2,ON h c _ hb.2 h3⟩
theorem ON {m:Nat} (h:∀ r,r<m->μ'.loc r=μ.loc r/\μ'.len r=μ.len r):∀ (ps:List PV) (vs:List Value),below.belows m ps=true->VRs w G μ ps vs->VRs w G μ' ps vs
 | [],vs,_,hv=>by rw[VRs]at hv ⊢; exact hv
 | p::ps,vs,hb,hv=>by
  rw[VRs]at hv ⊢;simp only[below.belows,oA]at hb;obtain⟨x,xs,h1,h2,h3⟩:=hv;exact⟨x,xs,h1,Y7 h p x hb.1 h2,ON h ps xs hb.2 h3⟩
end
theorem rM {b off:Nat}{ps:List PV}(hn:eB.noRefs ps=true)(h:aL w G μ b off ps):aL w G μ' b off ps:=by
 obtain⟨vs,h1,h2⟩:=h.values;exact aL.nJ (VRs.aY (dB ps vs hn h1)) h2
theorem aN6 {m:Nat}(hm:∀ r,r<m->μ'.loc r=μ.loc r/\μ'.len r=μ.len r){b off:Nat}{ps:List PV}(hn:below.belows m ps=true)(h:aL w G μ b off ps):aL w G μ' b off ps:=by
 obtain⟨vs,h1,h2⟩:=h.values;exact aL.nJ (ON hm ps vs hn h1) h2
theorem ZW {t:Ty}{e:PV}{v:Value}(h:VR w G μ (.tl t [] (some 0) e) v):∃ ao,v=.slice ao 0 0:=by
 rw[VR]at h;obtain⟨h1,rfl⟩:=h;rw[VR]at h1;obtain⟨ao,c,rfl,_,h2,_⟩:=h1;have:=h2 0 rfl;subst this;exact⟨ao,rfl⟩
theorem fQ.named (h:fQ w G μ nt F a){t:Nat}{p:PV}(hv:VR w G μ p (a.tmps.getD t undef)):fQ w G μ nt ((t,p)::F) a :=
 ⟨h.size,λs=>by
  rw[dJ]
  by_cases hs:s=t
  ·subst hs; rw[if_pos rfl]; exact hv
  ·rw[if_neg hs]; exact h.slot s,h.defers⟩
theorem aFG(s n t:Nat):∀ F:Frm,cV (aRF s n F) t=aPB s n (cV F t)
 | []=>rfl
 | (u,p)::r=>by
  simp only[aRF];rw[dJ,dJ]
  by_cases h:t=u
  ·rw[if_pos h,if_pos h]
  ·rw[if_neg h,if_neg h]; exact aFG s n t r
theorem aXQ {s n:Nat}(e:Mono w G μ w G μ')(hl:μ'.loc n=μ.loc s)(hn:μ'.len n=μ.len s){p:PV}{v:Value}(h:VR w G μ p v):VR w G μ' (aPB s n p) v:=by
 cases p with
 | win r lo m sz =>
  simp only[aPB];cases hb:Nat.beq r s with
  | true =>
   have hb:=oE hb;subst hb;simp only[oC];rw[VR]at h; rw[VR];obtain⟨b,c,m',h1,h2,h3,h4,h5,h6⟩:=h;exact⟨b,c,m',by rw[hl]; exact h1,h2,h3,h4,by rw[hn]; exact h5,h6⟩
  | false=>exact VR.mono e _ _ h
 | _=>exact VR.mono e _ _ h
theorem fQ.aRF (h:fQ w G μ nt F a){s n:Nat}(e:Mono w G μ w G μ')(hl:μ'.loc n=μ.loc s)(hn:μ'.len n=μ.len s):fQ w G μ' nt (PM.aRF s n F) a :=
 ⟨h.size,λt=>by rw[aFG]; exact aXQ e hl hn (h.slot t),h.defers⟩
theorem G7 {t:Nat} {e:TypeId} {ty:Ty} {F:Frm} {H:Heap} {F':Frm} {H':Heap} {kk:Frm->Heap->Option (Frm×Heap)}
  (rec_:∀ (F:Frm) (H:Heap) (F':Frm) (H':Heap),kk F H=some (F',H')->I n0 wi Gi μi nt F H a w->I n0 wi Gi μi nt F' H' a w/\H.length<=H'.length/\∀ t,cV F t=.junk->cV F' t=.junk)
  (h:aQG t e ty F H kk=some (F',H')) (hI:I n0 wi Gi μi nt F H a w):I n0 wi Gi μi nt F' H' a w/\H.length<=H'.length/\∀ t,cV F t=.junk->cV F' t=.junk:=by
 unfold aQG at h;obtain⟨G,μ,e0,hW,hF⟩:=hI;have hs:=hF.slot t;split at h
 ·rename_i m c ht;obtain⟨hb,h⟩:=aH h;simp only[oA]at hb;have h1:=oE hb.1;have h2:=oE hb.2;subst h1; subst h2;rw[ht,VR]at hs;obtain⟨e1,w1⟩:=pZ hW ⟨aG ty [],e,true,false,some ⟨ty,[]⟩⟩ (on:=some 0) (λg hg=>by cases hg; exact⟨rfl,rfl⟩);have f1:fQ w G (upd μ H.length none (some 0)) nt ((t,.own H.length ty.size)::F) a:=by
   refine fQ.named (hF.mono e1.toMono) ?_;rw[VR];exact⟨0,qC ..,.inl ⟨rfl,none,hs⟩⟩
  obtain⟨g1,g2,g3⟩:=rec_ _ _ F' H' h ⟨G,_,e0.trans e1,w1,f1⟩;refine⟨g1,by simp only[oH]at g2; omega,λs hx=>g3 s ?_⟩;rw[dJ,if_neg,hx];rintro rfl;rw[ht]at hx; cases hx
 ·rename_i t' e' ht;rw[ht]at hs;obtain⟨ao,hs⟩:=ZW hs;obtain⟨e1,w1⟩:=pZ hW ⟨aG ty [],e,true,false,some ⟨ty,[]⟩⟩ (on:=some 0) (λg hg=>by cases hg; exact⟨rfl,rfl⟩);have f1:fQ w G (upd μ H.length none (some 0)) nt ((t,.own H.length ty.size)::F) a:=by
   refine fQ.named (hF.mono e1.toMono) ?_;rw[VR];exact⟨0,qC ..,.inl ⟨rfl,ao,hs⟩⟩
  obtain⟨g1,g2,g3⟩:=rec_ _ _ F' H' h ⟨G,_,e0.trans e1,w1,f1⟩;refine⟨g1,by simp only[oH]at g2; omega,λs hx=>g3 s ?_⟩;rw[dJ,if_neg,hx];rintro rfl;rw[ht]at hx; cases hx
 ·rename_i s sz ht;split at h
  ·rename_i k hk;split at h
   ·rename_i g hg;split at h
    ·rename_i l' hc;obtain⟨hb,h⟩:=aH h;simp only[oA,Bool.not_eq_true']at hb;obtain⟨⟨⟨hb1,hb2⟩,hb3⟩,hb4⟩:=hb;have hb1:=oE hb1;have hb3:=oE hb3;obtain⟨ht1,ht2⟩:=hW.tags s k g (aJ hk) hg;obtain⟨gt,gl⟩:=g;obtain⟨rfl,rfl⟩:=qV hc;dsimp only at hc ht1 ht2 h hb1;rw[ht,VR]at hs;obtain⟨n,h1,h2⟩:=hs;rw[ht2]at h1;cases h1;have hkk:k=⟨aG gt gl,e,true,false,some ⟨gt,gl⟩⟩:=by
      obtain⟨k1,k2,k3,k4,k5⟩:=k;simp only at ht1 hb2 hb3 hb4 hg;rw[ht1,hb2,hb3,hb4,hg]
     have junk:∀ x,cV F x=.junk->cV ((t,.own H.length sz)::aRF s H.length F) x=.junk:=λx hx=>by
      rw[dJ,if_neg,aFG,hx]; rfl;rintro rfl;rw[ht]at hx; cases hx
     have fin:∀ (ob:Option Nat),μ.loc s=ob->Ext n0 w G μ w G (upd μ H.length ob (some gl.length))->aN n0 G (upd μ H.length ob (some gl.length)) (H.set s none++[some ⟨aG gt gl,e,true,false,some ⟨gt,gl⟩⟩]) w ->
       VR w G (upd μ H.length ob (some gl.length)) (.own H.length sz) (a.tmps.getD t undef)->I n0 wi Gi μi nt F' H' a w/\H.length<=H'.length/\∀ t,cV F t=.junk->cV F' t=.junk:=λob hob e1 w1 v1=>by
      obtain⟨g1,g2,g3⟩:=rec_ _ _ F' H' h ⟨G,_,e0.trans e1,w1,fQ.named (hF.aRF e1.toMono (by rw[gK,hob]) (by rw[qC,ht2])) v1⟩;exact⟨g1,by simp only[oH,List.length_set]at g2; omega,λx hx=>g3 x (junk x hx)⟩
     cases hls:μ.loc s with
     | none =>
      rcases h2 with ⟨h2,ao,h3⟩|⟨b,c,h3,h4,h5,h6⟩
      ·have hk0:=vV hW s;obtain⟨e1,w1⟩:=pZ hk0 ⟨aG gt gl,e,true,false,some ⟨gt,gl⟩⟩ (on:=some gl.length) (λg hg=>by cases hg; exact⟨rfl,rfl⟩);rw[List.length_set]at e1 w1;refine fin none hls e1 w1 ?_;rw[VR];exact⟨_,qC ..,.inl ⟨h2,ao,h3⟩⟩
      ·rw[hls]at h3; cases h3
     | some b =>
      rw[hkk]at hk;obtain⟨e1,w1⟩:=KN hW (aJ hk) hls (on:=some gl.length) (λg hg=>by cases hg; exact⟨rfl,rfl⟩);refine fin (some b) hls e1 w1 ?_;rw[VR];refine⟨_,qC ..,?_⟩;rcases h2 with ⟨h2,ao,h3⟩|⟨b',c,h3,h4,h5,h6⟩
      ·exact .inl ⟨h2,ao,h3⟩
      ·rw[hls]at h3; cases h3;exact .inr ⟨b,c,gK ..,h4,h5,h6⟩
    ·cases h
   ·cases h
  ·cases h
 ·cases h
theorem rJ:∀ (l:List (Nat×TypeId×Option Ty)) (F:Frm) (H:Heap) (F':Frm) (H':Heap),CQ l F H=some (F',H')->I n0 wi Gi μi nt F H a w->I n0 wi Gi μi nt F' H' a w/\H.length<=H'.length/\∀ t,cV F t=.junk->cV F' t=.junk
 | [],F,H,F',H',h,hI=>by
  simp only[CQ,oJ,oP]at h;obtain⟨rfl,rfl⟩:=h;exact⟨hI,oM _,λ_ h=>h⟩
 | (t,e,none)::l,F,H,F',H',h,hI=>by
  simp only[CQ]at h;obtain⟨G,μ,e0,hW,hF⟩:=hI;have hs:=hF.slot t;split at h
  ·rename_i s off ht;split at h
   ·rename_i k hk;obtain⟨hb,h⟩:=aH h;simp only[oA,Bool.not_eq_true']at hb;rw[ht,VR]at hs;obtain⟨b,h1,h2⟩:=hs;obtain⟨e1,w1⟩:=KN hW (aJ hk) h1 (on:=none) (λg hg=>by rw[hg]at hb; simp at hb);have f1:fQ w G (upd μ H.length (some b) none) nt ((t,.hptr H.length off)::F) a:=by
     refine fQ.named (hF.mono e1.toMono) ?_;rw[VR];exact⟨b,gK ..,h2⟩
    obtain⟨g1,g2,g3⟩:=rJ l _ _ F' H' h ⟨G,_,e0.trans e1,w1,f1⟩;refine⟨g1,by simp only[oH,List.length_set]at g2; omega,λx hx=>g3 x ?_⟩;rw[dJ,if_neg,hx];rintro rfl;rw[ht]at hx; cases hx
   ·cases h
  ·cases h
 | (t,e,some (.rows ty))::l,F,H,F',H',h,hI=>by
  simp only[CQ]at h;obtain⟨G,μ,e0,hW,hF⟩:=hI;split at h
  ·rename_i s k har;split at h
   ·rename_i t' l' ht;obtain⟨hb,h⟩:=aH h;obtain⟨hs,hg⟩:=UC har;obtain⟨e1,w1⟩:=aU5 hW hs hg ht;obtain⟨g1,g2,g3⟩:=rJ l _ _ F' H' h ⟨G,_,e0.trans e1,w1,hF.mono e1.toMono⟩;exact⟨g1,by simp only[oH,List.length_set]at g2; omega,g3⟩
   ·cases h
  ·cases h
 | (t,e,some (.int ik))::l,F,H,F',H',h,hI=>G7 (ty:=.int ik) (λF H F' H'=>rJ l F H F' H') (by simpa only[CQ]using h) hI
 | (t,e,some .bool)::l,F,H,F',H',h,hI=>G7 (ty:=.bool) (λF H F' H'=>rJ l F H F' H') (by simpa only[CQ]using h) hI
 | (t,e,some .str)::l,F,H,F',H',h,hI=>G7 (ty:=.str) (λF H F' H'=>rJ l F H F' H') (by simpa only[CQ]using h) hI
 | (t,e,some (.list lt))::l,F,H,F',H',h,hI=>G7 (ty:=.list lt) (λF H F' H'=>rJ l F H F' H') (by simpa only[CQ]using h) hI
 | (t,e,some (.prod pa pb))::l,F,H,F',H',h,hI=>G7 (ty:=.prod pa pb) (λF H F' H'=>rJ l F H F' H') (by simpa only[CQ]using h) hI
 | (t,e,some (.hnd hs))::l,F,H,F',H',h,hI=>G7 (ty:=.hnd hs) (λF H F' H'=>rJ l F H F' H') (by simpa only[CQ]using h) hI
theorem ZT {m:Nat}:∀ {l:List (Option Blk)} {r:Nat} {k:Blk},RY m l=true->l[r]?=some (some k)->k.tag.isSome=true\/below.belows m k.cells=true
 | [],r,k,_,h=>by simp at h
 | none::l,0,k,_,h=>by simp at h
 | some k'::l,0,k,hp,h=>by
  simp only[List.getElem?_cons_zero,oJ]at h;subst h;simp only[RY,oA,Bool.or_eq_true]at hp;exact hp.1
 | none::l,r+1,k,hp,h=>ZT (l:=l) (r:=r) (by simpa only[RY]using hp) (by simpa using h)
 | some k'::l,r+1,k,hp,h=>by
  simp only[RY,oA]at hp;exact ZT (l:=l) (r:=r) hp.2 (by simpa using h)
theorem UO:∀ {l:List (Option Blk)} {r:Nat} {k:Blk},WG l=true->l[r]?=some (some k)->k.tag.isSome=true\/eB.noRefs k.cells=true
 | [],r,k,_,h=>by simp at h
 | none::l,0,k,_,h=>by simp at h
 | some k'::l,0,k,hp,h=>by
  simp only[List.getElem?_cons_zero,oJ]at h;subst h;simp only[WG,oA,Bool.or_eq_true]at hp;exact hp.1
 | none::l,r+1,k,hp,h=>UO (l:=l) (r:=r) (by simpa only[WG]using hp) (by simpa using h)
 | some k'::l,r+1,k,hp,h=>by
  simp only[WG,oA]at hp;exact UO (l:=l) (r:=r) hp.2 (by simpa using h)
def RW(μ:Mp) (m d:Nat):Mp:=⟨λr=>if r<m then μ.loc r else μ.loc (r+d),λr=>if r<m then μ.len r else μ.len (r+d)⟩
theorem IL {m d r:Nat}(h:r<m):(RW μ m d).loc r=μ.loc r/\(RW μ m d).len r=μ.len r:=by simp[RW,h]
theorem aKM {m d r:Nat}(h:m+d<=r):(RW μ m d).loc (r-d)=μ.loc r/\(RW μ m d).len (r-d)=μ.len r:=by
 have h1:¬ r-d<m:=by omega
 have h2:r-d+d=r:=by omega
 simp[RW,h1,h2]
theorem a1L(hW:aN n0 G μ H w){m d:Nat}(hm:m+d<=H.length)(h1:RY m (H.take m)=true)(h2:WG (H.drop (m+d))=true):aN n0 G (RW μ m d) (H.take m++H.drop (m+d)) w:=by
 have key:∀ (r:Nat) (k:Blk),(H.take m++H.drop (m+d))[r]?=some (some k)->∃ s,H[s]?=some (some k)/\(RW μ m d).loc r=μ.loc s/\(RW μ m d).len r=μ.len s/\(k.tag.isSome=true\/below.belows m k.cells=true\/eB.noRefs k.cells=true)/\((r<m/\s=r)\/(m<=r/\s=r+d)):=by
  intro r k hr;rcases oG r m with hl|hl
  ·rw[List.getElem?_append_left (by simp; omega)]at hr;have hp:=ZT h1 hr;rw[List.getElem?_take,if_pos hl]at hr;exact⟨r,hr,(IL hl).1,(IL hl).2,hp.elim .inl λh=>.inr (.inl h),.inl ⟨hl,rfl⟩⟩
  ·rw[List.getElem?_append_right (by simp; omega)]at hr;have hp:=UO h2 hr;rw[List.getElem?_drop]at hr;have e:m+d+(r-(H.take m).length)=r+d:=by simp only[List.length_take]; omega
   rw[e]at hr;have hn:¬ r<m:=by omega
   exact⟨r+d,hr,by simp[RW,hn],by simp[RW,hn],hp.elim .inl λh=>.inr (.inr h),.inr ⟨hl,rfl⟩⟩
 refine⟨?_,?_,?_,hW.lt,?_,hW.base,hW.rows.a4P (λr=>if r<m then r else r+d) (λr s h=>by
  by_cases h1:r<m <;> by_cases h2:s<m <;> simp only[h1,h2,if_true,if_false]at h <;> omega) (λr k hr=>by
  obtain⟨s,g1,g2,_,_,g5⟩:=key r k hr;rcases g5 with ⟨g5,g6⟩|⟨g5,g6⟩
  ·subst g6;simp only[if_pos g5];exact⟨g1,g2⟩
  ·subst g6;simp only[if_neg (Nat.not_lt.2 g5)];exact⟨g1,g2⟩)⟩
 ·intro r k b hr hb;obtain⟨s,g1,g2,g3,g4,_⟩:=key r k hr;rw[g2]at hb;obtain⟨c,a1,a2,a3⟩:=hW.blk s k b g1 hb;refine⟨c,a1,?_,a3⟩;rcases g4 with g4|g4|g4
  ·obtain⟨g,hg⟩:=Option.isSome_iff_exists.1 g4;have:=(hW.tags s k g g1 hg).1;rw[this]at a2 ⊢;exact rM (jL _ _) a2
  ·exact aN6 (λr hr=>IL hr) g4 a2
  ·exact rM g4 a2
 ·intro r k g hr hg;obtain⟨s,g1,g2,g3,_⟩:=key r k hr;rw[g3];exact hW.tags s k g g1 hg
 ·intro r1 r2 k1 k2 b e1 e2 f1 f2 m1 m2;obtain⟨s1,a1,a2,_,_,a5⟩:=key r1 k1 e1;obtain⟨s2,b1,b2,_,_,b5⟩:=key r2 k2 e2;rw[a2]at m1;rw[b2]at m2;have:=hW.inj s1 s2 k1 k2 b a1 b1 f1 f2 m1 m2;omega
 ·intro r hr;simp only[oH,List.length_take,List.length_drop]at hr;have hn:¬ r<m:=by omega
  have:=hW.top (r+d) (by omega);simpa[RW,hn]using this
theorem aX4 {m d:Nat}{p q:PV}{v:Value}(h:aKE m d p=some q)(hv:VR w G μ p v):VR w G (RW μ m d) q v:=by
 unfold aKE at h;split at h
 ·rename_i r sz;cases hb:Nat.blt r m with
  | true =>
   rw[hb]at h;simp only[oC,oJ]at h;subst h;exact Y7 (λr hr=>IL hr) _ v (by simpa only[below]using hb) hv
  | false =>
   rw[hb]at h;simp only[oD]at h;obtain⟨hc,h⟩:=aH h;simp only[oJ]at h;subst h;have:=aKM (μ:=μ) (oL hc);rw[VR]at hv ⊢;rw[this.1,this.2];exact hv
 ·rename_i r off;cases hb:Nat.blt r m with
  | true =>
   rw[hb]at h;simp only[oC,oJ]at h;subst h;exact Y7 (λr hr=>IL hr) _ v (by simpa only[below]using hb) hv
  | false =>
   rw[hb]at h;simp only[oD]at h;obtain⟨hc,h⟩:=aH h;simp only[oJ]at h;subst h;have:=aKM (μ:=μ) (oL hc);rw[VR]at hv ⊢;rw[this.1];exact hv
 ·rename_i r lo n sz;cases hb:Nat.blt r m with
  | true =>
   rw[hb]at h;simp only[oC,oJ]at h;subst h;exact Y7 (λr hr=>IL hr) _ v (by simpa only[below]using hb) hv
  | false =>
   rw[hb]at h;simp only[oD]at h;obtain⟨hc,h⟩:=aH h;simp only[oJ]at h;subst h;have:=aKM (μ:=μ) (oL hc);rw[VR]at hv ⊢;rw[this.1,this.2];exact hv
 ·obtain⟨hb,h⟩:=aH h;simp only[oJ]at h;subst h;exact Y7 (λr hr=>IL hr) _ v hb hv
theorem aJM {m d:Nat}:∀ {l:List Nat} {F':Frm},aJI m d F l=some F'->∀ t,cV F' t=.junk\/aKE m d (cV F t)=some (cV F' t)
 | [],F',h,t=>by
  simp only[aJI,oJ]at h;subst h;exact .inl rfl
 | s::l,F',h,t=>by
  simp only[aJI]at h;split at h
  ·rename_i p F1 hp hl;simp only[oJ]at h;subst h;rw[dJ]
   by_cases hs:t=s
   ·subst hs; rw[if_pos rfl]; exact .inr hp
   ·rw[if_neg hs]; exact aJM hl t
  ·cases h
theorem aVD {pl:a41}{F':Frm}{H':Heap}(h:tidy pl F H=some (F',H'))(hfl:∀ r,pl.base<=r->μi.loc r=none/\μi.len r=none)(hI:I n0 wi Gi μi nt F H a w):I n0 wi Gi μi nt F' H' a w/\∀ t,cV F t=.junk->cV F' t=.junk:=by
 unfold tidy at h;obtain⟨hb,h⟩:=aH h;have hb:=oL hb;split at h
 ·rename_i F1 H1 h1;obtain⟨hc,h⟩:=aH h;simp only[oA]at hc;split at h
  ·rename_i F2 hF2;simp only[oJ,oP]at h;obtain⟨rfl,rfl⟩:=h;obtain⟨⟨G,μ,e,hW,hF⟩,hlen,hj⟩:=rJ pl.own F H F1 H1 h1 hI;have jS:=aJM hF2;refine⟨⟨G,RW μ pl.base (H.length-pl.base),?_,a1L hW (by omega) hc.1 hc.2,hF.size,λt=>?_,hF.defers⟩,λt ht=>?_⟩
   ·exact {
     good:=e.good
     map:=λr b hr=>by
      rcases oG r pl.base with hl|hl
      ·rw[(IL hl).1]; exact e.map r b hr
      ·rw[(hfl r hl).1]at hr; cases hr
     len:=λr b hr=>by
      rcases oG r pl.base with hl|hl
      ·rw[(IL hl).2]; exact e.len r b hr
      ·rw[(hfl r hl).2]at hr; cases hr
     room:=e.room
     row:=e.row
     os:=e.os
     tape:=e.tape
     output:=e.output
     size:=e.size
     old:=e.old
     new:=e.new }
   ·rcases jS t with h3|h3
    ·rw[h3,VR]; trivial
    ·exact aX4 h3 (hF.slot t)
   ·rcases jS t with h3|h3
    ·exact h3
    ·rw[hj t ht]at h3;have e3:aKE pl.base (H.length-pl.base) .junk=some .junk:=rfl;rw[e3]at h3;exact(oB h3).symm
  ·cases h
 ·cases h
end
def UA(m:List Nat) (es:List Edge):Nat:=es.foldl (λs e=>bif Region.binds .any e then s ||| (2^e.on ||| m.getD e.on 0) else s) 0
def P5(m:List Nat):Nat->List Oper->Bool
 | _,[]=>true
 | j,o::l=>Nat.beq (m.getD j 0) (UA m o.after.toList)&&o.after.toList.all (λe=>!Region.binds .any e||Nat.blt e.on j)&&P5 m (j+1) l
def aC7(ops:Array Oper)(m:List Nat)(j:Nat)(oj:Oper):Nat->List Oper->Bool
 | _,[]=>true
 | i,oi::l=>bif Nat.blt i j then ((m.getD j 0).testBit i||oi.apart ops oj)&&aC7 ops m j oj (i+1) l else true
def aD3(ops:Array Oper)(m:List Nat):Nat->List Oper->Bool
 | _,[]=>true
 | j,oj::l=>aC7 ops m j oj 0 ops.toList&&aD3 ops m (j+1) l
def dA(ops:Array Oper):List Nat:=(Region.before ops).toList
def uH(ops:Array Oper):Bool:=P5 (dA ops) 0 ops.toList&&aD3 ops (dA ops) 0 ops.toList
def aRS(F:Frm) (o:Oper):Option Nat:=match o.op with
 | .load _ a=>match ev F a with
  | .hptr r _=>some r
  | _=>none
 | .store _ a _=>match ev F a with
  | .hptr r _=>some r
  | _=>none
 | _=>none
def SH:Option Nat->Option Nat->Bool
 | some a,some b=>!Nat.beq a b
 | _,_=>false
abbrev aG6:=List (Nat×Nat×Option Nat)
def a42:List Nat:=[]
def aFE:Op->Bool
 | .call c=>match c.callee with
  | .value (.func g)=>aMM a42 g
  | _=>false
 | _=>false
def isVar(o:Oper):Bool:=match o.guard,o.op,o.dst with
 | none,.alloc _,some _=>true
 | _,_,_=>false
def aFN(o:Oper):Bool:=match o.guard,o.dst with
 | none,some _=>aFE o.op
 | _,_=>false
def VQ(o:Oper):Bool:=isVar o||aFN o
def aZB:List Oper->Nat
 | []=>0
 | o::r=>bif aFN o then aZB r+1 else aZB r
def VA(X:Heap)(q:Nat):Bool:=match X[q]? with|some none=>true|_=>false
theorem U4 {X:Heap}{q:Nat}:VA X q=true↔X[q]?=some none:=by
 unfold VA;cases X[q]? with
 | none=>simp
 | some x=>cases x <;> simp
def aKB:Option Tg->Bool
 | some g=>g.t.plain
 | none=>false
def aNB(q:Nat) (v:PV) (X H:Heap):Option (PV×Heap×Nat):=match X with
 | []=>bif eB v&&eZ v then some (v,H,0) else none
 | [some k]=>match v with
  | .own r sz=>bif Nat.beq r 0&&Nat.blt q H.length&&VA H q&&aKB k.tag then some (.own q sz,H.set q (some k),2) else none
  | _=>none
 | _=>none
def aOJ:List Oper->Nat
 | []=>0
 | o::r=>bif VQ o then aOJ r+1 else aOJ r
def LY(m:Option Nat)(o:Oper)(k:Nat):Option Nat:=match m with
 | none=>none
 | some b=>bif VQ o then some (b+k) else none
def stepT(r:Option Nat)(P:Program)(cl:Callee)(l:List Oper)(o:Oper)(F:Frm)(H:Heap):Option (PV×Heap×Nat):=match r with
 | none=>p5 P cl l o F H
 | some q=>match o.op with
  | .alloc t=>match xW P t with
   | some z=>bif Nat.blt q H.length then some (.hptr q 0,H.set q (some ⟨lits z.cells,t,false,false,none⟩),2) else none
   | none=>none
  | .call _=>bif eB.noRefs (o.op.operands.toList.map (ev F))&&eZ.noRows (o.op.operands.toList.map (ev F)) then match p5 P cl l o F []with
    | some (v,X,_)=>aNB q v X H
    | none=>none
   else none
  | _=>none
def aDM(r:Option Nat)(F:Frm)(o:Oper):Option Nat:=match r with
 | none=>aRS F o
 | some q=>some q
def inP(p:Nat->Bool):PV->Bool
 | .hptr r _=>p r
 | .hs r _ _ _ _=>p r
 | .own r _=>p r
 | .op r _ _ _=>p r
 | .win r _ _ _=>p r
 | .agg cs|.tuple cs=>inPs p cs
 | .clo _ f c=>inPs p f&&inPs p c
 | _=>true
where inPs (p:Nat->Bool):List PV->Bool
 | []=>true
 | q::qs=>inP p q&&inPs p qs
def aWN(b m r:Nat):Bool:=Nat.blt r b||(Nat.ble b r&&Nat.testBit m (r-b))
def aWC(p:Nat->Bool):Option Blk->Bool
 | some k=>k.tag.isSome||inP.inPs p k.cells
 | none=>true
def aH6(p:Nat->Bool):Heap->Bool
 | []=>true
 | x::r=>aWC p x&&aH6 p r
def a6P(p:Nat->Bool)(q:Option Nat)(c:Nat)(H:Heap):Bool:=bif Nat.blt 1 c then (match q with
 | some q=>aWC p (jS H q)
 | none=>aH6 p H) else true
def okT(m:Option Nat)(mk k:Nat)(q:Option Nat)(c:Nat)(v:PV)(H:Heap):Bool:=match m with
 | none=>true
 | some b=>inP (aWN b (mk ||| 2^k)) v&&a6P (aWN b (mk ||| 2^k)) q c H
def aNF(b:Nat):Frm->Bool
 | []=>true
 | (_,p)::r=>below b p&&aNF b r
def aWJ:List Oper->Bool
 | []=>false
 | o::r=>(match o.op with|.load ..=>true|_=>false)||aWJ r
def a04(l:List Oper):List Oper->Bool
 | []=>true
 | o::r=>(match o.op with
  | .makeSlice ..=>aZ9 l o.dst
  | .box ..|.buildSlice ..=>false
  | .call c=>(match c.callee with|.builtin .append|.builtin .copy|.builtin .clear=>false|_=>true)
  | _=>true)&&a04 l r
def a4S(l:List Oper):Bool:=Nat.blt 0 (aOJ l)&&aWJ l&&a04 l l
def V7(ops:Array Oper)(H:Heap):Option Nat:=bif Nat.blt 0 (aZB ops.toList)||Nat.blt 1 (aOJ ops.toList)||a4S ops.toList then some H.length else none
def aTA(m:Option Nat)(n:Nat)(H:Heap):Heap:=match m with
 | none=>H
 | some _=>H++List.replicate n none
def aPV(m:Option Nat)(F:Frm)(H:Heap):Bool:=match m with
 | none=>true
 | some b=>aNF b F&&RY b H
def X1(P:Program)(cl:Callee)(nt:Nat)(m:Option Nat)(ms:List Nat)(l:List Oper)(F:Frm)(H:Heap):Nat->Option (Frm×Heap×aG6)
 | 0=>some (F,H,[])
 | k+1=>match X1 P cl nt m ms l F H k with
  | some (F,H,hl)=>match l[k]? with
   | some o=>match stepT (LY m o k) P cl l o F H with
    | some (v,H',c)=>bif okT m (ms.getD k 0) k (aDM (LY m o k) F o) c v H' then (fPV v λv=>match LF nt F o.dst v with
     | some F'=>bif Nat.beq c 0 then some (F',H',hl) else aC8 H' λH'=>some (F',H',(k,c,aDM (LY m o k) F o)::hl)
     | none=>none) else none
    | none=>none
   | none=>none
  | none=>none
def aV5(m:List Nat)(j:Nat)(d:Nat)(b:Option Nat):aG6->Bool
 | []=>true
 | (i,c,b')::r=>(!(Nat.blt 1 c||Nat.blt 1 d)||SH b b'||(m.getD j 0).testBit i)&&aV5 m j d b r
def VN(m:List Nat):aG6->Bool
 | []=>true
 | (j,d,b)::r=>aV5 m j d b r&&VN m r
def WB(P:Program)(cl:Callee)(nt:Nat)(ops:Array Oper)(F:Frm)(H:Heap):Option (Frm×Heap) :=
 bif uH ops&&aPV (V7 ops H) F H then match X1 P cl nt (V7 ops H) (dA ops) ops.toList F (aTA (V7 ops H) ops.toList.length H) ops.toList.length with
  | some (F',H',hl)=>bif VN (dA ops) hl then some (F',H') else none
  | none=>none else none
theorem N3 {m:List Nat}{b:Nat}:∀ (es:List Edge) (s:Nat),(es.foldl (λs e=>bif Region.binds .any e then s ||| (2^e.on ||| m.getD e.on 0) else s) s).testBit b=true ->
  s.testBit b=true\/∃ e∈es,Region.binds .any e=true/\(b=e.on\/(m.getD e.on 0).testBit b=true)
 | [],s,h=>.inl h
 | e::es,s,h=>by
  rw[List.foldl_cons]at h;rcases N3 es _ h with h1|⟨e',h1,h2⟩
  ·cases hb:Region.binds .any e with
   | false=>rw[hb]at h1; exact .inl h1
   | true =>
    rw[hb]at h1;simp only[oC,Nat.testBit_or,Bool.or_eq_true]at h1;rcases h1 with h1|h1|h1
    ·exact .inl h1
    ·rw[Nat.testBit_two_pow]at h1;exact .inr ⟨e,List.mem_cons_self,hb,.inl (of_decide_eq_true h1).symm⟩
    ·exact .inr ⟨e,List.mem_cons_self,hb,.inr h1⟩
  ·exact .inr ⟨e',List.mem_cons_of_mem _ h1,h2⟩
theorem aEX {m:List Nat}:∀ {l:List Oper} {j i:Nat} {o:Oper},P5 m j l=true->l[i]?=some o->m.getD (j+i) 0=UA m o.after.toList/\∀ e∈o.after,Region.binds .any e=true->e.on<j+i
 | [],j,i,o,_,ho=>by simp at ho
 | p::l,j,i,o,h,ho=>by
  simp only[P5,oA,List.all_eq_true]at h;obtain⟨⟨h1,h2⟩,h3⟩:=h;cases i with
  | zero =>
   simp only[List.getElem?_cons_zero,oJ]at ho;subst ho;refine⟨oE h1,λe he hb=>?_⟩;have:=h2 e (Array.mem_toList_iff.2 he);rw[hb]at this;simp only[Bool.not_true,Bool.false_or]at this;have:=oL this;omega
  | succ i =>
   have:=aEX (i:=i) h3 (by simpa using ho);rwa[Nat.add_assoc,Nat.add_comm 1]at this
theorem aBU {ops:Array Oper}{m:List Nat}{j:Nat}{oj:Oper}:∀ {l:List Oper} {k i:Nat} {oi:Oper},aC7 ops m j oj k l=true->l[i]?=some oi->k+i<j->(m.getD j 0).testBit (k+i)=true\/oi.apart ops oj=true
 | [],k,i,oi,_,ho,_=>by simp at ho
 | p::l,k,i,oi,h,ho,hlt=>by
  simp only[aC7]at h;have hk:Nat.blt k j=true:=Nat.ble_eq_true_of_le (by omega);rw[hk]at h;simp only[oC,oA,Bool.or_eq_true]at h;cases i with
  | zero =>
   simp only[List.getElem?_cons_zero,oJ]at ho;subst ho;exact h.1
  | succ i =>
   have:=aBU (i:=i) h.2 (by simpa using ho) (by omega);rwa[Nat.add_assoc,Nat.add_comm 1]at this
theorem XU {ops:Array Oper}{m:List Nat}:∀ {l:List Oper} {k j:Nat} {oj:Oper},aD3 ops m k l=true->l[j]?=some oj->aC7 ops m (k+j) oj 0 ops.toList=true
 | [],k,j,oj,_,ho=>by simp at ho
 | p::l,k,j,oj,h,ho=>by
  simp only[aD3,oA]at h;cases j with
  | zero =>
   simp only[List.getElem?_cons_zero,oJ]at ho;subst ho;exact h.1
  | succ j =>
   have:=XU (j:=j) h.2 (by simpa using ho);rwa[Nat.add_assoc,Nat.add_comm 1]at this
section
variable {P:Program} {cl:Callee} {n0:Nat->Prop} {nt:Nat} {wi:World} {Gi:Gd} {μi:Mp} {ops:Array Oper} {F:Frm} {H:Heap}
structure Trace (P:Program) (cl:Callee) (nt:Nat) (ops:Array Oper) (F:Frm) (H:Heap) (F':Frm) (H':Heap) where
 Fs:Nat->Frm
 Hs:Nat->Heap
 vs:Nat->PV
 cs:Nat->Nat
 f0:Fs 0=F
 h0:Hs 0=H
 fn:Fs ops.size=F'
 hn:Hs ops.size=H'
 md:Option Nat
 step:∀ i o,ops[i]?=some o->stepT (LY md o i) P cl ops.toList o (Fs i) (Hs i)=some (vs i,Hs (i+1),cs i)/\LF nt (Fs i) o.dst (vs i)=some (Fs (i+1))/\okT md ((dA ops).getD i 0) i (aDM (LY md o i) (Fs i) o) (cs i) (vs i) (Hs (i+1))=true
 bs:Nat->Option Nat
 hbs:∀ i o,ops[i]?=some o->bs i=aDM (LY md o i) (Fs i) o
 hits:∀ i j,i<j->j<ops.size->cs i≠0->cs j≠0->1<cs i\/1<cs j->SH (bs j) (bs i)=true\/((dA ops).getD j 0).testBit i=true
 loc:∀ i o q,ops[i]?=some o->bs i=some q->cs i≠0->∀ H2:Heap,H2[q]?=(Hs i)[q]?->∃ H3 c,stepT (LY md o i) P cl ops.toList o (Fs i) H2=some (vs i,H3,c)/\H3=if 1<cs i then H2.set q (((Hs (i+1))[q]?).getD none) else H2
theorem aSS {md:Option Nat}{ms:List Nat}{l:List Oper}:∀ {n k:Nat} {r:Frm×Heap×aG6},X1 P cl nt md ms l F H n=some r->k<=n->∃ s,X1 P cl nt md ms l F H k=some s
 | 0,k,r,h,hk=>by
  have:k=0:=by omega
  subst this;exact⟨r,h⟩
 | n+1,k,r,h,hk=>by
  rcases oG k (n+1)with hl|hl
  ·simp only[X1]at h;split at h
   ·rename_i s hs;exact aSS hs (by omega)
   ·cases h
  ·have:k=n+1:=by omega
   subst this;exact⟨r,h⟩
theorem aMW {m:List Nat}{j:Nat}{d:Nat}{b:Option Nat}:∀ {hl:aG6} {i:Nat} {c:Nat} {b':Option Nat},aV5 m j d b hl=true->(i,c,b')∈hl->1<c\/1<d->SH b b'=true\/(m.getD j 0).testBit i=true
 | [],i,c,_,_,h,_=>by cases h
 | (i',c',b0)::r,i,c,b',h,hm,hc=>by
  simp only[aV5,oA,Bool.or_eq_true,Bool.not_eq_true',Bool.or_eq_false_iff]at h;rcases List.mem_cons.1 hm with he|hm
  ·cases he;rcases h.1 with (⟨h1,h2⟩|h1)|h1
   ·rcases hc with hc|hc
    ·have:Nat.blt 1 _=true:=Nat.ble_eq_true_of_le hc;rw[this]at h1; cases h1
    ·have:Nat.blt 1 d=true:=Nat.ble_eq_true_of_le hc;rw[this]at h2; cases h2
   ·exact .inl h1
   ·exact .inr h1
  ·exact aMW h.2 hm hc
theorem aVC {H H2:Heap}{q:Nat}(h:H2[q]?=H[q]?):jS H2 q=jS H q:=by unfold jS; rw[h]
theorem aUY {l:List Oper} {o:Oper} {F:Frm} {H H':Heap} {v:PV} {c q:Nat} (h:p5 P cl l o F H=some (v,H',c)) (hb:aRS F o=some q) (hc:c≠0) (H2:Heap) (hq:H2[q]?=H[q]?) :
  ∃ H3 c',p5 P cl l o F H2=some (v,H3,c')/\H3=if 1<c then H2.set q ((H'[q]?).getD none) else H2:=by
 have hgq:=aVC hq;unfold aRS at hb;split at hb
 ·rename_i t a ho;split at hb
  ·rename_i r off hev;obtain rfl:=oB hb;have hm:mkData P F l o=none:=by simp only[mkData,ho]
   have hz:∀ H,opz P cl l F H o=match WO P H t (.hptr r off)with|some (v,c)=>some (v,H,c)|none=>none:=λH=>by simp only[opz,ho,opx,typed,hev,aLO,oD,opu]; rfl
   unfold p5 at h ⊢;rw[hm]at h ⊢;split at h
   ·simp only[hz]at h ⊢;have hx:WO P H2 t (.hptr r off)=WO P H t (.hptr r off):=by simp only[WO,hgq]
    rw[hx];cases hl:WO P H t (.hptr r off)with
    | none=>rw[hl]at h; cases h
    | some p =>
     obtain⟨v1,c1⟩:=p;rw[hl]at h;simp only[oJ,oP]at h;obtain⟨rfl,rfl,rfl⟩:=h;have h1:c1=1:=by
      simp only[WO]at hl;split at hl
      ·split at hl
       ·simp only[oJ,oP]at hl; exact hl.2.symm
       ·cases hl
      ·cases hl
     subst h1;exact⟨_,_,rfl,by rw[if_neg (by decide)]⟩
   ·simp only[oJ,oP]at h;exact absurd h.2.2.symm hc
   ·cases h
  ·cases hb
 ·rename_i t a x ho;split at hb
  ·rename_i r off hev;obtain rfl:=oB hb;have hm:mkData P F l o=none:=by simp only[mkData,ho]
   have hz:∀ H,opz P cl l F H o=match aER P H t (.hptr r off) (ev F x)with|some H'=>some (.lit undef,H',2)|none=>none:=λH=>by simp only[opz,ho,opx,typed,hev,aLO,oD,opu]; rfl
   unfold p5 at h ⊢;rw[hm]at h ⊢;split at h
   ·simp only[hz]at h ⊢;cases hl:aER P H t (.hptr r off) (ev F x)with
    | none=>rw[hl]at h; cases h
    | some H1 =>
     rw[hl]at h;simp only[oJ,oP]at h;obtain⟨rfl,rfl,rfl⟩:=h;rw[if_pos (by decide)];unfold aER at hl ⊢;cases hcs:uC (ev F x)with
     | none=>rw[hcs]at hl; cases hl
     | some new =>
      cases hsz:sS P t with
      | none=>rw[hcs,hsz]at hl; cases hl
      | some n =>
       rw[hcs,hsz]at hl;simp only at hl ⊢;obtain⟨hb1,hl⟩:=aH hl;rw[hb1,oC];unfold aBP at hl ⊢;rw[hgq];cases hk:jS H r with
       | none=>rw[hk]at hl; cases hl
       | some k =>
        rw[hk]at hl;simp only at hl ⊢;obtain⟨hb2,hl⟩:=aH hl;rw[hb2,oC];obtain rfl:=oB hl;refine⟨_,_,rfl,?_⟩;have hlt:r<H.length:=by
         unfold PM.jS at hk;split at hk
         ·rename_i k' hk'; exact(oO.1 hk').1
         ·cases hk
        rw[List.getElem?_set_self hlt]; rfl
   ·simp only[oJ,oP]at h;exact absurd h.2.2.symm hc
   ·cases h
  ·cases hb
 ·cases hb
theorem QE {q:Nat}{v:PV}{X H:Heap}{v':PV}{H':Heap}{c:Nat}(h:aNB q v X H=some (v',H',c)):(∃ sz k,v=.own 0 sz/\X=[some k]/\v'=.own q sz/\H'=H.set q (some k)/\c=2/\q<H.length/\H[q]?=some none/\aKB k.tag=true) \/
  (X=[]/\(eB v&&eZ v)=true/\v'=v/\H'=H/\c=0):=by
 unfold aNB at h;split at h
 ·obtain⟨hb,h⟩:=aH h;simp only[oJ,oP]at h;obtain⟨rfl,rfl,rfl⟩:=h;exact .inr ⟨rfl,hb,rfl,rfl,rfl⟩
 ·rename_i k;split at h
  ·rename_i r sz;obtain⟨hb,h⟩:=aH h;simp only[oA]at hb;obtain⟨⟨⟨h1,h2⟩,h3⟩,h4⟩:=hb;have h1:=oE h1;simp only[oJ,oP]at h;obtain⟨rfl,rfl,rfl⟩:=h;exact .inl ⟨sz,k,by rw[h1],rfl,rfl,rfl,rfl,fB h2,U4.1 h3,h4⟩
  ·cases h
 ·cases h
theorem aWZ {r:Option Nat}{l:List Oper}{o:Oper}{F:Frm}{H H':Heap}{v:PV}{c q:Nat}(h:stepT r P cl l o F H=some (v,H',c))(hb:aDM r F o=some q)(hc:c≠0)(H2:Heap)(hq:H2[q]?=H[q]?) :
  ∃ H3 c',stepT r P cl l o F H2=some (v,H3,c')/\H3=if 1<c then H2.set q ((H'[q]?).getD none) else H2:=by
 cases r with
 | none=>exact aUY h hb hc H2 hq
 | some q' =>
  obtain rfl:=oB (show some q'=some q from hb);simp only[stepT]at h ⊢;split at h
  ·rename_i t ho;cases hz:xW P t with
   | none=>rw[hz]at h; cases h
   | some z =>
    rw[hz]at h;simp only at h ⊢;obtain⟨hlt,h⟩:=aH h;simp only[oJ,oP]at h;obtain⟨rfl,rfl,rfl⟩:=h;have hlt:=fB hlt;have hlt2:q'<H2.length:=by
     have h1:H[q']?=some H[q']:=List.getElem?_eq_getElem hlt;rw[h1]at hq;exact(oO.1 hq).1
    rw[if_pos (by decide),cD,oT hlt2,oC,List.getElem?_set_self hlt];exact⟨_,_,rfl,rfl⟩
  ·obtain⟨hnr,h⟩:=aH h;rw[hnr,oC];split at h
   ·rename_i v1 X c1 hs;rcases QE h with ⟨sz,k,rfl,rfl,rfl,rfl,rfl,h1,h2,h3⟩|⟨_,_,_,_,h0⟩
    case inr=>exact absurd h0 hc
    have h4:q'<H2.length:=by
     rw[h2]at hq;exact(oO.1 hq).1
    rw[if_pos (by decide),List.getElem?_set_self h1];refine⟨_,2,?_,rfl⟩;simp only[aNB,Nat.beq_refl,cD,oT h4,U4.2 (hq.trans h2),h3,Bool.and_self,oC,Option.getD_some]
   ·cases h
  ·cases h
theorem aSV(hcl:dF P cl){md:Option Nat}{F':Frm}{H':Heap}{hl:aG6}(h:X1 P cl nt md (dA ops) ops.toList F H ops.toList.length=some (F',H',hl))(hh:VN (dA ops) hl=true):∃ T:Trace P cl nt ops F H F' H',T.md=md:=by
 have hlen:ops.toList.length=ops.size:=by simp
 let st:Nat->Frm×Heap×aG6:=λk=>(X1 P cl nt md (dA ops) ops.toList F H k).getD ([],[],[])
 have hst:∀ k,k<=ops.size->X1 P cl nt md (dA ops) ops.toList F H k=some (st k):=λk hk=>by
  obtain⟨s,hs⟩:=aSS h (k:=k) (by omega);simp only[st,hs,Option.getD_some]
 let op:Nat->PV×Heap×Nat:=λi=>match ops[i]? with|some o=>(stepT (LY md o i) P cl ops.toList o (st i).1 (st i).2.1).getD (.junk,[],0)|none=>(.junk,[],0)
 have hop:∀ i o,ops[i]?=some o->stepT (LY md o i) P cl ops.toList o (st i).1 (st i).2.1=some (op i)/\(op i).2.1=(st (i+1)).2.1/\LF nt (st i).1 o.dst (op i).1=some (st (i+1)).1/\(st (i+1)).2.2=(bif Nat.beq (op i).2.2 0 then (st i).2.2 else (i,(op i).2.2,aDM (LY md o i) (st i).1 o)::(st i).2.2)/\okT md ((dA ops).getD i 0) i (aDM (LY md o i) (st i).1 o) (op i).2.2 (op i).1 (op i).2.1=true:=by
  intro i o ho;have hi:i<ops.size:=(Array.getElem?_eq_some_iff.1 ho).1;have h1:=hst (i+1) (by omega);simp only[X1,hst i (by omega)]at h1;have ho':ops.toList[i]?=some o:=by simpa using ho
  rw[ho']at h1;simp only at h1;split at h1
  ·rename_i v H1 c hs;have he:op i=(v,H1,c):=by simp only[op,ho,hs,Option.getD_some]
   obtain⟨hok,h1⟩:=aH h1;rw[aB2]at h1;split at h1
   ·rename_i F1 hp;rw[H6]at h1;cases hc0:Nat.beq c 0 with
    | true =>
     rw[hc0,oC]at h1;simp only[oJ]at h1;rw[he,<- h1];exact⟨hs,rfl,hp,by simp only[hc0,oC],hok⟩
    | false =>
     rw[hc0,oD]at h1;simp only[oJ]at h1;rw[he,<- h1];exact⟨hs,rfl,hp,by simp only[hc0,oD],hok⟩
   ·cases h1
  ·cases h1
 let bk:Nat->Option Nat:=λi=>match ops[i]? with|some o=>aDM (LY md o i) (st i).1 o|none=>none
 have hmem:∀ k,k<=ops.size->∀ i,i<k->(op i).2.2≠0->(i,(op i).2.2,bk i)∈(st k).2.2:=by
  intro k
  induction k with
  | zero=>intro _ i hi; omega
  | succ k ih =>
   intro hk i hi hc;obtain⟨o,ho⟩:∃ o,ops[k]?=some o:=⟨ops[k],Array.getElem?_eq_getElem (by omega)⟩;rw[(hop k o ho).2.2.2.1];rcases oG i k with hl|hl
   ·have:=ih (by omega) i hl hc;cases Nat.beq (op k).2.2 0 with
    | true=>exact this
    | false=>exact List.mem_cons_of_mem _ this
   ·have:i=k:=by omega
    subst this;have:Nat.beq (op i).2.2 0=false:=RC hc;rw[this];have hbk:bk i=aDM (LY md o i) (st i).1 o:=by simp only[bk,ho]
    rw[hbk];exact List.mem_cons_self
 have hlast:st ops.size=(F',H',hl):=by
  have:=hst ops.size (oM _);rw[<- hlen,h]at this;simpa using this.symm
 have hhits:∀ k,k<=ops.size->VN (dA ops) (st k).2.2=true:=by
  intro k hk;obtain⟨d,rfl⟩:∃ d,k=ops.size-d:=⟨ops.size-k,by omega⟩;clear hk
  induction d with
  | zero=>rw[Nat.sub_zero,hlast]; exact hh
  | succ d ih =>
   rcases Nat.eq_zero_or_pos (ops.size-d)with h0|h0
   ·have:ops.size-(d+1)=ops.size-d:=by omega
    rw[this]; exact ih
   ·have e:ops.size-d=(ops.size-(d+1))+1:=by omega
    obtain⟨o,ho⟩:∃ o,ops[ops.size-(d+1)]?=some o:=⟨_,Array.getElem?_eq_getElem (by omega)⟩;have h4:=(hop _ o ho).2.2.2.1;rw[<- e]at h4;rw[h4]at ih;cases hb:Nat.beq (op (ops.size-(d+1))).2.2 0 with
    | true=>rw[hb]at ih; exact ih
    | false =>
     rw[hb]at ih;simp only[oD,VN,oA]at ih;exact ih.2
 refine⟨⟨λi=>(st i).1,λi=>(st i).2.1,λi=>(op i).1,λi=>(op i).2.2,?_,?_,by simp only[hlast],by simp only[hlast],md,?_,bk,?_,?_,?_⟩,rfl⟩
 ·have h0:=hst 0 (Nat.zero_le _);simp only[X1,oJ]at h0;rw[<- h0]
 ·have h0:=hst 0 (Nat.zero_le _);simp only[X1,oJ]at h0;rw[<- h0]
 ·intro i o ho;obtain⟨h1,h2,h3,_,h5⟩:=hop i o ho;exact⟨by rw[h1,<- h2],h3,by rw[<- h2]; exact h5⟩
 ·intro i o ho;simp only[bk,ho]
 ·intro i j hij hj hi hcj hc;obtain⟨o,ho⟩:∃ o,ops[j]?=some o:=⟨ops[j],Array.getElem?_eq_getElem hj⟩;have h1:=hhits (j+1) (by omega);rw[(hop j o ho).2.2.2.1,RC hcj]at h1;simp only[oD,VN,oA]at h1;have hbk:bk j=aDM (LY md o j) (st j).1 o:=by simp only[bk,ho]
  rw[hbk];exact aMW h1.1 (hmem j (by omega) i hij hi) hc
 ·intro i o q ho hq hc H2 h2;obtain⟨h1,h3,_,_,_⟩:=hop i o ho;have hbk:bk i=aDM (LY md o i) (st i).1 o:=by simp only[bk,ho]
  have h4:stepT (LY md o i) P cl ops.toList o (st i).1 (st i).2.1=some ((op i).1,(st (i+1)).2.1,(op i).2.2):=by rw[h1,<- h3]
  exact aWZ h4 (hbk ▸ hq) hc H2 h2
section
variable {F':Frm} {H':Heap}
def PR(ops:Array Oper)(i:Nat):Option Tmp:=(ops[i]?).bind (·.dst)
def pO(T:Trace P cl nt ops F H F' H')(S:Nat->Bool)(t:Nat):Nat->PV
 | 0=>cV F t
 | k+1=>if S k=true/\PR ops k=some t then T.vs k else pO T S t k
def P9(T:Trace P cl nt ops F H F' H')(k:Nat)(H2:Heap):Heap:=match T.bs k with
 | some q=>H2.set q (((T.Hs (k+1))[q]?).getD none)
 | none=>T.Hs (k+1)
def eE(T:Trace P cl nt ops F H F' H')(S:Nat->Bool):Nat->Heap
 | 0=>H
 | k+1=>if S k=true/\1<T.cs k then P9 T k (eE T S k) else eE T S k
variable (T:Trace P cl nt ops F H F' H')
theorem Y4 {nt:Nat}{F F':Frm}{d:Option Tmp}{v:PV}(h:LF nt F d v=some F')(t:Nat):cV F' t=if d=some t then v else cV F t:=by
 cases d with
 | none=>simp only[LF,oJ]at h; subst h; simp
 | some u =>
  simp only[LF]at h;cases hb:Nat.blt u nt with
  | false=>rw[hb]at h; cases h
  | true =>
   rw[hb]at h;simp only[oC,oJ]at h;subst h;rw[dJ]
   by_cases htu:t=u
   ·subst htu; simp
   ·rw[if_neg htu,if_neg (by simpa using λe=>htu e.symm)]
theorem V8(t:Nat):∀ k,k<=ops.size->pO T (λ_=>true) t k=cV (T.Fs k) t
 | 0,_=>by rw[pO,T.f0]
 | k+1,hk=>by
  obtain⟨o,ho⟩:∃ o,ops[k]?=some o:=⟨ops[k],Array.getElem?_eq_getElem (by omega)⟩;rw[pO,V8 t k (by omega),Y4 (T.step k o ho).2.1 t];simp only[PR,ho,Option.bind_some,true_and]
theorem HU {S S':Nat->Bool}{t:Nat}:∀ {k:Nat},(∀ j,j<k->PR ops j=some t->S j=S' j)->pO T S t k=pO T S' t k
 | 0,_=>rfl
 | k+1,h=>by
  rw[pO,pO,HU λj hj=>h j (by omega)]
  by_cases hd:PR ops k=some t
  ·rw[h k (by omega) hd]
  ·simp[hd]
theorem LN {S:Nat->Bool}{t k:Nat}:∀ {n:Nat},k<=n->(∀ j,k<=j->j<n->PR ops j=some t->S j=false)->pO T S t n=pO T S t k
 | 0,hk,_=>by
  have:k=0:=by omega
  rw[this]
 | n+1,hk,h=>by
  rcases oG k (n+1)with hl|hl
  ·rw[pO,LN (n:=n) (by omega) λj h1 h2=>h j h1 (by omega),if_neg];rintro⟨h1,h2⟩;rw[h n (by omega) (by omega) h2]at h1;cases h1
  ·have:k=n+1:=by omega
   rw[this]
theorem aUR(hcl:dF P cl){l:List Oper}{o:Oper}{F:Frm}{H H':Heap}{v:PV}{c:Nat}(h:p5 P cl l o F H=some (v,H',c)):(c<=1->H'=H)/\(c=0->∀ H2,p5 P cl l o F H2=some (v,H2,0)):=by
 unfold p5 at h ⊢;split at h
 ·rename_i hg;split at h
  ·rename_i hm;obtain⟨h1,h2⟩:=a2N hcl h;exact⟨λhc=>by
    rcases oG c 1 with hl|hl
    ·exact(h1 (by omega)).1
    ·exact h2 (by omega),λhc=>(h1 hc).2⟩
  ·cases h
  ·rename_i cs v' hm;cases hb:CF cs with
   | false=>rw[hb]at h; cases h
   | true =>
    rw[hb]at h;simp only[oC,oJ,oP]at h;obtain⟨rfl,rfl,rfl⟩:=h;exact⟨λ_=>rfl,λ_ _=>rfl⟩
 ·rename_i hg;simp only[oJ,oP]at h;obtain⟨rfl,rfl,rfl⟩:=h;exact⟨λ_=>rfl,λ_ _=>rfl⟩
 ·cases h
theorem aFB(hcl:dF P cl){r:Option Nat}{l:List Oper}{o:Oper}{F:Frm}{H H':Heap}{v:PV}{c:Nat}(h:stepT r P cl l o F H=some (v,H',c)):(c<=1->H'=H)/\(c=0->∀ H2,stepT r P cl l o F H2=some (v,H2,0)):=by
 cases r with
 | none=>exact aUR hcl h
 | some q =>
  simp only[stepT]at h;split at h
  ·split at h
   ·obtain⟨_,h⟩:=aH h;simp only[oJ,oP]at h;obtain⟨-,-,rfl⟩:=h;exact⟨λh=>absurd h (by decide),λh=>by cases h⟩
   ·cases h
  ·rename_i cc hcc;obtain⟨hnr,h⟩:=aH h;split at h
   ·rename_i v1 X c1 hs;rcases QE h with ⟨_,_,_,_,_,_,rfl,_⟩|⟨rfl,h1,rfl,rfl,rfl⟩
    ·exact⟨λh=>absurd h (by decide),λh=>by cases h⟩
    ·refine⟨λ_=>rfl,λ_ H2=>?_⟩;simp only[stepT,hcc];rw[<- hcc,hnr,oC,hs];simp only[aNB,h1,oC]
   ·cases h
  ·cases h
theorem Trace.a2U {k q:Nat}(hk:k<ops.size)(hq:T.bs k=some q)(hc:T.cs k≠0):T.Hs (k+1)=if 1<T.cs k then (T.Hs k).set q (((T.Hs (k+1))[q]?).getD none) else T.Hs k:=by
 obtain⟨o,ho⟩:∃ o,ops[k]?=some o:=⟨ops[k],Array.getElem?_eq_getElem hk⟩;obtain⟨H3,c,h1,h2⟩:=T.loc k o q ho hq hc (T.Hs k) rfl;rw[(T.step k o ho).1]at h1;simp only[oJ,oP]at h1;rw[<- h2,<- h1.2.1]
theorem PG(hcl:dF P cl):∀ k,k<=ops.size->eE T (λ_=>true) k=T.Hs k
 | 0,_=>by rw[eE,T.h0]
 | k+1,hk=>by
  obtain⟨o,ho⟩:∃ o,ops[k]?=some o:=⟨ops[k],Array.getElem?_eq_getElem (by omega)⟩;rw[eE,PG hcl k (by omega)]
  by_cases hc:1<T.cs k
  ·rw[if_pos ⟨rfl,hc⟩];unfold P9;cases hq:T.bs k with
   | none=>rfl
   | some q =>
    have:=T.a2U (by omega) hq (by omega);rw[if_pos hc]at this;exact this.symm
  ·rw[if_neg (λh=>hc h.2)];exact((aFB hcl (T.step k o ho).1).1 (by omega)).symm
theorem BB {S S':Nat->Bool}:∀ {k:Nat},(∀ j,j<k->1<T.cs j->S j=S' j)->eE T S k=eE T S' k
 | 0,_=>rfl
 | k+1,h=>by
  rw[eE,eE,BB λj hj=>h j (by omega)]
  by_cases hd:1<T.cs k
  ·rw[h k (by omega) hd]
  ·simp[hd]
theorem L0 {S:Nat->Bool}{k:Nat}:∀ {n:Nat},k<=n->(∀ j,k<=j->j<n->1<T.cs j->S j=false)->eE T S n=eE T S k
 | 0,hk,_=>by
  have:k=0:=by omega
  rw[this]
 | n+1,hk,h=>by
  rcases oG k (n+1)with hl|hl
  ·rw[eE,L0 (n:=n) (by omega) λj h1 h2=>h j h1 (by omega),if_neg];rintro⟨h1,h2⟩;rw[h n (by omega) (by omega) h2]at h1;cases h1
  ·have:k=n+1:=by omega
   rw[this]
theorem aMR {q:Nat} {S S':Nat->Bool}:∀ {n:Nat},(∀ j,j<n->1<T.cs j->T.bs j=none\/T.bs j=some q->S j=S' j)->(eE T S n).length=(eE T S' n).length/\(eE T S n)[q]?=(eE T S' n)[q]?
 | 0,_=>⟨rfl,rfl⟩
 | n+1,h=>by
  obtain⟨e1,e2⟩:=aMR (q:=q) (S:=S) (S':=S') (n:=n) λj hj=>h j (by omega)
  rw[eE,eE]
  by_cases hd:1<T.cs n
  ·cases hb:T.bs n with
   | none =>
    have:=h n (by omega) hd (.inl hb);rw[this]
    by_cases hs:S' n=true
    ·rw[if_pos ⟨hs,hd⟩,if_pos ⟨hs,hd⟩];simp only[P9,hb,and_self]
    ·rw[if_neg (λh=>hs h.1),if_neg (λh=>hs h.1)];exact⟨e1,e2⟩
   | some p =>
    by_cases hpq:p=q
    ·subst hpq;have:=h n (by omega) hd (.inr hb);rw[this]
     by_cases hs:S' n=true
     ·rw[if_pos ⟨hs,hd⟩,if_pos ⟨hs,hd⟩];simp only[P9,hb,List.length_set];refine⟨e1,?_⟩;rw[List.getElem?_set,List.getElem?_set,e1,if_pos rfl,if_pos rfl]
     ·rw[if_neg (λh=>hs h.1),if_neg (λh=>hs h.1)];exact⟨e1,e2⟩
    ·have key:∀ X:Heap,(P9 T n X).length=X.length/\(P9 T n X)[q]?=X[q]?:=λX=>by
      simp only[P9,hb,List.length_set,true_and];rw[List.getElem?_set_ne hpq]
     have k1:∀ (c:Prop) [Decidable c] (X:Heap),(if c then P9 T n X else X).length=X.length/\(if c then P9 T n X else X)[q]?=X[q]?:=λc _ X=>by
      split
      ·exact key X
      ·exact⟨rfl,rfl⟩
     rw[(k1 _ _).1,(k1 _ _).1,(k1 _ _).2,(k1 _ _).2];exact⟨e1,e2⟩
  ·rw[if_neg (λh=>hd h.2),if_neg (λh=>hd h.2)];exact⟨e1,e2⟩
theorem aGB {i:Nat} {S S':Nat->Bool} (hx:1<T.cs i) (hi:S i=false) (hi':S' i=true) (hne:∀ j,j≠i->S' j=S j) (hlate:∀ j,i<j->j<ops.size->1<T.cs j->S j=true->SH (T.bs j) (T.bs i)=true) :
  ∀ n,i<n->n<=ops.size->eE T S' n=P9 T i (eE T S n)
 | 0,h,_=>by omega
 | n+1,h,hn=>by
  rcases oG i n with hl|hl
  ·rw[eE,aGB hx hi hi' hne hlate n hl (by omega),eE,hne n (by omega)]
   by_cases hc:S n=true/\1<T.cs n
   ·rw[if_pos hc,if_pos hc];have:=hlate n hl (by omega) hc.2 hc.1;cases hb1:T.bs n with
    | none=>rw[hb1]at this; cases this
    | some p =>
     cases hb2:T.bs i with
     | none=>rw[hb1,hb2]at this; cases this
     | some q =>
      rw[hb1,hb2]at this;simp only[SH,Bool.not_eq_true']at this;have hne:p≠q:=λe=>by rw[e,Nat.beq_refl]at this; cases this
      simp only[P9,hb1,hb2];exact List.set_comm _ _ (Ne.symm hne)
   ·rw[if_neg hc,if_neg hc]
  ·have:i=n:=by omega
   subst this;rw[eE,if_pos ⟨hi',hx⟩,eE,if_neg (λh=>by rw[hi]at h; cases h.1)]
   congr 1
   exact BB T λj hj _=>hne j (by omega)
theorem YE(S:Nat->Bool):∀ k,∃ F1,∀ t,cV F1 t=pO T S t k
 | 0=>⟨F,λt=>rfl⟩
 | k+1=>by
  obtain⟨F1,h1⟩:=YE S k
  by_cases hS:S k=true
  ·cases hd:PR ops k with
   | none=>exact⟨F1,λt=>by rw[h1,pO]; simp[hd]⟩
   | some d =>
    refine⟨aYG F1 d (T.vs k),λt=>?_⟩;rw[aFS,h1,pO]
    by_cases htd:t=d
    ·subst htd; simp[hS,hd]
    ·rw[if_neg htd,if_neg];rintro⟨_,h2⟩;rw[hd]at h2;exact htd (by cases h2; rfl)
  ·exact⟨F1,λt=>by rw[h1,pO]; simp[hS]⟩
theorem fQ.congr {w:World}{G:Gd}{μ:Mp}{F F':Frm}{a:Act}(h:fQ w G μ nt F a)(he:∀ t,cV F' t=cV F t):fQ w G μ nt F' a:=⟨h.size,λt=>by rw[he]; exact h.slot t,h.defers⟩
theorem I.congr {F F':Frm}{H:Heap}{a:Act}{w:World}(h:I n0 wi Gi μi nt F H a w)(he:∀ t,cV F' t=cV F t):I n0 wi Gi μi nt F' H a w:=by
 obtain⟨G,μ,e,hW,hF⟩:=h;exact⟨G,μ,e,hW,hF.congr he⟩
theorem U7 {o:Oper}{F F':Frm}{H:Heap}(h:∀ t∈o.looksAt ops,cV F' t=cV F t):p5 P cl ops.toList o F' H=p5 P cl ops.toList o F H:=by
 have hev:∀ x∈o.op.operands,ev F' x=ev F x:=λx hx=>by
  cases x with
  | tmp t=>exact h t (List.mem_append_left _ (List.mem_filterMap.2 ⟨.tmp t,by simpa using hx,rfl⟩))
  | _=>rfl
 have hg:guardOf F' ops.toList o=guardOf F ops.toList o:=by
  unfold guardOf;split
  ·rfl
  ·rename_i j want hgu;split
   ·rename_i p hp;split
    ·rename_i t ht;rw[h t (List.mem_append_right _ (by
      rw[hgu];have hp:ops[j]?=some p:=by simpa using hp
      simp[hp,ht]))]
    ·rfl
   ·rfl
 have hm:mkData P F' ops.toList o=mkData P F ops.toList o:=by
  unfold mkData;split
  ·rename_i t x y ho;rw[hev x (by rw[ho]; simp[Op.operands]),hev y (by rw[ho]; simp[Op.operands])]
  ·rfl
 have hz:opz P cl ops.toList F' H o=opz P cl ops.toList F H o:=by
  unfold opz;rw[aYM hev];split
  ·rename_i t x y ho;rw[hev x (by rw[ho]; simp[Op.operands]),hev y (by rw[ho]; simp[Op.operands])]
  ·rfl
 unfold p5;rw[hg,hm,hz]
def MF(m:List Nat) (S:Nat->Bool):Prop:=∀ j,S j=true->∀ i,(m.getD j 0).testBit i=true->S i=true
theorem aEU {p p':Nat->Bool}{i:Nat}(h1:p i=true)(h2:p' i=false)(h3:∀ j,j≠i->p' j=p j):∀ n,i<n->(List.range n).countP p'+1=(List.range n).countP p
 | 0,h=>by omega
 | n+1,h=>by
  rw[List.range_succ,List.countP_append,List.countP_append];rcases oG i n with hl|hl
  ·have:=aEU h1 h2 h3 n hl;have e:List.countP p' [n]=List.countP p [n]:=by simp[List.countP_cons,h3 n (by omega)]
   omega
  ·have:i=n:=by omega
   subst this;have e:(List.range i).countP p'=(List.range i).countP p:=List.countP_congr λj hj=>by
    have:=List.mem_range.1 hj;rw[h3 j (by omega)]
   simp[List.countP_cons,h1,h2,e]
theorem a1O {G:Gd} {μ:Mp} {H:Heap} {w:World} (hW:aN n0 G μ H w) {q:Nat} (hq:q<H.length) (hn:μ.loc q=none) (c:Array Value) (t:TypeId) :
  Ext n0 w G μ (w.alloc (.cells c t)) G ⟨λs=>if s=q then some w.heap.size else μ.loc s,μ.len⟩/\aN n0 G ⟨λs=>if s=q then some w.heap.size else μ.loc s,μ.len⟩ (H.set q (some ⟨lits c,t,false,false,none⟩)) (w.alloc (.cells c t)):=by
 have hnew:(w.alloc (.cells c t)).heap[w.heap.size]?=some (.cells c t (0,0)):=by
  show (w.heap.push _)[w.heap.size]?=_;simp
 have e0:=BQ hW (.cells c t) none none;have e:Ext n0 w G μ (w.alloc (.cells c t)) G ⟨λs=>if s=q then some w.heap.size else μ.loc s,μ.len⟩:={ e0 with
  map:=λr b hb=>by
   show (if r=q then some w.heap.size else μ.loc r)=some b;rw[if_neg (by rintro rfl; rw[hn]at hb; cases hb)]; exact hb
  len:=λr n h=>h }
 have key:∀ (s:Nat) (k1:Blk),(H.set q (some ⟨lits c,t,false,false,none⟩))[s]?=some (some k1)->(s=q/\k1=⟨lits c,t,false,false,none⟩)\/(s≠q/\H[s]?=some (some k1)):=by
  intro s k1 hs;rw[List.getElem?_set]at hs
  by_cases h:q=s
  ·rw[if_pos h,if_pos hq]at hs;exact .inl ⟨h.symm,(oB (oB hs)).symm⟩
  ·rw[if_neg h]at hs;exact .inr ⟨λe=>h e.symm,hs⟩
 refine⟨e,?_,?_,?_,hW.lt.step e.good λb hb=>Nat.lt_of_lt_of_le (hW.lt b hb) e.size,?_,λb hb=>hW.base b (oR e.size hb),?_⟩
 case refine_5 =>
  refine hW.rows.step e.toMono.aI e.size (λ_=>rfl) (λj b hj=>⟨Below.heap_alloc _ _ _ (hW.rows.sep j b hj).1,id,λs k1 hs hf1 hl=>?_⟩) (λs k1 t1 l1 hs hg1 ht1=>?_)
  ·rcases key s k1 hs with ⟨rfl,rfl⟩|⟨hne,hs'⟩
   ·simp only[if_true]at hl;cases hl;exact absurd (hW.rows.sep j _ hj).1 (Nat.lt_irrefl _)
   ·simp only[if_neg hne]at hl;exact⟨s,k1,hs',hf1,hl⟩
  ·rcases key s k1 hs with ⟨rfl,rfl⟩|⟨hne,hs'⟩
   ·cases ht1
   ·exact⟨k1,hs',rfl,rfl,rfl,by simp only[if_neg hne]⟩
 ·intro s k1 b hs hb;rcases key s k1 hs with ⟨rfl,rfl⟩|⟨hne,hs'⟩
  ·simp only[if_true]at hb;cases hb;refine⟨c,hnew,?_,λ_=>by simp[lits],λh=>(by cases h),λ_=>⟨hW.base _ (oM _),λhG=>Nat.lt_irrefl _ (hW.lt _ hG)⟩⟩;refine aL.mk λi p hp=>?_
   obtain⟨v,h1,h2⟩:=(yK (w:=w.alloc (.cells c t)) (G:=G) (μ:=⟨λx=>if x=s then some w.heap.size else μ.loc x,μ.len⟩) c).get hp;refine⟨v,?_,h2⟩;simp only[World.cell?,hnew,Nat.zero_add];simpa using h1
  ·simp only[if_neg hne]at hb;obtain⟨c',h2,h3,h4⟩:=hW.blk s k1 b hs' hb;have e1:(w.alloc (.cells c t)).heap[b]?=w.heap[b]?:=Below.heap_alloc _ _ _ (fL h2);exact⟨c',e1.trans h2,aL.mono e.toMono e1 0 _ h3,h4⟩
 ·intro s k1 g hs hg;rcases key s k1 hs with ⟨rfl,rfl⟩|⟨hne,hs'⟩
  ·cases hg
  ·exact hW.tags s k1 g hs' hg
 ·intro s1 s2 k1 k2 b h1 h2 f1 f2 m1 m2;rcases key s1 k1 h1 with ⟨rfl,rfl⟩|⟨l1,h1'⟩ <;> rcases key s2 k2 h2 with ⟨e2,rfl⟩|⟨l2,h2'⟩
  ·exact e2.symm
  ·simp only[if_true]at m1;simp only[if_neg l2]at m2;cases m1;exact absurd (hW.nB h2' m2) (Nat.lt_irrefl _)
  ·subst e2;simp only[if_true]at m2;simp only[if_neg l1]at m1;cases m2;exact absurd (hW.nB h1' m1) (Nat.lt_irrefl _)
  ·simp only[if_neg l1]at m1;simp only[if_neg l2]at m2;exact hW.inj s1 s2 k1 k2 b h1' h2' f1 f2 m1 m2
 ·intro r hr;rw[List.length_set]at hr;have:=hW.top r hr;exact⟨by show (if r=q then _ else _)=_; rw[if_neg (by omega)]; exact this.1,this.2⟩
theorem aO8 {o:Oper}(h:VQ o=true):o.guard=none/\(∃ d,o.dst=some d)/\((∃ t,o.op=.alloc t)\/∃ c,o.op=.call c):=by
 unfold VQ at h;rw[Bool.or_eq_true]at h;rcases h with h|h
 ·unfold isVar at h;split at h
  ·rename_i t d h1 h2 h3; exact⟨h1,⟨d,h3⟩,.inl ⟨t,h2⟩⟩
  ·cases h
 ·unfold aFN at h;split at h
  ·rename_i d h1 h2;unfold aFE at h;split at h
   ·rename_i c hc; exact⟨h1,⟨d,h2⟩,.inr ⟨c,hc⟩⟩
   ·cases h
  ·cases h
theorem aE6 {m:Option Nat}{o:Oper}{k q:Nat}(h:LY m o k=some q):∃ b,m=some b/\q=b+k/\VQ o=true:=by
 unfold LY at h;split at h
 ·cases h
 ·rename_i b;cases ha:VQ o with
  | false=>rw[ha]at h; cases h
  | true=>rw[ha]at h; exact⟨b,rfl,(oB h).symm,rfl⟩
def aP6(T:Trace P cl nt ops F H F' H') (n0:Nat->Prop) (wi:World) (Gi:Gd) (μi:Mp):Prop :=
 ∀ (S:Nat->Bool) (F1:Frm) (w:World) (a:Act),MF (dA ops) S->(∀ t,cV F1 t=pO T S t ops.size)->I n0 wi Gi μi nt F1 (eE T S ops.size) a w->∀ i o q,ops[i]?=some o->S i=false->LY T.md o i=some q ->
  ∃ G μ,Ext n0 wi Gi μi w G μ/\aN n0 G μ (eE T S ops.size) w/\fQ w G μ nt F1 a/\μ.loc q=none/\((eE T S ops.size)[q]?=some none->μ.len q=none)
theorem aLX {b:Nat}:∀ {F:Frm} (t:Nat),aNF b F=true->below b (cV F t)=true
 | [],t,_=>rfl
 | (u,p)::F,t,h=>by
  simp only[aNF,oA]at h;rw[dJ];split
  ·exact h.1
  ·exact aLX t h.2
mutual
theorem aR6 {p p':Nat->Bool} (h:∀ r,p r=true->p' r=true):∀ v:PV,inP p v=true->inP p' v=true
 | .lit _,_|.vals ..,_|.iptr _,_|.tl ..,_|.tp ..,_|.junk,_|.row ..,_|.rp ..,_|.mp _,_=>rfl
 | .own r _,hv=>h r hv
 | .op r _ _ _,hv=>h r hv
 | .win r _ _ _,hv=>h r hv
 | .hptr r _,hv=>h r hv
 | .hs r _ _ _ _,hv=>h r hv
 | .agg cs,hv=>by simp only[inP]at hv ⊢; exact J3 h cs hv
 | .tuple cs,hv=>by simp only[inP]at hv ⊢; exact J3 h cs hv
 | .clo _ f c,hv=>by
  simp only[inP,oA]at hv ⊢;exact⟨J3 h f hv.1,J3 h c hv.2⟩
theorem J3 {p p':Nat->Bool} (h:∀ r,p r=true->p' r=true):∀ l:List PV,inP.inPs p l=true->inP.inPs p' l=true
 | [],_=>rfl
 | q::l,hv=>by
  simp only[inP.inPs,oA]at hv ⊢;exact⟨aR6 h q hv.1,J3 h l hv.2⟩
end
mutual
theorem aNC {m:Nat} {p:Nat->Bool} (h:∀ r,r<m->p r=true):∀ v:PV,below m v=true->inP p v=true
 | .lit _,_|.vals ..,_|.iptr _,_|.tl ..,_|.tp ..,_|.junk,_|.row ..,_|.rp ..,_|.mp _,_=>rfl
 | .own r _,hv=>h r (fB (by simpa only[below]using hv))
 | .op r _ _ _,hv=>h r (fB (by simpa only[below]using hv))
 | .win r _ _ _,hv=>h r (fB (by simpa only[below]using hv))
 | .hptr r _,hv=>h r (fB (by simpa only[below]using hv))
 | .hs r _ _ _ _,hv=>h r (fB (by simpa only[below]using hv))
 | .agg cs,hv=>by simp only[below]at hv; simp only[inP]; exact JU h cs hv
 | .tuple cs,hv=>by simp only[below]at hv; simp only[inP]; exact JU h cs hv
 | .clo _ f c,hv=>by
  simp only[below,oA]at hv;simp only[inP,oA];exact⟨JU h f hv.1,JU h c hv.2⟩
theorem JU {m:Nat} {p:Nat->Bool} (h:∀ r,r<m->p r=true):∀ l:List PV,below.belows m l=true->inP.inPs p l=true
 | [],_=>rfl
 | q::l,hv=>by
  simp only[below.belows,oA]at hv;simp only[inP.inPs,oA];exact⟨aNC h q hv.1,JU h l hv.2⟩
end
mutual
theorem a0D {p:Nat->Bool} {w:World} {G:Gd} {μ μ':Mp} (h:∀ r,p r=true->μ'.loc r=μ.loc r/\μ'.len r=μ.len r):∀ (q:PV) (v:Value),inP p q=true->VR w G μ q v->VR w G μ' q v
 | .lit u,v,_,hv=>by rw[VR]at hv ⊢; exact hv
 | .vals ..,v,_,hv=>by rw[VR]at hv ⊢; exact hv
 | .iptr _,v,_,hv=>by rw[VR]at hv ⊢; exact hv
 | .tl ..,v,_,hv=>by rw[VR]at hv ⊢; exact hv
 | .tp ..,v,_,hv=>by rw[VR]at hv ⊢; exact hv
 | .row ..,v,_,hv=>by rw[VR]at hv ⊢; exact hv
 | .rp ..,v,_,hv=>by rw[VR]at hv ⊢; exact hv
 | .mp _,v,_,hv=>by rw[VR]at hv ⊢; exact hv
 | .junk,v,_,hv=>by rw[VR]; trivial
 | .hptr r off,v,hb,hv=>by
  have:=h r hb;rw[VR]at hv ⊢; rw[this.1]; exact hv
 | .hs r off l c s,v,hb,hv=>by
  have:=h r hb;rw[VR]at hv ⊢; rw[this.1]; exact hv
 | .own r s,v,hb,hv=>by
  have:=h r hb;rw[VR]at hv ⊢; rw[this.1,this.2]; exact hv
 | .op r i off s,v,hb,hv=>by
  have:=h r hb;rw[VR]at hv ⊢; rw[this.1]; exact hv
 | .win r lo n s,v,hb,hv=>by
  have:=h r hb;rw[VR]at hv ⊢; rw[this.1,this.2]; exact hv
 | .agg cs,v,hb,hv=>by
  rw[VR]at hv ⊢;obtain⟨vs,h1,h2⟩:=hv;exact⟨vs,h1,ZL h cs _ (by simpa only[inP]using hb) h2⟩
 | .tuple cs,v,hb,hv=>by
  rw[VR]at hv ⊢;obtain⟨vs,h1,h2⟩:=hv;exact⟨vs,h1,ZL h cs _ (by simpa only[inP]using hb) h2⟩
 | .clo fn f c,v,hb,hv=>by
  rw[VR]at hv ⊢;simp only[inP,oA]at hb;obtain⟨fs,cs,h1,h2,h3⟩:=hv;exact⟨fs,cs,h1,ZL h f _ hb.1 h2,ZL h c _ hb.2 h3⟩
theorem ZL {p:Nat->Bool} {w:World} {G:Gd} {μ μ':Mp} (h:∀ r,p r=true->μ'.loc r=μ.loc r/\μ'.len r=μ.len r):∀ (ps:List PV) (vs:List Value),inP.inPs p ps=true->VRs w G μ ps vs->VRs w G μ' ps vs
 | [],vs,_,hv=>by rw[VRs]at hv ⊢; exact hv
 | q::ps,vs,hb,hv=>by
  rw[VRs]at hv ⊢;simp only[inP.inPs,oA]at hb;obtain⟨x,xs,h1,h2,h3⟩:=hv;exact⟨x,xs,h1,a0D h q x hb.1 h2,ZL h ps xs hb.2 h3⟩
end
theorem aVJ {p:Nat->Bool}{w:World}{G:Gd}{μ μ':Mp}(h:∀ r,p r=true->μ'.loc r=μ.loc r/\μ'.len r=μ.len r){b off:Nat}{ps:List PV}(hn:inP.inPs p ps=true)(hc:aL w G μ b off ps):aL w G μ' b off ps:=by
 obtain⟨vs,h1,h2⟩:=hc.values;exact aL.nJ (ZL h ps vs hn h1) h2
theorem aJ2 {p:Nat->Bool}:∀ {H:Heap} {r:Nat} {k:Blk},aH6 p H=true->H[r]?=some (some k)->k.tag.isSome=true\/inP.inPs p k.cells=true
 | [],r,k,_,h=>by simp at h
 | x::H,0,k,hp,h=>by
  simp only[List.getElem?_cons_zero,oJ]at h;subst h;simp only[aH6,aWC,oA,Bool.or_eq_true]at hp;exact hp.1
 | x::H,r+1,k,hp,h=>by
  simp only[aH6,oA]at hp;exact aJ2 (H:=H) (r:=r) hp.2 (by simpa using h)
def aGL(b:Nat) (S:Nat->Bool) (r:Nat):Bool:=Nat.blt r b||S (r-b)
theorem Y2 {b k:Nat}{S:Nat->Bool}(hS:MF (dA ops) S)(hk:S k=true):∀ r,aWN b ((dA ops).getD k 0 ||| 2^k) r=true->aGL b S r=true:=by
 intro r h;unfold aWN at h;unfold aGL;rw[Bool.or_eq_true]at h ⊢;rcases h with h|h
 ·exact .inl h
 ·right;rw[oA,Nat.testBit_or,Bool.or_eq_true]at h;rcases h.2 with h1|h1
  ·exact hS k hk _ h1
  ·rw[Nat.testBit_two_pow]at h1;rw[<- of_decide_eq_true h1]; exact hk
theorem aND {b:Nat}(hm:T.md=some b)(hF:aNF b F=true){S:Nat->Bool}(hS:MF (dA ops) S)(t:Nat):∀ k,k<=ops.size->inP (aGL b S) (pO T S t k)=true
 | 0,_=>aNC (λr hr=>by unfold aGL; rw[cD,oT hr]; rfl) _ (aLX t hF)
 | k+1,hk=>by
  obtain⟨o,ho⟩:∃ o,ops[k]?=some o:=⟨ops[k],Array.getElem?_eq_getElem (by omega)⟩;rw[pO]
  by_cases hc:S k=true/\PR ops k=some t
  ·rw[if_pos hc];have h3:=(T.step k o ho).2.2;rw[hm]at h3;simp only[okT,oA]at h3;exact aR6 (Y2 hS hc.1) _ h3.1
  ·rw[if_neg hc];exact aND hm hF hS t k (by omega)
theorem aEZ {b:Nat}(hm:T.md=some b)(hH:RY b H=true){S:Nat->Bool}(hS:MF (dA ops) S):∀ k,k<=ops.size->∀ (r:Nat) (x:Blk),(eE T S k)[r]?=some (some x)->x.tag.isSome=true\/inP.inPs (aGL b S) x.cells=true
 | 0,_,r,x,h=>by
  rcases ZT hH h with h|h
  ·exact .inl h
  ·exact .inr (JU (λr hr=>by unfold aGL; rw[cD,oT hr]; rfl) _ h)
 | k+1,hk,r,x,h=>by
  obtain⟨o,ho⟩:∃ o,ops[k]?=some o:=⟨ops[k],Array.getElem?_eq_getElem (by omega)⟩;rw[eE]at h
  by_cases hc:S k=true/\1<T.cs k
  ·rw[if_pos hc]at h;have h3:=(T.step k o ho).2.2;rw[<- T.hbs k o ho,hm]at h3;simp only[okT,oA,a6P]at h3;replace h3:=h3.2;rw[cD,oT hc.2,oC]at h3;unfold P9 at h;split at h
   ·rename_i q hq;rw[hq]at h3;simp only at h3;rw[List.getElem?_set]at h
    by_cases hqr:q=r
    ·rw[if_pos hqr]at h;split at h
     ·have h5:=oB h;cases h6:(T.Hs (k+1))[q]? with
      | none=>rw[h6]at h5; cases h5
      | some y =>
       rw[h6]at h5;simp only[Option.getD_some]at h5;subst h5;have h7:jS (T.Hs (k+1)) q=some x:=by unfold PM.jS; rw[h6]
       rw[h7]at h3;simp only[aWC,Bool.or_eq_true]at h3;rcases h3 with h3|h3
       ·exact .inl h3
       ·exact .inr (J3 (Y2 hS hc.1) _ h3)
     ·cases h
    ·rw[if_neg hqr]at h;exact aEZ hm hH hS k (by omega) r x h
   ·rename_i hq;rw[hq]at h3;rcases aJ2 h3 h with h3|h3
    ·exact .inl h3
    ·exact .inr (J3 (Y2 hS hc.1) _ h3)
  ·rw[if_neg hc]at h;exact aEZ hm hH hS k (by omega) r x h
def aVH(b:Nat)(S:Nat->Bool)(X:Heap)(μ:Mp):Mp:=⟨λr=>if b<=r/\S (r-b)=false then none else μ.loc r,λr=>if b<=r/\S (r-b)=false/\VA X r=true then none else μ.len r⟩
theorem aL0 {b:Nat}{S:Nat->Bool}{X:Heap}{μ:Mp}:∀ s,aGL b S s=true->(aVH b S X μ).loc s=μ.loc s/\(aVH b S X μ).len s=μ.len s:=λs hs=>by
 have h:¬ (b<=s/\S (s-b)=false):=λh=>by
  unfold aGL at hs;rw[Bool.or_eq_true]at hs;rcases hs with hs|hs
  ·have:=fB hs; omega
  ·rw[h.2]at hs; cases hs
 refine⟨?_,?_⟩
 ·show (if b<=s/\S (s-b)=false then none else μ.loc s)=μ.loc s;rw[if_neg h]
 ·show (if b<=s/\S (s-b)=false/\VA X s=true then none else μ.len s)=μ.len s;rw[if_neg (λh2=>h ⟨h2.1,h2.2.1⟩)]
theorem a02(hmb:∀ b,T.md=some b->aNF b F=true/\RY b H=true/\∀ r,b<=r->μi.loc r=none/\μi.len r=none):aP6 T n0 wi Gi μi:=by
 intro S F1 w a hC hF1 hI i o q ho hS hr;obtain⟨b,hm,rfl,ha⟩:=aE6 hr;obtain⟨hF,hH,hμ⟩:=hmb b hm;obtain⟨G,μ,e,hW,hFI⟩:=hI;refine⟨G,aVH b S (eE T S ops.size) μ,?_,?_,?_,?_,?_⟩
 ·exact { e with
   map:=λr x hx=>by
    show (if b<=r/\S (r-b)=false then none else μ.loc r)=some x;rw[if_neg (λh=>by rw[(hμ r h.1).1]at hx; cases hx)];exact e.map r x hx
   len:=λr x hx=>by
    show (if b<=r/\S (r-b)=false/\VA (eE T S ops.size) r=true then none else μ.len r)=some x;rw[if_neg (λh=>by rw[(hμ r h.1).2]at hx; cases hx)];exact e.len r x hx }
 ·refine⟨?_,?_,?_,hW.lt,?_,hW.base,hW.rows.a6W λr=>?_⟩
  case refine_5 =>
   show (if b<=r/\S (r-b)=false then none else μ.loc r)=none\/(if b<=r/\S (r-b)=false then none else μ.loc r)=μ.loc r;split
   ·exact .inl rfl
   ·exact .inr rfl
  ·intro r k x hk hx;change (if b<=r/\S (r-b)=false then none else μ.loc r)=some x at hx;split at hx
   ·cases hx
   ·obtain⟨c,h1,h2,h3⟩:=hW.blk r k x hk hx;refine⟨c,h1,?_,h3⟩;rcases aEZ T hm hH hC ops.size (oM _) r k hk with h4|h4
    ·obtain⟨g,hg⟩:=Option.isSome_iff_exists.1 h4;rw[(hW.tags r k g hk hg).1]at h2 ⊢;exact rM (jL _ _) h2
    ·exact aVJ aL0 h4 h2
  ·intro r k g hk hg;obtain⟨h1,h2⟩:=hW.tags r k g hk hg;refine⟨h1,?_⟩;show (if b<=r/\S (r-b)=false/\VA (eE T S ops.size) r=true then none else μ.len r)=_;rw[if_neg (λh=>by have h3:=U4.1 h.2.2; rw[hk]at h3; cases h3)];exact h2
  ·intro r s k l x h1 h2 f1 f2 m1 m2;change (if b<=r/\S (r-b)=false then none else μ.loc r)=some x at m1;change (if b<=s/\S (s-b)=false then none else μ.loc s)=some x at m2;split at m1
   ·cases m1
   ·split at m2
    ·cases m2
    ·exact hW.inj r s k l x h1 h2 f1 f2 m1 m2
  ·intro r hr;have:=hW.top r hr;refine⟨?_,?_⟩
   ·show (if b<=r/\_ then _ else _)=_;split
    ·rfl
    ·exact this.1
   ·show (if b<=r/\S (r-b)=false/\VA (eE T S ops.size) r=true then none else μ.len r)=_;split
    ·rfl
    ·exact this.2
 ·refine⟨hFI.size,λt=>?_,hFI.defers⟩;have hv:=hFI.slot t;rw[hF1]at hv ⊢;exact a0D aL0 _ _ (aND T hm hF hC t ops.size (oM _)) hv
 ·show (if b<=b+i/\S (b+i-b)=false then none else μ.loc (b+i))=none;rw[if_pos ⟨Nat.le_add_right _ _,by rw[Nat.add_sub_cancel_left]; exact hS⟩]
 ·intro hx;show (if b<=b+i/\S (b+i-b)=false/\VA (eE T S ops.size) (b+i)=true then none else μ.len (b+i))=none;rw[if_pos ⟨Nat.le_add_right _ _,by rw[Nat.add_sub_cancel_left]; exact hS,U4.2 hx⟩]
theorem a2K {G:Gd} {μ:Mp} {H:Heap} {w:World} (hW:aN n0 G μ H w) {q:Nat} (hq:q<H.length) (hn:μ.loc q=none) (hl:μ.len q=none) {w':World} {G':Gd} {μ':Mp} {k:Blk} {sz:Nat} {v:Value}
  (e:Ext (zY w) w G.bare aI w' G' μ') (hW':aN (zY w) G' μ' [some k] w') (hv:VR w' G' μ' (.own 0 sz) v) (ht:aKB k.tag=true) :
  ∃ μ2,Ext n0 w G μ w' (G'.with G) μ2/\aN n0 (G'.with G) μ2 (H.set q (some k)) w'/\VR w' (G'.with G) μ2 (.own q sz) v:=by
 have e2:Ext n0 w G μ w' (G'.with G) ⟨λs=>if s=q then μ'.loc 0 else μ.loc s,λs=>if s=q then μ'.len 0 else μ.len s⟩:={
  good:=e.good
  map:=λr b hb=>by
   show (if r=q then μ'.loc 0 else μ.loc r)=some b;rw[if_neg (by rintro rfl; rw[hn]at hb; cases hb)]; exact hb
  len:=λr b hb=>by
   show (if r=q then μ'.len 0 else μ.len r)=some b;rw[if_neg (by rintro rfl; rw[hl]at hb; cases hb)]; exact hb
  room:=e.room
  row:=λ_ _ h=>h
  os:=e.os
  tape:=e.tape
  output:=e.output
  size:=e.size
  old:=λb hb _=>e.old b hb (Nat.not_le.2 hb)
  new:=λb hb=>by
   rcases e.new b hb with h|h
   ·exact .inl h
   ·exact .inr (hW.base b h) }
 have hnew:∀ b,μ'.loc 0=some b->∃ c,w'.heap[b]?=some (.cells c k.ty (0,0))/\aL w' G' μ' b 0 k.cells/\(k.grown=false->c.size=k.cells.length)/\(k.frozen=true->G' b)/\(k.frozen=false->zY w b/\¬ G' b):=λb hb=>hW'.blk 0 k b rfl hb
 obtain⟨g,hg,hgp⟩:∃ g,k.tag=some g/\g.t.plain=true:=by
  cases hk:k.tag with
  | none=>rw[hk]at ht; cases ht
  | some g=>rw[hk]at ht; exact⟨g,rfl,ht⟩
 obtain⟨hgc,hgl⟩:=hW'.tags 0 k g rfl hg;have key:∀ (s:Nat) (k1:Blk),(H.set q (some k))[s]?=some (some k1)->(s=q/\k1=k)\/(s≠q/\H[s]?=some (some k1)):=by
  intro s k1 hs;rw[List.getElem?_set]at hs
  by_cases h:q=s
  ·rw[if_pos h,if_pos hq]at hs;exact .inl ⟨h.symm,(oB (oB hs)).symm⟩
  ·rw[if_neg h]at hs;exact .inr ⟨λe=>h e.symm,hs⟩
 refine⟨_,e2,⟨?_,?_,?_,hW'.lt,?_,λb hb=>hW.base b (oR e.size hb),?_⟩,?_⟩
 ·intro s k1 b hs hb;rcases key s k1 hs with ⟨rfl,rfl⟩|⟨hne,hs'⟩
  ·simp only[if_true]at hb;obtain⟨c,h1,h2,h3,h4,h5⟩:=hnew b hb;refine⟨c,h1,?_,h3,h4,λhf=>⟨hW.base b (h5 hf).1,(h5 hf).2⟩⟩;rw[hgc]at h2 ⊢;exact wV (G:=G') (G':=G'.with G) (λb h=>h) _ _ _ _ (A8 _ hgp _) (rM (jL _ _) h2)
  ·simp only[if_neg hne]at hb;obtain⟨c',h2,h3,h4,h5,h6⟩:=hW.blk s k1 b hs' hb;have hlt:=hW.nB hs' hb;have e1:w'.heap[b]?=w.heap[b]?:=e.old b hlt (Nat.not_le.2 hlt);refine⟨c',e1.trans h2,aL.mono e2.toMono e1 0 _ h3,h4,λhf=>(e.good b (h5 hf)).1,λhf=>⟨(h6 hf).1,λhg=>?_⟩⟩;rcases e.new b hg with h|h
   ·exact(h6 hf).2 h
   ·exact absurd hlt (Nat.not_lt.2 h)
 ·intro s k1 g1 hs hg1;rcases key s k1 hs with ⟨rfl,rfl⟩|⟨hne,hs'⟩
  ·simp only[if_true];exact hW'.tags 0 k1 g1 rfl hg1
  ·simp only[if_neg hne];exact hW.tags s k1 g1 hs' hg1
 ·intro s1 s2 k1 k2 b h1 h2 f1 f2 m1 m2;rcases key s1 k1 h1 with ⟨rfl,rfl⟩|⟨l1,h1'⟩ <;> rcases key s2 k2 h2 with ⟨e2,rfl⟩|⟨l2,h2'⟩
  ·exact e2.symm
  ·simp only[if_true]at m1;simp only[if_neg l2]at m2;obtain⟨_,_,_,_,_,h5⟩:=hnew b m1;exact absurd (hW.nB h2' m2) (Nat.not_lt.2 (h5 f1).1)
  ·subst e2;simp only[if_true]at m2;simp only[if_neg l1]at m1;obtain⟨_,_,_,_,_,h5⟩:=hnew b m2;exact absurd (hW.nB h1' m1) (Nat.not_lt.2 (h5 f2).1)
  ·simp only[if_neg l1]at m1;simp only[if_neg l2]at m2;exact hW.inj s1 s2 k1 k2 b h1' h2' f1 f2 m1 m2
 ·intro r hr;rw[List.length_set]at hr;have:=hW.top r hr;exact⟨by show (if r=q then _ else _)=_; rw[if_neg (by omega)]; exact this.1,by show (if r=q then _ else _)=_; rw[if_neg (by omega)]; exact this.2⟩
 ·refine hW.rows.step e2.toMono.aI e.size (λ_=>rfl) (λj b hj=>?_) (λs k1 t1 l1 hs hg1 ht1=>?_)
  ·have hlt:=(hW.rows.sep j b hj).1;refine⟨e.old b hlt (Nat.not_le.2 hlt),λhg=>?_,λs k1 hs hf1 hl=>?_⟩
   ·rcases e.new b hg with h|h
    ·exact h
    ·exact absurd hlt (Nat.not_lt.2 h)
   ·rcases key s k1 hs with ⟨rfl,rfl⟩|⟨hne,hs'⟩
    ·simp only[if_true]at hl;obtain⟨_,_,_,_,_,h5⟩:=hnew b hl;exact absurd hlt (Nat.not_lt.2 (h5 hf1).1)
    ·simp only[if_neg hne]at hl;exact⟨s,k1,hs',hf1,hl⟩
  ·rcases key s k1 hs with ⟨rfl,rfl⟩|⟨hne,hs'⟩
   ·rw[hg]at ht1;cases ht1;cases hgp
   ·exact⟨k1,hs',rfl,rfl,rfl,by simp only[if_neg hne]⟩
 ·rw[VR]at hv ⊢;simp only[if_true];exact hv
theorem a3M {G:Gd} {μ:Mp} {H:Heap} {w:World} (hW:aN n0 G μ H w) {w':World} {G':Gd} {μ':Mp} (e:Ext (zY w) w G.bare aI w' G' μ') (hlt':∀ b,G' b->b<w'.heap.size):Ext n0 w G μ w' (G'.with G) μ/\aN n0 (G'.with G) μ H w':=by
 have e2:Ext n0 w G μ w' (G'.with G) μ:={
  good:=e.good
  map:=λ_ _ h=>h
  len:=λ_ _ h=>h
  room:=e.room
  row:=λ_ _ h=>h
  os:=e.os
  tape:=e.tape
  output:=e.output
  size:=e.size
  old:=λb hb _=>e.old b hb (Nat.not_le.2 hb)
  new:=λb hb=>by
   rcases e.new b hb with h|h
   ·exact .inl h
   ·exact .inr (hW.base b h) }
 have hback:∀ b,b<w.heap.size->G' b->G b:=λb hlt hg=>by
  rcases e.new b hg with h|h
  ·exact h
  ·exact absurd hlt (Nat.not_lt.2 h)
 refine⟨e2,hW.bG e2 ⟨λ_=>rfl,λj b hj=>?_⟩ ?_ hlt'⟩
 ·have hlt:=(hW.rows.sep j b hj).1;exact⟨e.old b hlt (Nat.not_le.2 hlt),hback b hlt⟩
 ·intro r k b hr hb;have hlt:=hW.nB hr hb;exact⟨e.old b hlt (Nat.not_le.2 hlt),hback b hlt⟩
def aZO:Frm->Frm
 | []=>[]
 | (t,p)::r=>(t,bif eB p&&eZ p then p else .junk)::aZO r
theorem aKX(t:Nat):∀ F:Frm,cV (aZO F) t=bif eB (cV F t)&&eZ (cV F t) then cV F t else .junk
 | []=>rfl
 | (u,p)::F=>by
  rw[aZO,dJ,dJ]
  by_cases h:t=u
  ·rw[if_pos h,if_pos h]
  ·rw[if_neg h,if_neg h]; exact aKX t F
theorem aJP:∀ {l:List PV} {p:PV},eB.noRefs l=true->p∈l->eB p=true
 | [],_,_,h=>by cases h
 | q::l,p,h,hp=>by
  simp only[eB.noRefs,oA]at h;rcases List.mem_cons.1 hp with rfl|hp
  ·exact h.1
  ·exact aJP h.2 hp
theorem aIA:∀ {l:List PV} {p:PV},eZ.noRows l=true->p∈l->eZ p=true
 | [],_,_,h=>by cases h
 | q::l,p,h,hp=>by
  simp only[eZ.noRows,oA]at h;rcases List.mem_cons.1 hp with rfl|hp
  ·exact h.1
  ·exact aIA h.2 hp
theorem aWF {P:Program} {ops:Array Oper} (hmask:P5 (dA ops) 0 ops.toList=true) {Q:Exit->Act->World->Prop} {J:Array Bool->Act->World->Prop} (hend:∀ listed a w,(∀ i,i<ops.size->listed.getD i false=true)->J listed a w->Q .normal a w)
  (hstep:∀ (listed listed':Array Bool) (a:Act) (w:World) (i:Nat) (o:Oper),ops[i]?=some o->listed.size=ops.size->listed.getD i false=false->MF (dA ops) (λi=>listed.getD i false)->(∀ b,((dA ops).getD i 0).testBit b=true->listed.getD b false=true) ->
   listed'.getD i false=true->(∀ j,j≠i->listed'.getD j false=listed.getD j false)->J listed a w->∀ K:Act->World->Prop,(∀ a' w',J listed' a' w'->K a' w')->wpOp P ops Q i K a w) {a:Act} {w:World} (hJ:J (Array.replicate ops.size false) a w) :
  wpAny P .any ops Q ops.size (Array.replicate ops.size false) a w:=by
 have hm:∀ i o,ops[i]?=some o->(dA ops).getD i 0=UA (dA ops) o.after.toList/\∀ e∈o.after,Region.binds .any e=true->e.on<i:=λi o ho=>by
  have:=aEX hmask (i:=i) (o:=o) (by simpa using ho);rwa[Nat.zero_add]at this
 have hnone:∀ listed:Array Bool,listed.size=ops.size->Region.ready .any ops listed=[]->∀ i,i<ops.size->listed.getD i false=true:=by
  intro listed hsz hr i
  induction i using Nat.strongRecOn with
  | _ i ih =>
   intro hi;cases hli:listed.getD i false with
   | true=>rfl
   | false =>
    obtain⟨o,ho⟩:∃ o,ops[i]?=some o:=⟨ops[i],Array.getElem?_eq_getElem hi⟩;have:i∈Region.ready .any ops listed:=mem_ready.2 ⟨by
     have hlt:i<listed.size:=by omega
     simpa[Array.getD,hlt]using hli,o,ho,λe he hb=>ih e.on ((hm i o ho).2 e he hb) (by have:=(hm i o ho).2 e he hb; omega)⟩
    rw[hr]at this;cases this
 have hfalse:∀ j,(Array.replicate ops.size false).getD j false=false:=λj=>by
  simp only[Array.getD];split <;> simp
 suffices key:∀ (fuel:Nat) (listed:Array Bool) (a:Act) (w:World),(List.range ops.size).countP (λi=>!listed.getD i false)=fuel->listed.size=ops.size->MF (dA ops) (λi=>listed.getD i false)->J listed a w->wpAny P .any ops Q fuel listed a w by
  refine key ops.size _ _ _ ?_ (by simp) ?_ hJ
  ·rw[List.countP_eq_length.2]
   ·simp
   ·intro i hi;rw[hfalse]; rfl
  ·intro j hj;exact absurd hj (by show ¬ (Array.replicate ops.size false).getD j false=true; rw[hfalse]; decide)
 intro fuel
 induction fuel with
 | zero =>
  intro listed a w hc hsz hcs hI;have hall:∀ i,i<ops.size->listed.getD i false=true:=λi hi=>by
   rw[List.countP_eq_zero]at hc;have:=hc i (List.mem_range.2 hi);simpa using this
  refine⟨?_,hend listed a w hall hI⟩;cases hr:Region.ready .any ops listed with
  | nil=>rfl
  | cons i r =>
   have:i∈Region.ready .any ops listed:=by rw[hr]; exact List.mem_cons_self
   obtain⟨h1,o,ho,_⟩:=mem_ready.1 this;have hi:i<ops.size:=(Array.getElem?_eq_some_iff.1 ho).1;have h2:=hall i hi;have hlt:i<listed.size:=by omega
   simp only[Array.getD,hlt,dif_pos]at h1 h2;rw[h1]at h2; cases h2
 | succ fuel ih =>
  intro listed a w hc hsz hcs hI;refine⟨λhr=>hend listed a w (hnone listed hsz hr) hI,λi hi=>?_⟩;obtain⟨h1,o,ho,hdeps⟩:=mem_ready.1 hi;have hlt:i<ops.size:=(Array.getElem?_eq_some_iff.1 ho).1;have hlt':i<listed.size:=by omega
  have hun:listed.getD i false=false:=by
   simp only[Array.getD,hlt',dif_pos]at h1 ⊢;exact h1
  have hahead:∀ b,((dA ops).getD i 0).testBit b=true->listed.getD b false=true:=λb hb=>by
   rw[(hm i o ho).1]at hb;rcases N3 _ _ hb with h0|⟨e,he,hbd,h2⟩
   ·simp at h0
   ·have he':=hdeps e (Array.mem_toList_iff.1 he) hbd;rcases h2 with rfl|h2
    ·exact he'
    ·exact hcs e.on he' b h2
  have hS':∀ j,j≠i->(listed.setIfInBounds i true).getD j false=listed.getD j false:=λj hj=>getD_set_ne false (λe=>hj e.symm)
  have hSi:(listed.setIfInBounds i true).getD i false=true:=by simp[Array.getD,hlt']
  refine hstep listed _ a w i o ho hsz hun hcs hahead hSi hS' hI _ λa' w' h=>ih _ a' w' ?_ (by simpa using hsz) ?_ h
  ·have:=aEU (p:=λi=>!listed.getD i false) (p':=λj=>!(listed.setIfInBounds i true).getD j false) (i:=i) (by simp only[hun,Bool.not_false]) (by simp only[hSi,Bool.not_true]) (λj hj=>by simp only[hS' j hj]) ops.size hlt;omega
  ·intro j hj b hb
   by_cases hji:j=i
   ·subst hji
    by_cases hbj:b=j
    ·subst hbj; exact hSi
    ·show (listed.setIfInBounds j true).getD b false=true;rw[hS' b hbj]; exact hahead b hb
   ·have hj':listed.getD j false=true:=by rw[<- hS' j hji]; exact hj
    by_cases hbi:b=i
    ·subst hbi; exact hSi
    ·show (listed.setIfInBounds i true).getD b false=true;rw[hS' b hbi]; exact hcs j hj' b hb
theorem aV3(T:Trace P cl nt ops F H F' H') (hcl:dF P cl) (hst:uH ops=true) {S S':Nat->Bool} (hcs:MF (dA ops) S) {i:Nat} {o:Oper} (ho:ops[i]?=some o) (hun:S i=false)
  (hahead:∀ b,((dA ops).getD i 0).testBit b=true->S b=true) (hSi:S' i=true) (hS':∀ j,j≠i->S' j=S j) {F1:Frm} (hF1:∀ t,cV F1 t=pO T S t ops.size) :
  ∃ c1 F2,stepT (LY T.md o i) P cl ops.toList o F1 (eE T S ops.size)=some (T.vs i,eE T S' ops.size,c1)/\LF nt F1 o.dst (T.vs i)=some F2/\∀ t,cV F2 t=pO T S' t ops.size:=by
 simp only[uH,oA]at hst;obtain⟨hmask,hpairs⟩:=hst;have hlt:i<ops.size:=(Array.getElem?_eq_some_iff.1 ho).1;have hap:∀ i j oi oj,ops[i]?=some oi->ops[j]?=some oj->i<j->((dA ops).getD j 0).testBit i=true\/oi.apart ops oj=true:=λi j oi oj hi hj hij=>by
  have:=XU hpairs (j:=j) (oj:=oj) (by simpa using hj);rw[Nat.zero_add]at this;have:=aBU this (i:=i) (oi:=oi) (by simpa using hi) (by omega);rwa[Nat.zero_add]at this
 have hbehind:∀ j,((dA ops).getD j 0).testBit i=true->S j=false:=λj hj=>by
  cases hlj:S j with
  | false=>rfl
  | true =>
   have h5:S i=true:=hcs j hlj i hj;rw[h5]at hun; cases hun
 have hwr:∀ t,(t∈o.looksAt ops\/o.dst=some t)->(∀ j,j<i->PR ops j=some t->S j=true)/\(∀ j,i<j->j<ops.size->PR ops j=some t->S j=false):=by
  intro t ht;refine⟨λj hj hd=>?_,λj hj hjs hd=>?_⟩
  ·cases hoj:ops[j]? with
   | none=>simp[PR,hoj]at hd
   | some oj =>
    simp only[PR,hoj,Option.bind_some]at hd;rcases hap j i oj o hoj ho hj with h3|h3
    ·exact hahead j h3
    ·obtain⟨a1,a2,a3⟩:=Oper.apart_spec h3;rcases ht with ht|ht
     ·exact absurd ht (a1 t hd)
     ·exact absurd ht (a2 t hd)
  ·cases hoj:ops[j]? with
   | none=>simp[PR,hoj]at hd
   | some oj =>
    simp only[PR,hoj,Option.bind_some]at hd;rcases hap i j o oj ho hoj hj with h3|h3
    ·exact hbehind j h3
    ·obtain⟨a1,a2,a3⟩:=Oper.apart_spec h3;rcases ht with ht|ht
     ·exact absurd ht (a3 t hd)
     ·exact absurd hd (a2 t ht)
 have hslot:∀ t∈o.looksAt ops,pO T S t ops.size=cV (T.Fs i) t:=λt ht=>by
  obtain⟨w1,w2⟩:=hwr t (.inl ht);rw[LN T (k:=i) (by omega) λj hj hjs hd=>by
   rcases oG i j with hl|hl
   ·exact w2 j hl hjs hd
   ·have:j=i:=by omega
    subst this; exact hun]
  rw[HU T (S':=λ_=>true) λj hj hd=>w1 j hj hd,V8 T t i (by omega)]
 obtain⟨hstep,hput,-⟩:=T.step i o ho;have hord:∀ j,j<ops.size->1<T.cs j->T.cs i≠0->SH (T.bs j) (T.bs i)=false->S j=decide (j<i):=λj hjs hx hc0 hap'=>by
  rcases Nat.lt_trichotomy j i with hl|hl|hl
  ·rw[oT hl];rcases T.hits j i hl hlt (by omega) hc0 (.inl hx)with h3|h3
   ·have:SH (T.bs j) (T.bs i)=true:=by
     revert h3
     cases T.bs j <;> cases T.bs i <;> simp only[SH,Bool.not_eq_true',imp_self,Bool.false_eq_true,false_implies]
     rename_i x y;intro h3;cases hxy:Nat.beq x y with
     | false=>rfl
     | true=>rw[oE hxy,Nat.beq_refl]at h3; cases h3
    rw[this]at hap'; cases hap'
   ·exact hahead j h3
  ·subst hl; rw[oF (by omega)]; exact hun
  ·rw[oF (by omega)];rcases T.hits i j hl hjs hc0 (by omega) (.inr hx)with h3|h3
   ·rw[h3]at hap'; cases hap'
   ·exact hbehind j h3
 have hheap:T.cs i≠0->T.bs i=none->eE T S ops.size=T.Hs i:=λhc0 hb0=>by
  have ho':∀ j,j<ops.size->1<T.cs j->S j=decide (j<i):=λj hjs hx=>hord j hjs hx hc0 (by rw[hb0]; cases T.bs j <;> rfl)
  rw[L0 T (k:=i) (by omega) λj hj hjs hx=>by rw[ho' j hjs hx,oF (by omega)]];rw[BB T (S':=λ_=>true) λj hj hx=>by rw[ho' j (by omega) hx,oT hj],PG T hcl i (by omega)]
 have hheapq:∀ q,T.cs i≠0->T.bs i=some q->(eE T S ops.size)[q]?=(T.Hs i)[q]?:=λq hc0 hb0=>by
  have ho':∀ j,j<ops.size->1<T.cs j->T.bs j=none\/T.bs j=some q->S j=decide (j<i):=λj hjs hx hbj=>hord j hjs hx hc0 (by
   rw[hb0];rcases hbj with h|h <;> rw[h]
   ·rfl
   ·simp[SH])
  have h1:=(aMR T (q:=q) (S:=S) (S':=λj=>decide (j<i)) (n:=ops.size) ho').2;rw[h1,L0 T (k:=i) (by omega) λj hj hjs hx=>oF (by omega)];rw[BB T (S':=λ_=>true) λj hj hx=>oT hj,PG T hcl i (by omega)]
 have hnewheap:eE T S' ops.size=if 1<T.cs i then P9 T i (eE T S ops.size) else eE T S ops.size:=by
  by_cases hx:1<T.cs i
  ·rw[if_pos hx];refine aGB T hx hun hSi hS' (λj hj hjs hxj hlj=>?_) ops.size hlt (oM _);cases hap':SH (T.bs j) (T.bs i)with
   | true=>rfl
   | false =>
    have:=hord j hjs hxj (by omega) hap';rw[oF (by omega)]at this;exact absurd hlj (by rw[this]; decide)
  ·rw[if_neg hx];refine BB T λj hj hxj=>?_
   exact hS' j (λe=>hx (e ▸ hxj))
 have hcg:∀ H2,stepT (LY T.md o i) P cl ops.toList o F1 H2=stepT (LY T.md o i) P cl ops.toList o (T.Fs i) H2:=λH2=>by
  have h0:∀ H2,p5 P cl ops.toList o F1 H2=p5 P cl ops.toList o (T.Fs i) H2:=λH2=>U7 λt ht=>by rw[hF1,hslot t ht]
  cases LY T.md o i with
  | none=>exact h0 H2
  | some q =>
   have h5:∀ x∈o.op.operands,ev F1 x=ev (T.Fs i) x:=λx hx=>by
    cases x with
    | tmp t =>
     have h7:t∈o.looksAt ops:=List.mem_append_left _ (List.mem_filterMap.2 ⟨.tmp t,by simpa using hx,rfl⟩);show cV F1 t=cV (T.Fs i) t;rw[hF1,hslot t h7]
    | _=>rfl
   have h6:o.op.operands.toList.map (ev F1)=o.op.operands.toList.map (ev (T.Fs i)):=List.map_congr_left λx hx=>h5 x (by simpa using hx)
   simp only[stepT,h0,h6]
 have hop:∃ c1,stepT (LY T.md o i) P cl ops.toList o F1 (eE T S ops.size)=some (T.vs i,eE T S' ops.size,c1):=by
  rw[hcg,hnewheap]
  by_cases hc0:T.cs i=0
  ·rw[hc0]at hstep ⊢;refine⟨0,(((aFB hcl hstep).2 rfl _).trans ?_)⟩;simp
  ·cases hb0:T.bs i with
   | none =>
    rw[hheap hc0 hb0];refine⟨T.cs i,hstep.trans ?_⟩
    by_cases hx:1<T.cs i
    ·rw[if_pos hx]; simp only[P9,hb0]
    ·rw[if_neg hx,(aFB hcl hstep).1 (by omega)]
   | some q =>
    obtain⟨H3,c,h3,h4⟩:=T.loc i o q ho hb0 hc0 _ (hheapq q hc0 hb0);refine⟨c,h3.trans ?_⟩;rw[h4]; simp only[P9,hb0]
 obtain⟨c1,hop⟩:=hop;have hputF1:∃ F2,LF nt F1 o.dst (T.vs i)=some F2:=by
  cases hd:o.dst with
  | none=>exact⟨F1,rfl⟩
  | some d =>
   rw[hd]at hput;simp only[LF]at hput ⊢;cases hb:Nat.blt d nt with
   | true=>exact⟨_,rfl⟩
   | false=>rw[hb]at hput; cases hput
 obtain⟨F2,hF2⟩:=hputF1;refine⟨c1,F2,hop,hF2,λt=>?_⟩;rw[Y4 hF2 t]
 by_cases hd:o.dst=some t
 ·rw[if_pos hd];symm;rw[LN T (k:=i+1) (by omega) λj hj hjs hdj=>by
   rw[hS' j (by omega)];exact(hwr t (.inr hd)).2 j (by omega) hjs hdj]
  rw[pO,if_pos ⟨hSi,by simp[PR,ho,hd]⟩]
 ·rw[if_neg hd,hF1];symm;refine HU T λj hj hdj=>hS' j ?_
  rintro rfl;simp only[PR,ho,Option.bind_some]at hdj;exact hd hdj
theorem aYY(hcl:dF P cl)(hst:uH ops=true)(hE:aP6 T n0 wi Gi μi){Q:Exit->Act->World->Prop}(hQ:∀ a' w',I n0 wi Gi μi nt F' H' a' w'->Q .normal a' w'){a:Act}{w:World}(hI:I n0 wi Gi μi nt F H a w) :
  wpAny P .any ops Q ops.size (Array.replicate ops.size false) a w:=by
 have hst2:=hst;simp only[uH,oA]at hst2;refine aWF hst2.1 (J:=λlisted a w=>∀ F1,(∀ t,cV F1 t=pO T (λi=>listed.getD i false) t ops.size)->I n0 wi Gi μi nt F1 (eE T (λi=>listed.getD i false) ops.size) a w) ?_ ?_ ?_
 ·intro listed a w hall hI;have h1:∀ t,cV F' t=pO T (λi=>listed.getD i false) t ops.size:=λt=>by rw[HU T (S':=λ_=>true) λj hj _=>hall j hj,V8 T t _ (oM _),T.fn]
  have h2:=hI F' h1;rw[BB T (S':=λ_=>true) λj hj _=>hall j hj,PG T hcl _ (oM _),T.hn]at h2;exact hQ a w h2
 ·intro listed listed' a w i o ho hsz hun hcs hahead hSi hS' hI K hK;obtain⟨F1,hF1⟩:=YE T (λi=>listed.getD i false) ops.size;have hI1:=hI F1 hF1;obtain⟨c1,F2,hop,hF2,hF3⟩:=aV3 T hcl hst hcs ho hun hahead hSi hS' hF1;generalize hH1:eE T (λk=>listed'.getD k false) ops.size=H1 at hop;have hnext:∀ (a':Act) (w':World),(∃ F2,LF nt F1 o.dst (T.vs i)=some F2/\I n0 wi Gi μi nt F2 H1 a' w')->K a' w':=by
   rintro a' w' ⟨F4,hF4,hI2⟩;obtain rfl:F2=F4:=oB (hF2.symm.trans hF4);refine hK a' w' λF5 hF5=>?_
   rw[hH1];exact hI2.congr λt=>by rw[hF5,hF3]
  cases hr:LY T.md o i with
  | some q =>
   obtain⟨G,μ,e,hW,hF,hnone,hlnone⟩:=hE (λi=>listed.getD i false) F1 w a hcs hF1 hI1 i o q ho hun hr;obtain⟨b,_,_,ha⟩:=aE6 hr;obtain⟨hg,⟨d,hd⟩,hkind⟩:=aO8 ha;rw[hr]at hop;rcases hkind with ⟨t,hop'⟩|⟨cc,hop'⟩
   case inr =>
    simp only[stepT,hop']at hop;obtain⟨hnr,hop⟩:=aH hop;split at hop
    ·rename_i v1 X c2 hs;have hcut:p5 P cl ops.toList o (aZO F1) []=some (v1,X,c2):=by
      rw[<- hs];refine U7 λt ht=>?_
      rw[aKX];have h7:Operand.tmp t∈o.op.operands:=by
       unfold Oper.looksAt at ht;rw[hg]at ht;simp only[Option.toList,List.append_nil,List.mem_filterMap]at ht;obtain⟨x,h8,h9⟩:=ht;cases x with
       | tmp u=>simp only[oJ]at h9; subst h9; simpa using h8
       | _=>cases h9
      rw[oA]at hnr;have h8:eB (cV F1 t)=true:=aJP hnr.1 (List.mem_map.2 ⟨.tmp t,by rw[<- hop']; simpa using h7,rfl⟩);have h9:eZ (cV F1 t)=true:=aIA hnr.2 (List.mem_map.2 ⟨.tmp t,by rw[<- hop']; simpa using h7,rfl⟩);rw[h8,h9]; rfl
     have hW0:aN (zY w) G.bare aI [] w:=⟨λr k b h=>by simp at h,λr k g h=>by simp at h,λr s k l b h=>by simp at h,hW.lt,λ_ _=>⟨rfl,rfl⟩,λ_ h=>h,sY.none _ _ (λ_=>rfl) _ _ (λr k h=>by simp at h)⟩;have hF0:fQ w G.bare aI nt (aZO F1) a:=⟨hF.size,λt=>by
      rw[aKX];cases hn:(eB (cV F1 t)&&eZ (cV F1 t))with
      | true =>
       rw[oA]at hn;exact PZ (G:=G) (G':=G.bare) (λb h=>h) _ _ _ hn.2 (BE _ _ hn.1 (hF.slot t))
      | false=>rw[oD,VR]; trivial,hF.defers⟩
     unfold wpOp;rw[ho];simp only;rcases HS hcl hcut hW0 hF0 with ⟨k1,k2⟩|⟨k1,k2,k3⟩
     ·rw[if_pos k1];refine .inl (k2 _ _ λv' w' G' μ' e' hW' hv'=>?_);rcases QE hop with ⟨sz,k,rfl,rfl,hv,hH,_,hq,hqn,htag⟩|⟨rfl,hn1,hv,hH,_⟩
      case inr =>
       obtain⟨m1,m2⟩:=a3M hW e' hW'.lt;rw[oA]at hn1;exact hnext _ _ ⟨F2,hF2,_,μ,e.trans m1,by rw[hH]; exact m2,(hF.mono m1.toMono).aCQ hF2 (by rw[hv]; exact(PZ (G:=G') (G':=G'.with G) (λb h=>h) _ _ _ hn1.2 (BE _ _ hn1.1 hv')).aY)⟩
      obtain⟨μ2,m1,m2,m3⟩:=a2K hW hq hnone (hlnone hqn) e' hW' hv' htag;exact hnext _ _ ⟨F2,hF2,_,μ2,e.trans m1,by rw[hH]; exact m2,(hF.mono m1.toMono).aCQ hF2 (by rw[hv]; exact m3)⟩
     ·rw[k1,if_neg (by decide)];subst k3;rcases QE hop with ⟨_,_,_,h9,_⟩|⟨_,_,hv,hH,_⟩
      ·cases h9
      ·exact hnext _ _ ⟨F2,hF2,G,μ,e,by rw[hH]; exact hW,hF.aCQ hF2 (by rw[hv,k2,VR])⟩
    ·cases hop
   simp only[stepT,hop']at hop;cases hz:xW P t with
   | none=>rw[hz]at hop; cases hop
   | some z =>
    rw[hz]at hop;simp only at hop;obtain⟨hq,hop⟩:=aH hop;simp only[oJ,oP]at hop;obtain⟨hv,hH,-⟩:=hop;obtain⟨e1,e2⟩:=a1O hW (fB hq) hnone z.cells t;unfold wpOp;rw[ho];simp only;rw[if_pos (BP hF (b:=true) (by simp only[guardOf,hg]))];refine .inl ?_;have hok:F8 P n0 w G μ o a (T.vs i) H1:=by
     refine .value (s:=Instr.alloc t true (.tuple #[])) (by simp only[execOp,hop']) ?_;refine⟨.pointer (some ⟨w.heap.size,0,none⟩),w.alloc (.cells z.cells t),G,_,?_,e1,by rw[<- hH]; exact e2,?_⟩
     ·have hzv:(zeroValue t).run P w=.ok z w:=by
       unfold xW at hz;split at hz
       ·rename_i i hi;simp[zeroValue,yT hi,hz]
       ·cases hz
      simp only[Instr.alloc,Sem.run_bind,hzv,Result.andThen_ok,newVar];simp[newRow]
     ·rw[<- hv,VR];exact⟨w.heap.size,by show (if q=q then _ else _)=_; rw[if_pos rfl],rfl⟩
    exact hok _ _ λv' w' G' μ' e' hW' hv=>hnext _ _ ⟨F2,hF2,G',μ',e.trans e',hW',(hF.mono e'.toMono).aCQ hF2 hv⟩
  | none =>
  rw[hr]at hop;replace hop:p5 P cl ops.toList o F1 (eE T (λi=>listed.getD i false) ops.size)=some (T.vs i,H1,c1):=hop;obtain⟨G,μ,e,hW,hF⟩:=hI1;unfold wpOp;rw[ho];simp only;rcases HS hcl hop hW hF with ⟨k1,k2⟩|⟨k1,k2,k3⟩
  ·rw[if_pos k1];exact .inl (k2 _ _ λv' w' G' μ' e' hW' hv=>hnext _ _ ⟨F2,hF2,G',μ',e.trans e',hW',(hF.mono e'.toMono).aCQ hF2 hv⟩)
  ·rw[k1,if_neg (by decide)];exact hnext _ _ ⟨F2,hF2,G,μ,e,by rw[k3]; exact hW,hF.aCQ hF2 (by rw[k2,VR])⟩
 ·intro F1 hF1;have hfalse:∀ j,(Array.replicate ops.size false).getD j false=false:=λj=>by
   simp only[Array.getD];split <;> simp
  rw[L0 T (k:=0) (Nat.zero_le _) λj _ _ _=>hfalse j];exact hI.congr λt=>by rw[hF1,LN T (k:=0) (Nat.zero_le _) λj _ _ _=>hfalse j]; rfl
theorem aTJ {G:Gd}{μ:Mp}{H:Heap}{w:World}(hW:aN n0 G μ H w)(n:Nat):aN n0 G μ (H++List.replicate n none) w:=by
 have key:∀ (r:Nat) (k:Blk),(H++List.replicate n none)[r]?=some (some k)->H[r]?=some (some k):=by
  intro r k h;rcases oG r H.length with hl|hl
  ·rwa[List.getElem?_append_left hl]at h
  ·rw[List.getElem?_append_right hl,List.getElem?_replicate]at h;split at h <;> cases h
 exact⟨λr k b h=>hW.blk r k b (key r k h),λr k g h=>hW.tags r k g (key r k h),λr s k l b h1 h2=>hW.inj r s k l b (key r k h1) (key s l h2),hW.lt,λr hr=>hW.top r (by rw[oH]at hr; omega),hW.base,hW.rows.a4P id (λ_ _ h=>h) (λr k h=>⟨key r k h,rfl⟩)⟩
theorem XO {b n:Nat}:∀ {H:Heap},RY b H=true->RY b (H++List.replicate n none)=true
 | [],_=>by
  rw[List.nil_append]
  induction n with
  | zero=>rfl
  | succ n ih=>rw[List.replicate_succ]; exact ih
 | none::H,h=>XO (H:=H) h
 | some k::H,h=>by
  simp only[RY,oA,List.cons_append]at h ⊢;exact⟨h.1,XO h.2⟩
theorem aYQ {H0:Heap} (T:Trace P cl nt ops F H0 F' H') (hcl:dF P cl) (hst:uH ops=true) (hE:aP6 T n0 wi Gi μi) {a:Act} {w:World} {Q:Exit->Act->World->Prop} (hI:I n0 wi Gi μi nt F H0 a w)
  (hQ:∀ a' w',I n0 wi Gi μi nt F' H' a' w'->Q .normal a' w'):wpAny P .any ops Q ops.size (Array.replicate ops.size false) a { w with drawn:=w.drawn+1 }:=by
 obtain⟨G,μ,e,hW,hF⟩:=hI;exact aYY T hcl hst hE hQ ⟨G,μ,e.trans (aCS (Nat.le_add_right _ _)),ZM hW _,hF.mono (TU _)⟩
theorem YY(hcl:dF P cl) {a:Act} {w:World} {Q:Exit->Act->World->Prop} (h:WB P cl nt ops F H=some (F',H')) (hI:I n0 wi Gi μi nt F H a w)
  (hQ:∀ a' w',I n0 wi Gi μi nt F' H' a' w'->Q .normal a' w'):wpAny P .any ops Q ops.size (Array.replicate ops.size false) a { w with drawn:=w.drawn+1 }:=by
 unfold WB at h;obtain⟨hst,h⟩:=aH h;rw[oA]at hst;split at h
 ·rename_i F2 H2 hl hs;obtain⟨hh,h⟩:=aH h;simp only[oJ,oP]at h;obtain⟨rfl,rfl⟩:=h;obtain⟨T,hT⟩:=aSV hcl hs hh;have hI0:=hI;obtain⟨G,μ,e,hW,hF⟩:=hI;refine aYQ T hcl hst.1 ?_ ?_ hQ
  ·refine a02 T λb hb=>?_
   rw[hT]at hb;have h2:=hst.2;rw[hb]at h2 ⊢;simp only[aPV,oA]at h2;refine⟨h2.1,XO h2.2,λr hr=>?_⟩;unfold V7 at hb;obtain⟨_,hb⟩:=aH hb;simp only[oJ]at hb;subst hb;refine⟨?_,?_⟩
   ·cases hx:μi.loc r with
    | none=>rfl
    | some x =>
     have:=e.map r x hx;rw[(hW.top r hr).1]at this;cases this
   ·cases hx:μi.len r with
    | none=>rfl
    | some x =>
     have:=e.len r x hx;rw[(hW.top r hr).2]at this;cases this
  ·cases V7 ops H with
   | none=>exact hI0
   | some b=>exact⟨G,μ,e,aTJ hW _,hF⟩
 ·cases h
theorem aLR(hcl:dF P cl) (hP:P.follows .mixedOrders=true) {id:Nat} {a:Act} {w:World} {Q:Exit->Act->World->Prop} (h:WB P cl nt ops F H=some (F',H')) (hI:I n0 wi Gi μi nt F H a w)
  (hQ:∀ a' w',I n0 wi Gi μi nt F' H' a' w'->Q .normal a' w'):(Code.region id ops true).wp P Q a w:=wp_region_any hP (YY hcl h hI hQ)
end
end
inductive Ex where
 | normal
 | exit (id:Nat)
 | ret
def Ex.to:Ex->Exit
 | .normal=>.normal
 | .exit id=>.exit id
 | .ret=>.ret
structure Cfg where
 nt:Nat
 bG:Nat
 slots:List Nat
 loops:List (Nat×a41)
 floor:Nat
def bQ:Code->Nat
 | .region id _ _=>id
 | .seq a _=>bQ a
 | .block _ a=>bQ a
 | .loop a=>bQ a
 | .scope a=>bQ a
 | .cond _ a _=>bQ a
 | _=>0
abbrev Out:=Option (Ex×Frm×Heap)
def iter(f:Frm->Heap->Out):Nat->Frm->Heap->Out
 | 0,_,_=>none
 | n+1,F,H=>match f F H with
  | some (.normal,F',H')=>iter f n F' H'
  | r=>r
section
variable {P:Program} {cl:Callee} {cfg:Cfg} {L:Nat} {n0:Nat->Prop} {wi:World} {Gi:Gd} {μi:Mp}
theorem I.a3B {nt:Nat}{F F':Frm}{H:Heap}{a:Act}{w:World}(h:I n0 wi Gi μi nt F H a w)(hF:∀ t,cV F' t=cV F t\/cV F' t=.junk):I n0 wi Gi μi nt F' H a w:=by
 obtain⟨G,μ,e,hW,hI⟩:=h;refine⟨G,μ,e,hW,hI.size,λt=>?_,hI.defers⟩;rcases hF t with h1|h1
 ·rw[h1]; exact hI.slot t
 ·rw[h1,VR]; trivial
def a7Q(P:Program) (n0:Nat->Prop) (wi:World) (Gi:Gd) (μi:Mp) (nt:Nat) (c:Code) (a:Act) (w:World) (r:Ex×Frm×Heap):Prop :=
 c.wp P (λe a' w'=>e=r.1.to/\I n0 wi Gi μi nt r.2.1 r.2.2 a' w') a w
end
def aHX(P:Program) (F:Frm) (H:Heap):ResultVar->Option PV
 | .tmp t=>some (cV F t)
 | .cell t ty=>match WO P H ty (cV F t)with|some (v,_)=>some v|none=>none
def uO(P:Program)(F:Frm)(H:Heap):List ResultVar->Option (List PV)
 | []=>some []
 | r::rs=>match aHX P F H r,uO P F H rs with
  | some v,some vs=>some (v::vs)
  | _,_=>none
def fG:List PV->PV
 | [v]=>v
 | vs=>.tuple vs
def start(m:Nat):Nat->List PV->Frm
 | _,[]=>[]
 | i,p::ps=>bif aCX m i then (i,p)::start m (i+1) ps else start m (i+1) ps
section
variable {P:Program} {cl:Callee} {cfg:Cfg} {L:Nat} {n0:Nat->Prop} {w:World} {G:Gd} {μ:Mp} {H:Heap}
theorem aJ0(m:Nat):∀ (ps:List PV) (i t:Nat),cV (start m i ps) t=if i<=t/\aCX m t=true then (ps[t-i]?).getD .junk else .junk
 | [],i,t=>by simp[start,cV]
 | p::ps,i,t=>by
  simp only[start];have ih:=aJ0 m ps (i+1) t;cases hi:aCX m i with
  | true =>
   rw[oC,dJ,ih]
   by_cases hti:t=i
   ·subst hti; simp[hi]
   ·rw[if_neg hti]
    by_cases hle:i<=t
    ·have e:t-i=(t-(i+1))+1:=by omega
     have h1:i+1<=t:=by omega
     simp[hle,h1,e]
    ·have h1:¬ i+1<=t:=by omega
     simp[hle,h1]
  | false =>
   rw[oD,ih]
   by_cases hti:t=i
   ·subst hti; simp[hi]
   ·by_cases hle:i<=t
    ·have e:t-i=(t-(i+1))+1:=by omega
     have h1:i+1<=t:=by omega
     simp[hle,h1,e]
    ·have h1:¬ i+1<=t:=by omega
     simp[hle,h1]
theorem AP {args:List PV}{vs:Array Value}{n m:Nat}(h:VRs w G μ args vs.toList)(hn:args.length<=n):fQ w G μ n (start m 0 args) ⟨vs++Array.replicate (n-vs.size) undef,[]⟩ where
 size:=by
  have:args.length=vs.size:=by simpa using h.length
  simp; omega
 slot t:=by
  rw[aJ0]
  by_cases hb:aCX m t=true
  case neg=>rw[if_neg (λh=>hb h.2),VR]; trivial
  rw[if_pos ⟨Nat.zero_le _,hb⟩,Nat.sub_zero];cases ht:args[t]? with
  | none=>simp only[Option.getD_none]; rw[VR]; trivial
  | some p =>
   obtain⟨v,h1,h2⟩:=h.get ht;have hv:vs[t]?=some v:=by simpa using h1
   have hlt:t<vs.size:=(Array.getElem?_eq_some_iff.1 hv).1;have:(vs++Array.replicate (n-vs.size) undef).getD t undef=v:=by rw[Array.getD_eq_getD_getElem?,Array.getElem?_append_left hlt,hv]; rfl
   rw[this]; exact h2
 defers:=rfl
def aNU(tmps:Array Value):ResultVar->Sem Value
 | .tmp t=>pure (tmps.getD t undef)
 | .cell b t=>do loadVar t (<- asAddr (tmps.getD b undef))
theorem DR(fn:Func)(tmps:Array Value):results fn tmps=(do let vs <- fn.results.mapM (aNU tmps); pure (if h:vs.size=1 then vs[0] else .tuple vs)):=by
 unfold results;refine oZ (λf:ResultVar->Sem Value=>(do let vs <- fn.results.mapM f; pure (if h:vs.size=1 then vs[0] else .tuple vs):Sem Value)) (funext λr=>?_);cases r <;> rfl
theorem rD {nt:Nat}{F:Frm}{a:Act}(hW:aN n0 G μ H w)(hF:fQ w G μ nt F a):∀ {rs:List ResultVar} {vs:List PV},uO P F H rs=some vs->∃ us:List Value,(rs.mapM (aNU a.tmps)).run P w=.ok us w/\VRs w G μ vs us
 | [],vs,h=>by
  simp only[uO,oJ]at h;subst h;exact⟨[],rfl,by rw[VRs]⟩
 | r::rs,vs,h=>by
  simp only[uO]at h;split at h
  ·rename_i v vs' hv hvs;simp only[oJ]at h;subst h;obtain⟨us,h1,h2⟩:=rD hW hF hvs;cases r with
   | tmp t =>
    simp only[aHX,oJ]at hv;subst hv;refine⟨a.tmps.getD t undef::us,?_,by rw[VRs]; exact⟨_,_,rfl,hF.slot t,h2⟩⟩;rw[List.mapM_cons];simp only[aNU,Sem.run_bind,Sem.run_pure,Result.andThen_ok,h1]
   | cell b t =>
    simp only[aHX]at hv;split at hv
    ·rename_i u c hu;simp only[oJ]at hv;subst hv;obtain⟨v',h3,h4⟩:=aFY (P:=P) hW (hF.slot b) hu;refine⟨v'::us,?_,by rw[VRs]; exact⟨_,_,rfl,h4,h2⟩⟩;have h5:(do loadVar t (<- asAddr (a.tmps.getD b undef)):Sem Value).run P w=.ok v' w:=by
      have hs:=hF.slot b;simp only[Instr.loadAt]at h3;cases hp:a.tmps.getD b undef <;> rw[hp]at h3 <;> simp[Instr.sureAddr]at h3
      rename_i ad;cases ad with
      | none=>simp[Instr.sureAddr]at h3
      | some ad=>simpa[asAddr,Instr.sureAddr]using h3
     rw[List.mapM_cons];simp only[aNU,Sem.run_bind]at h5 ⊢;simp only[h5,Sem.run_pure,Result.andThen_ok,h1]
    ·cases hv
  ·cases h
theorem tM {vs:List PV}{us:List Value}(h:VRs w G μ vs us):VR w G μ (fG vs) (if hh:us.toArray.size=1 then us.toArray[0] else .tuple us.toArray):=by
 match vs,us,h with
 | [v],us,h =>
  rw[VRs]at h;obtain⟨x,xs,rfl,h1,h2⟩:=h;rw[VRs]at h2;subst h2;simpa[fG]using h1
 | [],us,h =>
  rw[VRs]at h;subst h;simp only[fG];rw[VR];exact⟨_,by simp; rfl,by simp[VRs]⟩
 | v::v2::vs,us,h =>
  have hl:=h.length;simp only[List.length_cons]at hl;have:¬ us.toArray.size=1:=by simp; omega
  rw[dif_neg this];simp only[fG];rw[VR];exact⟨_,rfl,by simpa using h⟩
end
def VE(f:PV->Option PV):List PV->Option (List PV)
 | []=>some []
 | p::ps=>match f p with
  | some q=>match VE f ps with
   | some qs=>some (q::qs)
   | none=>none
  | none=>none
def inl(fz:Bool) (H:Heap):Nat->PV->Option PV
 | _,.lit v=>some (.lit v)
 | _,.vals cs n cap=>some (.vals cs n cap)
 | _,.iptr cs=>some (.iptr cs)
 | _,.tl t l cap e=>some (.tl t l cap e)
 | _,.tp t l i off e=>some (.tp t l i off e)
 | _,.row j lo n sz=>some (.row j lo n sz)
 | _,.own r _=>match jS H r with
  | some k=>match k.tag with
   | some g=>bif k.frozen||!fz then some (L4 g.t g.l none) else none
   | none=>none
  | none=>none
 | _,.win r lo n sz=>match jS H r with
  | some k=>match k.tag with
   | some g=>bif (k.frozen||!fz)&&Nat.beq sz g.t.size then some (L4 g.t ((g.l.drop lo).take n) none) else none
   | none=>none
  | none=>none
 | n+1,.hs r off len _ sz=>match jS H r with
  | some k=>bif (k.frozen||!fz)&&Nat.ble (off+len*sz) k.cells.length then match VE (λp=>inl fz H n p) ((k.cells.drop off).take (len*sz))with
    | some cs=>some (.vals cs len none)
    | none=>none
   else none
  | none=>none
 | n+1,.hptr r off=>match jS H r with
  | some k=>bif k.frozen||!fz then match VE (λp=>inl fz H n p) (k.cells.drop off)with
    | some cs=>some (.iptr cs)
    | none=>none
   else none
  | none=>none
 | n+1,.agg cs=>match VE (λp=>inl fz H n p) cs with|some qs=>some (.agg qs)|none=>none
 | n+1,.tuple cs=>match VE (λp=>inl fz H n p) cs with|some qs=>some (.tuple qs)|none=>none
 | n+1,.clo fn f c=>match VE (λp=>inl fz H n p) f,VE (λp=>inl fz H n p) c with
  | some f',some c'=>some (.clo fn f' c')
  | _,_=>none
 | _,_=>none
section
variable {P:Program} {n0:Nat->Prop} {w:World} {G G':Gd} {μ:Mp} {H:Heap}
theorem OV {f:PV->Option PV}(hf:∀ p q v,f p=some q->VR w G μ p v->VR w G' aI q v):∀ {ps qs:List PV} {vs:List Value},VE f ps=some qs->VRs w G μ ps vs->VRs w G' aI qs vs
 | [],qs,vs,h,hv=>by
  simp only[VE,oJ]at h;subst h;rw[VRs]at hv ⊢; exact hv
 | p::ps,qs,vs,h,hv=>by
  simp only[VE]at h;split at h
  ·rename_i q hq;split at h
   ·rename_i qs' hqs;simp only[oJ]at h;subst h;rw[VRs]at hv ⊢;obtain⟨x,xs,h1,h2,h3⟩:=hv;exact⟨x,xs,h1,hf p q x hq h2,OV hf hqs h3⟩
   ·cases h
  ·cases h
theorem aBS {f:PV->Option PV}(hf:∀ p q v,f p=some q->VR w G μ p v->VR w G' aI q v){b:Nat}:∀ {ps qs:List PV} {off:Nat},VE f ps=some qs->aL w G μ b off ps->aL w G' aI b off qs
 | [],qs,off,h,hv=>by
  simp only[VE,oJ]at h;subst h;rw[aL]; trivial
 | p::ps,qs,off,h,hv=>by
  simp only[VE]at h;split at h
  ·rename_i q hq;split at h
   ·rename_i qs' hqs;simp only[oJ]at h;subst h;rw[aL]at hv ⊢;obtain⟨⟨v,h1,h2⟩,h3⟩:=hv;exact⟨⟨v,h1,hf p q v hq h2⟩,aBS hf hqs h3⟩
   ·cases h
  ·cases h
theorem J9(hW:aN n0 G μ H w){fz:Bool}(hR:∀ j b,G.row j=some b->G'.row j=some b)(hG:∀ b,G b->G' b)(hB:∀ r k b,H[r]?=some (some k)->(k.frozen=true\/fz=false)->μ.loc r=some b->G' b):∀ (n:Nat) (p q:PV) (v:Value),inl fz H n p=some q->VR w G μ p v->VR w G' aI q v:=by
 have hm:Mono w G aI w G' aI:=⟨λb hb=>⟨hG b hb,rfl⟩,λ_ _ h=>h,λ_ _ h=>h,λ_ _ h=>h,hR⟩;have base:∀ (p q:PV) (v:Value),some p=some q->eB p=true->VR w G μ p v->VR w G' aI q v:=λp q v h hn hv=>by
  cases h;exact VR.mono hm _ _ (BE p v hn hv)
 have owned:∀ (r sz:Nat) (q:PV) (v:Value),(match jS H r with
  | some k=>match k.tag with
   | some g=>bif k.frozen||!fz then some (L4 g.t g.l none) else none
   | none=>none
  | none=>none)=some q->VR w G μ (.own r sz) v->VR w G' aI q v:=λr sz q v h hv=>by
  split at h
  ·rename_i k hk;split at h
   ·rename_i g hg;obtain⟨hb,h⟩:=aH h;simp only[Bool.or_eq_true,Bool.not_eq_true']at hb;simp only[oJ]at h;subst h;exact GJ hW hv hk hg hG (λb h1=>hB r k b (aJ hk) hb h1) hR
   ·cases h
  ·cases h
 have wind:∀ (r lo n sz:Nat) (q:PV) (v:Value),(match jS H r with
  | some k=>match k.tag with
   | some g=>bif (k.frozen||!fz)&&Nat.beq sz g.t.size then some (L4 g.t ((g.l.drop lo).take n) none) else none
   | none=>none
  | none=>none)=some q->VR w G μ (.win r lo n sz) v->VR w G' aI q v:=λr lo n sz q v h hv=>by
  split at h
  ·rename_i k hk;split at h
   ·rename_i g hg;obtain⟨hb,h⟩:=aH h;simp only[oA,Bool.or_eq_true,Bool.not_eq_true']at hb;simp only[oJ]at h;subst h;exact aS5 hW hv hk hg (oE hb.2) hG (λb h1=>hB r k b (aJ hk) hb.1 h1) hR
   ·cases h
  ·cases h
 intro n
 induction n with
 | zero =>
  intro p q v h hv;cases p <;> simp only[inl]at h <;> first|(cases h; done)|exact base _ q v h rfl hv|exact owned _ _ q v h hv|exact wind _ _ _ _ q v h hv
 | succ n ih =>
  intro p q v h hv;cases p with
  | lit u=>simp only[inl]at h; exact base _ q v h rfl hv
  | vals cs k cap=>simp only[inl]at h; exact base _ q v h rfl hv
  | iptr cs=>simp only[inl]at h; exact base _ q v h rfl hv
  | junk=>simp only[inl]at h; cases h
  | tl t l cap e=>simp only[inl]at h; exact base _ q v h rfl hv
  | tp t l i off e=>simp only[inl]at h; exact base _ q v h rfl hv
  | own r sz=>simp only[inl]at h; exact owned r sz q v h hv
  | op r i off sz=>simp only[inl]at h; cases h
  | row j lo n sz=>simp only[inl]at h; exact base _ q v h rfl hv
  | rp j off=>simp only[inl]at h; cases h
  | mp j=>simp only[inl]at h; cases h
  | win r lo n sz=>simp only[inl]at h; exact wind r lo n sz q v h hv
  | hs r off len cap sz =>
   simp only[inl]at h;split at h
   ·rename_i k hk;cases hb:((k.frozen||!fz)&&Nat.ble (off+len*sz) k.cells.length)with
    | false=>rw[hb]at h; cases h
    | true =>
     rw[hb]at h;simp only[oC]at h;simp only[oA,Bool.or_eq_true,Bool.not_eq_true']at hb;split at h
     ·rename_i cs hcs;simp only[oJ]at h;subst h;rw[VR]at hv; rw[VR];obtain⟨b,c,h1,rfl,h3,_,_⟩:=hv;obtain⟨c',g2,g3,_⟩:=hW.blk r k b (aJ hk) h1;refine⟨_,c,rfl,h3,λk hk=>(by cases hk),.inr ⟨b,off,rfl,hB r k b (aJ hk) hb.1 h1,?_⟩⟩;have:=g3.sub off (len*sz);rw[Nat.zero_add]at this;exact aBS (λp q v h hv=>ih p q v h hv) hcs this
     ·cases h
   ·cases h
  | hptr r off =>
   simp only[inl]at h;split at h
   ·rename_i k hk;cases hb:(k.frozen||!fz)with
    | false=>rw[hb]at h; cases h
    | true =>
     rw[hb]at h;simp only[oC]at h;simp only[Bool.or_eq_true,Bool.not_eq_true']at hb;split at h
     ·rename_i cs hcs;simp only[oJ]at h;subst h;rw[VR]at hv; rw[VR];obtain⟨b,h1,rfl⟩:=hv;obtain⟨c',g2,g3,_⟩:=hW.blk r k b (aJ hk) h1;refine⟨b,off,rfl,hB r k b (aJ hk) hb h1,?_⟩;have:=g3.drop off;rw[Nat.zero_add]at this;exact aBS (λp q v h hv=>ih p q v h hv) hcs this
     ·cases h
   ·cases h
  | agg cs =>
   simp only[inl]at h;split at h
   ·rename_i qs hqs;simp only[oJ]at h;subst h;rw[VR]at hv ⊢;obtain⟨vs,h1,h2⟩:=hv;exact⟨vs,h1,OV (λp q v h hv=>ih p q v h hv) hqs h2⟩
   ·cases h
  | tuple cs =>
   simp only[inl]at h;split at h
   ·rename_i qs hqs;simp only[oJ]at h;subst h;rw[VR]at hv ⊢;obtain⟨vs,h1,h2⟩:=hv;exact⟨vs,h1,OV (λp q v h hv=>ih p q v h hv) hqs h2⟩
   ·cases h
  | clo fn f c =>
   simp only[inl]at h;split at h
   ·rename_i f' c' hf hc;simp only[oJ]at h;subst h;rw[VR]at hv ⊢;obtain⟨fs,cs,h1,h2,h3⟩:=hv;exact⟨fs,cs,h1,OV (λp q v h hv=>ih p q v h hv) hf h2,OV (λp q v h hv=>ih p q v h hv) hc h3⟩
   ·cases h
def LO(P:Program) (g:FuncId) (args:List PV) (r:PV):Prop :=
 ∀ (w:World) (G:Nat->Prop) (vs:Array Value),Lt w G->VRs w (Gd.of G) aI args vs.toList ->
  (callFunc g vs).run P w=.ok (.enter g vs) w/\Calls P g vs w λe w'=>∃ v' G',e=.returned v'/\Ext (zY w) w (Gd.of G) aI w' (Gd.of G') aI/\(∀ b,G' b->b<w'.heap.size)/\VR w' (Gd.of G') aI r v'
def aHU:PV->Bool
 | .lit _=>true
 | _=>false
def aOL:PV->Bool
 | .lit _=>true
 | .agg cs=>cs.all aHU
 | _=>false
def flat:PV->Bool
 | .lit _=>true
 | .agg cs=>cs.all aHU
 | .tuple cs=>cs.all aOL
 | _=>false
theorem aFT {w':World}{G':Gd}:∀ {ps:List PV} {vs:List Value},ps.all aHU=true->VRs w G aI ps vs->VRs w' G' μ ps vs
 | [],vs,_,h=>by rw[VRs]at h ⊢; exact h
 | p::ps,vs,hf,h=>by
  simp only[List.all_cons,oA]at hf;rw[VRs]at h ⊢;obtain⟨x,xs,h1,h2,h3⟩:=h;refine⟨x,xs,h1,?_,aFT hf.2 h3⟩;cases p <;> simp only[aHU]at hf <;> try (exact absurd hf.1 (by decide))
  rw[VR]at h2 ⊢;exact h2
theorem aM4 {w':World}{G':Gd}:∀ {ps:List PV} {vs:List Value},ps.all aOL=true->VRs w G aI ps vs->VRs w' G' μ ps vs
 | [],vs,_,h=>by rw[VRs]at h ⊢; exact h
 | p::ps,vs,hf,h=>by
  simp only[List.all_cons,oA]at hf;rw[VRs]at h ⊢;obtain⟨x,xs,h1,h2,h3⟩:=h;refine⟨x,xs,h1,?_,aM4 hf.2 h3⟩;cases p <;> simp only[aOL]at hf <;> try (exact absurd hf.1 (by decide))
  ·rw[VR]at h2 ⊢;exact h2
  ·rw[VR]at h2 ⊢;obtain⟨us,q1,q2⟩:=h2;exact⟨us,q1,aFT hf.1 q2⟩
theorem a3I {w':World}{G':Gd}{p:PV}{v:Value}(hf:flat p=true)(h:VR w G aI p v):VR w' G' μ p v:=by
 cases p <;> simp only[flat]at hf <;> try (cases hf; done)
 ·rw[VR]at h ⊢; exact h
 ·rw[VR]at h ⊢;obtain⟨vs,h1,h2⟩:=h;exact⟨vs,h1,aFT hf h2⟩
 ·rw[VR]at h ⊢;obtain⟨vs,h1,h2⟩:=h;exact⟨vs,h1,aM4 hf h2⟩
theorem aNE(hW:aN n0 G μ H w) {w':World} {G0 G1:Gd} (hG:∀ b,G b->G0 b) (hG0:∀ b,G0 b->G b\/∃ r,μ.loc r=some b) (e:Ext (zY w) w G0 aI w' G1 aI) (hlt:∀ b,G1 b->b<w'.heap.size) {G':Gd}
  (hG':∀ b,G' b->G b\/w.heap.size<=b/\b<w'.heap.size) (hGG':∀ b,G b->G' b) (hrow:∀ j,G'.row j=G.row j):Ext n0 w G μ w' G' μ/\aN n0 G' μ H w':=by
 have e':Ext n0 w G μ w' G' μ:={
  good:=λb hb=>⟨hGG' b hb,e.old b (hW.lt b hb) (Nat.not_le.2 (hW.lt b hb))⟩
  map:=λ_ _ h=>h
  len:=λ_ _ h=>h
  room:=e.room
  row:=λj b h=>by rw[hrow]; exact h
  os:=e.os
  tape:=e.tape
  output:=e.output
  size:=e.size
  old:=λb hb _=>e.old b hb (Nat.not_le.2 hb)
  new:=λb hb=>by
   rcases hG' b hb with h|h
   ·exact .inl h
   ·exact .inr (hW.base b h.1) }
 refine⟨e',hW.bG e' ⟨hrow,λj b hj=>?_⟩ ?_ ?_⟩
 ·have hlt:=(hW.rows.sep j b hj).1;refine⟨e.old b hlt (Nat.not_le.2 hlt),λhb'=>?_⟩;rcases hG' b hb' with h|h
  ·exact h
  ·omega
 ·intro r k b hr hb;have hlt:b<w.heap.size:=hW.nB hr hb;refine⟨e.old b hlt (Nat.not_le.2 hlt),λhb'=>?_⟩;rcases hG' b hb' with h|h
  ·exact h
  ·omega
 ·intro b hb;rcases hG' b hb with h|h
  ·exact Nat.lt_of_lt_of_le (hW.lt b h) e.size
  ·exact h.2
theorem aX8(hW:aN n0 G μ H w) {g:FuncId} {args qs:List PV} {r:PV} {n:Nat} {vs:List Value} (hp:LO P g qs r) (hq:VE (inl false H n) args=some qs) (hn:eZ.noRows qs=true) (hf:flat r=true) (hv:VRs w G μ args vs):xH P n0 w G μ g vs.toArray r H:=by
 have hlive:∀ r k b,H[r]?=some (some k)->μ.loc r=some b->b<w.heap.size:=λr k b hr hb=>by exact hW.nB hr hb
 have hvs:VRs w (⟨λb=>b<w.heap.size,G.row⟩:Gd) aI qs vs:=OV (λp q v h hv=>J9 (G':=⟨λb=>b<w.heap.size,G.row⟩) hW (λ_ _ h=>h) (λb hb=>hW.lt b hb) (λr k b hr _ hb=>hlive r k b hr hb) n p q v h hv) hq hv;have hvs:VRs w (Gd.of λb=>b<w.heap.size) aI qs vs:=vS (G:=⟨λb=>b<w.heap.size,G.row⟩) (G':=Gd.of λb=>b<w.heap.size) (λb h=>h) _ _ _ hn hvs;obtain⟨h1,h2⟩:=hp w (λb=>b<w.heap.size) vs.toArray hW.lt.all (by simpa using hvs)
 refine⟨h1,h2.mono ?_⟩;rintro e w' ⟨v',G',rfl,e1,e2,e3⟩;have e4:Ext n0 w G μ w' G μ:={
  good:=λb hb=>⟨hb,e1.old b (hW.lt b hb) (Nat.not_le.2 (hW.lt b hb))⟩
  map:=λ_ _ h=>h
  len:=λ_ _ h=>h
  room:=e1.room
  row:=λ_ _ h=>h
  os:=e1.os
  tape:=e1.tape
  output:=e1.output
  size:=e1.size
  old:=λb hb _=>e1.old b hb (Nat.not_le.2 hb)
  new:=λb hb=>.inl hb }
 refine⟨v',G,μ,rfl,e4,hW.bG e4 ⟨λ_=>rfl,λj b hj=>⟨e1.old b (hW.rows.sep j b hj).1 (Nat.not_le.2 (hW.rows.sep j b hj).1),id⟩⟩ ?_ ?_,a3I hf e3⟩
 ·intro r k b hr hb;exact⟨e1.old b (hlive r k b hr hb) (Nat.not_le.2 (hlive r k b hr hb)),id⟩
 ·intro b hb;exact Nat.lt_of_lt_of_le (hW.lt b hb) e1.size
theorem aX5(hW:aN n0 G μ H w) {g:FuncId} {args qs:List PV} {r:PV} {n:Nat} {vs:List Value} (hp:LO P g qs r) (hq:VE (inl true H n) args=some qs) (hn:eZ.noRows qs=true) (hv:VRs w G μ args vs):xH P n0 w G μ g vs.toArray r H:=by
 have hvs:VRs w G aI qs vs:=OV (λp q v h hv=>J9 hW (λ_ _ h=>h) (λb hb=>hb) (λr k b hr hf hb=>by
  obtain⟨c,h2,_,_,h5,_⟩:=hW.blk r k b hr hb;rcases hf with hf|hf
  ·exact h5 hf
  ·cases hf) n p q v h hv) hq hv
 have hvs:VRs w (Gd.of G.ok) aI qs vs:=vS (G:=G) (G':=Gd.of G.ok) (λb h=>h) _ _ _ hn hvs;obtain⟨h1,h2⟩:=hp w G.ok vs.toArray hW.lt (by simpa using hvs);refine⟨h1,h2.mono ?_⟩;rintro e w' ⟨v',G',rfl,e1,e2,e3⟩;obtain⟨e4,e5⟩:=aNE (G':=⟨G',G.row⟩) hW (G0:=Gd.of G.ok) (λb h=>h) (λb h=>.inl h) e1 e2 (λb hb=>by
  rcases e1.new b hb with h|h
  ·exact .inl h
  ·exact .inr ⟨h,e2 b hb⟩) (λb hb=>(e1.good b hb).1) (λ_=>rfl)
 exact⟨v',⟨G',G.row⟩,μ,rfl,e4,e5,(VR.mono (aWG (λb h=>h)) _ _ e3).aY⟩
end
def reach(H:Heap):Nat->PV->List Nat
 | n+1,.hs r _ _ _ _=>r::(match jS H r with|some k=>k.cells.flatMap (λp=>reach H n p)|none=>[])
 | n+1,.hptr r _=>r::(match jS H r with|some k=>k.cells.flatMap (λp=>reach H n p)|none=>[])
 | _,.own r _=>[r]
 | _,.op r _ _ _=>[r]
 | _,.win r _ _ _=>[r]
 | n+1,.agg cs=>cs.flatMap (λp=>reach H n p)
 | n+1,.tuple cs=>cs.flatMap (λp=>reach H n p)
 | n+1,.clo _ f c=>f.flatMap (λp=>reach H n p)++c.flatMap (λp=>reach H n p)
 | _,_=>[]
def depth:Nat:=16
def a6Q(P:Program) (t:TypeId):Bool:=match P.info? t with
 | some i=>!i.hasPointers||(match P.underlying t with|some .string=>true|_=>false)
 | none=>false
def aE1(P:Program)(g:FuncId):Bool:=match P.funcs[g]? with
 | some fn=>fn.resultTypes.toList.all (a6Q P)
 | none=>false
def callee(P:Program) (sh:FuncId->Bool) (pure:FuncId->List PV->Option PV) (shared:FuncId->List PV->Heap->Option (PV×Heap)):Callee:=λg args H =>
 bif sh g then match shared g args H with
  | some (r,H')=>some (r,H',2)
  | none=>none
 else bif eB.noRefs args then bif eZ.noRows args then match pure g args with
  | some r=>some (r,H,0)
  | none=>none
  else none
 else bif aE1 P g then match VE (λp=>inl false H depth p) args with
  | some qs=>bif eZ.noRows qs then match pure g qs with
   | some r=>bif flat r then some (r,H,1) else none
   | none=>none
   else none
  | none=>none
 else match QD H (args.flatMap (λp=>reach H depth p))with
  | H1=>match VE (λp=>inl true H1 depth p) args with
   | some qs=>bif eZ.noRows qs then match pure g qs with
    | some r=>some (r,H1,2)
    | none=>none
    else none
   | none=>none
section
variable {P:Program} {n0:Nat->Prop} {w:World} {G:Gd} {μ:Mp} {H:Heap}
theorem xH.trans {g:FuncId}{vs:Array Value}{r:PV}{H':Heap}{G1:Gd}(e:Ext n0 w G μ w G1 μ)(h:xH P n0 w G1 μ g vs r H'):xH P n0 w G μ g vs r H':=by
 refine⟨h.1,h.2.mono ?_⟩;rintro x w' ⟨v',G',μ',rfl,e1,e2,e3⟩;exact⟨v',G',μ',rfl,e.trans e1,e2,e3⟩
theorem aXJ {sh:FuncId->Bool} {pure:FuncId->List PV->Option PV} {shared:FuncId->List PV->Heap->Option (PV×Heap)} (hp:∀ g args r,pure g args=some r->LO P g args r)
  (hs:∀ g args H r H',shared g args H=some (r,H')->∀ {n0 G μ w vs},aN n0 G μ H w->VRs w G μ args vs->xH P n0 w G μ g vs.toArray r H'):dF P (callee P sh pure shared) where
 call:=by
  intro g args H r H' c h n0 G μ w vs hW hv;unfold callee at h;cases hsh:sh g with
  | true =>
   rw[hsh]at h;simp only[oC]at h;split at h
   ·rename_i r1 H1 hr;simp only[oJ,oP]at h;obtain⟨rfl,rfl,rfl⟩:=h;exact hs g args H r1 H1 hr hW hv
   ·cases h
  | false =>
   rw[hsh]at h;simp only[oD]at h;cases hn:eB.noRefs args with
   | true =>
    rw[hn]at h;simp only[oC]at h;obtain⟨hnr,h⟩:=aH h;split at h
    ·rename_i r1 hr;simp only[oJ,oP]at h;obtain⟨rfl,rfl,rfl⟩:=h;obtain⟨h1,h2⟩:=hp g args r1 hr w G.ok vs.toArray hW.lt (by simpa using vS (G:=G) (G':=Gd.of G.ok) (λb h=>h) _ _ _ hnr (dB _ _ hn hv));refine⟨h1,h2.mono ?_⟩;rintro e w' ⟨v',G',rfl,e1,e2,e3⟩;obtain⟨e4,e5⟩:=aNE (G':=⟨G',G.row⟩) hW (G0:=Gd.of G.ok) (λb h=>h) (λb h=>.inl h) e1 e2 (λb hb=>by
      rcases e1.new b hb with h|h
      ·exact .inl h
      ·exact .inr ⟨h,e2 b hb⟩) (λb hb=>(e1.good b hb).1) (λ_=>rfl)
     exact⟨v',⟨G',G.row⟩,μ,rfl,e4,e5,(VR.mono (aWG (λb h=>h)) _ _ e3).aY⟩
    ·cases h
   | false =>
    rw[hn]at h;simp only[oD]at h;cases hf:aE1 P g with
    | true =>
     rw[hf]at h;simp only[oC]at h;split at h
     ·rename_i qs hq;obtain⟨hnr,h⟩:=aH h;split at h
      ·rename_i r1 hr;cases hfl:flat r1 with
       | true =>
        rw[hfl]at h;simp only[oC,oJ,oP]at h;obtain⟨rfl,rfl,rfl⟩:=h;exact aX8 hW (hp g qs r1 hr) hq hnr hfl hv
       | false=>rw[hfl]at h; cases h
      ·cases h
     ·cases h
    | false =>
     rw[hf]at h;simp only[oD]at h;split at h
     ·rename_i qs hq;obtain⟨hnr,h⟩:=aH h;split at h
      ·rename_i r1 hr;simp only[oJ,oP]at h;obtain⟨rfl,rfl,rfl⟩:=h;obtain⟨G1,e1,hW1⟩:=MQ (args.flatMap (λp=>reach H depth p)) H G hW;exact(aX5 hW1 (hp g qs r1 hr) hq hnr (VRs.mono e1.toMono _ _ hv)).trans e1
      ·cases h
     ·cases h
 free:=by
  intro g args H r H' h;unfold callee at h ⊢;cases hsh:sh g with
  | true =>
   rw[hsh]at h;simp only[oC]at h;split at h
   ·simp only[oJ,oP]at h;exact absurd h.2.2 (by decide)
   ·cases h
  | false =>
   rw[hsh]at h;simp only[oD]at h ⊢;cases hn:eB.noRefs args with
   | true =>
    rw[hn]at h;simp only[oC]at h ⊢;obtain⟨hnr,h⟩:=aH h;rw[hnr];split at h
    ·rename_i r1 hr;simp only[oJ,oP]at h;obtain⟨rfl,rfl,_⟩:=h;exact⟨rfl,λH2=>rfl⟩
    ·cases h
   | false =>
    rw[hn]at h;simp only[oD]at h;cases hf:aE1 P g with
    | true =>
     rw[hf]at h;simp only[oC]at h;split at h
     ·obtain⟨_,h⟩:=aH h;split at h
      ·rename_i r1 hr;cases hfl:flat r1 with
       | true =>
        rw[hfl]at h;simp only[oC,oJ,oP]at h;exact absurd h.2.2 (by decide)
       | false=>rw[hfl]at h; cases h
      ·cases h
     ·cases h
    | false =>
     rw[hf]at h;simp only[oD]at h;split at h
     ·obtain⟨_,h⟩:=aH h;split at h
      ·simp only[oJ,oP]at h;exact absurd h.2.2 (by decide)
      ·cases h
     ·cases h
 reads:=by
  intro g args H r H' h;unfold callee at h;cases hsh:sh g with
  | true =>
   rw[hsh]at h;simp only[oC]at h;split at h
   ·simp only[oJ,oP]at h;exact absurd h.2.2 (by decide)
   ·cases h
  | false =>
   rw[hsh]at h;simp only[oD]at h;cases hn:eB.noRefs args with
   | true =>
    rw[hn]at h;simp only[oC]at h;obtain⟨_,h⟩:=aH h;split at h
    ·simp only[oJ,oP]at h;exact absurd h.2.2 (by decide)
    ·cases h
   | false =>
    rw[hn]at h;simp only[oD]at h;cases hf:aE1 P g with
    | true =>
     rw[hf]at h;simp only[oC]at h;split at h
     ·obtain⟨_,h⟩:=aH h;split at h
      ·rename_i r1 hr;cases hfl:flat r1 with
       | true =>
        rw[hfl]at h;simp only[oC,oJ,oP]at h;exact h.2.1.symm
       | false=>rw[hfl]at h; cases h
      ·cases h
     ·cases h
    | false =>
     rw[hf]at h;simp only[oD]at h;split at h
     ·obtain⟨_,h⟩:=aH h;split at h
      ·simp only[oJ,oP]at h;exact absurd h.2.2 (by decide)
      ·cases h
     ·cases h
theorem QI {g:FuncId} {args:List PV} {v q:PV} {H':Heap} {n:Nat} (hs:∀ {n0 G μ w vs},aN n0 G μ [] w->VRs w G μ args vs->xH P n0 w G μ g vs.toArray v H') (hq:inl false H' n v=some q) (hn:eZ q=true):LO P g args q:=by
 intro w G vs hlt hv;have hW:aN (zY w) (Gd.of G) aI [] w:=⟨λr k b h=>by simp at h,λr k g h=>by simp at h,λr s k l b h=>by simp at h,hlt,λ_ _=>⟨rfl,rfl⟩,λ_ h=>h,sY.none _ _ (λ_=>rfl) _ _ (λr k h=>by simp at h)⟩;obtain⟨h1,h2⟩:=hs hW hv;have hvs:vs.toList.toArray=vs:=by simp
 rw[hvs]at h1 h2;refine⟨h1,h2.mono ?_⟩;rintro e w' ⟨v',G1,μ1,rfl,e1,e2,e3⟩;refine⟨v',λb=>G1 b\/∃ r k,H'[r]?=some (some k)/\μ1.loc r=some b,rfl,?_,?_,?_⟩
 ·exact {
   good:=λb hb=>⟨.inl (e1.good b hb).1,(e1.good b hb).2⟩
   map:=λ_ _ h=>h
   len:=λ_ _ h=>h
   room:=e1.room
   row:=λ_ _ h=>h
   os:=e1.os
   tape:=e1.tape
   output:=e1.output
   size:=e1.size
   old:=e1.old
   new:=λb hb=>by
    rcases hb with hb|⟨r,k,hr,hb⟩
    ·exact e1.new b hb
    ·obtain⟨c,_,_,_,g5,g6⟩:=e2.blk r k b hr hb;cases hf:k.frozen with
     | true=>exact e1.new b (g5 hf)
     | false=>exact .inr (g6 hf).1 }
 ·rintro b (hb|⟨r,k,hr,hb⟩)
  ·exact e2.lt b hb
  ·exact e2.nB hr hb
 ·exact PZ (G:=⟨λb=>G1 b\/∃ r k,H'[r]?=some (some k)/\μ1.loc r=some b,G1.row⟩) (G':=Gd.of _) (λb h=>h) _ _ _ hn
   (J9 (G':=⟨λb=>G1 b\/∃ r k,H'[r]?=some (some k)/\μ1.loc r=some b,G1.row⟩) e2 (λ_ _ h=>h) (λb hb=>.inl hb) (λr k b hr _ hb=>.inr ⟨r,k,hr,hb⟩) n v q v' hq e3)
theorem enters {g:Nat}{fn:Func}(h:P.funcs[g]?=some fn)(hn:(fn.name== "runtime.NumGoroutine")=false)(hb:fn.body.isNone=false)(xs:Array Value)(w:World):(callFunc g xs).run P w=.ok (.enter g xs) w:=by
 unfold callFunc;simp only[Sem.run_bind,program,Sem.run,Result.andThen_ok,h,hn,hb,Bool.false_eq_true,if_false];rfl
end
def aS0(H:Heap) (v:PV):Option PV:=match inl false H depth v with
 | some q=>bif eZ q then some q else none
 | none=>none
theorem HH {H:Heap}{v q:PV}(h:aS0 H v=some q):inl false H depth v=some q/\eZ q=true:=by
 unfold aS0 at h;split at h
 ·rename_i q' hq;obtain⟨hb,h⟩:=aH h;simp only[oJ]at h;subst h;exact⟨hq,hb⟩
 ·cases h
structure ME (P:Program):Prop where
 mixed:P.follows .mixedOrders=true
 names:∀ (g:Nat) (fn:Func),P.funcs[g]?=some fn->(fn.name== "runtime.NumGoroutine")=false
section
variable {P:Program} {cfgs:FuncId->Cfg} {sh:FuncId->Bool} {prim:FuncId->List PV->Option PV} {L:Nat}
end
def a0K:Operand->Nat
 | .tmp t=>2^t
 | _=>0
def bitsOf(m:Nat):List Operand->Nat
 | []=>m
 | .tmp t::r=>bitsOf (m ||| 2^t) r
 | _::r=>bitsOf m r
def KK(m d:Nat):Nat:=(m ||| d) ^^^ d
def aY2(l:List Oper)(o:Oper):Nat:=match o.guard with
 | some (j,_)=>match l[j]? with
  | some p=>match p.dst with|some t=>2^t|none=>0
  | none=>0
 | none=>0
def Y6(l:List Oper):List Oper->Nat->Nat->Nat
 | [],_,acc=>acc
 | o::r,d,acc=>Y6 l r (match o.dst with|some t=>d ||| 2^t|none=>d) (acc ||| KK (bitsOf (aY2 l o) o.op.operands.toList) d)
def GY:Code->Nat
 | .region _ ops _=>Y6 ops.toList ops.toList 0 0
 | .seq a b=>GY a ||| GY b
 | .cond c a b=>a0K c ||| GY a ||| GY b
 | .block _ a=>GY a
 | .loop a=>GY a
 | .scope a=>GY a
 | _=>0
def RF:List ResultVar->Nat->Nat
 | [],m=>m
 | .tmp t::r,m=>RF r (m ||| 2^t)
 | .cell t _::r,m=>RF r (m ||| 2^t)
def aO(fn:Func):Nat:=match fn.body with
 | some c=>RF fn.results.toList (GY c)
 | none=>0
inductive Kd where
 | int (k:IntKind)
 | bool
 | str
 | list (t:Ty)
 | agg (t:Ty)
 | own (e:TypeId) (t:Ty)
 | box (e:TypeId) (t:Ty)
 | ptr (t:Ty)
 | fn (g:FuncId)
 | nil0
 | val
 | nilI
 | clo (g:FuncId) (ts:List Ty)
 | win (j sz:Nat)
 | bown (e et:TypeId) (t:Ty)
 | bag (e:TypeId) (t1:Ty) (et:TypeId) (t:Ty) (t2:Option Ty)
 | bag2 (e:TypeId) (t1:Ty) (et:TypeId) (t:Ty) (eu:TypeId) (u:Ty)
 | hnd (sz:Nat)
 | mpk (j:Nat)
 | ar (e:TypeId) (t:Ty)
@[reducible] def aXD:Option Ty->Type
 | none=>Unit
 | some t=>t.den
def a1N:(t:Option Ty)->aXD t->List PV
 | none,_=>[]
 | some t,x=>enc t x
@[reducible] def Q5:List Ty->Type
 | []=>Unit
 | t::r=>t.den×Q5 r
@[reducible] def Kd.den:Kd->Type
 | .int _=>Int
 | .bool=>Bool
 | .str=>ByteArray
 | .list t=>List t.den
 | .agg t=>t.den
 | .own _ t=>List t.den
 | .box _ t=>t.den
 | .ptr t=>t.den
 | .fn _=>Unit
 | .nil0=>Unit
 | .val=>Value
 | .nilI=>Unit
 | .clo _ ts=>Q5 ts
 | .win _ _=>Nat×Nat
 | .bown _ _ t=>List t.den
 | .bag _ t1 _ t t2=>t1.den×List t.den×aXD t2
 | .bag2 _ t1 _ t _ u=>t1.den×List t.den×List u.den
 | .hnd _=>Nat×Nat×Nat
 | .mpk _=>Unit
 | .ar _ t=>List (List t.den)
abbrev Shape:=List (Nat×Kd)
@[reducible] def Shape.den:List (Nat×Kd)->Type
 | []=>Unit
 | (_,k)::r=>k.den×Shape.den r
def Kd.pos:Kd->Nat
 | .own _ _|.box _ _|.ar _ _=>1
 | .bown _ _ _=>2
 | .bag _ _ _ _ _=>2
 | .bag2 _ _ _ _ _ _=>3
 | _=>0
def VK:(ts:List Ty)->Q5 ts->List PV
 | [],_=>[]
 | t::r,(x,xs)=>.iptr (enc t x)::VK r xs
def AQ:(k:Kd)->k.den->Nat->PV
 | .int k,x,_=>.lit (.int k x)
 | .bool,x,_=>.lit (.bool x)
 | .str,x,_=>.lit (.string x)
 | .list t,l,_=>L4 t l none
 | .agg t,x,_=>.agg (enc t x)
 | .own _ t,_,n=>.own n t.size
 | .box _ _,_,n=>.hptr n 0
 | .ptr t,x,_=>.iptr (enc t x)
 | .fn g,_,_=>.lit (.func (.func g) #[] #[])
 | .nil0,_,_=>.lit (.slice none 0 0)
 | .val,x,_=>.lit x
 | .nilI,_,_=>.lit .nilIface
 | .clo g ts,x,_=>.clo (.func g) [] (VK ts x)
 | .win j sz,x,_=>.win j x.1 x.2 sz
 | .bown _ _ _,_,n=>.hptr n 0
 | .bag _ _ _ _ _,_,n=>.hptr n 0
 | .bag2 _ _ _ _ _ _,_,n=>.hptr n 0
 | .hnd sz,x,_=>.row x.1 x.2.1 x.2.2 sz
 | .mpk j,_,_=>.mp j
 | .ar _ _,_,_=>.junk
def a57:(k:Kd)->k.den->Nat->Heap
 | .own e t,l,_=>[some ⟨aG t l,e,true,false,some ⟨t,l⟩⟩]
 | .box e t,x,_=>[some ⟨enc t x,e,false,false,none⟩]
 | .bown e et t,l,n=>[some ⟨[.own (n+1) t.size],e,false,false,none⟩,some ⟨aG t l,et,true,false,some ⟨t,l⟩⟩]
 | .bag e t1 et t t2,x,n=>[some ⟨enc t1 x.1++.own (n+1) t.size::a1N t2 x.2.2,e,false,false,none⟩,some ⟨aG t x.2.1,et,true,false,some ⟨t,x.2.1⟩⟩]
 | .bag2 e t1 et t eu u,x,n=>[some ⟨enc t1 x.1++[.own (n+1) t.size,.own (n+2) u.size],e,false,false,none⟩,some ⟨aG t x.2.1,et,true,false,some ⟨t,x.2.1⟩⟩,some ⟨aG u x.2.2,eu,true,false,some ⟨u,x.2.2⟩⟩]
 | .ar e t,l,_=>[some ⟨aG (.rows t) l,e,false,false,some ⟨.rows t,l⟩⟩]
 | .int _,_,_|.bool,_,_|.str,_,_|.list _,_,_|.agg _,_,_|.ptr _,_,_|.fn _,_,_|.nil0,_,_|.val,_,_|.nilI,_,_|.clo _ _,_,_|.win _ _,_,_|.hnd _,_,_|.mpk _,_,_=>[]
def AR:(sh:List (Nat×Kd))->Shape.den sh->Nat->Frm
 | [],_,_=>[]
 | (t,k)::r,(x,xs),n=>(t,AQ k x n)::AR r xs (n+k.pos)
def aM6:(sh:List (Nat×Kd))->Shape.den sh->Nat->Heap
 | [],_,_=>[]
 | (_,k)::r,(x,xs),n=>a57 k x n++aM6 r xs (n+k.pos)
def JE(sh:List (Nat×Kd))(x:Shape.den sh):Heap:=aM6 sh x 0
def H8(e:TypeId)(t:Ty)(p:PV)(H:Heap)(n:Nat):Option (List t.den) :=
 match p with
 | .own s sz=>bif Nat.beq s n&&Nat.beq sz t.size then match jS H n with
  | some k=>match k.tag with
   | some g=>match HG g.t t g.l with
    | some l=>bif Nat.beq k.ty e&&k.grown&&!k.frozen then some l else none
    | none=>none
   | none=>none
  | none=>none
  else none
 | _=>none
def aJH(e:TypeId)(t:Ty)(p:PV)(H:Heap)(n:Nat):Option t.den :=
 match p with
 | .hptr s off=>bif Nat.beq s n&&Nat.beq off 0 then match jS H n with
  | some k=>bif Nat.beq k.ty e&&!k.grown&&!k.frozen&&!k.tag.isSome then dec t k.cells else none
  | none=>none
  else none
 | _=>none
def aC3(e et:TypeId)(t:Ty)(p:PV)(H:Heap)(n:Nat):Option (List t.den) :=
 match p with
 | .hptr s off=>bif Nat.beq s n&&Nat.beq off 0 then match jS H n with
  | some k=>bif Nat.beq k.ty e&&!k.grown&&!k.frozen&&!k.tag.isSome then match k.cells with
   | [.own r sz]=>H8 et t (.own r sz) H (n+1)
   | _=>none
   else none
  | none=>none
  else none
 | _=>none
def a7N:(t:Option Ty)->List PV->Option (aXD t)
 | none,cs=>match cs with
  | []=>some ()
  | _::_=>none
 | some t,cs=>dec t cs
def aIN(e:TypeId)(t1:Ty)(et:TypeId)(t:Ty)(t2:Option Ty)(p:PV)(H:Heap)(n:Nat):Option (t1.den×List t.den×aXD t2) :=
 match p with
 | .hptr s off=>bif Nat.beq s n&&Nat.beq off 0 then match jS H n with
  | some k=>bif Nat.beq k.ty e&&!k.grown&&!k.frozen&&!k.tag.isSome then match k.cells.drop t1.size with
   | .own r sz::rest=>match dec t1 (k.cells.take t1.size),H8 et t (.own r sz) H (n+1),a7N t2 rest with
    | some a,some l,some b=>some (a,l,b)
    | _,_,_=>none
   | _=>none
   else none
  | none=>none
  else none
 | _=>none
def aEA(e:TypeId)(t1:Ty)(et:TypeId)(t:Ty)(eu:TypeId)(u:Ty)(p:PV)(H:Heap)(n:Nat):Option (t1.den×List t.den×List u.den) :=
 match p with
 | .hptr s off=>bif Nat.beq s n&&Nat.beq off 0 then match jS H n with
  | some k=>bif Nat.beq k.ty e&&!k.grown&&!k.frozen&&!k.tag.isSome then match k.cells.drop t1.size with
   | [.own r sz,.own r2 sz2]=>match dec t1 (k.cells.take t1.size),H8 et t (.own r sz) H (n+1),H8 eu u (.own r2 sz2) H (n+2)with
    | some a,some l,some b=>some (a,l,b)
    | _,_,_=>none
   | _=>none
   else none
  | none=>none
  else none
 | _=>none
def aWT(e:TypeId)(t:Ty)(H:Heap)(n:Nat):Option (List (List t.den)):=match jS H n with
 | some k=>match k.tag with
  | some g=>match HG g.t (.rows t) g.l with
   | some l=>bif Nat.beq k.ty e&&!k.grown&&!k.frozen then some l else none
   | none=>none
  | none=>none
 | none=>none
def aU0(t:Ty):PV->Option t.den
 | .agg cs=>dec t cs
 | _=>none
def aPL(t:Ty):PV->Option t.den
 | .iptr cs=>dec t cs
 | _=>none
def a2W:(ts:List Ty)->List PV->Option (Q5 ts)
 | [],[]=>some ()
 | t::r,p::ps=>match aPL t p with
  | some x=>match a2W r ps with
   | some xs=>some (x,xs)
   | none=>none
  | none=>none
 | _,_=>none
def a0N(j:Nat):PV->Option Unit
 | .mp i=>bif Nat.beq i j then some () else none
 | _=>none
def a0T(g:FuncId):PV->Option Unit
 | .lit (.func (.func f) first caps)=>bif Nat.beq f g&&Nat.beq first.size 0&&Nat.beq caps.size 0 then some () else none
 | _=>none
def aTW:PV->Option Unit
 | .lit (.slice none o c)=>bif Nat.beq o 0&&Nat.beq c 0 then some () else none
 | _=>none
def aTQ:PV->Option Value
 | .lit v=>some v
 | _=>none
def aPZ:PV->Option Unit
 | .lit .nilIface=>some ()
 | _=>none
theorem aDY {p:PV}{x:Value}(h:aTQ p=some x):p=.lit x:=by
 unfold aTQ at h;split at h
 ·rw[oB h]
 ·cases h
theorem aAS {p:PV}{x:Unit}(h:aPZ p=some x):p=.lit .nilIface:=by
 unfold aPZ at h;split at h
 ·rfl
 ·cases h
def aOP(g:FuncId)(ts:List Ty):PV->Option (Q5 ts)
 | .clo (.func f) [] caps=>bif Nat.beq f g then a2W ts caps else none
 | _=>none
def aUF(j sz:Nat):PV->Option (Nat×Nat)
 | .win r lo n s=>bif Nat.beq r j&&Nat.beq s sz then some (lo,n) else none
 | _=>none
def aEV:(k:Kd)->PV->Heap->Nat->Option k.den
 | .int k,p,_,_=>aNV k [p]
 | .bool,p,_,_=>aH1 [p]
 | .str,p,_,_=>aOB [p]
 | .list t,p,_,_=>dec (.list t) [p]
 | .agg t,p,_,_=>aU0 t p
 | .own e t,p,H,n=>H8 e t p H n
 | .box e t,p,H,n=>aJH e t p H n
 | .ptr t,p,_,_=>aPL t p
 | .fn g,p,_,_=>a0T g p
 | .nil0,p,_,_=>aTW p
 | .val,p,_,_=>aTQ p
 | .nilI,p,_,_=>aPZ p
 | .clo g ts,p,_,_=>aOP g ts p
 | .win j sz,p,_,_=>aUF j sz p
 | .bown e et t,p,H,n=>aC3 e et t p H n
 | .bag e t1 et t t2,p,H,n=>aIN e t1 et t t2 p H n
 | .bag2 e t1 et t eu u,p,H,n=>aEA e t1 et t eu u p H n
 | .hnd sz,p,_,_=>aPU sz [p]
 | .mpk j,p,_,_=>a0N j p
 | .ar e t,_,H,n=>aWT e t H n
def aZ5:(sh:List (Nat×Kd))->Frm->Heap->Nat->Option (Shape.den sh)
 | [],_,_,_=>some ()
 | (t,k)::r,F,H,n=>match aEV k (cV F t) H n with
  | some x=>match aZ5 r F H (n+k.pos)with
   | some xs=>some (x,xs)
   | none=>none
  | none=>none
def aKT:List (Nat×Kd)->List (Nat×TypeId×Option Ty)
 | []=>[]
 | (t,.own e ty)::r=>(t,e,some ty)::aKT r
 | (t,.box e _)::r=>(t,e,none)::aKT r
 | (t,.ar e ty)::r=>(t,e,some (.rows ty))::aKT r
 | _::r=>aKT r
def slotsOf:List (Nat×Kd)->List Nat
 | []=>[]
 | (t,_)::r=>t::slotsOf r
def aLM:List (Nat×Kd)->Nat
 | []=>0
 | (_,k)::r=>k.pos+aLM r
def aZV(e:TypeId) (ty:Ty) (H:Heap):PV->Option (PV×Heap)
 | .win s lo n sz=>bif Nat.beq lo 0&&Nat.beq sz ty.size then match H8 e ty (.own s sz) H s with
   | some l=>some (.own H.length sz,(H.set s none)++[some ⟨aG ty (l.take n),e,true,false,some ⟨ty,l.take n⟩⟩])
   | none=>none
  else none
 | _=>none
def AO:List (Nat×Kd)->Frm->Heap->Frm×Heap
 | [],F,H=>(F,H)
 | (t,.list _)::r,F,H=>match cV F t with
  | .own s _=>match jS H s with
   | some k=>match k.tag with
    | some g=>bif k.frozen then AO r ((t,L4 g.t g.l none)::F) H else AO r ((t,L4 g.t g.l none)::F) (H.set s (some { k with frozen:=true }))
    | none=>AO r F H
   | none=>AO r F H
  | _=>AO r F H
 | (t,.hnd sz)::r,F,H=>match cV F t with
  | .own s sz2=>bif Nat.beq sz2 sz then match aPE H sz s with
   | some (q,H1)=>AO r ((t,q)::F) H1
   | none=>AO r F H
   else AO r F H
  | _=>AO r F H
 | (t,.own e ty)::r,F,H=>match aZV e ty H (cV F t)with
  | some (q,H1)=>AO r ((t,q)::F) H1
  | none=>AO r F H
 | _::r,F,H=>AO r F H
def Q9(sh:List (Nat×Kd)) (F:Frm) (H:Heap):Option (Shape.den sh) :=
 match AO sh F H with
 | (F1,H1)=>match tidy ⟨slotsOf sh,aKT sh,0⟩ F1 H1 with
  | some (F',H')=>bif Nat.beq H'.length (aLM sh) then aZ5 sh F' H' 0 else none
  | none=>none
section
variable {P:Program} {n0:Nat->Prop} {w wi:World} {G Gi:Gd} {μ μi μ':Mp} {H:Heap} {F:Frm} {a:Act} {nt:Nat}
theorem tC(hW:aN n0 G μ H w){e:TypeId}{t:Ty}{p:PV}{n:Nat}{l:List t.den}(h:H8 e t p H n=some l):p=.own n t.size/\H[n]?=some (some ⟨aG t l,e,true,false,some ⟨t,l⟩⟩):=by
 unfold H8 at h;split at h
 ·rename_i s sz;replace h:=aH h;obtain⟨hb,h⟩:=h;simp only[oA]at hb;have h1:=oE hb.1;have h2:=oE hb.2;subst h1; subst h2;refine⟨rfl,?_⟩;split at h
  ·rename_i k hk;split at h
   ·rename_i g hg;split at h
    ·rename_i l' hc;obtain⟨hb,h⟩:=aH h;simp only[oA,Bool.not_eq_true']at hb;simp only[oJ]at h;subst h;have hb3:=oE hb.1.1;have ht:=(hW.tags s k g (aJ hk) hg).1;obtain⟨gt,gl⟩:=g;obtain⟨rfl,rfl⟩:=qV hc;rw[aJ hk];obtain⟨k1,k2,k3,k4,k5⟩:=k;dsimp only at ht hg hb hb3 ⊢;rw[ht,hg,hb3,hb.1.2,hb.2]
    ·cases h
   ·cases h
  ·cases h
 ·cases h
theorem aK5(hW:aN n0 G μ H w){e et:TypeId}{t:Ty}{p:PV}{n:Nat}{l:List t.den}(h:aC3 e et t p H n=some l) :
  p=.hptr n 0/\H[n]?=some (some ⟨[.own (n+1) t.size],e,false,false,none⟩)/\H[n+1]?=some (some ⟨aG t l,et,true,false,some ⟨t,l⟩⟩):=by
 unfold aC3 at h;split at h
 ·rename_i s off;replace h:=aH h;obtain⟨hb,h⟩:=h;simp only[oA]at hb;have h1:=oE hb.1;have h2:=oE hb.2;subst h1; subst h2;refine⟨rfl,?_⟩;split at h
  ·rename_i k hk;replace h:=aH h;obtain⟨hc,h⟩:=h;simp only[oA,Bool.not_eq_true']at hc;obtain⟨⟨⟨c1,c2⟩,c3⟩,c4⟩:=hc;have c1:=oE c1;split at h
   ·rename_i r sz hcs;obtain⟨h3,h4⟩:=tC hW h;cases h3;refine⟨?_,h4⟩;rw[aJ hk];obtain⟨k1,k2,k3,k4,k5⟩:=k;dsimp only at c1 c2 c3 c4 hcs;rw[hcs,c1,c2,c3];cases k5 with
    | none=>rfl
    | some g=>simp at c4
   ·cases h
  ·cases h
 ·cases h
def a03(k k':Blk):Prop:=k.tag=none/\k'.ty=k.ty/\k'.grown=k.grown/\k'.frozen=k.frozen/\k'.tag=none/\∀ (w:World) (G:Gd) (μ:Mp) (b:Nat),aL w G μ b 0 k.cells->aL w G μ b 0 k'.cells/\k'.cells.length=k.cells.length
def aRA(a b:Option (Option Blk)):Prop:=a=b\/∃ k k',a=some (some k)/\b=some (some k')/\a03 k k'
theorem aN.aVZ (hW:aN n0 G μ H w){H':Heap}(h:∀ r:Nat,aRA H[r]? H'[r]?):aN n0 G μ H' w:=by
 have key:∀ (r:Nat) (k':Blk),H'[r]?=some (some k')->∃ k,H[r]?=some (some k)/\(k=k'\/a03 k k')/\k'.frozen=k.frozen:=by
  intro r k' hr;rcases h r with h1|⟨k,k2,h1,h2,h3⟩
  ·exact⟨k',by rw[h1,hr],.inl rfl,rfl⟩
  ·rw[hr]at h2;cases h2;exact⟨k,h1,.inr h3,h3.2.2.2.1⟩
 refine⟨?_,?_,?_,hW.lt,?_,hW.base,hW.rows.step (Mono.refl _ _ _) (oM _) (λ_=>rfl) (λj b hj=>⟨rfl,id,λr k' hr hf hl=>?_⟩) (λr k' t l hr hg ht=>?_)⟩
 case refine_5 =>
  obtain⟨k,h1,_,h3⟩:=key r k' hr;exact⟨r,k,h1,by rw[<- h3]; exact hf,hl⟩
 case refine_6 =>
  obtain⟨k,h1,h2,h3⟩:=key r k' hr;rcases h2 with rfl|⟨_,_,_,_,e4,_⟩
  ·exact⟨k,h1,rfl,rfl,rfl,rfl⟩
  ·rw[e4]at ht; cases ht
 ·intro r k' b hr hb;obtain⟨k,h1,h2,h3⟩:=key r k' hr;obtain⟨c,a1,a2,a3,a4⟩:=hW.blk r k b h1 hb;rcases h2 with rfl|⟨_,e1,e2,e3,_,e5⟩
  ·exact⟨c,a1,a2,a3,a4⟩
  ·obtain⟨b1,b2⟩:=e5 w G μ b a2;exact⟨c,by rw[e1]; exact a1,b1,λhg=>by rw[b2]; exact a3 (by rw[<- e2]; exact hg),by rw[e3]; exact a4⟩
 ·intro r k' g hr hg;obtain⟨k,h1,h2,_⟩:=key r k' hr;rcases h2 with rfl|⟨_,_,_,_,e4,_⟩
  ·exact hW.tags r k g h1 hg
  ·rw[e4]at hg; cases hg
 ·intro r s k l b hr hs fk fl m1 m2;obtain⟨k1,h1,_,h3⟩:=key r k hr;obtain⟨l1,h4,_,h6⟩:=key s l hs;exact hW.inj r s k1 l1 b h1 h4 (by rw[<- h3]; exact fk) (by rw[<- h6]; exact fl) m1 m2
 ·intro r hr;refine hW.top r ?_;rcases oG r H.length with hl|hl
  ·rcases h r with h1|⟨k,k',_,h2,_⟩
   ·rw[List.getElem?_eq_none hr,List.getElem?_eq_getElem hl]at h1; cases h1
   ·rw[List.getElem?_eq_none hr]at h2; cases h2
  ·exact hl
theorem aPW {e:TypeId}{t:Ty}{p:PV}{n:Nat}{x:t.den}(h:aJH e t p H n=some x):p=.hptr n 0/\aRA H[n]? (some (some ⟨enc t x,e,false,false,none⟩)):=by
 unfold aJH at h;split at h
 ·rename_i s off;replace h:=aH h;obtain⟨hb,h⟩:=h;simp only[oA]at hb;have h1:=oE hb.1;have h2:=oE hb.2;subst h1; subst h2;refine⟨rfl,?_⟩;split at h
  ·rename_i k hk;obtain⟨hc,h⟩:=aH h;simp only[oA,Bool.not_eq_true']at hc;obtain⟨⟨⟨c1,c2⟩,c3⟩,c4⟩:=hc;have c1:=oE c1;refine .inr ⟨k,_,aJ hk,rfl,by simpa using c4,c1.symm,c2.symm,c3.symm,rfl,?_⟩;intro w G μ b hc;obtain⟨vs,d1,d2⟩:=hc.values;have d3:=xL t μ k.cells x vs h d1;exact⟨aL.nJ d3.aY d2,by rw[d3.length,d1.length]⟩
  ·cases h
 ·cases h
theorem a3H(t:Option Ty)(μ:Mp)(cs:List PV)(x:aXD t)(vs:List Value)(h:a7N t cs=some x)(hv:VRs w G μ cs vs):VRs w G aI (a1N t x) vs:=by
 cases t with
 | none =>
  cases cs with
  | nil=>rw[VRs]at hv; rw[a1N,VRs]; exact hv
  | cons p ps=>cases h
 | some t=>exact xL t μ cs x vs h hv
theorem aP2(hW:aN n0 G μ H w){e:TypeId}{t1:Ty}{et:TypeId}{t:Ty}{t2:Option Ty}{p:PV}{n:Nat}{x:t1.den×List t.den×aXD t2}(h:aIN e t1 et t t2 p H n=some x) :
  p=.hptr n 0/\aRA H[n]? (some (some ⟨enc t1 x.1++.own (n+1) t.size::a1N t2 x.2.2,e,false,false,none⟩))/\H[n+1]?=some (some ⟨aG t x.2.1,et,true,false,some ⟨t,x.2.1⟩⟩):=by
 unfold aIN at h;split at h
 ·rename_i s off;replace h:=aH h;obtain⟨hb,h⟩:=h;simp only[oA]at hb;have h1:=oE hb.1;have h2:=oE hb.2;subst h1; subst h2;refine⟨rfl,?_⟩;split at h
  ·rename_i k hk;obtain⟨hc,h⟩:=aH h;simp only[oA,Bool.not_eq_true']at hc;obtain⟨⟨⟨c1,c2⟩,c3⟩,c4⟩:=hc;have c1:=oE c1;split at h
   ·rename_i r sz rest hd;split at h
    ·rename_i xa xl xb ha hl hbb;simp only[oJ]at h;subst h;obtain⟨h3,h4⟩:=tC hW hl;cases h3;refine⟨.inr ⟨k,_,aJ hk,rfl,by simpa using c4,c1.symm,c2.symm,c3.symm,rfl,?_⟩,h4⟩;intro w G μ b hc;obtain⟨vs,d1,d2⟩:=hc.values;have d3:=d1.take t1.size;have d4:=d1.drop t1.size;rw[hd,VRs]at d4;obtain⟨v,vc,e1,d5,d6⟩:=d4;have d7:=xL t1 μ _ xa _ ha d3;have d8:=a3H t2 μ _ xb vc hbb d6;have d9:VRs w G μ (enc t1 xa++.own (s+1) t.size::a1N t2 xb) (vs.take t1.size++v::vc):=VRs.append d7.aY (by rw[VRs]; exact⟨v,vc,rfl,d5,d8.aY⟩)
     rw[<- e1,List.take_append_drop]at d9;exact⟨aL.nJ d9 d2,by rw[d9.length,d1.length]⟩
    ·cases h
   ·cases h
  ·cases h
 ·cases h
theorem aLA(hW:aN n0 G μ H w){e:TypeId}{t1:Ty}{et:TypeId}{t:Ty}{eu:TypeId}{u:Ty}{p:PV}{n:Nat}{x:t1.den×List t.den×List u.den}(h:aEA e t1 et t eu u p H n=some x) :
  p=.hptr n 0/\aRA H[n]? (some (some ⟨enc t1 x.1++[.own (n+1) t.size,.own (n+2) u.size],e,false,false,none⟩))/\H[n+1]?=some (some ⟨aG t x.2.1,et,true,false,some ⟨t,x.2.1⟩⟩)/\H[n+2]?=some (some ⟨aG u x.2.2,eu,true,false,some ⟨u,x.2.2⟩⟩):=by
 unfold aEA at h;split at h
 ·rename_i s off;replace h:=aH h;obtain⟨hb,h⟩:=h;simp only[oA]at hb;have h1:=oE hb.1;have h2:=oE hb.2;subst h1; subst h2;refine⟨rfl,?_⟩;split at h
  ·rename_i k hk;obtain⟨hc,h⟩:=aH h;simp only[oA,Bool.not_eq_true']at hc;obtain⟨⟨⟨c1,c2⟩,c3⟩,c4⟩:=hc;have c1:=oE c1;split at h
   ·rename_i r sz r2 sz2 hd;split at h
    ·rename_i xa xl xb ha hl hbb;simp only[oJ]at h;subst h;obtain⟨h3,h4⟩:=tC hW hl;cases h3;obtain⟨h5,h6⟩:=tC hW hbb;cases h5;refine⟨.inr ⟨k,_,aJ hk,rfl,by simpa using c4,c1.symm,c2.symm,c3.symm,rfl,?_⟩,h4,h6⟩;intro w G μ b hc;obtain⟨vs,d1,d2⟩:=hc.values;have d3:=d1.take t1.size;have d4:=d1.drop t1.size;rw[hd]at d4;have d7:=xL t1 μ _ xa _ ha d3;have d9:VRs w G μ (enc t1 xa++[.own (s+1) t.size,.own (s+2) u.size]) (vs.take t1.size++vs.drop t1.size):=VRs.append d7.aY d4
     rw[List.take_append_drop]at d9;exact⟨aL.nJ d9 d2,by rw[d9.length,d1.length]⟩
    ·cases h
   ·cases h
  ·cases h
 ·cases h
theorem aQW {g:Tg}{b:Ty}{l':List b.den}(h:HG g.t b g.l=some l'):g=⟨b,l'⟩:=by
 obtain⟨a,l⟩:=g;unfold HG at h;split at h
 ·rename_i e;dsimp only at e;subst e;simp only[oJ]at h;rw[<- h]
 ·cases h
theorem aRE(hW:aN n0 G μ H w){e:TypeId}{t:Ty}{n:Nat}{l:List (List t.den)}(h:aWT e t H n=some l):H[n]?=some (some ⟨aG (.rows t) l,e,false,false,some ⟨.rows t,l⟩⟩):=by
 unfold aWT at h;split at h
 ·rename_i k hk;split at h
  ·rename_i g hg;split at h
   ·rename_i l' hc;obtain⟨hb,h⟩:=aH h;simp only[oA,Bool.not_eq_true']at hb;simp only[oJ]at h;have hb3:=oE hb.1.1;have ht:=(hW.tags n k g (aJ hk) hg).1;have hge:=aQW hc;rw[hge]at hg ht;rw[<- h,aJ hk];obtain⟨k1,k2,k3,k4,k5⟩:=k;dsimp only at ht hg hb hb3 ⊢;rw[ht,hg,hb3,hb.1.2,hb.2]
   ·cases h
  ·cases h
 ·cases h
theorem VJ {t:Ty}{p:PV}{x:t.den}{v:Value}(h:aPL t p=some x)(hv:VR w G μ p v):VR w G aI (.iptr (enc t x)) v:=by
 unfold aPL at h;split at h
 ·rename_i cs;rw[VR]at hv ⊢;obtain⟨b,off,h1,h2,h3⟩:=hv;obtain⟨vs,d1,d2⟩:=h3.values;exact⟨b,off,h1,h2,aL.nJ (xL t aI cs x vs h d1) d2⟩
 ·cases h
theorem aIH:∀ (ts:List Ty) {ps:List PV} {x:Q5 ts} {vs:List Value},a2W ts ps=some x->VRs w G μ ps vs->VRs w G aI (VK ts x) vs
 | [],[],x,vs,h,hv=>by rw[VRs]at hv; simp only[VK]; rw[VRs]; exact hv
 | [],_::_,x,vs,h,hv=>by cases h
 | _::_,[],x,vs,h,hv=>by cases h
 | t::r,p::ps,x,vs,h,hv=>by
  simp only[a2W]at h;split at h
  ·rename_i y hy;split at h
   ·rename_i ys hys;simp only[oJ]at h;subst h;rw[VRs]at hv;obtain⟨u,us,h1,h2,h3⟩:=hv;simp only[VK];rw[VRs];exact⟨u,us,h1,VJ hy h2,aIH r hys h3⟩
   ·cases h
  ·cases h
theorem aD8 {p:PV}{x:Unit}(h:aTW p=some x):p=.lit (.slice none 0 0):=by
 unfold aTW at h;split at h
 ·rename_i o c;cases hb:(Nat.beq o 0&&Nat.beq c 0)with
  | false=>rw[hb]at h; cases h
  | true =>
   simp only[oA]at hb;rw[oE hb.1,oE hb.2]
 ·cases h
theorem aGR {j:Nat}{p:PV}{x:Unit}(h:a0N j p=some x):p=.mp j:=by
 unfold a0N at h;split at h
 ·rename_i i;rw[oE (aH h).1]
 ·cases h
theorem aF2 {g:FuncId}{p:PV}{x:Unit}(h:a0T g p=some x):p=.lit (.func (.func g) #[] #[]):=by
 unfold a0T at h;split at h
 ·rename_i f first caps;replace h:=(aH h).1;simp only[oA]at h;have h1:=oE h.1.1;have h2:=Array.eq_empty_of_size_eq_zero (oE h.1.2);have h3:=Array.eq_empty_of_size_eq_zero (oE h.2);rw[h1,h2,h3]
 ·cases h
theorem VF {g:FuncId}{ts:List Ty}{p:PV}{x:Q5 ts}{v:Value}(h:aOP g ts p=some x)(hv:VR w G μ p v):VR w G aI (.clo (.func g) [] (VK ts x)) v:=by
 unfold aOP at h;split at h
 ·rename_i f caps;have h1:=oE (aH h).1;have h2:=(aH h).2;subst h1;rw[VR]at hv ⊢;obtain⟨fs,cs,e1,e2,e3⟩:=hv;exact⟨fs,cs,e1,by rw[VRs]at e2 ⊢; exact e2,aIH ts h2 e3⟩
 ·cases h
theorem aCV {j sz:Nat}{p:PV}{x:Nat×Nat}(h:aUF j sz p=some x):p=.win j x.1 x.2 sz:=by
 unfold aUF at h;split at h
 ·replace h:=aH h;obtain⟨hb,h⟩:=h;simp only[oA]at hb;have h1:=oE hb.1;have h2:=oE hb.2;simp only[oJ]at h;rw[<- h,h1,h2]
 ·cases h
theorem aUH(hW:aN n0 G μ H w):∀ (k:Kd) {p:PV} {n:Nat} {x:k.den} {v:Value},aEV k p H n=some x->VR w G μ p v->VR w G μ (AQ k x n) v/\∀ i:Nat,i<k.pos->aRA H[n+i]? (a57 k x n)[i]?
 | .int k,p,n,x,v,h,hv=>by
  have:=YJ h;simp only[List.cons.injEq,and_true]at this;subst this;exact⟨hv,λi hi=>absurd hi (Nat.not_lt_zero _)⟩
 | .bool,p,n,x,v,h,hv=>by
  have:=V5 h;simp only[List.cons.injEq,and_true]at this;subst this;exact⟨hv,λi hi=>absurd hi (Nat.not_lt_zero _)⟩
 | .str,p,n,x,v,h,hv=>by
  have:=YV h;simp only[List.cons.injEq,and_true]at this;subst this;exact⟨hv,λi hi=>absurd hi (Nat.not_lt_zero _)⟩
 | .list t,p,n,x,v,h,hv=>by
  have:=xL (.list t) μ [p] x [v] h (by rw[VRs]; exact⟨v,[],rfl,hv,by rw[VRs]⟩);refine⟨?_,λi hi=>absurd hi (Nat.not_lt_zero _)⟩;simp only[enc]at this;rw[VRs]at this;obtain⟨y,ys,h1,h2,_⟩:=this;cases h1;exact h2.aY
 | .agg t,p,n,x,v,h,hv=>by
  refine⟨?_,λi hi=>absurd hi (Nat.not_lt_zero _)⟩;simp only[aEV]at h;unfold aU0 at h;split at h
  ·rename_i cs;rw[VR]at hv;obtain⟨vs,rfl,h2⟩:=hv;simp only[AQ];rw[VR];exact⟨vs,rfl,(xL t μ cs x vs.toList h h2).aY⟩
  ·cases h
 | .own e t,p,n,x,v,h,hv=>by
  obtain⟨rfl,h2⟩:=tC hW h;refine⟨hv,λi hi=>?_⟩;simp only[Kd.pos]at hi;have:i=0:=by omega
  subst this;simp only[Nat.add_zero,h2];exact .inl rfl
 | .box e t,p,n,x,v,h,hv=>by
  obtain⟨rfl,h2⟩:=aPW h;refine⟨hv,λi hi=>?_⟩;simp only[Kd.pos]at hi;have:i=0:=by omega
  subst this;exact h2
 | .ptr t,p,n,x,v,h,hv=>⟨(VJ h hv).aY,λi hi=>absurd hi (Nat.not_lt_zero _)⟩
 | .fn g,p,n,x,v,h,hv=>by
  have:=aF2 h;subst this;exact⟨hv,λi hi=>absurd hi (Nat.not_lt_zero _)⟩
 | .mpk j,p,n,x,v,h,hv=>by
  have:=aGR h;subst this;exact⟨hv,λi hi=>absurd hi (Nat.not_lt_zero _)⟩
 | .nil0,p,n,x,v,h,hv=>by
  have:=aD8 h;subst this;exact⟨hv,λi hi=>absurd hi (Nat.not_lt_zero _)⟩
 | .val,p,n,x,v,h,hv=>by
  have:=aDY (p:=p) (x:=x) h;subst this;exact⟨hv,λi hi=>absurd hi (Nat.not_lt_zero _)⟩
 | .nilI,p,n,x,v,h,hv=>by
  have:=aAS (p:=p) (x:=x) h;subst this;exact⟨hv,λi hi=>absurd hi (Nat.not_lt_zero _)⟩
 | .clo g ts,p,n,x,v,h,hv=>⟨(VF h hv).aY,λi hi=>absurd hi (Nat.not_lt_zero _)⟩
 | .win j sz,p,n,x,v,h,hv=>by
  have:=aCV h;subst this;exact⟨hv,λi hi=>absurd hi (Nat.not_lt_zero _)⟩
 | .bown e et t,p,n,x,v,h,hv=>by
  obtain⟨rfl,h2,h3⟩:=aK5 hW h;refine⟨hv,λi hi=>?_⟩;simp only[Kd.pos]at hi;rcases(show i=0\/i=1 by omega)with rfl|rfl
  ·simp only[Nat.add_zero,h2];exact .inl rfl
  ·simp only[h3];exact .inl rfl
 | .bag e t1 et t t2,p,n,x,v,h,hv=>by
  obtain⟨rfl,h2,h3⟩:=aP2 hW h;refine⟨hv,λi hi=>?_⟩;simp only[Kd.pos]at hi;rcases(show i=0\/i=1 by omega)with rfl|rfl
  ·exact h2
  ·simp only[h3];exact .inl rfl
 | .bag2 e t1 et t eu u,p,n,x,v,h,hv=>by
  obtain⟨rfl,h2,h3,h4⟩:=aLA hW h;refine⟨hv,λi hi=>?_⟩;simp only[Kd.pos]at hi;rcases(show i=0\/i=1\/i=2 by omega)with rfl|rfl|rfl
  ·exact h2
  ·simp only[h3];exact .inl rfl
  ·simp only[h4];exact .inl rfl
 | .hnd sz,p,n,x,v,h,hv=>by
  refine⟨?_,λi hi=>absurd hi (Nat.not_lt_zero _)⟩;have:=aFW (μ:=μ) (vs:=[v]) h (by rw[VRs]; exact⟨v,[],rfl,hv,by rw[VRs]⟩);rw[VRs]at this;obtain⟨y,ys,h1,h2,_⟩:=this;cases h1;exact h2.aY
 | .ar e t,p,n,x,v,h,hv=>by
  have h2:=aRE hW h;refine⟨by simp only[AQ]; rw[VR]; trivial,λi hi=>?_⟩;simp only[Kd.pos]at hi;have:i=0:=by omega
  subst this;simp only[Nat.add_zero,h2];exact .inl rfl
theorem RL:∀ (k:Kd) (x:k.den) (n:Nat),(a57 k x n).length=k.pos
 | .int _,_,_|.bool,_,_|.str,_,_|.list _,_,_|.agg _,_,_|.ptr _,_,_|.fn _,_,_|.nil0,_,_|.val,_,_|.nilI,_,_|.clo _ _,_,_|.win _ _,_,_|.hnd _,_,_|.mpk _,_,_=>rfl
 | .ar _ _,_,_=>rfl
 | .own _ _,_,_=>rfl
 | .box _ _,_,_=>rfl
 | .bown _ _ _,_,_=>rfl
 | .bag _ _ _ _ _,_,_=>rfl
 | .bag2 _ _ _ _ _ _,_,_=>rfl
theorem aEF:∀ (sh:List (Nat×Kd)) (x:Shape.den sh) (n:Nat),(aM6 sh x n).length=aLM sh
 | [],_,_=>rfl
 | (_,k)::r,(x,xs),n=>by simp only[aM6,oH,RL,aEF r xs,aLM]
theorem aF5(sh:List (Nat×Kd))(x:Shape.den sh):(JE sh x).length=aLM sh:=aEF sh x 0
theorem aCK(hW:aN n0 G μ H w)(hF:∀ t,VR w G μ (cV F t) (a.tmps.getD t undef)):∀ (sh:List (Nat×Kd)) {n:Nat} {x:Shape.den sh},aZ5 sh F H n=some x->(∀ t,VR w G μ (cV (AR sh x n) t) (a.tmps.getD t undef))/\∀ i:Nat,i<aLM sh->aRA H[n+i]? (aM6 sh x n)[i]?
 | [],n,x,h=>⟨λt=>by simp only[AR,cV]; rw[VR]; trivial,λi hi=>absurd hi (Nat.not_lt_zero _)⟩
 | (t,k)::r,n,x,h=>by
  simp only[aZ5]at h;split at h
  ·rename_i y hy;split at h
   ·rename_i ys hys;simp only[oJ]at h;subst h;obtain⟨h1,h2⟩:=aUH hW k hy (hF t);obtain⟨h3,h4⟩:=aCK hW hF r hys;refine⟨λs=>?_,λi hi=>?_⟩
    ·simp only[AR];rw[dJ]
     by_cases hs:s=t
     ·subst hs; rw[if_pos rfl]; exact h1
     ·rw[if_neg hs]; exact h3 s
    ·simp only[aM6];rcases oG i k.pos with hl|hl
     ·rw[List.getElem?_append_left (by rw[RL]; exact hl)];exact h2 i hl
     ·rw[List.getElem?_append_right (by rw[RL]; exact hl),RL];have:=h4 (i-k.pos) (by simp only[aLM]at hi; omega);have e1:n+k.pos+(i-k.pos)=n+i:=by omega
      rwa[e1]at this
   ·cases h
  ·cases h
theorem aR9(hW:aN n0 G μ H w){e:TypeId}{ty:Ty}{p q:PV}{H1:Heap}{v:Value}(h:aZV e ty H p=some (q,H1))(hv:VR w G μ p v) :
  ∃ μ',Ext n0 w G μ w G μ'/\aN n0 G μ' H1 w/\VR w G μ' q v:=by
 unfold aZV at h;split at h
 ·rename_i r lo n sz;obtain⟨hb,hh⟩:(Nat.beq lo 0&&Nat.beq sz ty.size)=true/\(match H8 e ty (.own r sz) H r with
   | some l=>some (PV.own H.length sz,(H.set r none)++[some (⟨aG ty (l.take n),e,true,false,some ⟨ty,l.take n⟩⟩:Blk)])
   | none=>none)=some (q,H1):=by
   cases hb:(Nat.beq lo 0&&Nat.beq sz ty.size)with
   | true=>rw[hb]at h; exact⟨rfl,h⟩
   | false=>rw[hb]at h; cases h
  rw[oA]at hb;have h0:=oE hb.1;have h1:=oE hb.2;clear h;subst h0; subst h1;split at hh
  ·rename_i l hl;simp only[oJ,oP]at hh;obtain⟨rfl,rfl⟩:=hh;obtain⟨_,hr⟩:=tC hW hl;rw[VR]at hv;obtain⟨b,c,m,a1,a2,a3,a4,a5,a6,_⟩:=hv;have ht:=(hW.tags r _ _ hr rfl).2;rw[ht]at a5;cases a5;have hlen:(l.take n).length=n:=by rw[List.length_take]; change 0+n<=l.length at a6; omega
   have hk:=vV hW r;have hl':(H.set r none).length=H.length:=by simp
   have e0:=FY hW (some b) (some n);have e2:Ext n0 w G μ w G (upd μ (H.set r none).length (some b) (some n)):=by rw[hl']; exact e0
   refine⟨_,e0,?_,?_⟩
   ·have:=HF hk e2 ⟨aG ty (l.take n),e,true,false,some ⟨ty,l.take n⟩⟩ (λ_ _ _ _ _=>rfl) ?_ ?_ ?_ (KB hk e2 (λt l h1 h2=>by cases h1) (λ_ _ _=>rfl) (λj b1 hj hf hh=>by cases hh; exact(hW.rows.sep j b hj).2.2.2 r _ hr rfl a1))
    ·rwa[hl']at this
    ·rintro b' hb';cases hb';obtain⟨c1,h2,h3,h4⟩:=hW.blk r _ b hr a1;refine⟨c1,h2,?_,λh=>(by cases h),λh=>(by cases h),h4.2.2⟩;have h5:=aL.mono e2.toMono rfl 0 _ h3;refine aL.mk λi p hp=>?_
     have hp:(aG ty (l.take n))[i]?=some p:=hp;rw[<- tR]at hp;have hi:i<(aG ty l).length/\(aG ty l)[i]?=some p:=by
      rw[List.getElem?_take]at hp;split at hp
      ·exact⟨(oO.1 hp).1,hp⟩
      ·cases hp
     exact h5.get hi.2
    ·intro g hg;cases hg;exact⟨rfl,by rw[hlen]⟩
    ·intro s k' b' hs hf hb' hh;cases hh;obtain⟨hs1,hs2⟩:=qH hs;exact hs2 (hW.inj s r k' _ b hs1 hr hf rfl hb' a1)
   ·rw[VR];refine⟨n,qC _ _ _ _,.inr ⟨b,c,gK _ _ _ _,by rw[a2,Nat.zero_mul],a3,?_⟩⟩;simpa using a4
  ·cases hh
 ·cases h
theorem AH:∀ (sh:List (Nat×Kd)) (F:Frm) (H:Heap),I n0 wi Gi μi nt F H a w->I n0 wi Gi μi nt (AO sh F H).1 (AO sh F H).2 a w
 | [],F,H,hI=>hI
 | (t,k0)::r,F,H,hI=>by
  have skip:I n0 wi Gi μi nt (AO r F H).1 (AO r F H).2 a w:=AH r F H hI;unfold AO;split
  ·exact hI
  ·rename_i heq;cases heq;split
   ·rename_i s sz ht;split
    ·rename_i k hk;split
     ·rename_i g hg;obtain⟨G,μ,e,hW,hF⟩:=hI;have hv:=hF.slot t;rw[ht]at hv;cases hfz:k.frozen with
      | true =>
       simp only[oC];refine AH r _ _ ⟨G,μ,e,hW,hF.named ?_⟩;exact(GJ hW hv hk hg (λb h=>h) (λb hb=>by
        obtain⟨_,_,_,_,h5,_⟩:=hW.blk s k b (aJ hk) hb;exact h5 hfz)).aY
      | false =>
       simp only[oD];obtain⟨e1,w1⟩:=RU hW (aJ hk) hfz;refine AH r _ _ ⟨_,μ,e.trans e1,w1,(hF.mono e1.toMono).named ?_⟩;exact(GJ (G':=G.or λx=>μ.loc s=some x) hW hv hk hg (λb h=>.inl h) (λb hb=>.inr hb)).aY
     ·exact skip
    ·exact skip
   ·exact skip
  ·rename_i heq;cases heq;split
   ·rename_i s sz2 ht;cases hsz:Nat.beq sz2 _ with
    | true =>
     simp only[oC];have hsz:=oE hsz;subst hsz;split
     ·rename_i q H1 hA;obtain⟨G,μ,e,hW,hF⟩:=hI;have hv:=hF.slot t;rw[ht]at hv;obtain⟨G',μ',e1,w1,v1⟩:=aED hW hA hv;exact AH r _ _ ⟨G',μ',e.trans e1,w1,(hF.mono e1.toMono).named v1.aY⟩
     ·exact skip
    | false=>exact skip
   ·exact skip
  ·rename_i heq;cases heq;split
   ·rename_i q H1 hA;obtain⟨G,μ,e,hW,hF⟩:=hI;have hv:=hF.slot t;obtain⟨μ',e1,w1,v1⟩:=aR9 hW hA hv;exact AH r _ _ ⟨G,μ',e.trans e1,w1,(hF.mono e1.toMono).named v1⟩
   ·exact skip
  ·rename_i heq;cases heq;exact skip
theorem FP {sh:List (Nat×Kd)}{x:Shape.den sh}(h:Q9 sh F H=some x)(hfl:∀ r,μi.loc r=none/\μi.len r=none)(hI:I n0 wi Gi μi nt F H a w):I n0 wi Gi μi nt (AR sh x 0) (JE sh x) a w:=by
 unfold Q9 at h;replace hI:=AH sh F H hI;split at h;rename_i F1 H1 hd;rw[hd]at hI;split at h
 ·rename_i F' H' ht;obtain⟨hb,h⟩:=aH h;obtain⟨⟨G,μ,e,hW,hF⟩,_⟩:=aVD ht (λr _=>hfl r) hI;obtain⟨h1,h2⟩:=aCK hW hF.slot sh h;have hH:∀ i:Nat,aRA H'[i]? (JE sh x)[i]?:=by
   intro i;rcases oG i (aLM sh)with hl|hl
   ·have:=h2 i hl;rwa[Nat.zero_add]at this
   ·have e1:=oE hb;exact .inl (by rw[List.getElem?_eq_none (by omega),List.getElem?_eq_none (by rw[aF5]; omega)])
  exact⟨G,μ,e,hW.aVZ hH,hF.size,h1,hF.defers⟩
 ·cases h
end
def ask {α:Type}(b:Bool)(k:Bool->Option α):Option α:=bif b then k true else k false
def X6 {α:Type}:List Bool->Option α->Option α
 | [],r=>r
 | b::l,r=>bif b then X6 l r else none
def aC {τ α:Type}(x:Option τ)(k:τ->Option α):Option α:=match x with
 | some x=>k x
 | none=>none
def vB {β γ α:Type}(z:β⊕γ)(f:β->Option α)(g:γ->Option α):Option α:=match z with
 | .inl a=>f a
 | .inr b=>g b
structure Res where
 τ:Type
 val:Option τ
 out:τ->PV
structure aJ5 where
 τ:Type
 val:Option τ
 out:τ->PV×Heap
structure Env where
 pure:FuncId->List PV->Option Res
 shr:FuncId->List PV->Heap->Option aJ5
 sh:FuncId->Bool
def aIM(E:Env)(g:FuncId)(args:List PV):Option PV:=match E.pure g args with
 | some r=>match r.val with
  | some x=>some (r.out x)
  | none=>none
 | none=>none
def aI1(E:Env)(g:FuncId)(args:List PV)(H:Heap):Option (PV×Heap):=match E.shr g args H with
 | some r=>match r.val with
  | some x=>some (r.out x)
  | none=>none
 | none=>none
def eT(P:Program)(E:Env):Callee:=callee P E.sh (aIM E) (aI1 E)
section
variable {α:Type} (P:Program) (E:Env)
def a2Y(g:FuncId)(args:List PV)(H:Heap)(k:PV->Heap->Nat->Option α):Option α :=
 bif E.sh g then match E.shr g args H with
  | some r=>aC r.val λx=>k (r.out x).1 (r.out x).2 2
  | none=>none
 else bif eB.noRefs args then bif eZ.noRows args then match E.pure g args with
  | some r=>aC r.val λx=>k (r.out x) H 0
  | none=>none
  else none
 else bif aE1 P g then match VE (λp=>inl false H depth p) args with
  | some qs=>bif eZ.noRows qs then match E.pure g qs with
   | some r=>aC r.val λx=>bif flat (r.out x) then k (r.out x) H 1 else none
   | none=>none
   else none
  | none=>none
 else match QD H (args.flatMap (λp=>reach H depth p))with
  | H1=>match VE (λp=>inl true H1 depth p) args with
   | some qs=>bif eZ.noRows qs then match E.pure g qs with
    | some r=>aC r.val λx=>k (r.out x) H1 2
    | none=>none
    else none
   | none=>none
def a0E:Frm->Nat->Bool->Frm
 | [],_,_=>[]
 | (s,p)::r,t,b=>bif Nat.beq s t then (s,.lit (.bool b))::r else (s,p)::a0E r t b
def aUI(F:Frm)(x:Operand)(b:Bool)(k:Frm->Bool->Option α):Option α:=match x with
 | .tmp t=>ask b λb=>k (a0E F t b) b
 | _=>ask b λb=>k F b
def aQF(F:Frm)(l:List Oper)(o:Oper)(k:Frm->Bool->Option α):Option α :=
 match o.guard with
 | none=>k F true
 | some (j,want)=>match l[j]? with
  | some p=>match p.dst with
   | some t=>match cV F t with
    | .lit (.bool b)=>ask b λb=>k (a0E F t b) (bif b then want else !want)
    | .lit _=>k F false
    | _=>none
   | none=>none
  | none=>none
def a56(op:BinOp)(k1:IntKind)(a b:Int)(k:Value->Option α):Option α:=match op with
 | .quo=>bif eqI b 0 then none else k (.int k1 (aB k1 (a.tdiv b)))
 | .rem=>bif eqI b 0 then none else k (.int k1 (a.tmod b))
 | op=>match aRQ op k1 a b with
  | some v=>k v
  | none=>none
def isX:BinOp->Bool
 | .add|.sub|.mul|.quo|.rem|.eql|.neq|.lss|.leq|.gtr|.geq=>true
 | _=>false
def aOR:BinOp->Bool
 | .shl|.shr=>true
 | _=>false
def aT4(op:BinOp)(k:IntKind)(x y:Int):Option Value:=match op with
 | .shl=>some (.int k (k.wrap (x*2^(min y.toNat k.bits))))
 | .shr=>some (.int k (x.fdiv (2^(min y.toNat k.bits))))
 | _=>none
def aA1(F:Frm)(H:Heap)(o:Oper)(k:Frm->PV->Heap->Nat->Option α):Option α:=match opu P (eT P E) F H o with
 | some (v,H',c)=>k F v H' c
 | none=>none
def a1M(F:Frm) (x:Operand) (k:Frm->Option α):Option α:=match ev F x with
 | .lit (.bool b)=>aUI F x b λF _=>k F
 | _=>k F
def aN5:List Operand->Frm->(Frm->Option α)->Option α
 | [],F,k=>k F
 | x::r,F,k=>a1M F x λF=>aN5 r F k
def opK(F:Frm)(H:Heap)(o:Oper)(k:Frm->PV->Heap->Nat->Option α):Option α :=
 bif typed P F o then match top P F H o with
  | some (cs,v,H',c)=>X6 cs (k F v H' c)
  | none=>none
 else match o.op with
  | .binOp op _ x y _=>match ev F x,ev F y with
   | .lit (.int k1 a),.lit (.int k2 b)=>bif aOR op then (bif ltI b 0 then none else match aT4 op k1 a b with
     | some v=>k F (.lit v) H 0
     | none=>none)
    else bif M6 k1 k2&&isX op then a56 op k1 a b λv=>k F (.lit v) H 0 else aA1 P E F H o k
   | _,_=>aN5 [x,y] F λF=>aA1 P E F H o k
  | .unOp ..=>aN5 o.op.operands.toList F λF=>aA1 P E F H o k
  | .pick c a b=>match ev F c with
   | .lit (.bool t)=>aUI F c t λF t=>k F (bif t then ev F a else ev F b) H 0
   | _=>none
  | .call c=>match c.callee with
   | .value f=>match ev F f with
    | .lit (.func (.func g) first caps)=>a2Y P E g (lits first++c.args.toList.map (ev F)++lits caps) H (k F)
    | .clo (.func g) first caps=>a2Y P E g (first++c.args.toList.map (ev F)++caps) H (k F)
    | _=>none
   | _=>aA1 P E F H o k
  | _=>aA1 P E F H o k
def aFJ:Nat->Nat->Int->(Int->Option α)->Option α
 | 0,_,_,_=>none
 | n+1,j,v,f=>bif eqI v (j:Int) then f j else aFJ n (j+1) v f
def a5T(t:TypeId):Option Nat:=match P.underlying t with
 | some (.array n _)=>some n
 | _=>none
def a5C:PV->Bool
 | .hptr _ _|.iptr _=>true
 | _=>false
def a6H:PV->Bool
 | .agg _=>true
 | _=>false
def xIdx(H:Heap) (t:TypeId) (p:PV) (i:Int):Option (PV×Heap×Nat):=match p,P.underlying t with
 | .agg cs,some (.array n e)=>match sS P e with
  | some sz=>bif aF i n then p0 H (DL P e (cs.drop (i.toNat*sz))) else none
  | none=>none
 | _,_=>none
def a43(l:List Oper)(F:Frm)(H:Heap)(o:Oper)(k:Frm->PV->Heap->Nat->Option α):Option α:=match o.op with
 | .makeSlice t n c=>bif aI6 l o.dst then (match S9 P H t (ev F n) (ev F c)with
   | some (cs,v,H',c')=>X6 cs (k F v H' c')
   | none=>none) else opK P E F H o k
 | .indexAddr t x i=>match a5T P t,ev F i with
  | some n,.lit (.int _ v)=>bif aLO (ev F x) then aFJ n 0 v (λj=>match uX P H t (ev F x) j with
    | some (cs,p,H',c)=>X6 cs (k F p H' c)
    | none=>none) else bif a5C (ev F x) then aFJ n 0 v (λj=>match p0 H (U6 P t (ev F x) j)with
    | some (p,H',c)=>k F p H' c
    | none=>none) else opK P E F H o k
  | _,_=>opK P E F H o k
 | .index t x i=>match a5T P t,ev F i with
  | some n,.lit (.int _ v)=>bif a6H (ev F x) then aFJ n 0 v (λj=>match xIdx P H t (ev F x) j with
    | some (p,H',c)=>k F p H' c
    | none=>none) else opK P E F H o k
  | _,_=>opK P E F H o k
 | .slice t x lo hi none=>match ev F x with
  | .own r sz=>match aLL H r,P.underlying t with
   | some g,some (.slice e)=>bif aKF g.t then (match sS P e with
    | some n=>bif Nat.beq n sz then ask (Nat.beq g.l.length 0) λz=>(match aHS g H r sz (lo.map (ev F)) (hi.map (ev F)) z with
      | some (cs,v,H',c)=>X6 cs (k F v H' c)
      | none=>none) else none
    | none=>none) else opK P E F H o k
   | _,_=>opK P E F H o k
  | _=>opK P E F H o k
 | _=>opK P E F H o k
def aRH(l:List Oper)(o:Oper)(F:Frm)(H:Heap)(k:Frm->PV->Heap->Nat->Option α):Option α :=
 aQF F l o λF b=>bif b then (match mkData P F l o with
  | none=>a43 P E l F H o k
  | some none=>none
  | some (some (cs,v))=>X6 cs (k F v H 0)) else k F (.lit undef) H 0
def KM(nt:Nat)(l:List Oper):List Oper->Frm->Heap->(Frm->Heap->Option α)->Option α
 | [],F,H,k=>k F H
 | o::rest,F,H,k=>aRH P E l o F H λF v H' _=>match LF nt F o.dst v with
  | some F'=>KM nt l rest F' H' k
  | none=>none
def stK(nt:Nat)(m:Option Nat)(ms:List Nat)(l:List Oper):List Oper->Nat->Frm->Heap->aG6->(Frm->Heap->aG6->Option α)->Option α
 | [],_,F,H,hl,k=>k F H hl
 | o::rest,j,F,H,hl,k=>match LY m o j with
  | none=>aRH P E l o F H λF v H' c=>bif okT m (ms.getD j 0) j (aRS F o) c v H' then (match LF nt F o.dst v with
   | some F'=>stK nt m ms l rest (j+1) F' H' (bif Nat.beq c 0 then hl else (j,c,aRS F o)::hl) k
   | none=>none) else none
  | some q=>bif aFN o then (bif eB.noRefs (o.op.operands.toList.map (ev F))&&eZ.noRows (o.op.operands.toList.map (ev F)) then aRH P E l o F [] λF v X _=>match aNB q v X H with
    | some (v,H',c)=>bif okT m (ms.getD j 0) j (some q) c v H' then (match LF nt F o.dst v with
     | some F'=>stK nt m ms l rest (j+1) F' H' (bif Nat.beq c 0 then hl else (j,c,some q)::hl) k
     | none=>none) else none
    | none=>none else none)
   else match stepT (some q) P (eT P E) l o F H with
   | some (v,H',c)=>bif okT m (ms.getD j 0) j (some q) c v H' then (match LF nt F o.dst v with
    | some F'=>stK nt m ms l rest (j+1) F' H' ((j,2,some q)::hl) k
    | none=>none) else none
   | none=>none
def FW(nt:Nat)(ops:Array Oper)(draw:Bool)(F:Frm)(H:Heap)(k:Frm->Heap->Option α):Option α :=
 bif draw then (bif uH ops&&aPV (V7 ops H) F H then stK P E nt (V7 ops H) (dA ops) ops.toList ops.toList 0 F (aTA (V7 ops H) ops.toList.length H) [] λF H hl=>bif VN (dA ops) hl then k F H else none else none)
 else KM P E nt ops.toList ops.toList F H k
end
section
variable {α:Type} {P:Program} {E:Env} {z:α}
theorem aD7 {b:Bool}{k:Bool->Option α}(h:ask b k=some z):k b=some z:=by cases b <;> exact h
theorem HI:∀ {l:List Bool} {r:Option α},X6 l r=some z->CF l=true/\r=some z
 | [],r,h=>⟨rfl,h⟩
 | b::l,r,h=>by
  simp only[X6]at h;obtain⟨rfl,h⟩:=aH h;exact HI (l:=l) h
theorem zD {τ:Type}{x:Option τ}{k:τ->Option α}(h:aC x k=some z):∃ y,x=some y/\k y=some z:=by
 cases x with
 | none=>cases h
 | some y=>exact⟨y,rfl,h⟩
theorem aMC {g:FuncId}{args:List PV}{H:Heap}{k:PV->Heap->Nat->Option α}(h:a2Y P E g args H k=some z):∃ v H' c,eT P E g args H=some (v,H',c)/\k v H' c=some z:=by
 unfold a2Y at h;unfold eT callee;cases hsh:E.sh g with
 | true =>
  rw[hsh]at h;simp only[oC]at h ⊢;split at h
  ·rename_i r hr;obtain⟨x,h1,h2⟩:=zD h;exact⟨_,_,_,by simp only[aI1,hr,h1],h2⟩
  ·cases h
 | false =>
  rw[hsh]at h;simp only[oD]at h ⊢;cases hn:eB.noRefs args with
  | true =>
   rw[hn]at h;simp only[oC]at h ⊢;obtain⟨hnr,h⟩:=aH h;split at h
   ·rename_i r hr;obtain⟨x,h1,h2⟩:=zD h;exact⟨_,_,_,by simp only[hnr,oC,aIM,hr,h1],h2⟩
   ·cases h
  | false =>
   rw[hn]at h;simp only[oD]at h ⊢;cases hf:aE1 P g with
   | true =>
    rw[hf]at h;simp only[oC]at h ⊢;split at h
    ·rename_i qs hq;obtain⟨hnr,h⟩:=aH h;split at h
     ·rename_i r hr;obtain⟨x,h1,h2⟩:=zD h;obtain⟨h3,h2⟩:=aH h2;exact⟨_,_,_,by simp only[hq,hnr,aIM,hr,h1,h3,oC],h2⟩
     ·cases h
    ·cases h
   | false =>
    rw[hf]at h;simp only[oD]at h ⊢;split at h
    ·rename_i qs hq;obtain⟨hnr,h⟩:=aH h;split at h
     ·rename_i r hr;obtain⟨x,h1,h2⟩:=zD h;exact⟨_,_,_,by simp only[hq,hnr,oC,aIM,hr,h1],h2⟩
     ·cases h
    ·cases h
theorem aPG {t:Nat}{b:Bool}:∀ {F:Frm},cV F t=.lit (.bool b)->a0E F t b=F
 | [],_=>rfl
 | (s,p)::r,h=>by
  simp only[cV]at h;simp only[a0E];cases hs:Nat.beq s t with
  | true=>rw[hs]at h; simp only[oC]at h ⊢; rw[h]
  | false=>rw[hs]at h; simp only[oD]at h ⊢; rw[aPG h]
theorem T4 {F:Frm}{x:Operand}{b:Bool}{k:Frm->Bool->Option α}(h:aUI F x b k=some z)(hx:ev F x=.lit (.bool b)):k F b=some z:=by
 unfold aUI at h;split at h
 ·have:=aD7 h;rwa[aPG (by simpa only[ev]using hx)]at this
 ·exact aD7 h
theorem aGF {F:Frm}{l:List Oper}{o:Oper}{k:Frm->Bool->Option α}(h:aQF F l o k=some z):∃ b,guardOf F l o=some b/\k F b=some z:=by
 unfold aQF at h;unfold guardOf;cases hg:o.guard with
 | none=>rw[hg]at h; exact⟨true,rfl,h⟩
 | some g =>
  obtain⟨j,want⟩:=g;rw[hg]at h;simp only at h ⊢;cases hp:l[j]? with
  | none=>rw[hp]at h; cases h
  | some p =>
   rw[hp]at h;simp only at h ⊢;cases ht:p.dst with
   | none=>rw[ht]at h; cases h
   | some t =>
    rw[ht]at h;simp only at h ⊢;split at h
    ·rename_i b hb;have:=aD7 h;rw[aPG hb]at this;exact⟨_,by rw[hb],this⟩
    ·rename_i u hu hb;refine⟨false,?_,h⟩;rw[hb];cases u <;> first|rfl|exact absurd rfl (hu _)
    ·cases h
theorem aYC {op:BinOp}{k1:IntKind}{a b:Int}{k:Value->Option α}(h:a56 op k1 a b k=some z):∃ v,aRQ op k1 a b=some v/\k v=some z:=by
 unfold a56 at h;split at h
 ·cases hb:eqI b 0 with
  | true=>rw[hb]at h; cases h
  | false=>rw[hb]at h; exact⟨_,by simp only[aRQ,hb,oD],h⟩
 ·cases hb:eqI b 0 with
  | true=>rw[hb]at h; cases h
  | false=>rw[hb]at h; exact⟨_,by simp only[aRQ,hb,oD],h⟩
 ·split at h
  ·rename_i v hv; exact⟨v,hv,h⟩
  ·cases h
theorem LP {F:Frm}{H:Heap}{o:Oper}{k:Frm->PV->Heap->Nat->Option α}(h:aA1 P E F H o k=some z):∃ v H' c,opu P (eT P E) F H o=some (v,H',c)/\k F v H' c=some z:=by
 unfold aA1 at h;split at h
 ·rename_i v H' c hc; exact⟨v,H',c,hc,h⟩
 ·cases h
theorem aQK {F:Frm}{o:Oper}{op:BinOp}{xt yt:TypeId}{x y:Operand}{k1 k2:IntKind}{a b:Int}{v:Value}(ho:o.op=.binOp op xt x y yt)(hx:ev F x=.lit (.int k1 a))(hy:ev F y=.lit (.int k2 b))(hb:ltI b 0=false)(hv:aT4 op k1 a b=some v):sV P F o=some (.lit v):=by
 have hb:¬ b<0:=by rw[aE]at hb; exact of_decide_eq_false hb
 have h1:valOf F x=.int k1 a:=by simp[valOf,hx,aGM]
 have h2:valOf F y=.int k2 b:=by simp[valOf,hy,aGM]
 have h3:R6 F o.op.operands.toList=true:=by simp[ho,Op.operands,R6,hx,hy,aGM]
 have h4:PS o.op=false:=by simp[ho,PS]
 unfold sV;rw[h3,h4];simp only[Bool.not_true,Bool.or_self,oD];cases op <;> simp only[aT4]at hv <;> try (cases hv; done)
 all_goals
  simp only[oJ]at hv;subst hv;simp[execOp,ho,h1,h2,eqGuard,binOp,Op.shift,hb,O1,aDO]
  try rfl
theorem aU8 {F:Frm}{x:Operand}{k:Frm->Option α}(h:a1M F x k=some z):k F=some z:=by
 unfold a1M at h;split at h
 ·rename_i b hb; exact T4 h hb
 ·exact h
theorem ZC:∀ {l:List Operand} {F:Frm} {k:Frm->Option α},aN5 l F k=some z->k F=some z
 | [],F,k,h=>h
 | x::r,F,k,h=>ZC (l:=r) (aU8 h)
theorem YA {F:Frm}{H:Heap}{o:Oper}{k:Frm->PV->Heap->Nat->Option α}(h:opK P E F H o k=some z):∃ v H' c,opx P (eT P E) F H o=some (v,H',c)/\k F v H' c=some z:=by
 unfold opK at h;unfold opx;cases ht:typed P F o with
 | true =>
  rw[ht]at h;simp only[oC]at h ⊢;split at h
  ·rename_i cs v H' c hc;obtain⟨h1,h2⟩:=HI h;exact⟨v,H',c,by simp only[hc,h1,oC],h2⟩
  ·cases h
 | false =>
  rw[ht]at h;simp only[oD]at h ⊢;split at h
  ·rename_i op xt x y yt ho;split at h
   ·rename_i k1 a k2 b hx hy;cases hsh:aOR op with
    | true =>
     rw[hsh]at h;simp only[oC]at h;cases hb:ltI b 0 with
     | true=>rw[hb]at h; cases h
     | false =>
      rw[hb]at h;simp only[oD]at h;split at h
      ·rename_i v hv;have hp:=aQK (P:=P) ho hx hy hb hv;have hxb:aRQ op k1 a b=none:=by cases op <;> simp only[aOR]at hsh <;> first|rfl|(cases hsh; done)
       refine⟨_,_,_,?_,h⟩;simp only[opu,ho,hx,hy,hxb,hp,p0,Bool.cond_self]
      ·cases h
    | false =>
    rw[hsh]at h;simp only[oD]at h;cases hb:(M6 k1 k2&&isX op)with
    | true =>
     rw[hb]at h;simp only[oC]at h;simp only[oA]at hb;obtain⟨v,h1,h2⟩:=aYC h;exact⟨_,_,_,by simp only[opu,ho,hx,hy,hb.1,oC,h1],h2⟩
    | false=>rw[hb]at h; exact LP h
   ·exact LP (ZC h)
  ·exact LP (ZC h)
  ·rename_i c a b ho;split at h
   ·rename_i t hc;exact⟨_,_,_,by simp only[opu,ho,hc],T4 h hc⟩
   ·cases h
  ·rename_i c ho;split at h
   ·rename_i f hc;split at h
    ·rename_i g first caps hf;obtain⟨v,H',c',h1,h2⟩:=aMC h;exact⟨v,H',c',by simp only[opu,ho,hc,hf,h1],h2⟩
    ·rename_i g first caps hf;obtain⟨v,H',c',h1,h2⟩:=aMC h;exact⟨v,H',c',by simp only[opu,ho,hc,hf,h1],h2⟩
    ·cases h
   ·exact LP h
  ·exact LP h
theorem RD {f:Int->Option α}{v:Int}:∀ {n j:Nat},aFJ n j v f=some z->f v=some z
 | 0,_,h=>by cases h
 | n+1,j,h=>by
  unfold aFJ at h;cases hb:eqI v (j:Int)with
  | true =>
   rw[hb]at h;rw[fP,decide_eq_true_eq]at hb;rw[hb]; exact h
  | false =>
   rw[hb]at h;exact RD h
theorem a3L {p:PV}(h:a5C p=true):isT p=false:=by cases p <;> first|rfl|cases h
theorem aXA {l:List Oper}{F:Frm}{H:Heap}{o:Oper}{k:Frm->PV->Heap->Nat->Option α}(h:a43 P E l F H o k=some z):∃ v H' c,opz P (eT P E) l F H o=some (v,H',c)/\k F v H' c=some z:=by
 unfold a43 at h;split at h
 ·rename_i t n c ho;cases hb:aI6 l o.dst with
  | false =>
   rw[hb]at h;obtain⟨v,H',c',h1,h2⟩:=YA h;exact⟨v,H',c',by simp only[opz,ho,hb,oD,h1],h2⟩
  | true =>
   rw[hb]at h;simp only[oC]at h;split at h
   ·rename_i cs v1 H1 k1 h1;obtain⟨h3,h4⟩:=HI h;exact⟨_,_,_,by simp only[opz,ho,hb,oC,h1,h3],h4⟩
   ·cases h
 ·rename_i t x i ho;have plain:opK P E F H o k=some z->∃ v H' c,opz P (eT P E) l F H o=some (v,H',c)/\k F v H' c=some z:=λh=>by
   obtain⟨v,H',c',h1,h2⟩:=YA h;exact⟨v,H',c',by simp only[opz,ho,h1],h2⟩
  split at h
  ·rename_i n k1 v hn hv;cases hb:aLO (ev F x)with
   | false =>
    rw[hb]at h;simp only[oD]at h;cases hb2:a5C (ev F x)with
    | false=>rw[hb2]at h; exact plain h
    | true =>
     rw[hb2]at h;simp only[oC]at h;have h:=RD h;split at h
     ·rename_i p H1 c1 h1;refine⟨_,_,_,?_,h⟩;have ht:typed P F o=false:=by simp only[typed,ho,hb,a3L hb2,Bool.or_false]
      simp only[opz,ho,opx,ht,oD,opu,hv,h1]
     ·cases h
   | true =>
    rw[hb]at h;simp only[oC]at h;have h:=RD h;split at h
    ·rename_i cs p H1 c1 h1;obtain⟨h3,h4⟩:=HI h;refine⟨_,_,_,?_,h4⟩;have ht:typed P F o=true:=by simp only[typed,ho,hb,Bool.or_true]
     simp only[opz,ho,opx,ht,oC,top,hv,h1,h3]
    ·cases h
  ·exact plain h
 ·rename_i t x i ho;have plain:opK P E F H o k=some z->∃ v H' c,opz P (eT P E) l F H o=some (v,H',c)/\k F v H' c=some z:=λh=>by
   obtain⟨v,H',c',h1,h2⟩:=YA h;exact⟨v,H',c',by simp only[opz,ho,h1],h2⟩
  split at h
  ·rename_i n k1 v hn hv;cases hb:a6H (ev F x)with
   | false=>rw[hb]at h; exact plain h
   | true =>
    rw[hb]at h;simp only[oC]at h;have h:=RD h;split at h
    ·rename_i p H1 c1 h1;refine⟨_,_,_,?_,h⟩;obtain⟨cs,hcs⟩:∃ cs,ev F x=.agg cs:=by
      revert hb
      cases ev F x <;> intro hb <;> first|exact⟨_,rfl⟩|cases hb
     have ht:typed P F o=false:=by simp only[typed,ho,hcs,isS]
     simp only[opz,ho,opx,ht,oD,opu,hv,hcs];rw[hcs]at h1;unfold a5T at hn;split at hn
     ·rename_i n1 e1 hu;unfold xIdx at h1;simp only[hu]at h1 ⊢;exact h1
     ·cases hn
    ·cases h
  ·exact plain h
 ·rename_i t x lo hi ho;have plain:opK P E F H o k=some z->∃ v H' c,opz P (eT P E) l F H o=some (v,H',c)/\k F v H' c=some z:=λh=>by
   obtain⟨v,H',c',h1,h2⟩:=YA h;exact⟨v,H',c',by simp only[opz,ho,h1],h2⟩
  split at h
  ·rename_i r sz hx;split at h
   ·rename_i g e hg hu;cases hb:aKF g.t with
    | false=>rw[hb]at h; exact plain h
    | true =>
     rw[hb]at h;simp only[oC]at h;split at h
     ·rename_i n hn;obtain⟨hbn,h⟩:=aH h;replace h:=aD7 h;split at h
      ·rename_i cs v H1 c1 h1;obtain⟨h3,h4⟩:=HI h;refine⟨_,_,_,?_,h4⟩;have ht:typed P F o=true:=by simp only[typed,ho,hx,isT,Bool.true_or]
       simp only[opz,ho,opx,ht,oC,top,hx,isS,oD,SD,hu,hn,hg,hbn,hb,Bool.true_and,h1,h3]
      ·cases h
     ·cases h
   ·exact plain h
  ·exact plain h
 ·rename_i hno hno2 hno3 hno4;obtain⟨v,H',c',h1,h2⟩:=YA h;refine⟨v,H',c',?_,h2⟩;unfold opz;split
  ·rename_i t n c ho;exact(hno t n c ho).elim
  ·exact h1
theorem aBY {l:List Oper}{F:Frm}{H:Heap}{o:Oper}{k:Frm->PV->Heap->Nat->Option α}(h:aRH P E l o F H k=some z):∃ v H' c,p5 P (eT P E) l o F H=some (v,H',c)/\k F v H' c=some z:=by
 unfold aRH at h;obtain⟨b,h1,h2⟩:=aGF h;unfold p5;cases b with
 | true =>
  simp only[h1];simp only[oC]at h2;split at h2
  ·rename_i hm;simp only[hm];exact aXA h2
  ·cases h2
  ·rename_i cs v hm;obtain⟨h3,h4⟩:=HI h2;exact⟨_,_,_,by simp only[hm,h3,oC],h4⟩
 | false=>exact⟨_,_,_,by simp only[h1],h2⟩
theorem wD {nt:Nat}{l:List Oper}{k:Frm->Heap->Option α}:∀ {r:List Oper} {F:Frm} {H:Heap},KM P E nt l r F H k=some z->∃ F' H',SS P (eT P E) nt l r F H=some (F',H')/\k F' H'=some z
 | [],F,H,h=>⟨F,H,rfl,h⟩
 | o::r,F,H,h=>by
  simp only[KM]at h;obtain⟨v,H1,c,h1,h2⟩:=aBY h;split at h2
  ·rename_i F1 hp;obtain⟨F',H',h3,h4⟩:=wD h2;refine⟨F',H',?_,h4⟩;simp only[SS,h1,aB2,hp,H6,Bool.cond_self,h3]
  ·cases h2
theorem YM {nt:Nat}{m:Option Nat}{ms:List Nat}{l:List Oper}{F0:Frm}{H0:Heap}{k:Frm->Heap->aG6->Option α}:∀ {r:List Oper} {j:Nat} {F:Frm} {H:Heap} {hl:aG6},stK P E nt m ms l r j F H hl k=some z->r=l.drop j->j<=l.length->X1 P (eT P E) nt m ms l F0 H0 j=some (F,H,hl)->∃ F' H' hl',X1 P (eT P E) nt m ms l F0 H0 l.length=some (F',H',hl')/\k F' H' hl'=some z
 | [],j,F,H,hl,h,hr,hjl,hs=>by
  have h1:(l.drop j).length=0:=by rw[<- hr]; rfl
  rw[List.length_drop]at h1;have h2:j=l.length:=by omega
  subst h2;exact⟨F,H,hl,hs,h⟩
 | o::r,j,F,H,hl,h,hr,hjl,hs=>by
  have hj:l[j]?=some o:=by
   have:(l.drop j)[0]?=some o:=by rw[<- hr]; rfl
   simpa using this
  have hr':r=l.drop (j+1):=by
   have:(l.drop j).tail=r:=by rw[<- hr]; rfl
   rw[<- this,List.tail_drop]
  simp only[stK]at h;split at h
  ·rename_i hres;obtain⟨v,H1,c,h1,h2⟩:=aBY h;obtain⟨hok,h2⟩:=aH h2;split at h2
   ·rename_i F1 hp;refine YM h2 hr' (oO.1 hj).1 ?_;simp only[X1,hs,hj,hres,stepT,h1,hok,oC,aB2,hp,H6,aDM];cases Nat.beq c 0 <;> rfl
   ·cases h2
  ·rename_i q hres;cases hcall:aFN o with
   | true =>
    rw[hcall]at h;simp only[oC]at h;obtain⟨hnr,h⟩:=aH h;obtain⟨v0,X,c0,h1,h⟩:=aBY h;split at h
    ·rename_i v H1 c hct;obtain⟨hok,h2⟩:=aH h;split at h2
     ·rename_i F1 hp;refine YM h2 hr' (oO.1 hj).1 ?_;have hop:∃ cc,o.op=.call cc:=by
       unfold aFN at hcall;split at hcall
       ·unfold aFE at hcall;split at hcall
        ·rename_i cc hcc; exact⟨cc,hcc⟩
        ·cases hcall
       ·cases hcall
      obtain⟨cc,hop⟩:=hop;have hst:stepT (some q) P (eT P E) l o F H=some (v,H1,c):=by
       simp only[stepT,hop];rw[<- hop,hnr,oC,h1];exact hct
      simp only[X1,hs,hj,hres,hst,hok,oC,aB2,hp,H6,aDM];cases Nat.beq c 0 <;> rfl
     ·cases h2
    ·cases h
   | false =>
   rw[hcall]at h;simp only[oD]at h;split at h
   ·rename_i v H1 c h1;obtain⟨hok,h2⟩:=aH h;split at h2
    ·rename_i F1 hp;refine YM h2 hr' (oO.1 hj).1 ?_;have hc:c=2:=by
      simp only[stepT]at h1;split at h1
      ·split at h1
       ·obtain⟨_,h1⟩:=aH h1;simp only[oJ,oP]at h1;exact h1.2.2.symm
       ·cases h1
      ·obtain⟨_,h1⟩:=aH h1;split at h1
       ·rcases QE h1 with ⟨_,_,_,_,_,_,h1,_⟩|⟨_,_,_,_,_⟩
        ·exact h1
        ·obtain⟨_,_,_,ha⟩:=aE6 hres;unfold VQ at ha;rw[hcall,Bool.or_false]at ha;unfold isVar at ha;split at ha
         ·simp_all
         ·cases ha
       ·cases h1
      ·cases h1
     subst hc;simp only[X1,hs,hj,hres,h1,hok,oC,aB2,hp,H6,aDM];rfl
    ·cases h2
   ·cases h
theorem UQ {nt:Nat}{ops:Array Oper}{F:Frm}{H:Heap}{k:Frm->Heap->Option α}(h:FW P E nt ops true F H k=some z):∃ F' H',WB P (eT P E) nt ops F H=some (F',H')/\k F' H'=some z:=by
 unfold FW at h;simp only[oC]at h;obtain⟨h1,h⟩:=aH h;obtain⟨F',H',hl,h2,h3⟩:=YM h (F0:=F) (H0:=aTA (V7 ops H) ops.toList.length H) (by simp) (Nat.zero_le _) rfl;obtain⟨h4,h3⟩:=aH h3;exact⟨F',H',by simp only[WB,h1,oC,h2,h4],h3⟩
theorem aK7 {nt:Nat}{id:Nat}{ops:Array Oper}{draw:Bool}{F:Frm}{H:Heap}{k:Frm->Heap->Option α}(hcl:dF P (eT P E))(hP:P.follows .mixedOrders=true)(h:FW P E nt ops draw F H k=some z) :
  ∃ F' H',k F' H'=some z/\∀ {n0 wi Gi μi a w} {Q:Exit->Act->World->Prop},I n0 wi Gi μi nt F H a w->(∀ a' w',I n0 wi Gi μi nt F' H' a' w'->Q .normal a' w')->(Code.region id ops draw).wp P Q a w:=by
 cases draw with
 | true =>
  obtain⟨F',H',h2,h3⟩:=UQ h;exact⟨F',H',h3,λhI hQ=>aLR hcl hP h2 hI hQ⟩
 | false =>
  unfold FW at h;simp only[oD]at h;obtain⟨F',H',h2,h3⟩:=wD h;exact⟨F',H',h3,λhI hQ=>wp_region_list (A9 hcl ops.toList F H _ _ h2 hI hQ)⟩
end
def ZJ {α:Type}(m:Nat):Frm->(Frm->α)->α
 | [],k=>k []
 | (t,p)::r,k=>bif aCX m t then ZJ m r (λr=>k ((t,p)::r)) else ZJ m r k
theorem OQ {α:Type}(m:Nat):∀ (F:Frm) (k:Frm->α),∃ F',ZJ m F k=k F'/\∀ t,cV F' t=cV F t\/cV F' t=.junk
 | [],k=>⟨[],rfl,λt=>.inl rfl⟩
 | (s,p)::r,k=>by
  simp only[ZJ];cases hs:aCX m s with
  | true =>
   obtain⟨F',h1,h2⟩:=OQ m r λr=>k ((s,p)::r)
   refine⟨(s,p)::F',h1,λt=>?_⟩;rw[dJ,dJ]
   by_cases hts:t=s
   ·subst hts; simp
   ·simp only[hts,if_false]; exact h2 t
  | false =>
   have key:∀ (F:Frm) (k:Frm->α),∃ F',ZJ m F k=k F'/\∀ t,cV F' t=if aCX m t then cV F t else .junk:=by
    intro F
    induction F with
    | nil=>intro k; exact⟨[],rfl,λt=>by simp[cV]⟩
    | cons x r ih =>
     intro k;obtain⟨s,p⟩:=x;simp only[ZJ];cases hs:aCX m s with
     | true =>
      obtain⟨F',h1,h2⟩:=ih λr=>k ((s,p)::r)
      refine⟨(s,p)::F',h1,λt=>?_⟩;rw[dJ,dJ,h2 t]
      by_cases hts:t=s
      ·subst hts; simp[hs]
      ·simp[hts]
     | false =>
      obtain⟨F',h1,h2⟩:=ih k;refine⟨F',h1,λt=>?_⟩;rw[dJ,h2 t]
      by_cases hts:t=s
      ·subst hts; simp[hs]
      ·simp[hts]
   obtain⟨F',h1,h2⟩:=key r k;refine⟨F',h1,λt=>?_⟩;rw[dJ,h2 t]
   by_cases hts:t=s
   ·subst hts; simp[hs]
   ·simp only[hts,if_false];cases aCX m t <;> simp
@[reducible] def qI:List (Ex×List (Nat×Kd))->Type
 | []=>Empty
 | [(_,s)]=>Shape.den s
 | (_,s)::b::r=>Shape.den s⊕qI (b::r)
structure cA where
 sh:List (Nat×Kd)
 exits:List (Ex×List (Nat×Kd))
 run:Shape.den sh->Option (qI exits)
def EA:(l:List (Ex×List (Nat×Kd)))->qI l->Ex×Frm×Heap
 | [],z=>Empty.elim z
 | [(e,s)],z=>(e,AR s z 0,JE s z)
 | (e,s)::b::r,z=>match z with
  | .inl x=>(e,AR s x 0,JE s x)
  | .inr y=>EA (b::r) y
def aTN {α:Type}:(l:List (Ex×List (Nat×Kd)))->qI l->(Ex->Frm->Heap->Option α)->Option α
 | [],z,_=>Empty.elim z
 | [(e,s)],z,k=>k e (AR s z 0) (JE s z)
 | (e,s)::b::r,z,k=>vB z (λx=>k e (AR s x 0) (JE s x)) (λy=>aTN (b::r) y k)
def aRT:Ex->Ex->Bool
 | .normal,.normal=>true
 | .exit i,.exit j=>Nat.beq i j
 | .ret,.ret=>true
 | _,_=>false
def aAZ:(l:List (Ex×List (Nat×Kd)))->Ex->Frm->Heap->Option (qI l)
 | [],_,_,_=>none
 | [(e,s)],ex,F,H=>bif aRT e ex then Q9 s F H else none
 | (e,s)::b::r,ex,F,H=>bif aRT e ex then (match Q9 s F H with|some x=>some (.inl x)|none=>none) else (match aAZ (b::r) ex F H with|some y=>some (.inr y)|none=>none)
section
variable {α:Type} (P:Program) (E:Env) (nt bG:Nat) (lt:Nat->Option cA)
def EU:Code->Frm->Heap->(Ex->Frm->Heap->Option α)->Option α
 | .skip,F,H,k=>k .normal F H
 | .label _,F,H,k=>k .normal F H
 | .region _ ops draw,F,H,k=>FW P E nt ops draw F H λF H=>ZJ bG F λF=>k .normal F H
 | .seq a b,F,H,k=>EU a F H λex F H=>match ex with
  | .normal=>EU b F H k
  | .exit i=>k (.exit i) F H
  | .ret=>k .ret F H
 | .cond c a b,F,H,k=>match ev F c with
  | .lit (.bool t)=>aUI F c t λF t=>bif t then EU a F H k else EU b F H k
  | _=>none
 | .block id a,F,H,k=>EU a F H λex F H=>match ex with
  | .exit i=>bif Nat.beq i id then k .normal F H else k (.exit i) F H
  | .normal=>k .normal F H
  | .ret=>k .ret F H
 | .loop a,F,H,k=>match lt (bQ a)with
  | some s=>match Q9 s.sh F H with
   | some x=>aC (s.run x) λz=>aTN s.exits z k
   | none=>none
  | none=>none
 | .exit id,F,H,k=>k (.exit id) F H
 | .scope a,F,H,k=>EU a F H k
 | .ret,F,H,k=>k .ret F H
 | _,_,_,_=>none
def aJJ(sh:List (Nat×Kd))(exits:List (Ex×List (Nat×Kd)))(ex:Ex)(F:Frm)(H:Heap):Option (Shape.den sh⊕qI exits):=match ex with
 | .normal=>match Q9 sh F H with
  | some y=>some (.inl y)
  | none=>none
 | .exit i=>match aAZ exits (.exit i) F H with
  | some z=>some (.inr z)
  | none=>none
 | .ret=>match aAZ exits .ret F H with
  | some z=>some (.inr z)
  | none=>none
def jU(a:Code) (sh:List (Nat×Kd)) (exits:List (Ex×List (Nat×Kd))) (x:Shape.den sh):Option (Shape.den sh⊕qI exits) :=
 EU P E nt bG lt a (AR sh x 0) (JE sh x) (aJJ sh exits)
end
def bF {σ τ:Type}(step:σ->Option (σ⊕τ)):Nat->σ->Option τ
 | 0,_=>none
 | n+1,x=>match step x with
  | some (.inl y)=>bF step n y
  | some (.inr z)=>some z
  | none=>none
def a8:Code->List Code
 | .seq a b=>a8 a++a8 b
 | .cond _ a b=>a8 a++a8 b
 | .block _ a=>a8 a
 | .scope a=>a8 a
 | .loop a=>[a]
 | _=>[]
section
variable {α:Type} {P:Program} {E:Env} {nt bG:Nat} {lt:Nat->Option cA}
def a6G(P:Program) (nt:Nat) (c:Code) (F:Frm) (H:Heap) (r:Ex×Frm×Heap):Prop :=
 ∀ (n0:Nat->Prop) (wi:World) (Gi:Gd) (μi:Mp) (a:Act) (w:World),(∀ r,μi.loc r=none/\μi.len r=none)->I n0 wi Gi μi nt F H a w->a7Q P n0 wi Gi μi nt c a w r
def eS(P:Program)(nt:Nat)(a:Code)(s:cA):Prop :=
 ∀ x z,s.run x=some z->a6G P nt (.loop a) (AR s.sh x 0) (JE s.sh x) (EA s.exits z)
theorem OJ:∀ {l:List (Ex×List (Nat×Kd))} {z:qI l} {k:Ex->Frm->Heap->Option α} {y:α},aTN l z k=some y->k (EA l z).1 (EA l z).2.1 (EA l z).2.2=some y
 | [],z,_,_,_=>Empty.elim z
 | [(e,s)],z,k,y,h=>h
 | (e,s)::b::r,z,k,y,h=>by
  cases z with
  | inl x=>exact h
  | inr x=>exact OJ (l:=b::r) (z:=x) h
theorem aHZ {a b:Ex}(h:aRT a b=true):a=b:=by cases a <;> cases b <;> simp only[aRT]at h <;> first|rfl|(cases h; done)|exact oZ Ex.exit (oE h)
theorem YB {n0:Nat->Prop}{wi:World}{Gi:Gd}{μi:Mp}(hfl:∀ r,μi.loc r=none/\μi.len r=none){ex:Ex}{F:Frm}{H:Heap}:∀ {l:List (Ex×List (Nat×Kd))} {z:qI l},aAZ l ex F H=some z ->
  (EA l z).1=ex/\∀ a w,I n0 wi Gi μi nt F H a w->I n0 wi Gi μi nt (EA l z).2.1 (EA l z).2.2 a w
 | [],z,_=>Empty.elim z
 | [(e,s)],z,h=>by
  simp only[aAZ]at h;obtain⟨hb,h⟩:=aH h;exact⟨aHZ hb,λa w hI=>FP h hfl hI⟩
 | (e,s)::b::r,z,h=>by
  simp only[aAZ]at h;cases hb:aRT e ex with
  | true =>
   rw[hb]at h;simp only[oC]at h;split at h
   ·rename_i x hx;simp only[oJ]at h;subst h;exact⟨aHZ hb,λa w hI=>FP hx hfl hI⟩
   ·cases h
  | false =>
   rw[hb]at h;simp only[oD]at h;split at h
   ·rename_i x hx;simp only[oJ]at h;subst h;exact YB hfl (l:=b::r) (z:=x) hx
   ·cases h
theorem nG(hcl:dF P (eT P E))(hP:P.follows .mixedOrders=true):∀ (c:Code) (F:Frm) (H:Heap) (k:Ex->Frm->Heap->Option α) (z:α),(∀ a∈a8 c,∀ s,lt (bQ a)=some s->eS P nt a s) ->
  EU P E nt bG lt c F H k=some z->∃ r:Ex×Frm×Heap,k r.1 r.2.1 r.2.2=some z/\a6G P nt c F H r
 | .skip,F,H,k,z,hl,h=>⟨(.normal,F,H),h,λ_ _ _ _ _ _ _ hI=>wp_skip ⟨rfl,hI⟩⟩
 | .label l,F,H,k,z,hl,h=>⟨(.normal,F,H),h,λ_ _ _ _ _ _ _ hI=>wp_label ⟨rfl,hI⟩⟩
 | .region id ops draw,F,H,k,z,hl,h=>by
  simp only[EU]at h;obtain⟨F1,H1,h1,h2⟩:=aK7 (id:=id) hcl hP h;obtain⟨F2,h3,h4⟩:=OQ bG F1 λF=>k .normal F H1
  rw[h3]at h1;exact⟨(.normal,F2,H1),h1,λ_ _ _ _ _ _ _ hI=>h2 hI λa' w' hI'=>⟨rfl,hI'.a3B h4⟩⟩
 | .seq x y,F,H,k,z,hl,h=>by
  simp only[EU]at h;obtain⟨⟨ex,F1,H1⟩,h1,h2⟩:=nG hcl hP x F H _ z (λa ha=>hl a (by simp[a8,ha])) h;cases ex with
  | normal =>
   obtain⟨r,h3,h4⟩:=nG hcl hP y F1 H1 k z (λa ha=>hl a (by simp[a8,ha])) h1;refine⟨r,h3,λn0 wi Gi μi a w hfl hI=>wp_seq (wp_mono (h2 n0 wi Gi μi a w hfl hI) ?_)⟩;rintro e a' w' ⟨rfl,hI'⟩;exact h4 n0 wi Gi μi a' w' hfl hI'
  | exit i =>
   refine⟨(.exit i,F1,H1),h1,λn0 wi Gi μi a w hfl hI=>wp_seq (wp_mono (h2 n0 wi Gi μi a w hfl hI) ?_)⟩;rintro e a' w' ⟨rfl,hI'⟩;exact⟨rfl,hI'⟩
  | ret =>
   refine⟨(.ret,F1,H1),h1,λn0 wi Gi μi a w hfl hI=>wp_seq (wp_mono (h2 n0 wi Gi μi a w hfl hI) ?_)⟩;rintro e a' w' ⟨rfl,hI'⟩;exact⟨rfl,hI'⟩
 | .cond c x y,F,H,k,z,hl,h=>by
  simp only[EU]at h;split at h
  ·rename_i t ht;replace h:=T4 h ht;have hc:∀ {n0 wi Gi μi a w},I n0 wi Gi μi nt F H a w->a.eval c=.bool t:=λhI=>by
    obtain⟨G,μ,e,hW,hF⟩:=hI;have hc:=cQ hF c;rwa[ht,VR]at hc
   cases t with
   | true =>
    obtain⟨r,h3,h4⟩:=nG hcl hP x F H k z (λa ha=>hl a (by simp[a8,ha])) h;exact⟨r,h3,λn0 wi Gi μi a w hfl hI=>wp_cond (hc hI) (h4 n0 wi Gi μi a w hfl hI)⟩
   | false =>
    obtain⟨r,h3,h4⟩:=nG hcl hP y F H k z (λa ha=>hl a (by simp[a8,ha])) h;exact⟨r,h3,λn0 wi Gi μi a w hfl hI=>wp_cond (hc hI) (h4 n0 wi Gi μi a w hfl hI)⟩
  ·cases h
 | .block id x,F,H,k,z,hl,h=>by
  simp only[EU]at h;obtain⟨⟨ex,F1,H1⟩,h1,h2⟩:=nG hcl hP x F H _ z (λa ha=>hl a (by simp[a8,ha])) h;cases ex with
  | normal =>
   refine⟨(.normal,F1,H1),h1,λn0 wi Gi μi a w hfl hI=>wp_block (wp_mono (h2 n0 wi Gi μi a w hfl hI) ?_)⟩;rintro e a' w' ⟨rfl,hI'⟩;exact⟨rfl,hI'⟩
  | ret =>
   refine⟨(.ret,F1,H1),h1,λn0 wi Gi μi a w hfl hI=>wp_block (wp_mono (h2 n0 wi Gi μi a w hfl hI) ?_)⟩;rintro e a' w' ⟨rfl,hI'⟩;exact⟨rfl,hI'⟩
  | exit i =>
   simp only at h1;cases hi:Nat.beq i id with
   | true =>
    rw[hi]at h1;have:=oE hi;subst this;refine⟨(.normal,F1,H1),h1,λn0 wi Gi μi a w hfl hI=>wp_block (wp_mono (h2 n0 wi Gi μi a w hfl hI) ?_)⟩;rintro e a' w' ⟨rfl,hI'⟩;simp only[Ex.to,Exit.inBlock,if_true];exact⟨trivial,hI'⟩
   | false =>
    rw[hi]at h1;have hne:¬ i=id:=λe=>by rw[e]at hi; simp at hi
    refine⟨(.exit i,F1,H1),h1,λn0 wi Gi μi a w hfl hI=>wp_block (wp_mono (h2 n0 wi Gi μi a w hfl hI) ?_)⟩;rintro e a' w' ⟨rfl,hI'⟩;simp only[Ex.to,Exit.inBlock,hne,if_false];exact⟨trivial,hI'⟩
 | .loop x,F,H,k,z,hl,h=>by
  simp only[EU]at h;split at h
  ·rename_i s hs;split at h
   ·rename_i x0 hx;obtain⟨y,h1,h2⟩:=zD h;exact⟨EA s.exits y,OJ h2,λn0 wi Gi μi a w hfl hI=>hl x (by simp[a8]) s hs x0 y h1 n0 wi Gi μi a w hfl (FP hx hfl hI)⟩
   ·cases h
  ·cases h
 | .exit id,F,H,k,z,hl,h=>⟨(.exit id,F,H),h,λ_ _ _ _ _ _ _ hI=>wp_exit ⟨rfl,hI⟩⟩
 | .scope x,F,H,k,z,hl,h=>by
  simp only[EU]at h;obtain⟨⟨ex,F1,H1⟩,h1,h2⟩:=nG hcl hP x F H _ z (λa ha=>hl a (by simp[a8,ha])) h;refine⟨(ex,F1,H1),h1,λn0 wi Gi μi a w hfl hI=>wp_scope_straight (wp_mono (h2 n0 wi Gi μi a w hfl hI) ?_)⟩;rintro e a' w' ⟨rfl,hI'⟩;cases ex <;> exact⟨rfl,hI'⟩
 | .ret,F,H,k,z,hl,h=>⟨(.ret,F,H),h,λ_ _ _ _ _ _ _ hI=>wp_ret ⟨rfl,hI⟩⟩
 | .rangeFunc ..,F,H,k,z,hl,h=>by simp only[EU]at h; cases h
 | .goto l,F,H,k,z,hl,h=>by simp only[EU]at h; cases h
 | .refuse s,F,H,k,z,hl,h=>by simp only[EU]at h; cases h
theorem fF(hcl:dF P (eT P E)) (hP:P.follows .mixedOrders=true) {a:Code} {sh:List (Nat×Kd)} {exits:List (Ex×List (Nat×Kd))} {step:Shape.den sh->Option (Shape.den sh⊕qI exits)} (L:Nat)
  (hl:∀ b∈a8 a,∀ s,lt (bQ b)=some s->eS P nt b s) (hr:∀ x,jU P E nt bG lt a sh exits x=step x):eS P nt a ⟨sh,exits,bF step L⟩:=by
 intro x z hz n0 wi Gi μi act w hfl hI;refine wp_loop_ghost (λk a w=>∃ x,bF step k x=some z/\I n0 wi Gi μi nt (AR sh x 0) (JE sh x) a w) L ⟨x,hz,hI⟩ ?_;rintro k act w ⟨x,hz,hI⟩;cases k with
 | zero=>cases hz
 | succ k =>
  simp only[bF]at hz;split at hz
  ·rename_i y hs;rw[<- hr]at hs;obtain⟨⟨ex,F',H'⟩,h1,h2⟩:=nG hcl hP a _ _ _ _ hl hs;refine wp_mono (h2 n0 wi Gi μi act w hfl hI) ?_;rintro e a' w' ⟨rfl,hI'⟩;cases ex with
   | normal =>
    simp only[aJJ]at h1;split at h1
    ·rename_i y' hy;simp only[oJ,Sum.inl.injEq]at h1;subst h1;exact⟨k,by omega,y',hz,FP hy hfl hI'⟩
    ·cases h1
   | exit i =>
    simp only[aJJ]at h1;split at h1
    ·simp at h1
    ·cases h1
   | ret =>
    simp only[aJJ]at h1;split at h1
    ·simp at h1
    ·cases h1
  ·rename_i y hs;simp only[oJ]at hz;subst hz;rw[<- hr]at hs;obtain⟨⟨ex,F',H'⟩,h1,h2⟩:=nG hcl hP a _ _ _ _ hl hs;refine wp_mono (h2 n0 wi Gi μi act w hfl hI) ?_;rintro e a' w' ⟨rfl,hI'⟩;cases ex with
   | normal =>
    simp only[aJJ]at h1;split at h1
    ·simp at h1
    ·cases h1
   | exit i =>
    simp only[aJJ]at h1;split at h1
    ·rename_i y' hy;simp only[oJ,Sum.inr.injEq]at h1;subst h1;obtain⟨h3,h4⟩:=YB (nt:=nt) (n0:=n0) (wi:=wi) (Gi:=Gi) hfl hy;have h5:=h4 a' w' hI';exact⟨by rw[h3],h5⟩
    ·cases h1
   | ret =>
    simp only[aJJ]at h1;split at h1
    ·rename_i y' hy;simp only[oJ,Sum.inr.injEq]at h1;subst h1;obtain⟨h3,h4⟩:=YB (nt:=nt) (n0:=n0) (wi:=wi) (Gi:=Gi) hfl hy;have h5:=h4 a' w' hI';exact⟨by rw[h3],h5⟩
    ·cases h1
  ·cases hz
end
@[reducible] def aK:List Kd->Type
 | []=>Unit
 | k::r=>k.den×aK r
def lO:(l:List Kd)->aK l->List PV
 | [],_=>[]
 | k::r,(x,xs)=>AQ k x 0::lO r xs
def aK9:(l:List Kd)->List PV->Option (aK l)
 | [],[]=>some ()
 | k::r,p::ps=>match aEV k p [] 0 with
  | some x=>match aK9 r ps with
   | some xs=>some (x,xs)
   | none=>none
  | none=>none
 | _,_=>none
def PT:List Kd->Bool
 | []=>true
 | .own _ _::_|.box _ _::_|.win _ _::_|.bown _ _ _::_|.bag _ _ _ _ _::_|.bag2 _ _ _ _ _ _::_|.ar _ _::_=>false
 | _::r=>PT r
def Kd.plain:Kd->Bool
 | .list t|.agg t|.ptr t=>t.plain
 | .clo _ ts=>ts.all Ty.plain
 | .hnd _=>false
 | .mpk _=>false
 | _=>true
theorem aB8:∀ (ts:List Ty) (x:Q5 ts),ts.all Ty.plain=true->eZ.noRows (VK ts x)=true
 | [],_,_=>rfl
 | t::r,(x,xs),h=>by
  simp only[List.all_cons,oA]at h;simp only[VK,eZ.noRows,eZ,oA];exact⟨OO t x h.1,aB8 r xs h.2⟩
theorem aT6:∀ (k:Kd) (x:k.den) (n:Nat),k.plain=true->eZ (AQ k x n)=true
 | .int _,_,_,_|.bool,_,_,_|.str,_,_,_|.own _ _,_,_,_|.box _ _,_,_,_|.fn _,_,_,_|.nil0,_,_,_|.val,_,_,_|.nilI,_,_,_|.win _ _,_,_,_|.bown _ _ _,_,_,_|.bag _ _ _ _ _,_,_,_|.bag2 _ _ _ _ _ _,_,_,_|.ar _ _,_,_,_=>rfl
 | .hnd _,_,_,h=>by cases h
 | .mpk _,_,_,h=>by cases h
 | .list t,_,_,h=>h
 | .agg t,x,_,h=>OO t x h
 | .ptr t,x,_,h=>OO t x h
 | .clo _ ts,x,_,h=>by
  simp only[AQ,eZ,eZ.noRows,Bool.true_and];exact aB8 ts x h
theorem aJ3:∀ (ks:List Kd) (x:aK ks),ks.all Kd.plain=true->eZ.noRows (lO ks x)=true
 | [],_,_=>rfl
 | k::r,(x,xs),h=>by
  simp only[List.all_cons,oA]at h;simp only[lO,eZ.noRows,oA];exact⟨aT6 k x 0 h.1,aJ3 r xs h.2⟩
def aG7(l:List Kd) (x:aK l):PV:=fG (lO l x)
def aOI:(l:List Kd)->PV->Option (aK l)
 | [k],q=>match aEV k q [] 0 with
  | some x=>some (x,())
  | none=>none
 | l,.tuple qs=>aK9 l qs
 | _,_=>none
section
variable {P:Program} {n0:Nat->Prop} {w wi:World} {G Gi:Gd} {μ μi μ':Mp} {H:Heap} {F:Frm} {a:Act} {nt:Nat}
theorem aTU {e:TypeId}{t:Ty}{p:PV}{n:Nat}:H8 e t p [] n=none:=by
 unfold H8;split
 ·cases Nat.beq _ n&&Nat.beq _ t.size <;> rfl
 ·rfl
theorem aTC {e:TypeId}{t:Ty}{p:PV}{n:Nat}:aJH e t p [] n=none:=by
 unfold aJH;split
 ·cases Nat.beq _ n&&Nat.beq _ 0 <;> rfl
 ·rfl
theorem aRD {e et:TypeId}{t:Ty}{p:PV}{n:Nat}:aC3 e et t p [] n=none:=by
 unfold aC3;split
 ·cases Nat.beq _ n&&Nat.beq _ 0 <;> rfl
 ·rfl
theorem aQ1 {e:TypeId}{t1:Ty}{et:TypeId}{t:Ty}{eu:TypeId}{u:Ty}{p:PV}{n:Nat}:aEA e t1 et t eu u p [] n=none:=by
 unfold aEA;split
 ·rw[show jS [] n=none from by simp[PM.jS]];cases Nat.beq _ _&&Nat.beq _ _ <;> rfl
 ·rfl
theorem aU7 {e:TypeId}{t1:Ty}{et:TypeId}{t:Ty}{t2:Option Ty}{p:PV}{n:Nat}:aIN e t1 et t t2 p [] n=none:=by
 unfold aIN;split
 ·cases Nat.beq _ n&&Nat.beq _ 0 <;> rfl
 ·rfl
theorem aNG:∀ (k:Kd) {p:PV} {x:k.den} {v:Value},aEV k p [] 0=some x->VR w G aI p v->VR w G aI (AQ k x 0) v
 | .int k,p,x,v,h,hv=>by
  have:=YJ h;simp only[List.cons.injEq,and_true]at this;subst this;exact hv
 | .bool,p,x,v,h,hv=>by
  have:=V5 h;simp only[List.cons.injEq,and_true]at this;subst this;exact hv
 | .str,p,x,v,h,hv=>by
  have:=YV h;simp only[List.cons.injEq,and_true]at this;subst this;exact hv
 | .list t,p,x,v,h,hv=>by
  have:=xL (.list t) aI [p] x [v] h (by rw[VRs]; exact⟨v,[],rfl,hv,by rw[VRs]⟩);simp only[enc]at this;rw[VRs]at this;obtain⟨y,ys,h1,h2,_⟩:=this;cases h1;exact h2
 | .agg t,p,x,v,h,hv=>by
  simp only[aEV]at h;unfold aU0 at h;split at h
  ·rename_i cs;rw[VR]at hv;obtain⟨vs,rfl,h2⟩:=hv;simp only[AQ];rw[VR];exact⟨vs,rfl,xL t aI cs x vs.toList h h2⟩
  ·cases h
 | .own e t,p,x,v,h,hv=>by
  simp only[aEV,aTU]at h;cases h
 | .box e t,p,x,v,h,hv=>by
  simp only[aEV,aTC]at h;cases h
 | .ptr t,p,x,v,h,hv=>VJ h hv
 | .fn g,p,x,v,h,hv=>by
  have:=aF2 h;subst this;exact hv
 | .nil0,p,x,v,h,hv=>by
  have:=aD8 h;subst this;exact hv
 | .val,p,x,v,h,hv=>by
  have:=aDY (p:=p) (x:=x) h;subst this;exact hv
 | .nilI,p,x,v,h,hv=>by
  have:=aAS (p:=p) (x:=x) h;subst this;exact hv
 | .clo g ts,p,x,v,h,hv=>VF h hv
 | .win j sz,p,x,v,h,hv=>by
  have:=aCV h;subst this;exact hv
 | .bown e et t,p,x,v,h,hv=>by
  simp only[aEV,aRD]at h;cases h
 | .bag e t1 et t t2,p,x,v,h,hv=>by
  simp only[aEV,aU7]at h;cases h
 | .bag2 e t1 et t eu u,p,x,v,h,hv=>by
  simp only[aEV,aQ1]at h;cases h
 | .mpk j,p,x,v,h,hv=>by
  have:=aGR h;subst this;exact hv
 | .hnd sz,p,x,v,h,hv=>by
  have:=aFW (μ:=aI) (vs:=[v]) h (by rw[VRs]; exact⟨v,[],rfl,hv,by rw[VRs]⟩);rw[VRs]at this;obtain⟨y,ys,h1,h2,_⟩:=this;cases h1;exact h2
 | .ar e t,p,x,v,h,hv=>by
  simp only[aEV,aWT,PM.jS]at h;simp at h
theorem IH:∀ (l:List Kd) {ps:List PV} {x:aK l} {vs:List Value},aK9 l ps=some x->VRs w G aI ps vs->VRs w G aI (lO l x) vs
 | [],[],x,vs,h,hv=>hv
 | [],_::_,x,vs,h,hv=>by cases h
 | _::_,[],x,vs,h,hv=>by cases h
 | k::r,p::ps,x,vs,h,hv=>by
  simp only[aK9]at h;split at h
  ·rename_i y hy;split at h
   ·rename_i ys hys;simp only[oJ]at h;subst h;rw[VRs]at hv;obtain⟨u,us,h1,h2,h3⟩:=hv;simp only[lO];rw[VRs];exact⟨u,us,h1,aNG k hy h2,IH r hys h3⟩
   ·cases h
  ·cases h
theorem VI {l:List Kd}{q:PV}{x:aK l}{v:Value}(h:aOI l q=some x)(hv:VR w G aI q v):VR w G aI (aG7 l x) v:=by
 unfold aOI at h;split at h
 ·split at h
  ·rename_i k q y hy;simp only[oJ]at h;subst h;exact aNG _ hy hv
  ·cases h
 ·rename_i hne;rw[VR]at hv;obtain⟨vs,rfl,h2⟩:=hv;have h3:=IH _ h h2;clear h
  match l,x,h3 with
  | [],x,h3 =>
   simp only[aG7,lO,fG];rw[VR];exact⟨vs,rfl,h3⟩
  | [k],x,h3=>exact(hne k rfl).elim
  | k::k2::r,(x,y,z),h3 =>
   simp only[aG7,lO,fG];rw[VR];exact⟨vs,rfl,h3⟩
 ·cases h
def UZ(P:Program) (g:FuncId) (args rets:List Kd) (f:aK args->Option (aK rets)):Prop :=
 ∀ x y,f x=some y->LO P g (lO args x) (aG7 rets y)
def aWM(args rets:List Kd) (f:aK args->Option (aK rets)) (qs:List PV):Option Res:=match aK9 args qs with
 | some x=>some ⟨aK rets,f x,aG7 rets⟩
 | none=>none
theorem aZ3 {g:FuncId}{args rets:List Kd}{f:aK args->Option (aK rets)}(hf:UZ P g args rets f){qs:List PV}{r:Res}(h:aWM args rets f qs=some r):∀ y,r.val=some y->LO P g qs (r.out y):=by
 unfold aWM at h;split at h
 ·rename_i x hx;simp only[oJ]at h;subst h;intro y hy w G vs hlt hv;exact hf x y hy w G vs hlt (IH args hx hv)
 ·cases h
structure fR (P:Program) (E:Env):Prop where
 pure:∀ g qs r,E.pure g qs=some r->∀ y,r.val=some y->LO P g qs (r.out y)
 shr:∀ g args H r,E.shr g args H=some r->∀ y,r.val=some y->∀ {n0 G μ w vs},aN n0 G μ H w->VRs w G μ args vs->xH P n0 w G μ g vs.toArray (r.out y).1 (r.out y).2
theorem fR.callee {E:Env}(h:fR P E):dF P (eT P E):=by
 refine aXJ ?_ ?_
 ·intro g args r hr;unfold aIM at hr;split at hr
  ·rename_i s hs;split at hr
   ·rename_i x hx;simp only[oJ]at hr;subst hr;exact h.pure g args s hs x hx
   ·cases hr
  ·cases hr
 ·intro g args H r H' hr;unfold aI1 at hr;split at hr
  ·rename_i s hs;split at hr
   ·rename_i x hx;have hr:=oB hr;have h1:r=(s.out x).1:=by rw[hr]
    have h2:H'=(s.out x).2:=by rw[hr]
    subst h1; subst h2;intro n0 G μ w vs hW hv;exact h.shr g args H s hs x hx hW hv
   ·cases hr
  ·cases hr
def aLN(P:Program) (rs:List ResultVar) (rets:List Kd) (ex:Ex) (F:Frm) (H:Heap):Option (aK rets):=match ex with
 | .exit _=>none
 | _=>match uO P F H rs with
  | some vs=>match aS0 H (fG vs)with
   | some q=>aOI rets q
   | none=>none
  | none=>none
def aNA(P:Program)(E:Env)(fn:Func)(bG:Nat)(lt:Nat->Option cA)(c:Code)(args rets:List Kd)(x:aK args):Option (aK rets) :=
 bif Nat.ble (lO args x).length fn.ntmps then EU P E fn.ntmps bG lt c (start bG 0 (lO args x)) [] (aLN P fn.results.toList rets) else none
theorem aFF {E:Env} (hP:ME P) (hE:fR P E) {g:Nat} {fn:Func} (hg:P.funcs[g]?=some fn) {c:Code} (hc:fn.body=some c) {bG:Nat} {lt:Nat->Option cA} {args rets:List Kd} {f:aK args->Option (aK rets)}
  (hl:∀ a∈a8 c,∀ s,lt (bQ a)=some s->eS P fn.ntmps a s) (hb:∀ x,aNA P E fn bG lt c args rets x=f x):UZ P g args rets f:=by
 intro x y hy;rw[<- hb]at hy;unfold aNA at hy;obtain⟨hlen,hy⟩:=aH hy;obtain⟨⟨ex,F',H'⟩,h1,h2⟩:=nG hE.callee hP.mixed c _ _ _ _ hl hy;obtain⟨vs,q,hex,hvs,hq,hd⟩:∃ vs q,(ex=.normal\/ex=.ret)/\uO P F' H' fn.results.toList=some vs/\aS0 H' (fG vs)=some q/\aOI rets q=some y:=by
  unfold aLN at h1;split at h1
  ·cases h1
  ·rename_i hne;split at h1
   ·rename_i vs hvs;split at h1
    ·rename_i q hq;refine⟨vs,q,?_,hvs,hq,h1⟩;cases ex with
     | normal=>exact .inl rfl
     | ret=>exact .inr rfl
     | exit i=>exact absurd rfl (hne i)
    ·cases h1
   ·cases h1
 have hcall:∀ {n0 G μ w us},aN n0 G μ [] w->VRs w G μ (lO args x) us->xH P n0 w G μ g us.toArray (fG vs) H':=by
  intro n0 G μ w us hW hv;refine⟨enters hg (hP.names g fn hg) (by rw[hc]; rfl) _ _,calls_of_wp hg hc ?_⟩;have hI:I n0 w G μ fn.ntmps (start bG 0 (lO args x)) [] ⟨us.toArray++Array.replicate (fn.ntmps-us.toArray.size) undef,[]⟩ w:=⟨G,μ,Ext.refl _ _ _ _,hW,AP (by simpa using hv) (oL hlen)⟩;refine wp_mono (h2 n0 w G μ _ w (λr=>hW.top r (Nat.zero_le _)) hI) ?_;rintro e a' w' ⟨rfl,G',μ',e',hW',hF'⟩;obtain⟨ws,h3,h4⟩:=rD (P:=P) hW' hF' hvs
  have hres:(results fn a'.tmps).run P w'=.ok (if hh:ws.toArray.size=1 then ws.toArray[0] else .tuple ws.toArray) w':=by
   rw[DR,Array.mapM_eq_mapM_toList];simp only[Sem.run_bind,Sem.run_map,h3,Result.andThen_ok,Sem.run_pure]
  have hpost:a'.defers=[]/\∃ v,(results fn a'.tmps).run P w'=.ok v w'/\(∃ v' G'' μ'',Ending.returned v=.returned v'/\Ext n0 w G μ w' G'' μ''/\aN n0 G'' μ'' H' w'/\VR w' G'' μ'' (fG vs) v') :=
   ⟨hF'.defers,_,hres,_,G',μ',rfl,e',hW',tM h4⟩
  rcases hex with rfl|rfl
  ·exact hpost
  ·exact hpost
 have hp:=QI hcall (HH hq).1 (HH hq).2;intro w G us hlt hv;obtain⟨h3,h4⟩:=hp w G us hlt hv;refine⟨h3,h4.mono ?_⟩;rintro e w' ⟨v',G',rfl,e1,e2,e3⟩;exact⟨v',G',rfl,e1,e2,VI hd e3⟩
end
end Go.PM
