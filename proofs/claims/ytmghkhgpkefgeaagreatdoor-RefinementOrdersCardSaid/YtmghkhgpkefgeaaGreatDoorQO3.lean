/- Texts of one proof, joined (3). -/
import Derived.Scope
import Derived.Test.YtmghkhgpkefgeaaGreatDoorQO2
set_option linter.unusedSimpArgs false
set_option linter.unusedVariables false
namespace Go.PM
open Go Go.RowKit
structure bL6 where
 slots:List Nat
 own:List (Nat×TypeId×Option Ty)
 base:Nat
def below(m:Nat):PV→Bool
 | .hptr r _=>Nat.blt r m
 | .hs r _ _ _ _=>Nat.blt r m
 | .own r _=>Nat.blt r m
 | .op r _ _ _=>Nat.blt r m
 | .win r _ _ _=>Nat.blt r m
 | .agg cs|.tuple cs=>belows m cs
 | .clo _ f c=>belows m f&&belows m c
 | _=>true
where belows (m:Nat):List PV→Bool
 | []=>true
 | p::ps=>below m p&&belows m ps
def a7R(s n:Nat):PV→PV
 | .win r lo m sz=>bif Nat.beq r s then .win n lo m sz else .win r lo m sz
 | p=>p
def bA0(s n:Nat):Frm→Frm
 | []=>[]
 | (t,p)::r=>(t,a7R s n p)::bA0 s n r
def a82(t:Nat) (e:TypeId) (ty:Ty) (F:Frm) (H:Heap) (k:Frm→Heap→Option (Frm×Heap)):Option (Frm×Heap):=match fB F t with
 | .lit (.slice none m c)=>bif Nat.beq m 0&&Nat.beq c 0 then k ((t,.own H.length ty.size)::F) (H++[some ⟨aM ty [],e,true,false,some ⟨ty,[]⟩⟩]) else none
 | .tl _ [] (some 0) _=>k ((t,.own H.length ty.size)::F) (H++[some ⟨aM ty [],e,true,false,some ⟨ty,[]⟩⟩])
 | .own s sz=>match l7 H s with
  | some kb=>match kb.tag with
   | some g=>match M5 g.t ty g.l with
    | some l=>bif Nat.beq sz ty.size&&!kb.frozen&&Nat.beq kb.ty e&&kb.grown then k ((t,.own H.length sz)::bA0 s H.length F) (H.set s none++[some ⟨aM ty l,e,true,false,some ⟨ty,l⟩⟩]) else none
    | none=>none
   | none=>none
  | none=>none
 | _=>none
def G7:List (Nat×TypeId×Option Ty)→Frm→Heap→Option (Frm×Heap)
 | [],F,H=>some (F,H)
 | (t,e,none)::r,F,H=>match fB F t with
  | .hptr s off=>match l7 H s with
   | some k=>bif Nat.beq k.ty e&&!k.tag.isSome then G7 r ((t,.hptr H.length off)::F) (H.set s none++[some k]) else none
   | none=>none
  | _=>none
 | (_,e,some (.rows _))::r,F,H=>match aOH 0 H with
  | some (s,k)=>match k.tag with
   | some ⟨.rows _,_⟩=>bif Nat.beq k.ty e&&!k.frozen then G7 r F (H.set s none++[some k]) else none
   | _=>none
  | none=>none
 | (t,e,some ty)::r,F,H=>a82 t e ty F H (G7 r)
def a2A(m d:Nat):PV→Option PV
 | .own r sz=>bif Nat.blt r m then some (.own r sz) else bif Nat.ble (m+d) r then some (.own (r-d) sz) else none
 | .hptr r off=>bif Nat.blt r m then some (.hptr r off) else bif Nat.ble (m+d) r then some (.hptr (r-d) off) else none
 | .win r lo n sz=>bif Nat.blt r m then some (.win r lo n sz) else bif Nat.ble (m+d) r then some (.win (r-d) lo n sz) else none
 | p=>bif below m p then some p else none
def aZS(m d:Nat) (F:Frm):List Nat→Option Frm
 | []=>some []
 | t::r=>match a2A m d (fB F t),aZS m d F r with
  | some p,some F'=>some ((t,p)::F')
  | _,_=>none
def aBH(m:Nat):List (Option Blk)→Bool
 | []=>true
 | none::r=>aBH m r
 | some k::r=>(k.tag.isSome||below.belows m k.cells)&&aBH m r
def aG2:List (Option Blk)→Bool
 | []=>true
 | none::r=>aG2 r
 | some k::r=>(k.tag.isSome||fP.noRefs k.cells)&&aG2 r
def tidy(pl:bL6) (F:Frm) (H:Heap):Option (Frm×Heap) :=
 bif Nat.ble pl.base H.length then match G7 pl.own F H with
  | some (F1,H1)=>bif aBH pl.base (H1.take pl.base)&&aG2 (H1.drop (pl.base+(H.length-pl.base))) then match aZS pl.base (H.length-pl.base) F1 pl.slots with
   | some F2=>some (F2,H1.take pl.base++H1.drop (pl.base+(H.length-pl.base)))
   | none=>none
   else none
  | none=>none
 else none
section
variable {P:Program} {n0:Nat→Prop} {w wi:World} {G Gi:Gd} {μ μi μ':Mp} {H:Heap} {F:Frm} {a:Act} {nt:Nat}
mutual
theorem aKS {m:Nat} (h:∀ r,r<m→μ'.loc r=μ.loc r∧μ'.len r=μ.len r):∀ (p:PV) (v:Value),below m p=true→VR w G μ p v→VR w G μ' p v
 | .lit u,v,_,hv=>by rw[VR]at hv ⊢; exact hv
 | .vals ..,v,_,hv=>by rw[VR]at hv ⊢; exact hv
 | .iptr _,v,_,hv=>by rw[VR]at hv ⊢; exact hv
 | .tl ..,v,_,hv=>by rw[VR]at hv ⊢; exact hv
 | .tp ..,v,_,hv=>by rw[VR]at hv ⊢; exact hv
 | .row ..,v,_,hv=>by rw[VR]at hv ⊢; exact hv
 | .rp ..,v,_,hv=>by rw[VR]at hv ⊢; exact hv
 | .mp _,v,_,hv=>by rw[VR]at hv ⊢; exact hv
 | .junk,v,_,hv=>by rw[VR]; trivial
 | .hptr r off,v,hb,hv=>by
  have:=h r (jZ (by simpa only[below]using hb))
  rw[VR]at hv ⊢; rw[this.1]; exact hv
 | .hs r off l c s,v,hb,hv=>by
  have:=h r (jZ (by simpa only[below]using hb))
  rw[VR]at hv ⊢; rw[this.1]; exact hv
 | .own r s,v,hb,hv=>by
  have:=h r (jZ (by simpa only[below]using hb))
  rw[VR]at hv ⊢; rw[this.1,this.2]; exact hv
 | .op r i off s,v,hb,hv=>by
  have:=h r (jZ (by simpa only[below]using hb))
  rw[VR]at hv ⊢; rw[this.1]; exact hv
 | .win r lo n s,v,hb,hv=>by
  have:=h r (jZ (by simpa only[below]using hb))
  rw[VR]at hv ⊢; rw[this.1,this.2]; exact hv
 | .agg cs,v,hb,hv=>by
  rw[VR]at hv ⊢;obtain⟨vs,h1,h2⟩:=hv;exact⟨vs,h1,WT h cs _ (by simpa only[below]using hb) h2⟩
 | .tuple cs,v,hb,hv=>by
  rw[VR]at hv ⊢;obtain⟨vs,h1,h2⟩:=hv;exact⟨vs,h1,WT h cs _ (by simpa only[below]using hb) h2⟩
 | .clo fn f c,v,hb,hv=>by
  rw[VR]at hv ⊢;simp only[below,Bool.and_eq_true]at hb;obtain⟨fs,cs,h1,h2,h3⟩:=hv;exact⟨fs,cs,h1,WT h f _ hb.1 h2,WT h c _ hb.2 h3⟩
theorem WT {m:Nat} (h:∀ r,r<m→μ'.loc r=μ.loc r∧μ'.len r=μ.len r):∀ (ps:List PV) (vs:List Value),below.belows m ps=true→VRs w G μ ps vs→VRs w G μ' ps vs
 | [],vs,_,hv=>by rw[VRs]at hv ⊢; exact hv
 | p::ps,vs,hb,hv=>by
  rw[VRs]at hv ⊢;simp only[below.belows,Bool.and_eq_true]at hb;obtain⟨x,xs,h1,h2,h3⟩:=hv;exact⟨x,xs,h1,aKS h p x hb.1 h2,WT h ps xs hb.2 h3⟩
end
theorem uO {b off:Nat} {ps:List PV} (hn:fP.noRefs ps=true) (h:aQ w G μ b off ps):aQ w G μ' b off ps:=by
 obtain⟨vs,h1,h2⟩:=h.values;exact aQ.qU (VRs.bN (dX ps vs hn h1)) h2
theorem a6Q {m:Nat} (hm:∀ r,r<m→μ'.loc r=μ.loc r∧μ'.len r=μ.len r) {b off:Nat} {ps:List PV} (hn:below.belows m ps=true) (h:aQ w G μ b off ps):aQ w G μ' b off ps:=by
 obtain⟨vs,h1,h2⟩:=h.values;exact aQ.qU (WT hm ps vs hn h1) h2
theorem aNM {t:Ty} {e:PV} {v:Value} (h:VR w G μ (.tl t [] (some 0) e) v):∃ ao,v=.slice ao 0 0:=by
 rw[VR]at h;obtain⟨h1,rfl⟩:=h;rw[VR]at h1;obtain⟨ao,c,rfl,_,h2,_⟩:=h1;have:=h2 0 rfl;subst this;exact⟨ao,rfl⟩
theorem j4.named (h:j4 w G μ nt F a) {t:Nat} {p:PV} (hv:VR w G μ p (a.tmps.getD t undef)):j4 w G μ nt ((t,p)::F) a :=
 ⟨h.size,fun s=>by
  rw[jV]
  by_cases hs:s=t
  ·subst hs; rw[if_pos rfl]; exact hv
  ·rw[if_neg hs]; exact h.slot s,h.defers⟩
theorem aVT(s n t:Nat):∀ F:Frm,fB (bA0 s n F) t=a7R s n (fB F t)
 | []=>rfl
 | (u,p)::r=>by
  simp only[bA0];rw[jV,jV]
  by_cases h:t=u
  ·rw[if_pos h,if_pos h]
  ·rw[if_neg h,if_neg h]; exact aVT s n t r
theorem bG7 {s n:Nat} (e:Mono w G μ w G μ') (hl:μ'.loc n=μ.loc s) (hn:μ'.len n=μ.len s) {p:PV} {v:Value} (h:VR w G μ p v):VR w G μ' (a7R s n p) v:=by
 cases p with
 | win r lo m sz =>
  simp only[a7R];cases hb:Nat.beq r s with
  | true =>
   have hb:=Nat.eq_of_beq_eq_true hb;subst hb;simp only[cond_true];rw[VR]at h; rw[VR];obtain⟨b,c,m',h1,h2,h3,h4,h5,h6⟩:=h;exact⟨b,c,m',by rw[hl]; exact h1,h2,h3,h4,by rw[hn]; exact h5,h6⟩
  | false=>exact VR.mono e _ _ h
 | _=>exact VR.mono e _ _ h
theorem j4.bA0 (h:j4 w G μ nt F a) {s n:Nat} (e:Mono w G μ w G μ') (hl:μ'.loc n=μ.loc s) (hn:μ'.len n=μ.len s):j4 w G μ' nt (PM.bA0 s n F) a :=
 ⟨h.size,fun t=>by rw[aVT]; exact bG7 e hl hn (h.slot t),h.defers⟩
theorem MS {t:Nat} {e:TypeId} {ty:Ty} {F:Frm} {H:Heap} {F':Frm} {H':Heap} {kk:Frm→Heap→Option (Frm×Heap)}
  (rec_:∀ (F:Frm) (H:Heap) (F':Frm) (H':Heap),kk F H=some (F',H')→I n0 wi Gi μi nt F H a w→I n0 wi Gi μi nt F' H' a w∧H.length≤H'.length∧∀ t,fB F t=.junk→fB F' t=.junk)
  (h:a82 t e ty F H kk=some (F',H')) (hI:I n0 wi Gi μi nt F H a w):I n0 wi Gi μi nt F' H' a w∧H.length≤H'.length∧∀ t,fB F t=.junk→fB F' t=.junk:=by
 unfold a82 at h;obtain⟨G,μ,e0,hW,hF⟩:=hI;have hs:=hF.slot t;split at h
 ·rename_i m c ht
  obtain⟨hb,h⟩:=aO h;simp only[Bool.and_eq_true]at hb;have h1:=Nat.eq_of_beq_eq_true hb.1;have h2:=Nat.eq_of_beq_eq_true hb.2;subst h1; subst h2;rw[ht,VR]at hs;obtain⟨e1,w1⟩:=vE hW ⟨aM ty [],e,true,false,some ⟨ty,[]⟩⟩ (on:=some 0) (fun g hg=>by cases hg; exact⟨rfl,rfl⟩)
  have f1:j4 w G (upd μ H.length none (some 0)) nt ((t,.own H.length ty.size)::F) a:=by
   refine j4.named (hF.mono e1.toMono) ?_;rw[VR];exact⟨0,sV ..,.inl ⟨rfl,none,hs⟩⟩
  obtain⟨g1,g2,g3⟩:=rec_ _ _ F' H' h ⟨G,_,e0.trans e1,w1,f1⟩;refine⟨g1,by simp only[List.length_append]at g2; omega,fun s hx=>g3 s ?_⟩
  rw[jV,if_neg,hx];rintro rfl;rw[ht]at hx; cases hx
 ·rename_i t' e' ht
  rw[ht]at hs;obtain⟨ao,hs⟩:=aNM hs;obtain⟨e1,w1⟩:=vE hW ⟨aM ty [],e,true,false,some ⟨ty,[]⟩⟩ (on:=some 0) (fun g hg=>by cases hg; exact⟨rfl,rfl⟩)
  have f1:j4 w G (upd μ H.length none (some 0)) nt ((t,.own H.length ty.size)::F) a:=by
   refine j4.named (hF.mono e1.toMono) ?_;rw[VR];exact⟨0,sV ..,.inl ⟨rfl,ao,hs⟩⟩
  obtain⟨g1,g2,g3⟩:=rec_ _ _ F' H' h ⟨G,_,e0.trans e1,w1,f1⟩;refine⟨g1,by simp only[List.length_append]at g2; omega,fun s hx=>g3 s ?_⟩
  rw[jV,if_neg,hx];rintro rfl;rw[ht]at hx; cases hx
 ·rename_i s sz ht
  split at h
  ·rename_i k hk
   split at h
   ·rename_i g hg
    split at h
    ·rename_i l' hc
     obtain⟨hb,h⟩:=aO h;simp only[Bool.and_eq_true,Bool.not_eq_true']at hb;obtain⟨⟨⟨hb1,hb2⟩,hb3⟩,hb4⟩:=hb;have hb1:=Nat.eq_of_beq_eq_true hb1;have hb3:=Nat.eq_of_beq_eq_true hb3;obtain⟨ht1,ht2⟩:=hW.tags s k g (aP hk) hg;obtain⟨gt,gl⟩:=g;obtain⟨rfl,rfl⟩:=uC hc;dsimp only at hc ht1 ht2 h hb1;rw[ht,VR]at hs;obtain⟨n,h1,h2⟩:=hs;rw[ht2]at h1;cases h1;have hkk:k=⟨aM gt gl,e,true,false,some ⟨gt,gl⟩⟩:=by
      obtain⟨k1,k2,k3,k4,k5⟩:=k;simp only at ht1 hb2 hb3 hb4 hg;rw[ht1,hb2,hb3,hb4,hg]
     have junk:∀ x,fB F x=.junk→fB ((t,.own H.length sz)::bA0 s H.length F) x=.junk:=fun x hx=>by
      rw[jV,if_neg,aVT,hx]; rfl;rintro rfl;rw[ht]at hx; cases hx
     have fin:∀ (ob:Option Nat),μ.loc s=ob→Ext n0 w G μ w G (upd μ H.length ob (some gl.length))→bC n0 G (upd μ H.length ob (some gl.length)) (H.set s none++[some ⟨aM gt gl,e,true,false,some ⟨gt,gl⟩⟩]) w →
       VR w G (upd μ H.length ob (some gl.length)) (.own H.length sz) (a.tmps.getD t undef)→I n0 wi Gi μi nt F' H' a w∧H.length≤H'.length∧∀ t,fB F t=.junk→fB F' t=.junk:=fun ob hob e1 w1 v1=>by
      obtain⟨g1,g2,g3⟩:=rec_ _ _ F' H' h ⟨G,_,e0.trans e1,w1,j4.named (hF.bA0 e1.toMono (by rw[lC,hob]) (by rw[sV,ht2])) v1⟩
      exact⟨g1,by simp only[List.length_append,List.length_set]at g2; omega,fun x hx=>g3 x (junk x hx)⟩
     cases hls:μ.loc s with
     | none =>
      rcases h2 with ⟨h2,ao,h3⟩|⟨b,c,h3,h4,h5,h6⟩
      ·have hk0:=zZ hW s
       obtain⟨e1,w1⟩:=vE hk0 ⟨aM gt gl,e,true,false,some ⟨gt,gl⟩⟩ (on:=some gl.length) (fun g hg=>by cases hg; exact⟨rfl,rfl⟩)
       rw[List.length_set]at e1 w1;refine fin none hls e1 w1 ?_;rw[VR];exact⟨_,sV ..,.inl ⟨h2,ao,h3⟩⟩
      ·rw[hls]at h3; cases h3
     | some b =>
      rw[hkk]at hk;obtain⟨e1,w1⟩:=RH hW (aP hk) hls (on:=some gl.length) (fun g hg=>by cases hg; exact⟨rfl,rfl⟩)
      refine fin (some b) hls e1 w1 ?_;rw[VR];refine⟨_,sV ..,?_⟩;rcases h2 with ⟨h2,ao,h3⟩|⟨b',c,h3,h4,h5,h6⟩
      ·exact .inl ⟨h2,ao,h3⟩
      ·rw[hls]at h3; cases h3
       exact .inr ⟨b,c,lC ..,h4,h5,h6⟩
    ·cases h
   ·cases h
  ·cases h
 ·cases h
theorem uQ:∀ (l:List (Nat×TypeId×Option Ty)) (F:Frm) (H:Heap) (F':Frm) (H':Heap),G7 l F H=some (F',H')→I n0 wi Gi μi nt F H a w→I n0 wi Gi μi nt F' H' a w∧H.length≤H'.length∧∀ t,fB F t=.junk→fB F' t=.junk
 | [],F,H,F',H',h,hI=>by
  simp only[G7,Option.some.injEq,Prod.mk.injEq]at h;obtain⟨rfl,rfl⟩:=h;exact⟨hI,Nat.le_refl _,fun _ h=>h⟩
 | (t,e,none)::l,F,H,F',H',h,hI=>by
  simp only[G7]at h;obtain⟨G,μ,e0,hW,hF⟩:=hI;have hs:=hF.slot t;split at h
  ·rename_i s off ht
   split at h
   ·rename_i k hk
    obtain⟨hb,h⟩:=aO h;simp only[Bool.and_eq_true,Bool.not_eq_true']at hb;rw[ht,VR]at hs;obtain⟨b,h1,h2⟩:=hs;obtain⟨e1,w1⟩:=RH hW (aP hk) h1 (on:=none) (fun g hg=>by rw[hg]at hb; simp at hb)
    have f1:j4 w G (upd μ H.length (some b) none) nt ((t,.hptr H.length off)::F) a:=by
     refine j4.named (hF.mono e1.toMono) ?_;rw[VR];exact⟨b,lC ..,h2⟩
    obtain⟨g1,g2,g3⟩:=uQ l _ _ F' H' h ⟨G,_,e0.trans e1,w1,f1⟩;refine⟨g1,by simp only[List.length_append,List.length_set]at g2; omega,fun x hx=>g3 x ?_⟩
    rw[jV,if_neg,hx];rintro rfl;rw[ht]at hx; cases hx
   ·cases h
  ·cases h
 | (t,e,some (.rows ty))::l,F,H,F',H',h,hI=>by
  simp only[G7]at h;obtain⟨G,μ,e0,hW,hF⟩:=hI;split at h
  ·rename_i s k har
   split at h
   ·rename_i t' l' ht
    obtain⟨hb,h⟩:=aO h;obtain⟨hs,hg⟩:=aEG har;obtain⟨e1,w1⟩:=bC1 hW hs hg ht;obtain⟨g1,g2,g3⟩:=uQ l _ _ F' H' h ⟨G,_,e0.trans e1,w1,hF.mono e1.toMono⟩;exact⟨g1,by simp only[List.length_append,List.length_set]at g2; omega,g3⟩
   ·cases h
  ·cases h
 | (t,e,some (.int ik))::l,F,H,F',H',h,hI=>MS (ty:=.int ik) (fun F H F' H'=>uQ l F H F' H') (by simpa only[G7]using h) hI
 | (t,e,some .bool)::l,F,H,F',H',h,hI=>MS (ty:=.bool) (fun F H F' H'=>uQ l F H F' H') (by simpa only[G7]using h) hI
 | (t,e,some .str)::l,F,H,F',H',h,hI=>MS (ty:=.str) (fun F H F' H'=>uQ l F H F' H') (by simpa only[G7]using h) hI
 | (t,e,some (.list lt))::l,F,H,F',H',h,hI=>MS (ty:=.list lt) (fun F H F' H'=>uQ l F H F' H') (by simpa only[G7]using h) hI
 | (t,e,some (.prod pa pb))::l,F,H,F',H',h,hI=>MS (ty:=.prod pa pb) (fun F H F' H'=>uQ l F H F' H') (by simpa only[G7]using h) hI
 | (t,e,some (.hnd hs))::l,F,H,F',H',h,hI=>MS (ty:=.hnd hs) (fun F H F' H'=>uQ l F H F' H') (by simpa only[G7]using h) hI
theorem aNL {m:Nat}:∀ {l:List (Option Blk)} {r:Nat} {k:Blk},aBH m l=true→l[r]?=some (some k)→k.tag.isSome=true∨below.belows m k.cells=true
 | [],r,k,_,h=>by simp at h
 | none::l,0,k,_,h=>by simp at h
 | some k'::l,0,k,hp,h=>by
  simp only[List.getElem?_cons_zero,Option.some.injEq]at h;subst h;simp only[aBH,Bool.and_eq_true,Bool.or_eq_true]at hp;exact hp.1
 | none::l,r+1,k,hp,h=>aNL (l:=l) (r:=r) (by simpa only[aBH]using hp) (by simpa using h)
 | some k'::l,r+1,k,hp,h=>by
  simp only[aBH,Bool.and_eq_true]at hp;exact aNL (l:=l) (r:=r) hp.2 (by simpa using h)
theorem aHJ:∀ {l:List (Option Blk)} {r:Nat} {k:Blk},aG2 l=true→l[r]?=some (some k)→k.tag.isSome=true∨fP.noRefs k.cells=true
 | [],r,k,_,h=>by simp at h
 | none::l,0,k,_,h=>by simp at h
 | some k'::l,0,k,hp,h=>by
  simp only[List.getElem?_cons_zero,Option.some.injEq]at h;subst h;simp only[aG2,Bool.and_eq_true,Bool.or_eq_true]at hp;exact hp.1
 | none::l,r+1,k,hp,h=>aHJ (l:=l) (r:=r) (by simpa only[aG2]using hp) (by simpa using h)
 | some k'::l,r+1,k,hp,h=>by
  simp only[aG2,Bool.and_eq_true]at hp;exact aHJ (l:=l) (r:=r) hp.2 (by simpa using h)
def aBI(μ:Mp) (m d:Nat):Mp:=⟨fun r=>if r<m then μ.loc r else μ.loc (r+d),fun r=>if r<m then μ.len r else μ.len (r+d)⟩
theorem NV {m d r:Nat} (h:r<m):(aBI μ m d).loc r=μ.loc r∧(aBI μ m d).len r=μ.len r:=by simp[aBI,h]
theorem a0P {m d r:Nat} (h:m+d≤r):(aBI μ m d).loc (r-d)=μ.loc r∧(aBI μ m d).len (r-d)=μ.len r:=by
 have h1:¬ r-d<m:=by omega
 have h2:r-d+d=r:=by omega
 simp[aBI,h1,h2]
theorem bIH(hW:bC n0 G μ H w) {m d:Nat} (hm:m+d≤H.length) (h1:aBH m (H.take m)=true) (h2:aG2 (H.drop (m+d))=true):bC n0 G (aBI μ m d) (H.take m++H.drop (m+d)) w:=by
 have key:∀ (r:Nat) (k:Blk),(H.take m++H.drop (m+d))[r]?=some (some k)→∃ s,H[s]?=some (some k)∧(aBI μ m d).loc r=μ.loc s∧(aBI μ m d).len r=μ.len s∧(k.tag.isSome=true∨below.belows m k.cells=true∨fP.noRefs k.cells=true)∧((r<m∧s=r)∨(m≤r∧s=r+d)):=by
  intro r k hr;rcases Nat.lt_or_ge r m with hl|hl
  ·rw[List.getElem?_append_left (by simp; omega)]at hr
   have hp:=aNL h1 hr;rw[List.getElem?_take,if_pos hl]at hr;exact⟨r,hr,(NV hl).1,(NV hl).2,hp.elim .inl fun h=>.inr (.inl h),.inl ⟨hl,rfl⟩⟩
  ·rw[List.getElem?_append_right (by simp; omega)]at hr
   have hp:=aHJ h2 hr;rw[List.getElem?_drop]at hr;have e:m+d+(r-(H.take m).length)=r+d:=by simp only[List.length_take]; omega
   rw[e]at hr;have hn:¬ r<m:=by omega
   exact⟨r+d,hr,by simp[aBI,hn],by simp[aBI,hn],hp.elim .inl fun h=>.inr (.inr h),.inr ⟨hl,rfl⟩⟩
 refine⟨?_,?_,?_,hW.lt,?_,hW.base,hW.rows.bL0 (fun r=>if r<m then r else r+d) (fun r s h=>by
  by_cases h1:r<m <;> by_cases h2:s<m <;> simp only[h1,h2,if_true,if_false]at h <;> omega) (fun r k hr=>by
  obtain⟨s,g1,g2,_,_,g5⟩:=key r k hr;rcases g5 with ⟨g5,g6⟩|⟨g5,g6⟩
  ·subst g6
   simp only[if_pos g5];exact⟨g1,g2⟩
  ·subst g6
   simp only[if_neg (Nat.not_lt.2 g5)];exact⟨g1,g2⟩)⟩
 ·intro r k b hr hb
  obtain⟨s,g1,g2,g3,g4,_⟩:=key r k hr;rw[g2]at hb;obtain⟨c,a1,a2,a3⟩:=hW.blk s k b g1 hb;refine⟨c,a1,?_,a3⟩;rcases g4 with g4|g4|g4
  ·obtain⟨g,hg⟩:=Option.isSome_iff_exists.1 g4
   have:=(hW.tags s k g g1 hg).1;rw[this]at a2 ⊢;exact uO (lS _ _) a2
  ·exact a6Q (fun r hr=>NV hr) g4 a2
  ·exact uO g4 a2
 ·intro r k g hr hg
  obtain⟨s,g1,g2,g3,_⟩:=key r k hr;rw[g3];exact hW.tags s k g g1 hg
 ·intro r1 r2 k1 k2 b e1 e2 f1 f2 m1 m2
  obtain⟨s1,a1,a2,_,_,a5⟩:=key r1 k1 e1;obtain⟨s2,b1,b2,_,_,b5⟩:=key r2 k2 e2;rw[a2]at m1;rw[b2]at m2;have:=hW.inj s1 s2 k1 k2 b a1 b1 f1 f2 m1 m2;omega
 ·intro r hr
  simp only[List.length_append,List.length_take,List.length_drop]at hr;have hn:¬ r<m:=by omega
  have:=hW.top (r+d) (by omega)
  simpa[aBI,hn]using this
theorem bGY {m d:Nat} {p q:PV} {v:Value} (h:a2A m d p=some q) (hv:VR w G μ p v):VR w G (aBI μ m d) q v:=by
 unfold a2A at h;split at h
 ·rename_i r sz
  cases hb:Nat.blt r m with
  | true =>
   rw[hb]at h;simp only[cond_true,Option.some.injEq]at h;subst h;exact aKS (fun r hr=>NV hr) _ v (by simpa only[below]using hb) hv
  | false =>
   rw[hb]at h;simp only[cond_false]at h;obtain⟨hc,h⟩:=aO h;simp only[Option.some.injEq]at h;subst h;have:=a0P (μ:=μ) (Nat.le_of_ble_eq_true hc);rw[VR]at hv ⊢;rw[this.1,this.2];exact hv
 ·rename_i r off
  cases hb:Nat.blt r m with
  | true =>
   rw[hb]at h;simp only[cond_true,Option.some.injEq]at h;subst h;exact aKS (fun r hr=>NV hr) _ v (by simpa only[below]using hb) hv
  | false =>
   rw[hb]at h;simp only[cond_false]at h;obtain⟨hc,h⟩:=aO h;simp only[Option.some.injEq]at h;subst h;have:=a0P (μ:=μ) (Nat.le_of_ble_eq_true hc);rw[VR]at hv ⊢;rw[this.1];exact hv
 ·rename_i r lo n sz
  cases hb:Nat.blt r m with
  | true =>
   rw[hb]at h;simp only[cond_true,Option.some.injEq]at h;subst h;exact aKS (fun r hr=>NV hr) _ v (by simpa only[below]using hb) hv
  | false =>
   rw[hb]at h;simp only[cond_false]at h;obtain⟨hc,h⟩:=aO h;simp only[Option.some.injEq]at h;subst h;have:=a0P (μ:=μ) (Nat.le_of_ble_eq_true hc);rw[VR]at hv ⊢;rw[this.1,this.2];exact hv
 ·obtain⟨hb,h⟩:=aO h
  simp only[Option.some.injEq]at h;subst h;exact aKS (fun r hr=>NV hr) _ v hb hv
theorem a2M {m d:Nat}:∀ {l:List Nat} {F':Frm},aZS m d F l=some F'→∀ t,fB F' t=.junk∨a2A m d (fB F t)=some (fB F' t)
 | [],F',h,t=>by
  simp only[aZS,Option.some.injEq]at h;subst h;exact .inl rfl
 | s::l,F',h,t=>by
  simp only[aZS]at h;split at h
  ·rename_i p F1 hp hl
   simp only[Option.some.injEq]at h;subst h;rw[jV]
   by_cases hs:t=s
   ·subst hs; rw[if_pos rfl]; exact .inr hp
   ·rw[if_neg hs]; exact a2M hl t
  ·cases h
theorem bCM {pl:bL6} {F':Frm} {H':Heap} (h:tidy pl F H=some (F',H')) (hfl:∀ r,pl.base≤r→μi.loc r=none∧μi.len r=none) (hI:I n0 wi Gi μi nt F H a w):I n0 wi Gi μi nt F' H' a w∧∀ t,fB F t=.junk→fB F' t=.junk:=by
 unfold tidy at h;obtain⟨hb,h⟩:=aO h;have hb:=Nat.le_of_ble_eq_true hb;split at h
 ·rename_i F1 H1 h1
  obtain⟨hc,h⟩:=aO h;simp only[Bool.and_eq_true]at hc;split at h
  ·rename_i F2 hF2
   simp only[Option.some.injEq,Prod.mk.injEq]at h;obtain⟨rfl,rfl⟩:=h;obtain⟨⟨G,μ,e,hW,hF⟩,hlen,hj⟩:=uQ pl.own F H F1 H1 h1 hI;have l7:=a2M hF2;refine⟨⟨G,aBI μ pl.base (H.length-pl.base),?_,bIH hW (by omega) hc.1 hc.2,hF.size,fun t=>?_,hF.defers⟩,fun t ht=>?_⟩
   ·exact {
     good:=e.good
     map:=fun r b hr=>by
      rcases Nat.lt_or_ge r pl.base with hl|hl
      ·rw[(NV hl).1]; exact e.map r b hr
      ·rw[(hfl r hl).1]at hr; cases hr
     len:=fun r b hr=>by
      rcases Nat.lt_or_ge r pl.base with hl|hl
      ·rw[(NV hl).2]; exact e.len r b hr
      ·rw[(hfl r hl).2]at hr; cases hr
     room:=e.room
     row:=e.row
     os:=e.os
     tape:=e.tape
     output:=e.output
     size:=e.size
     old:=e.old
     new:=e.new }
   ·rcases l7 t with h3|h3
    ·rw[h3,VR]; trivial
    ·exact bGY h3 (hF.slot t)
   ·rcases l7 t with h3|h3
    ·exact h3
    ·rw[hj t ht]at h3
     have e3:a2A pl.base (H.length-pl.base) .junk=some .junk:=rfl;rw[e3]at h3;exact(Option.some.inj h3).symm
  ·cases h
 ·cases h
end
end Go.PM
namespace Go.PM
open Go Go.RowKit
def aD4(m:List Nat) (es:List Edge):Nat:=es.foldl (fun s e=>bif Region.binds .any e then s ||| (2^e.on ||| m.getD e.on 0) else s) 0
def aC8(m:List Nat):Nat→List Oper→Bool
 | _,[]=>true
 | j,o::l=>Nat.beq (m.getD j 0) (aD4 m o.after.toList)&&o.after.toList.all (fun e=>!Region.binds .any e||Nat.blt e.on j)&&aC8 m (j+1) l
def aTA(ops:Array Oper) (m:List Nat) (j:Nat) (oj:Oper):Nat→List Oper→Bool
 | _,[]=>true
 | i,oi::l=>bif Nat.blt i j then ((m.getD j 0).testBit i||oi.apart ops oj)&&aTA ops m j oj (i+1) l else true
def aTG(ops:Array Oper) (m:List Nat):Nat→List Oper→Bool
 | _,[]=>true
 | j,oj::l=>aTA ops m j oj 0 ops.toList&&aTG ops m (j+1) l
def qJ(ops:Array Oper):List Nat:=(Region.before ops).toList
def aKL(ops:Array Oper):Bool:=aC8 (qJ ops) 0 ops.toList&&aTG ops (qJ ops) 0 ops.toList
def bAU(F:Frm) (o:Oper):Option Nat:=match o.op with
 | .load _ a=>match ev F a with
  | .hptr r _=>some r
  | _=>none
 | .store _ a _=>match ev F a with
  | .hptr r _=>some r
  | _=>none
 | _=>none
def aBX:Option Nat→Option Nat→Bool
 | some a,some b=>!Nat.beq a b
 | _,_=>false
abbrev a1Q:=List (Nat×Nat×Option Nat)
def bMY:List Nat:=[]
def aUN:Op→Bool
 | .call c=>match c.callee with
  | .value (.func g)=>a4O bMY g
  | _=>false
 | _=>false
def isVar(o:Oper):Bool:=match o.guard,o.op,o.dst with
 | none,.alloc _,some _=>true
 | _,_,_=>false
def aVJ(o:Oper):Bool:=match o.guard,o.dst with
 | none,some _=>aUN o.op
 | _,_=>false
def aHR(o:Oper):Bool:=isVar o||aVJ o
def bIA:List Oper→Nat
 | []=>0
 | o::r=>bif aVJ o then bIA r+1 else bIA r
def aH5(X:Heap) (q:Nat):Bool:=match X[q]? with|some none=>true|_=>false
theorem aFT {X:Heap} {q:Nat}:aH5 X q=true↔X[q]?=some none:=by
 unfold aH5;cases X[q]? with
 | none=>simp
 | some x=>cases x <;> simp
def a17:Option Tg→Bool
 | some g=>g.t.plain
 | none=>false
def a56(q:Nat) (v:PV) (X H:Heap):Option (PV×Heap×Nat):=match X with
 | []=>bif fP v&&gF v then some (v,H,0) else none
 | [some k]=>match v with
  | .own r sz=>bif Nat.beq r 0&&Nat.blt q H.length&&aH5 H q&&a17 k.tag then some (.own q sz,H.set q (some k),2) else none
  | _=>none
 | _=>none
def a7Q:List Oper→Nat
 | []=>0
 | o::r=>bif aHR o then a7Q r+1 else a7Q r
def TG(m:Option Nat) (o:Oper) (k:Nat):Option Nat:=match m with
 | none=>none
 | some b=>bif aHR o then some (b+k) else none
def stepT(r:Option Nat) (P:Program) (cl:Callee) (l:List Oper) (o:Oper) (F:Frm) (H:Heap):Option (PV×Heap×Nat):=match r with
 | none=>BC P cl l o F H
 | some q=>match o.op with
  | .alloc t=>match KT P t with
   | some z=>bif Nat.blt q H.length then some (.hptr q 0,H.set q (some ⟨lits z.cells,t,false,false,none⟩),2) else none
   | none=>none
  | .call _=>bif fP.noRefs (o.op.operands.toList.map (ev F))&&gF.noRows (o.op.operands.toList.map (ev F)) then match BC P cl l o F []with
    | some (v,X,_)=>a56 q v X H
    | none=>none
   else none
  | _=>none
def aTV(r:Option Nat) (F:Frm) (o:Oper):Option Nat:=match r with
 | none=>bAU F o
 | some q=>some q
def inP(p:Nat→Bool):PV→Bool
 | .hptr r _=>p r
 | .hs r _ _ _ _=>p r
 | .own r _=>p r
 | .op r _ _ _=>p r
 | .win r _ _ _=>p r
 | .agg cs|.tuple cs=>inPs p cs
 | .clo _ f c=>inPs p f&&inPs p c
 | _=>true
where inPs (p:Nat→Bool):List PV→Bool
 | []=>true
 | q::qs=>inP p q&&inPs p qs
def bFD(b m r:Nat):Bool:=Nat.blt r b||(Nat.ble b r&&Nat.testBit m (r-b))
def bES(p:Nat→Bool):Option Blk→Bool
 | some k=>k.tag.isSome||inP.inPs p k.cells
 | none=>true
def a2P(p:Nat→Bool):Heap→Bool
 | []=>true
 | x::r=>bES p x&&a2P p r
def bNB(p:Nat→Bool) (q:Option Nat) (c:Nat) (H:Heap):Bool:=bif Nat.blt 1 c then (match q with
 | some q=>bES p (l7 H q)
 | none=>a2P p H) else true
def okT(m:Option Nat) (mk k:Nat) (q:Option Nat) (c:Nat) (v:PV) (H:Heap):Bool:=match m with
 | none=>true
 | some b=>inP (bFD b (mk ||| 2^k)) v&&bNB (bFD b (mk ||| 2^k)) q c H
def a4Y(b:Nat):Frm→Bool
 | []=>true
 | (_,p)::r=>below b p&&a4Y b r
def bFC:List Oper→Bool
 | []=>false
 | o::r=>(match o.op with|.load ..=>true|_=>false)||bFC r
def bHM(l:List Oper):List Oper→Bool
 | []=>true
 | o::r=>(match o.op with
  | .makeSlice ..=>bIJ l o.dst
  | .box ..|.buildSlice ..=>false
  | .call c=>(match c.callee with|.builtin .append|.builtin .copy|.builtin .clear=>false|_=>true)
  | _=>true)&&bHM l r
def bMS(l:List Oper):Bool:=Nat.blt 0 (a7Q l)&&bFC l&&bHM l l
def aGX(ops:Array Oper) (H:Heap):Option Nat:=bif Nat.blt 0 (bIA ops.toList)||Nat.blt 1 (a7Q ops.toList)||bMS ops.toList then some H.length else none
def bCR(m:Option Nat) (n:Nat) (H:Heap):Heap:=match m with
 | none=>H
 | some _=>H++List.replicate n none
def a8I(m:Option Nat) (F:Frm) (H:Heap):Bool:=match m with
 | none=>true
 | some b=>a4Y b F&&aBH b H
def aNQ(P:Program) (cl:Callee) (nt:Nat) (m:Option Nat) (ms:List Nat) (l:List Oper) (F:Frm) (H:Heap):Nat→Option (Frm×Heap×a1Q)
 | 0=>some (F,H,[])
 | k+1=>match aNQ P cl nt m ms l F H k with
  | some (F,H,hl)=>match l[k]? with
   | some o=>match stepT (TG m o k) P cl l o F H with
    | some (v,H',c)=>bif okT m (ms.getD k 0) k (aTV (TG m o k) F o) c v H' then (fPV v fun v=>match aEM nt F o.dst v with
     | some F'=>bif Nat.beq c 0 then some (F',H',hl) else aTN H' fun H'=>some (F',H',(k,c,aTV (TG m o k) F o)::hl)
     | none=>none) else none
    | none=>none
   | none=>none
  | none=>none
def bEM(m:List Nat) (j:Nat) (d:Nat) (b:Option Nat):a1Q→Bool
 | []=>true
 | (i,c,b')::r=>(!(Nat.blt 1 c||Nat.blt 1 d)||aBX b b'||(m.getD j 0).testBit i)&&bEM m j d b r
def aQO(m:List Nat):a1Q→Bool
 | []=>true
 | (j,d,b)::r=>bEM m j d b r&&aQO m r
def aH8(P:Program) (cl:Callee) (nt:Nat) (ops:Array Oper) (F:Frm) (H:Heap):Option (Frm×Heap) :=
 bif aKL ops&&a8I (aGX ops H) F H then match aNQ P cl nt (aGX ops H) (qJ ops) ops.toList F (bCR (aGX ops H) ops.toList.length H) ops.toList.length with
  | some (F',H',hl)=>bif aQO (qJ ops) hl then some (F',H') else none
  | none=>none else none
theorem WO {m:List Nat} {b:Nat}:∀ (es:List Edge) (s:Nat),(es.foldl (fun s e=>bif Region.binds .any e then s ||| (2^e.on ||| m.getD e.on 0) else s) s).testBit b=true →
  s.testBit b=true∨∃ e∈es,Region.binds .any e=true∧(b=e.on∨(m.getD e.on 0).testBit b=true)
 | [],s,h=>.inl h
 | e::es,s,h=>by
  rw[List.foldl_cons]at h;rcases WO es _ h with h1|⟨e',h1,h2⟩
  ·cases hb:Region.binds .any e with
   | false=>rw[hb]at h1; exact .inl h1
   | true =>
    rw[hb]at h1;simp only[cond_true,Nat.testBit_or,Bool.or_eq_true]at h1;rcases h1 with h1|h1|h1
    ·exact .inl h1
    ·rw[Nat.testBit_two_pow]at h1
     exact .inr ⟨e,List.mem_cons_self,hb,.inl (of_decide_eq_true h1).symm⟩
    ·exact .inr ⟨e,List.mem_cons_self,hb,.inr h1⟩
  ·exact .inr ⟨e',List.mem_cons_of_mem _ h1,h2⟩
theorem aVB {m:List Nat}:∀ {l:List Oper} {j i:Nat} {o:Oper},aC8 m j l=true→l[i]?=some o→m.getD (j+i) 0=aD4 m o.after.toList∧∀ e∈o.after,Region.binds .any e=true→e.on<j+i
 | [],j,i,o,_,ho=>by simp at ho
 | p::l,j,i,o,h,ho=>by
  simp only[aC8,Bool.and_eq_true,List.all_eq_true]at h;obtain⟨⟨h1,h2⟩,h3⟩:=h;cases i with
  | zero =>
   simp only[List.getElem?_cons_zero,Option.some.injEq]at ho;subst ho;refine⟨Nat.eq_of_beq_eq_true h1,fun e he hb=>?_⟩
   have:=h2 e (Array.mem_toList_iff.2 he);rw[hb]at this;simp only[Bool.not_true,Bool.false_or]at this;have:=Nat.le_of_ble_eq_true this;omega
  | succ i =>
   have:=aVB (i:=i) h3 (by simpa using ho)
   rwa[Nat.add_assoc,Nat.add_comm 1]at this
theorem a0W {ops:Array Oper} {m:List Nat} {j:Nat} {oj:Oper}:∀ {l:List Oper} {k i:Nat} {oi:Oper},aTA ops m j oj k l=true→l[i]?=some oi→k+i<j→(m.getD j 0).testBit (k+i)=true∨oi.apart ops oj=true
 | [],k,i,oi,_,ho,_=>by simp at ho
 | p::l,k,i,oi,h,ho,hlt=>by
  simp only[aTA]at h;have hk:Nat.blt k j=true:=Nat.ble_eq_true_of_le (by omega)
  rw[hk]at h;simp only[cond_true,Bool.and_eq_true,Bool.or_eq_true]at h;cases i with
  | zero =>
   simp only[List.getElem?_cons_zero,Option.some.injEq]at ho;subst ho;exact h.1
  | succ i =>
   have:=a0W (i:=i) h.2 (by simpa using ho) (by omega)
   rwa[Nat.add_assoc,Nat.add_comm 1]at this
theorem aWC {ops:Array Oper} {m:List Nat}:∀ {l:List Oper} {k j:Nat} {oj:Oper},aTG ops m k l=true→l[j]?=some oj→aTA ops m (k+j) oj 0 ops.toList=true
 | [],k,j,oj,_,ho=>by simp at ho
 | p::l,k,j,oj,h,ho=>by
  simp only[aTG,Bool.and_eq_true]at h;cases j with
  | zero =>
   simp only[List.getElem?_cons_zero,Option.some.injEq]at ho;subst ho;exact h.1
  | succ j =>
   have:=aWC (j:=j) h.2 (by simpa using ho)
   rwa[Nat.add_assoc,Nat.add_comm 1]at this
section
variable {P:Program} {cl:Callee} {n0:Nat→Prop} {nt:Nat} {wi:World} {Gi:Gd} {μi:Mp} {ops:Array Oper} {F:Frm} {H:Heap}
structure Trace (P:Program) (cl:Callee) (nt:Nat) (ops:Array Oper) (F:Frm) (H:Heap) (F':Frm) (H':Heap) where
 Fs:Nat→Frm
 Hs:Nat→Heap
 vs:Nat→PV
 cs:Nat→Nat
 f0:Fs 0=F
 h0:Hs 0=H
 fn:Fs ops.size=F'
 hn:Hs ops.size=H'
 md:Option Nat
 step:∀ i o,ops[i]?=some o→stepT (TG md o i) P cl ops.toList o (Fs i) (Hs i)=some (vs i,Hs (i+1),cs i)∧aEM nt (Fs i) o.dst (vs i)=some (Fs (i+1))∧okT md ((qJ ops).getD i 0) i (aTV (TG md o i) (Fs i) o) (cs i) (vs i) (Hs (i+1))=true
 bs:Nat→Option Nat
 hbs:∀ i o,ops[i]?=some o→bs i=aTV (TG md o i) (Fs i) o
 hits:∀ i j,i<j→j<ops.size→cs i≠0→cs j≠0→1<cs i∨1<cs j→aBX (bs j) (bs i)=true∨((qJ ops).getD j 0).testBit i=true
 loc:∀ i o q,ops[i]?=some o→bs i=some q→cs i≠0→∀ H2:Heap,H2[q]?=(Hs i)[q]?→∃ H3 c,stepT (TG md o i) P cl ops.toList o (Fs i) H2=some (vs i,H3,c)∧H3=if 1<cs i then H2.set q (((Hs (i+1))[q]?).getD none) else H2
theorem bBI {md:Option Nat} {ms:List Nat} {l:List Oper}:∀ {n k:Nat} {r:Frm×Heap×a1Q},aNQ P cl nt md ms l F H n=some r→k≤n→∃ s,aNQ P cl nt md ms l F H k=some s
 | 0,k,r,h,hk=>by
  have:k=0:=by omega
  subst this;exact⟨r,h⟩
 | n+1,k,r,h,hk=>by
  rcases Nat.lt_or_ge k (n+1)with hl|hl
  ·simp only[aNQ]at h
   split at h
   ·rename_i s hs
    exact bBI hs (by omega)
   ·cases h
  ·have:k=n+1:=by omega
   subst this;exact⟨r,h⟩
theorem a5G {m:List Nat} {j:Nat} {d:Nat} {b:Option Nat}:∀ {hl:a1Q} {i:Nat} {c:Nat} {b':Option Nat},bEM m j d b hl=true→(i,c,b')∈hl→1<c∨1<d→aBX b b'=true∨(m.getD j 0).testBit i=true
 | [],i,c,_,_,h,_=>by cases h
 | (i',c',b0)::r,i,c,b',h,hm,hc=>by
  simp only[bEM,Bool.and_eq_true,Bool.or_eq_true,Bool.not_eq_true',Bool.or_eq_false_iff]at h;rcases List.mem_cons.1 hm with he|hm
  ·cases he
   rcases h.1 with (⟨h1,h2⟩|h1)|h1
   ·rcases hc with hc|hc
    ·have:Nat.blt 1 _=true:=Nat.ble_eq_true_of_le hc
     rw[this]at h1; cases h1
    ·have:Nat.blt 1 d=true:=Nat.ble_eq_true_of_le hc
     rw[this]at h2; cases h2
   ·exact .inl h1
   ·exact .inr h1
  ·exact a5G h.2 hm hc
theorem bD1 {H H2:Heap} {q:Nat} (h:H2[q]?=H[q]?):l7 H2 q=l7 H q:=by unfold l7; rw[h]
theorem bC4 {l:List Oper} {o:Oper} {F:Frm} {H H':Heap} {v:PV} {c q:Nat} (h:BC P cl l o F H=some (v,H',c)) (hb:bAU F o=some q) (hc:c≠0) (H2:Heap) (hq:H2[q]?=H[q]?) :
  ∃ H3 c',BC P cl l o F H2=some (v,H3,c')∧H3=if 1<c then H2.set q ((H'[q]?).getD none) else H2:=by
 have hgq:=bD1 hq;unfold bAU at hb;split at hb
 ·rename_i t a ho
  split at hb
  ·rename_i r off hev
   obtain rfl:=Option.some.inj hb;have hm:mkData P F l o=none:=by simp only[mkData,ho]
   have hz:∀ H,opz P cl l F H o=match aIT P H t (.hptr r off)with|some (v,c)=>some (v,H,c)|none=>none:=fun H=>by
    simp only[opz,ho,opx,typed,hev,a27,cond_false,opu]; rfl
   unfold BC at h ⊢;rw[hm]at h ⊢;split at h
   ·simp only[hz]at h ⊢
    have hx:aIT P H2 t (.hptr r off)=aIT P H t (.hptr r off):=by simp only[aIT,hgq]
    rw[hx];cases hl:aIT P H t (.hptr r off)with
    | none=>rw[hl]at h; cases h
    | some p =>
     obtain⟨v1,c1⟩:=p;rw[hl]at h;simp only[Option.some.injEq,Prod.mk.injEq]at h;obtain⟨rfl,rfl,rfl⟩:=h;have h1:c1=1:=by
      simp only[aIT]at hl;split at hl
      ·split at hl
       ·simp only[Option.some.injEq,Prod.mk.injEq]at hl; exact hl.2.symm
       ·cases hl
      ·cases hl
     subst h1;exact⟨_,_,rfl,by rw[if_neg (by decide)]⟩
   ·simp only[Option.some.injEq,Prod.mk.injEq]at h
    exact absurd h.2.2.symm hc
   ·cases h
  ·cases hb
 ·rename_i t a x ho
  split at hb
  ·rename_i r off hev
   obtain rfl:=Option.some.inj hb;have hm:mkData P F l o=none:=by simp only[mkData,ho]
   have hz:∀ H,opz P cl l F H o=match aVV P H t (.hptr r off) (ev F x)with|some H'=>some (.lit undef,H',2)|none=>none:=fun H=>by
    simp only[opz,ho,opx,typed,hev,a27,cond_false,opu]; rfl
   unfold BC at h ⊢;rw[hm]at h ⊢;split at h
   ·simp only[hz]at h ⊢
    cases hl:aVV P H t (.hptr r off) (ev F x)with
    | none=>rw[hl]at h; cases h
    | some H1 =>
     rw[hl]at h;simp only[Option.some.injEq,Prod.mk.injEq]at h;obtain⟨rfl,rfl,rfl⟩:=h;rw[if_pos (by decide)]
     unfold aVV at hl ⊢;cases hcs:zO (ev F x)with
     | none=>rw[hcs]at hl; cases hl
     | some new =>
      cases hsz:wV P t with
      | none=>rw[hcs,hsz]at hl; cases hl
      | some n =>
       rw[hcs,hsz]at hl;simp only at hl ⊢;obtain⟨hb1,hl⟩:=aO hl;rw[hb1,cond_true];unfold aRK at hl ⊢;rw[hgq];cases hk:l7 H r with
       | none=>rw[hk]at hl; cases hl
       | some k =>
        rw[hk]at hl;simp only at hl ⊢;obtain⟨hb2,hl⟩:=aO hl;rw[hb2,cond_true];obtain rfl:=Option.some.inj hl;refine⟨_,_,rfl,?_⟩;have hlt:r<H.length:=by
         unfold PM.l7 at hk;split at hk
         ·rename_i k' hk'; exact(List.getElem?_eq_some_iff.1 hk').1
         ·cases hk
        rw[List.getElem?_set_self hlt]; rfl
   ·simp only[Option.some.injEq,Prod.mk.injEq]at h
    exact absurd h.2.2.symm hc
   ·cases h
  ·cases hb
 ·cases hb
theorem YP {q:Nat} {v:PV} {X H:Heap} {v':PV} {H':Heap} {c:Nat} (h:a56 q v X H=some (v',H',c)):(∃ sz k,v=.own 0 sz∧X=[some k]∧v'=.own q sz∧H'=H.set q (some k)∧c=2∧q<H.length∧H[q]?=some none∧a17 k.tag=true) ∨
  (X=[]∧(fP v&&gF v)=true∧v'=v∧H'=H∧c=0):=by
 unfold a56 at h;split at h
 ·obtain⟨hb,h⟩:=aO h
  simp only[Option.some.injEq,Prod.mk.injEq]at h;obtain⟨rfl,rfl,rfl⟩:=h;exact .inr ⟨rfl,hb,rfl,rfl,rfl⟩
 ·rename_i k
  split at h
  ·rename_i r sz
   obtain⟨hb,h⟩:=aO h;simp only[Bool.and_eq_true]at hb;obtain⟨⟨⟨h1,h2⟩,h3⟩,h4⟩:=hb;have h1:=Nat.eq_of_beq_eq_true h1;simp only[Option.some.injEq,Prod.mk.injEq]at h;obtain⟨rfl,rfl,rfl⟩:=h;exact .inl ⟨sz,k,by rw[h1],rfl,rfl,rfl,rfl,jZ h2,aFT.1 h3,h4⟩
  ·cases h
 ·cases h
theorem bFO {r:Option Nat} {l:List Oper} {o:Oper} {F:Frm} {H H':Heap} {v:PV} {c q:Nat} (h:stepT r P cl l o F H=some (v,H',c)) (hb:aTV r F o=some q) (hc:c≠0) (H2:Heap) (hq:H2[q]?=H[q]?) :
  ∃ H3 c',stepT r P cl l o F H2=some (v,H3,c')∧H3=if 1<c then H2.set q ((H'[q]?).getD none) else H2:=by
 cases r with
 | none=>exact bC4 h hb hc H2 hq
 | some q' =>
  obtain rfl:=Option.some.inj (show some q'=some q from hb);simp only[stepT]at h ⊢;split at h
  ·rename_i t ho
   cases hz:KT P t with
   | none=>rw[hz]at h; cases h
   | some z =>
    rw[hz]at h;simp only at h ⊢;obtain⟨hlt,h⟩:=aO h;simp only[Option.some.injEq,Prod.mk.injEq]at h;obtain⟨rfl,rfl,rfl⟩:=h;have hlt:=jZ hlt;have hlt2:q'<H2.length:=by
     have h1:H[q']?=some H[q']:=List.getElem?_eq_getElem hlt;rw[h1]at hq;exact(List.getElem?_eq_some_iff.1 hq).1
    rw[if_pos (by decide),cX,decide_eq_true hlt2,cond_true,List.getElem?_set_self hlt]
    exact⟨_,_,rfl,rfl⟩
  ·obtain⟨hnr,h⟩:=aO h
   rw[hnr,cond_true];split at h
   ·rename_i v1 X c1 hs
    rcases YP h with ⟨sz,k,rfl,rfl,rfl,rfl,rfl,h1,h2,h3⟩|⟨_,_,_,_,h0⟩
    case inr=>exact absurd h0 hc
    have h4:q'<H2.length:=by
     rw[h2]at hq;exact(List.getElem?_eq_some_iff.1 hq).1
    rw[if_pos (by decide),List.getElem?_set_self h1]
    refine⟨_,2,?_,rfl⟩;simp only[a56,Nat.beq_refl,cX,decide_eq_true h4,aFT.2 (hq.trans h2),h3,Bool.and_self,cond_true,Option.getD_some]
   ·cases h
  ·cases h
theorem bJB(hcl:fQ P cl) {md:Option Nat} {F':Frm} {H':Heap} {hl:a1Q} (h:aNQ P cl nt md (qJ ops) ops.toList F H ops.toList.length=some (F',H',hl)) (hh:aQO (qJ ops) hl=true):∃ T:Trace P cl nt ops F H F' H',T.md=md:=by
 have hlen:ops.toList.length=ops.size:=by simp
 let st:Nat→Frm×Heap×a1Q:=fun k=>(aNQ P cl nt md (qJ ops) ops.toList F H k).getD ([],[],[])
 have hst:∀ k,k≤ops.size→aNQ P cl nt md (qJ ops) ops.toList F H k=some (st k):=fun k hk=>by
  obtain⟨s,hs⟩:=bBI h (k:=k) (by omega)
  simp only[st,hs,Option.getD_some]
 let op:Nat→PV×Heap×Nat:=fun i=>match ops[i]? with|some o=>(stepT (TG md o i) P cl ops.toList o (st i).1 (st i).2.1).getD (.junk,[],0)|none=>(.junk,[],0)
 have hop:∀ i o,ops[i]?=some o→stepT (TG md o i) P cl ops.toList o (st i).1 (st i).2.1=some (op i)∧(op i).2.1=(st (i+1)).2.1∧aEM nt (st i).1 o.dst (op i).1=some (st (i+1)).1∧(st (i+1)).2.2=(bif Nat.beq (op i).2.2 0 then (st i).2.2 else (i,(op i).2.2,aTV (TG md o i) (st i).1 o)::(st i).2.2)∧okT md ((qJ ops).getD i 0) i (aTV (TG md o i) (st i).1 o) (op i).2.2 (op i).1 (op i).2.1=true:=by
  intro i o ho;have hi:i<ops.size:=(Array.getElem?_eq_some_iff.1 ho).1;have h1:=hst (i+1) (by omega)
  simp only[aNQ,hst i (by omega)]at h1
  have ho':ops.toList[i]?=some o:=by simpa using ho
  rw[ho']at h1;simp only at h1;split at h1
  ·rename_i v H1 c hs
   have he:op i=(v,H1,c):=by simp only[op,ho,hs,Option.getD_some]
   obtain⟨hok,h1⟩:=aO h1;rw[aQU]at h1;split at h1
   ·rename_i F1 hp
    rw[N4]at h1;cases hc0:Nat.beq c 0 with
    | true =>
     rw[hc0,cond_true]at h1;simp only[Option.some.injEq]at h1;rw[he,← h1];exact⟨hs,rfl,hp,by simp only[hc0,cond_true],hok⟩
    | false =>
     rw[hc0,cond_false]at h1;simp only[Option.some.injEq]at h1;rw[he,← h1];exact⟨hs,rfl,hp,by simp only[hc0,cond_false],hok⟩
   ·cases h1
  ·cases h1
 let bk:Nat→Option Nat:=fun i=>match ops[i]? with|some o=>aTV (TG md o i) (st i).1 o|none=>none
 have hmem:∀ k,k≤ops.size→∀ i,i<k→(op i).2.2≠0→(i,(op i).2.2,bk i)∈(st k).2.2:=by
  intro k
  induction k with
  | zero=>intro _ i hi; omega
  | succ k ih =>
   intro hk i hi hc;obtain⟨o,ho⟩:∃ o,ops[k]?=some o:=⟨ops[k],Array.getElem?_eq_getElem (by omega)⟩
   rw[(hop k o ho).2.2.2.1];rcases Nat.lt_or_ge i k with hl|hl
   ·have:=ih (by omega) i hl hc
    cases Nat.beq (op k).2.2 0 with
    | true=>exact this
    | false=>exact List.mem_cons_of_mem _ this
   ·have:i=k:=by omega
    subst this;have:Nat.beq (op i).2.2 0=false:=aGL hc;rw[this];have hbk:bk i=aTV (TG md o i) (st i).1 o:=by simp only[bk,ho]
    rw[hbk];exact List.mem_cons_self
 have hlast:st ops.size=(F',H',hl):=by
  have:=hst ops.size (Nat.le_refl _);rw[← hlen,h]at this;simpa using this.symm
 have hhits:∀ k,k≤ops.size→aQO (qJ ops) (st k).2.2=true:=by
  intro k hk;obtain⟨d,rfl⟩:∃ d,k=ops.size-d:=⟨ops.size-k,by omega⟩
  clear hk
  induction d with
  | zero=>rw[Nat.sub_zero,hlast]; exact hh
  | succ d ih =>
   rcases Nat.eq_zero_or_pos (ops.size-d)with h0|h0
   ·have:ops.size-(d+1)=ops.size-d:=by omega
    rw[this]; exact ih
   ·have e:ops.size-d=(ops.size-(d+1))+1:=by omega
    obtain⟨o,ho⟩:∃ o,ops[ops.size-(d+1)]?=some o:=⟨_,Array.getElem?_eq_getElem (by omega)⟩
    have h4:=(hop _ o ho).2.2.2.1;rw[← e]at h4;rw[h4]at ih;cases hb:Nat.beq (op (ops.size-(d+1))).2.2 0 with
    | true=>rw[hb]at ih; exact ih
    | false =>
     rw[hb]at ih;simp only[cond_false,aQO,Bool.and_eq_true]at ih;exact ih.2
 refine⟨⟨fun i=>(st i).1,fun i=>(st i).2.1,fun i=>(op i).1,fun i=>(op i).2.2,?_,?_,by simp only[hlast],by simp only[hlast],md,?_,bk,?_,?_,?_⟩,rfl⟩
 ·have h0:=hst 0 (Nat.zero_le _)
  simp only[aNQ,Option.some.injEq]at h0;rw[← h0]
 ·have h0:=hst 0 (Nat.zero_le _)
  simp only[aNQ,Option.some.injEq]at h0;rw[← h0]
 ·intro i o ho
  obtain⟨h1,h2,h3,_,h5⟩:=hop i o ho;exact⟨by rw[h1,← h2],h3,by rw[← h2]; exact h5⟩
 ·intro i o ho
  simp only[bk,ho]
 ·intro i j hij hj hi hcj hc
  obtain⟨o,ho⟩:∃ o,ops[j]?=some o:=⟨ops[j],Array.getElem?_eq_getElem hj⟩;have h1:=hhits (j+1) (by omega)
  rw[(hop j o ho).2.2.2.1,aGL hcj]at h1;simp only[cond_false,aQO,Bool.and_eq_true]at h1;have hbk:bk j=aTV (TG md o j) (st j).1 o:=by simp only[bk,ho]
  rw[hbk];exact a5G h1.1 (hmem j (by omega) i hij hi) hc
 ·intro i o q ho hq hc H2 h2
  obtain⟨h1,h3,_,_,_⟩:=hop i o ho;have hbk:bk i=aTV (TG md o i) (st i).1 o:=by simp only[bk,ho]
  have h4:stepT (TG md o i) P cl ops.toList o (st i).1 (st i).2.1=some ((op i).1,(st (i+1)).2.1,(op i).2.2):=by rw[h1,← h3]
  exact bFO h4 (hbk ▸ hq) hc H2 h2
section
variable {F':Frm} {H':Heap}
def ZA(ops:Array Oper) (i:Nat):Option Tmp:=(ops[i]?).bind (·.dst)
def yK(T:Trace P cl nt ops F H F' H') (S:Nat→Bool) (t:Nat):Nat→PV
 | 0=>fB F t
 | k+1=>if S k=true∧ZA ops k=some t then T.vs k else yK T S t k
def ZC(T:Trace P cl nt ops F H F' H') (k:Nat) (H2:Heap):Heap:=match T.bs k with
 | some q=>H2.set q (((T.Hs (k+1))[q]?).getD none)
 | none=>T.Hs (k+1)
def gZ(T:Trace P cl nt ops F H F' H') (S:Nat→Bool):Nat→Heap
 | 0=>H
 | k+1=>if S k=true∧1<T.cs k then ZC T k (gZ T S k) else gZ T S k
variable (T:Trace P cl nt ops F H F' H')
theorem bBW {nt:Nat} {F F':Frm} {d:Option Tmp} {v:PV} (h:aEM nt F d v=some F') (t:Nat):fB F' t=if d=some t then v else fB F t:=by
 cases d with
 | none=>simp only[aEM,Option.some.injEq]at h; subst h; simp
 | some u =>
  simp only[aEM]at h;cases hb:Nat.blt u nt with
  | false=>rw[hb]at h; cases h
  | true =>
   rw[hb]at h;simp only[cond_true,Option.some.injEq]at h;subst h;rw[jV]
   by_cases htu:t=u
   ·subst htu; simp
   ·rw[if_neg htu,if_neg (by simpa using fun e=>htu e.symm)]
theorem aPV(t:Nat):∀ k,k≤ops.size→yK T (fun _=>true) t k=fB (T.Fs k) t
 | 0,_=>by rw[yK,T.f0]
 | k+1,hk=>by
  obtain⟨o,ho⟩:∃ o,ops[k]?=some o:=⟨ops[k],Array.getElem?_eq_getElem (by omega)⟩
  rw[yK,aPV t k (by omega),bBW (T.step k o ho).2.1 t]
  simp only[ZA,ho,Option.bind_some,true_and]
theorem V7 {S S':Nat→Bool} {t:Nat}:∀ {k:Nat},(∀ j,j<k→ZA ops j=some t→S j=S' j)→yK T S t k=yK T S' t k
 | 0,_=>rfl
 | k+1,h=>by
  rw[yK,yK,V7 fun j hj=>h j (by omega)]
  by_cases hd:ZA ops k=some t
  ·rw[h k (by omega) hd]
  ·simp[hd]
theorem aBJ {S:Nat→Bool} {t k:Nat}:∀ {n:Nat},k≤n→(∀ j,k≤j→j<n→ZA ops j=some t→S j=false)→yK T S t n=yK T S t k
 | 0,hk,_=>by
  have:k=0:=by omega
  rw[this]
 | n+1,hk,h=>by
  rcases Nat.lt_or_ge k (n+1)with hl|hl
  ·rw[yK,aBJ (n:=n) (by omega) fun j h1 h2=>h j h1 (by omega),if_neg]
   rintro⟨h1,h2⟩;rw[h n (by omega) (by omega) h2]at h1
   cases h1
  ·have:k=n+1:=by omega
   rw[this]
theorem bCK(hcl:fQ P cl) {l:List Oper} {o:Oper} {F:Frm} {H H':Heap} {v:PV} {c:Nat} (h:BC P cl l o F H=some (v,H',c)):(c≤1→H'=H)∧(c=0→∀ H2,BC P cl l o F H2=some (v,H2,0)):=by
 unfold BC at h ⊢;split at h
 ·rename_i hg
  split at h
  ·rename_i hm
   obtain⟨h1,h2⟩:=bLE hcl h;exact⟨fun hc=>by
    rcases Nat.lt_or_ge c 1 with hl|hl
    ·exact(h1 (by omega)).1
    ·exact h2 (by omega),fun hc=>(h1 hc).2⟩
  ·cases h
  ·rename_i cs v' hm
   cases hb:GN cs with
   | false=>rw[hb]at h; cases h
   | true =>
    rw[hb]at h;simp only[cond_true,Option.some.injEq,Prod.mk.injEq]at h;obtain⟨rfl,rfl,rfl⟩:=h;exact⟨fun _=>rfl,fun _ _=>rfl⟩
 ·rename_i hg
  simp only[Option.some.injEq,Prod.mk.injEq]at h;obtain⟨rfl,rfl,rfl⟩:=h;exact⟨fun _=>rfl,fun _ _=>rfl⟩
 ·cases h
theorem aV4(hcl:fQ P cl) {r:Option Nat} {l:List Oper} {o:Oper} {F:Frm} {H H':Heap} {v:PV} {c:Nat} (h:stepT r P cl l o F H=some (v,H',c)):(c≤1→H'=H)∧(c=0→∀ H2,stepT r P cl l o F H2=some (v,H2,0)):=by
 cases r with
 | none=>exact bCK hcl h
 | some q =>
  simp only[stepT]at h;split at h
  ·split at h
   ·obtain⟨_,h⟩:=aO h
    simp only[Option.some.injEq,Prod.mk.injEq]at h;obtain⟨-,-,rfl⟩:=h;exact⟨fun h=>absurd h (by decide),fun h=>by cases h⟩
   ·cases h
  ·rename_i cc hcc
   obtain⟨hnr,h⟩:=aO h;split at h
   ·rename_i v1 X c1 hs
    rcases YP h with ⟨_,_,_,_,_,_,rfl,_⟩|⟨rfl,h1,rfl,rfl,rfl⟩
    ·exact⟨fun h=>absurd h (by decide),fun h=>by cases h⟩
    ·refine⟨fun _=>rfl,fun _ H2=>?_⟩
     simp only[stepT,hcc];rw[← hcc,hnr,cond_true,hs];simp only[a56,h1,cond_true]
   ·cases h
  ·cases h
theorem Trace.bLD {k q:Nat} (hk:k<ops.size) (hq:T.bs k=some q) (hc:T.cs k≠0):T.Hs (k+1)=if 1<T.cs k then (T.Hs k).set q (((T.Hs (k+1))[q]?).getD none) else T.Hs k:=by
 obtain⟨o,ho⟩:∃ o,ops[k]?=some o:=⟨ops[k],Array.getElem?_eq_getElem hk⟩;obtain⟨H3,c,h1,h2⟩:=T.loc k o q ho hq hc (T.Hs k) rfl;rw[(T.step k o ho).1]at h1;simp only[Option.some.injEq,Prod.mk.injEq]at h1;rw[← h2,← h1.2.1]
theorem aGV(hcl:fQ P cl):∀ k,k≤ops.size→gZ T (fun _=>true) k=T.Hs k
 | 0,_=>by rw[gZ,T.h0]
 | k+1,hk=>by
  obtain⟨o,ho⟩:∃ o,ops[k]?=some o:=⟨ops[k],Array.getElem?_eq_getElem (by omega)⟩
  rw[gZ,aGV hcl k (by omega)]
  by_cases hc:1<T.cs k
  ·rw[if_pos ⟨rfl,hc⟩]
   unfold ZC;cases hq:T.bs k with
   | none=>rfl
   | some q =>
    have:=T.bLD (by omega) hq (by omega)
    rw[if_pos hc]at this;exact this.symm
  ·rw[if_neg (fun h=>hc h.2)]
   exact((aV4 hcl (T.step k o ho).1).1 (by omega)).symm
theorem JB {S S':Nat→Bool}:∀ {k:Nat},(∀ j,j<k→1<T.cs j→S j=S' j)→gZ T S k=gZ T S' k
 | 0,_=>rfl
 | k+1,h=>by
  rw[gZ,gZ,JB fun j hj=>h j (by omega)]
  by_cases hd:1<T.cs k
  ·rw[h k (by omega) hd]
  ·simp[hd]
theorem aBC {S:Nat→Bool} {k:Nat}:∀ {n:Nat},k≤n→(∀ j,k≤j→j<n→1<T.cs j→S j=false)→gZ T S n=gZ T S k
 | 0,hk,_=>by
  have:k=0:=by omega
  rw[this]
 | n+1,hk,h=>by
  rcases Nat.lt_or_ge k (n+1)with hl|hl
  ·rw[gZ,aBC (n:=n) (by omega) fun j h1 h2=>h j h1 (by omega),if_neg]
   rintro⟨h1,h2⟩;rw[h n (by omega) (by omega) h2]at h1
   cases h1
  ·have:k=n+1:=by omega
   rw[this]
theorem a4N {q:Nat} {S S':Nat→Bool}:∀ {n:Nat},(∀ j,j<n→1<T.cs j→T.bs j=none∨T.bs j=some q→S j=S' j)→(gZ T S n).length=(gZ T S' n).length∧(gZ T S n)[q]?=(gZ T S' n)[q]?
 | 0,_=>⟨rfl,rfl⟩
 | n+1,h=>by
  obtain⟨e1,e2⟩:=a4N (q:=q) (S:=S) (S':=S') (n:=n) fun j hj=>h j (by omega)
  rw[gZ,gZ]
  by_cases hd:1<T.cs n
  ·cases hb:T.bs n with
   | none =>
    have:=h n (by omega) hd (.inl hb)
    rw[this]
    by_cases hs:S' n=true
    ·rw[if_pos ⟨hs,hd⟩,if_pos ⟨hs,hd⟩]
     simp only[ZC,hb,and_self]
    ·rw[if_neg (fun h=>hs h.1),if_neg (fun h=>hs h.1)]
     exact⟨e1,e2⟩
   | some p =>
    by_cases hpq:p=q
    ·subst hpq
     have:=h n (by omega) hd (.inr hb)
     rw[this]
     by_cases hs:S' n=true
     ·rw[if_pos ⟨hs,hd⟩,if_pos ⟨hs,hd⟩]
      simp only[ZC,hb,List.length_set];refine⟨e1,?_⟩;rw[List.getElem?_set,List.getElem?_set,e1,if_pos rfl,if_pos rfl]
     ·rw[if_neg (fun h=>hs h.1),if_neg (fun h=>hs h.1)]
      exact⟨e1,e2⟩
    ·have key:∀ X:Heap,(ZC T n X).length=X.length∧(ZC T n X)[q]?=X[q]?:=fun X=>by
      simp only[ZC,hb,List.length_set,true_and];rw[List.getElem?_set_ne hpq]
     have k1:∀ (c:Prop) [Decidable c] (X:Heap),(if c then ZC T n X else X).length=X.length∧(if c then ZC T n X else X)[q]?=X[q]?:=fun c _ X=>by
      split
      ·exact key X
      ·exact⟨rfl,rfl⟩
     rw[(k1 _ _).1,(k1 _ _).1,(k1 _ _).2,(k1 _ _).2];exact⟨e1,e2⟩
  ·rw[if_neg (fun h=>hd h.2),if_neg (fun h=>hd h.2)]
   exact⟨e1,e2⟩
theorem aW9 {i:Nat} {S S':Nat→Bool} (hx:1<T.cs i) (hi:S i=false) (hi':S' i=true) (hne:∀ j,j≠i→S' j=S j) (hlate:∀ j,i<j→j<ops.size→1<T.cs j→S j=true→aBX (T.bs j) (T.bs i)=true) :
  ∀ n,i<n→n≤ops.size→gZ T S' n=ZC T i (gZ T S n)
 | 0,h,_=>by omega
 | n+1,h,hn=>by
  rcases Nat.lt_or_ge i n with hl|hl
  ·rw[gZ,aW9 hx hi hi' hne hlate n hl (by omega),gZ,hne n (by omega)]
   by_cases hc:S n=true∧1<T.cs n
   ·rw[if_pos hc,if_pos hc]
    have:=hlate n hl (by omega) hc.2 hc.1
    cases hb1:T.bs n with
    | none=>rw[hb1]at this; cases this
    | some p =>
     cases hb2:T.bs i with
     | none=>rw[hb1,hb2]at this; cases this
     | some q =>
      rw[hb1,hb2]at this;simp only[aBX,Bool.not_eq_true']at this;have hne:p≠q:=fun e=>by rw[e,Nat.beq_refl]at this; cases this
      simp only[ZC,hb1,hb2];exact List.set_comm _ _ (Ne.symm hne)
   ·rw[if_neg hc,if_neg hc]
  ·have:i=n:=by omega
   subst this;rw[gZ,if_pos ⟨hi',hx⟩,gZ,if_neg (fun h=>by rw[hi]at h; cases h.1)]
   congr 1
   exact JB T fun j hj _=>hne j (by omega)
theorem bAP(S:Nat→Bool):∀ k,∃ F1,∀ t,fB F1 t=yK T S t k
 | 0=>⟨F,fun t=>rfl⟩
 | k+1=>by
  obtain⟨F1,h1⟩:=bAP S k
  by_cases hS:S k=true
  ·cases hd:ZA ops k with
   | none=>exact⟨F1,fun t=>by rw[h1,yK]; simp[hd]⟩
   | some d =>
    refine⟨bFG F1 d (T.vs k),fun t=>?_⟩
    rw[aUQ,h1,yK]
    by_cases htd:t=d
    ·subst htd; simp[hS,hd]
    ·rw[if_neg htd,if_neg]
     rintro⟨_,h2⟩;rw[hd]at h2;exact htd (by cases h2; rfl)
  ·exact⟨F1,fun t=>by rw[h1,yK]; simp[hS]⟩
theorem j4.congr {w:World} {G:Gd} {μ:Mp} {F F':Frm} {a:Act} (h:j4 w G μ nt F a) (he:∀ t,fB F' t=fB F t):j4 w G μ nt F' a:=⟨h.size,fun t=>by rw[he]; exact h.slot t,h.defers⟩
theorem I.congr {F F':Frm} {H:Heap} {a:Act} {w:World} (h:I n0 wi Gi μi nt F H a w) (he:∀ t,fB F' t=fB F t):I n0 wi Gi μi nt F' H a w:=by
 obtain⟨G,μ,e,hW,hF⟩:=h;exact⟨G,μ,e,hW,hF.congr he⟩
theorem aSP {o:Oper} {F F':Frm} {H:Heap} (h:∀ t∈o.looksAt ops,fB F' t=fB F t):BC P cl ops.toList o F' H=BC P cl ops.toList o F H:=by
 have hev:∀ x∈o.op.operands,ev F' x=ev F x:=fun x hx=>by
  cases x with
  | tmp t=>exact h t (List.mem_append_left _ (List.mem_filterMap.2 ⟨.tmp t,by simpa using hx,rfl⟩))
  | _=>rfl
 have hg:guardOf F' ops.toList o=guardOf F ops.toList o:=by
  unfold guardOf;split
  ·rfl
  ·rename_i j want hgu
   split
   ·rename_i p hp
    split
    ·rename_i t ht
     rw[h t (List.mem_append_right _ (by
      rw[hgu];have hp:ops[j]?=some p:=by simpa using hp
      simp[hp,ht]))]
    ·rfl
   ·rfl
 have hm:mkData P F' ops.toList o=mkData P F ops.toList o:=by
  unfold mkData;split
  ·rename_i t x y ho
   rw[hev x (by rw[ho]; simp[Op.operands]),hev y (by rw[ho]; simp[Op.operands])]
  ·rfl
 have hz:opz P cl ops.toList F' H o=opz P cl ops.toList F H o:=by
  unfold opz;rw[bHB hev];split
  ·rename_i t x y ho
   rw[hev x (by rw[ho]; simp[Op.operands]),hev y (by rw[ho]; simp[Op.operands])]
  ·rfl
 unfold BC;rw[hg,hm,hz]
def aMM(m:List Nat) (S:Nat→Bool):Prop:=∀ j,S j=true→∀ i,(m.getD j 0).testBit i=true→S i=true
theorem aU4 {p p':Nat→Bool} {i:Nat} (h1:p i=true) (h2:p' i=false) (h3:∀ j,j≠i→p' j=p j):∀ n,i<n→(List.range n).countP p'+1=(List.range n).countP p
 | 0,h=>by omega
 | n+1,h=>by
  rw[List.range_succ,List.countP_append,List.countP_append];rcases Nat.lt_or_ge i n with hl|hl
  ·have:=aU4 h1 h2 h3 n hl
   have e:List.countP p' [n]=List.countP p [n]:=by simp[List.countP_cons,h3 n (by omega)]
   omega
  ·have:i=n:=by omega
   subst this;have e:(List.range i).countP p'=(List.range i).countP p:=List.countP_congr fun j hj=>by
    have:=List.mem_range.1 hj;rw[h3 j (by omega)]
   simp[List.countP_cons,h1,h2,e]
theorem bJ7 {G:Gd} {μ:Mp} {H:Heap} {w:World} (hW:bC n0 G μ H w) {q:Nat} (hq:q<H.length) (hn:μ.loc q=none) (c:Array Value) (t:TypeId) :
  Ext n0 w G μ (w.alloc (.cells c t)) G ⟨fun s=>if s=q then some w.heap.size else μ.loc s,μ.len⟩∧bC n0 G ⟨fun s=>if s=q then some w.heap.size else μ.loc s,μ.len⟩ (H.set q (some ⟨lits c,t,false,false,none⟩)) (w.alloc (.cells c t)):=by
 have hnew:(w.alloc (.cells c t)).heap[w.heap.size]?=some (.cells c t (0,0)):=by
  show (w.heap.push _)[w.heap.size]?=_;simp
 have e0:=IY hW (.cells c t) none none;have e:Ext n0 w G μ (w.alloc (.cells c t)) G ⟨fun s=>if s=q then some w.heap.size else μ.loc s,μ.len⟩:={ e0 with
  map:=fun r b hb=>by
   show (if r=q then some w.heap.size else μ.loc r)=some b
   rw[if_neg (by rintro rfl; rw[hn]at hb; cases hb)]; exact hb
  len:=fun r n h=>h }
 have key:∀ (s:Nat) (k1:Blk),(H.set q (some ⟨lits c,t,false,false,none⟩))[s]?=some (some k1)→(s=q∧k1=⟨lits c,t,false,false,none⟩)∨(s≠q∧H[s]?=some (some k1)):=by
  intro s k1 hs;rw[List.getElem?_set]at hs
  by_cases h:q=s
  ·rw[if_pos h,if_pos hq]at hs
   exact .inl ⟨h.symm,(Option.some.inj (Option.some.inj hs)).symm⟩
  ·rw[if_neg h]at hs
   exact .inr ⟨fun e=>h e.symm,hs⟩
 refine⟨e,?_,?_,?_,hW.lt.step e.good fun b hb=>Nat.lt_of_lt_of_le (hW.lt b hb) e.size,?_,fun b hb=>hW.base b (Nat.le_trans e.size hb),?_⟩
 case refine_5 =>
  refine hW.rows.step e.toMono.aN e.size (fun _=>rfl) (fun j b hj=>⟨Below.heap_alloc _ _ _ (hW.rows.sep j b hj).1,id,fun s k1 hs hf1 hl=>?_⟩) (fun s k1 t1 l1 hs hg1 ht1=>?_)
  ·rcases key s k1 hs with ⟨rfl,rfl⟩|⟨hne,hs'⟩
   ·simp only[if_true]at hl
    cases hl;exact absurd (hW.rows.sep j _ hj).1 (Nat.lt_irrefl _)
   ·simp only[if_neg hne]at hl
    exact⟨s,k1,hs',hf1,hl⟩
  ·rcases key s k1 hs with ⟨rfl,rfl⟩|⟨hne,hs'⟩
   ·cases ht1
   ·exact⟨k1,hs',rfl,rfl,rfl,by simp only[if_neg hne]⟩
 ·intro s k1 b hs hb
  rcases key s k1 hs with ⟨rfl,rfl⟩|⟨hne,hs'⟩
  ·simp only[if_true]at hb
   cases hb;refine⟨c,hnew,?_,fun _=>by simp[lits],fun h=>(by cases h),fun _=>⟨hW.base _ (Nat.le_refl _),fun hG=>Nat.lt_irrefl _ (hW.lt _ hG)⟩⟩
   refine aQ.mk fun i p hp=>?_
   obtain⟨v,h1,h2⟩:=(BW (w:=w.alloc (.cells c t)) (G:=G) (μ:=⟨fun x=>if x=s then some w.heap.size else μ.loc x,μ.len⟩) c).get hp
   refine⟨v,?_,h2⟩;simp only[World.cell?,hnew,Nat.zero_add];simpa using h1
  ·simp only[if_neg hne]at hb
   obtain⟨c',h2,h3,h4⟩:=hW.blk s k1 b hs' hb;have e1:(w.alloc (.cells c t)).heap[b]?=w.heap[b]?:=Below.heap_alloc _ _ _ (iA h2);exact⟨c',e1.trans h2,aQ.mono e.toMono e1 0 _ h3,h4⟩
 ·intro s k1 g hs hg
  rcases key s k1 hs with ⟨rfl,rfl⟩|⟨hne,hs'⟩
  ·cases hg
  ·exact hW.tags s k1 g hs' hg
 ·intro s1 s2 k1 k2 b h1 h2 f1 f2 m1 m2
  rcases key s1 k1 h1 with ⟨rfl,rfl⟩|⟨l1,h1'⟩ <;> rcases key s2 k2 h2 with ⟨e2,rfl⟩|⟨l2,h2'⟩
  ·exact e2.symm
  ·simp only[if_true]at m1
   simp only[if_neg l2]at m2;cases m1;exact absurd (hW.rO h2' m2) (Nat.lt_irrefl _)
  ·subst e2
   simp only[if_true]at m2;simp only[if_neg l1]at m1;cases m2;exact absurd (hW.rO h1' m1) (Nat.lt_irrefl _)
  ·simp only[if_neg l1]at m1
   simp only[if_neg l2]at m2;exact hW.inj s1 s2 k1 k2 b h1' h2' f1 f2 m1 m2
 ·intro r hr
  rw[List.length_set]at hr;have:=hW.top r hr;exact⟨by show (if r=q then _ else _)=_; rw[if_neg (by omega)]; exact this.1,this.2⟩
theorem a81 {o:Oper} (h:aHR o=true):o.guard=none∧(∃ d,o.dst=some d)∧((∃ t,o.op=.alloc t)∨∃ c,o.op=.call c):=by
 unfold aHR at h;rw[Bool.or_eq_true]at h;rcases h with h|h
 ·unfold isVar at h
  split at h
  ·rename_i t d h1 h2 h3; exact⟨h1,⟨d,h3⟩,.inl ⟨t,h2⟩⟩
  ·cases h
 ·unfold aVJ at h
  split at h
  ·rename_i d h1 h2
   unfold aUN at h;split at h
   ·rename_i c hc; exact⟨h1,⟨d,h2⟩,.inr ⟨c,hc⟩⟩
   ·cases h
  ·cases h
theorem aUT {m:Option Nat} {o:Oper} {k q:Nat} (h:TG m o k=some q):∃ b,m=some b∧q=b+k∧aHR o=true:=by
 unfold TG at h;split at h
 ·cases h
 ·rename_i b
  cases ha:aHR o with
  | false=>rw[ha]at h; cases h
  | true=>rw[ha]at h; exact⟨b,rfl,(Option.some.inj h).symm,rfl⟩
def a63(T:Trace P cl nt ops F H F' H') (n0:Nat→Prop) (wi:World) (Gi:Gd) (μi:Mp):Prop :=
 ∀ (S:Nat→Bool) (F1:Frm) (w:World) (a:Act),aMM (qJ ops) S→(∀ t,fB F1 t=yK T S t ops.size)→I n0 wi Gi μi nt F1 (gZ T S ops.size) a w→∀ i o q,ops[i]?=some o→S i=false→TG T.md o i=some q →
  ∃ G μ,Ext n0 wi Gi μi w G μ∧bC n0 G μ (gZ T S ops.size) w∧j4 w G μ nt F1 a∧μ.loc q=none∧((gZ T S ops.size)[q]?=some none→μ.len q=none)
theorem a5V {b:Nat}:∀ {F:Frm} (t:Nat),a4Y b F=true→below b (fB F t)=true
 | [],t,_=>rfl
 | (u,p)::F,t,h=>by
  simp only[a4Y,Bool.and_eq_true]at h;rw[jV];split
  ·exact h.1
  ·exact a5V t h.2
mutual
theorem bAE {p p':Nat→Bool} (h:∀ r,p r=true→p' r=true):∀ v:PV,inP p v=true→inP p' v=true
 | .lit _,_|.vals ..,_|.iptr _,_|.tl ..,_|.tp ..,_|.junk,_|.row ..,_|.rp ..,_|.mp _,_=>rfl
 | .own r _,hv=>h r hv
 | .op r _ _ _,hv=>h r hv
 | .win r _ _ _,hv=>h r hv
 | .hptr r _,hv=>h r hv
 | .hs r _ _ _ _,hv=>h r hv
 | .agg cs,hv=>by simp only[inP]at hv ⊢; exact QR h cs hv
 | .tuple cs,hv=>by simp only[inP]at hv ⊢; exact QR h cs hv
 | .clo _ f c,hv=>by
  simp only[inP,Bool.and_eq_true]at hv ⊢;exact⟨QR h f hv.1,QR h c hv.2⟩
theorem QR {p p':Nat→Bool} (h:∀ r,p r=true→p' r=true):∀ l:List PV,inP.inPs p l=true→inP.inPs p' l=true
 | [],_=>rfl
 | q::l,hv=>by
  simp only[inP.inPs,Bool.and_eq_true]at hv ⊢;exact⟨bAE h q hv.1,QR h l hv.2⟩
end
mutual
theorem a5E {m:Nat} {p:Nat→Bool} (h:∀ r,r<m→p r=true):∀ v:PV,below m v=true→inP p v=true
 | .lit _,_|.vals ..,_|.iptr _,_|.tl ..,_|.tp ..,_|.junk,_|.row ..,_|.rp ..,_|.mp _,_=>rfl
 | .own r _,hv=>h r (jZ (by simpa only[below]using hv))
 | .op r _ _ _,hv=>h r (jZ (by simpa only[below]using hv))
 | .win r _ _ _,hv=>h r (jZ (by simpa only[below]using hv))
 | .hptr r _,hv=>h r (jZ (by simpa only[below]using hv))
 | .hs r _ _ _ _,hv=>h r (jZ (by simpa only[below]using hv))
 | .agg cs,hv=>by simp only[below]at hv; simp only[inP]; exact QU h cs hv
 | .tuple cs,hv=>by simp only[below]at hv; simp only[inP]; exact QU h cs hv
 | .clo _ f c,hv=>by
  simp only[below,Bool.and_eq_true]at hv;simp only[inP,Bool.and_eq_true];exact⟨QU h f hv.1,QU h c hv.2⟩
theorem QU {m:Nat} {p:Nat→Bool} (h:∀ r,r<m→p r=true):∀ l:List PV,below.belows m l=true→inP.inPs p l=true
 | [],_=>rfl
 | q::l,hv=>by
  simp only[below.belows,Bool.and_eq_true]at hv;simp only[inP.inPs,Bool.and_eq_true];exact⟨a5E h q hv.1,QU h l hv.2⟩
end
mutual
theorem bIN {p:Nat→Bool} {w:World} {G:Gd} {μ μ':Mp} (h:∀ r,p r=true→μ'.loc r=μ.loc r∧μ'.len r=μ.len r):∀ (q:PV) (v:Value),inP p q=true→VR w G μ q v→VR w G μ' q v
 | .lit u,v,_,hv=>by rw[VR]at hv ⊢; exact hv
 | .vals ..,v,_,hv=>by rw[VR]at hv ⊢; exact hv
 | .iptr _,v,_,hv=>by rw[VR]at hv ⊢; exact hv
 | .tl ..,v,_,hv=>by rw[VR]at hv ⊢; exact hv
 | .tp ..,v,_,hv=>by rw[VR]at hv ⊢; exact hv
 | .row ..,v,_,hv=>by rw[VR]at hv ⊢; exact hv
 | .rp ..,v,_,hv=>by rw[VR]at hv ⊢; exact hv
 | .mp _,v,_,hv=>by rw[VR]at hv ⊢; exact hv
 | .junk,v,_,hv=>by rw[VR]; trivial
 | .hptr r off,v,hb,hv=>by
  have:=h r hb;rw[VR]at hv ⊢; rw[this.1]; exact hv
 | .hs r off l c s,v,hb,hv=>by
  have:=h r hb;rw[VR]at hv ⊢; rw[this.1]; exact hv
 | .own r s,v,hb,hv=>by
  have:=h r hb;rw[VR]at hv ⊢; rw[this.1,this.2]; exact hv
 | .op r i off s,v,hb,hv=>by
  have:=h r hb;rw[VR]at hv ⊢; rw[this.1]; exact hv
 | .win r lo n s,v,hb,hv=>by
  have:=h r hb;rw[VR]at hv ⊢; rw[this.1,this.2]; exact hv
 | .agg cs,v,hb,hv=>by
  rw[VR]at hv ⊢;obtain⟨vs,h1,h2⟩:=hv;exact⟨vs,h1,aNK h cs _ (by simpa only[inP]using hb) h2⟩
 | .tuple cs,v,hb,hv=>by
  rw[VR]at hv ⊢;obtain⟨vs,h1,h2⟩:=hv;exact⟨vs,h1,aNK h cs _ (by simpa only[inP]using hb) h2⟩
 | .clo fn f c,v,hb,hv=>by
  rw[VR]at hv ⊢;simp only[inP,Bool.and_eq_true]at hb;obtain⟨fs,cs,h1,h2,h3⟩:=hv;exact⟨fs,cs,h1,aNK h f _ hb.1 h2,aNK h c _ hb.2 h3⟩
theorem aNK {p:Nat→Bool} {w:World} {G:Gd} {μ μ':Mp} (h:∀ r,p r=true→μ'.loc r=μ.loc r∧μ'.len r=μ.len r):∀ (ps:List PV) (vs:List Value),inP.inPs p ps=true→VRs w G μ ps vs→VRs w G μ' ps vs
 | [],vs,_,hv=>by rw[VRs]at hv ⊢; exact hv
 | q::ps,vs,hb,hv=>by
  rw[VRs]at hv ⊢;simp only[inP.inPs,Bool.and_eq_true]at hb;obtain⟨x,xs,h1,h2,h3⟩:=hv;exact⟨x,xs,h1,bIN h q x hb.1 h2,aNK h ps xs hb.2 h3⟩
end
theorem bCC {p:Nat→Bool} {w:World} {G:Gd} {μ μ':Mp} (h:∀ r,p r=true→μ'.loc r=μ.loc r∧μ'.len r=μ.len r) {b off:Nat} {ps:List PV} (hn:inP.inPs p ps=true) (hc:aQ w G μ b off ps):aQ w G μ' b off ps:=by
 obtain⟨vs,h1,h2⟩:=hc.values;exact aQ.qU (aNK h ps vs hn h1) h2
theorem a10 {p:Nat→Bool}:∀ {H:Heap} {r:Nat} {k:Blk},a2P p H=true→H[r]?=some (some k)→k.tag.isSome=true∨inP.inPs p k.cells=true
 | [],r,k,_,h=>by simp at h
 | x::H,0,k,hp,h=>by
  simp only[List.getElem?_cons_zero,Option.some.injEq]at h;subst h;simp only[a2P,bES,Bool.and_eq_true,Bool.or_eq_true]at hp;exact hp.1
 | x::H,r+1,k,hp,h=>by
  simp only[a2P,Bool.and_eq_true]at hp;exact a10 (H:=H) (r:=r) hp.2 (by simpa using h)
def aWZ(b:Nat) (S:Nat→Bool) (r:Nat):Bool:=Nat.blt r b||S (r-b)
theorem aKQ {b k:Nat} {S:Nat→Bool} (hS:aMM (qJ ops) S) (hk:S k=true):∀ r,bFD b ((qJ ops).getD k 0 ||| 2^k) r=true→aWZ b S r=true:=by
 intro r h;unfold bFD at h;unfold aWZ;rw[Bool.or_eq_true]at h ⊢;rcases h with h|h
 ·exact .inl h
 ·right
  rw[Bool.and_eq_true,Nat.testBit_or,Bool.or_eq_true]at h;rcases h.2 with h1|h1
  ·exact hS k hk _ h1
  ·rw[Nat.testBit_two_pow]at h1
   rw[← of_decide_eq_true h1]; exact hk
theorem a6N {b:Nat} (hm:T.md=some b) (hF:a4Y b F=true) {S:Nat→Bool} (hS:aMM (qJ ops) S) (t:Nat):∀ k,k≤ops.size→inP (aWZ b S) (yK T S t k)=true
 | 0,_=>a5E (fun r hr=>by unfold aWZ; rw[cX,decide_eq_true hr]; rfl) _ (a5V t hF)
 | k+1,hk=>by
  obtain⟨o,ho⟩:∃ o,ops[k]?=some o:=⟨ops[k],Array.getElem?_eq_getElem (by omega)⟩
  rw[yK]
  by_cases hc:S k=true∧ZA ops k=some t
  ·rw[if_pos hc]
   have h3:=(T.step k o ho).2.2;rw[hm]at h3;simp only[okT,Bool.and_eq_true]at h3;exact bAE (aKQ hS hc.1) _ h3.1
  ·rw[if_neg hc]
   exact a6N hm hF hS t k (by omega)
theorem aVY {b:Nat} (hm:T.md=some b) (hH:aBH b H=true) {S:Nat→Bool} (hS:aMM (qJ ops) S):∀ k,k≤ops.size→∀ (r:Nat) (x:Blk),(gZ T S k)[r]?=some (some x)→x.tag.isSome=true∨inP.inPs (aWZ b S) x.cells=true
 | 0,_,r,x,h=>by
  rcases aNL hH h with h|h
  ·exact .inl h
  ·exact .inr (QU (fun r hr=>by unfold aWZ; rw[cX,decide_eq_true hr]; rfl) _ h)
 | k+1,hk,r,x,h=>by
  obtain⟨o,ho⟩:∃ o,ops[k]?=some o:=⟨ops[k],Array.getElem?_eq_getElem (by omega)⟩
  rw[gZ]at h
  by_cases hc:S k=true∧1<T.cs k
  ·rw[if_pos hc]at h
   have h3:=(T.step k o ho).2.2;rw[← T.hbs k o ho,hm]at h3;simp only[okT,Bool.and_eq_true,bNB]at h3;replace h3:=h3.2;rw[cX,decide_eq_true hc.2,cond_true]at h3;unfold ZC at h;split at h
   ·rename_i q hq
    rw[hq]at h3;simp only at h3;rw[List.getElem?_set]at h
    by_cases hqr:q=r
    ·rw[if_pos hqr]at h
     split at h
     ·have h5:=Option.some.inj h
      cases h6:(T.Hs (k+1))[q]? with
      | none=>rw[h6]at h5; cases h5
      | some y =>
       rw[h6]at h5;simp only[Option.getD_some]at h5;subst h5;have h7:l7 (T.Hs (k+1)) q=some x:=by unfold PM.l7; rw[h6]
       rw[h7]at h3;simp only[bES,Bool.or_eq_true]at h3;rcases h3 with h3|h3
       ·exact .inl h3
       ·exact .inr (QR (aKQ hS hc.1) _ h3)
     ·cases h
    ·rw[if_neg hqr]at h
     exact aVY hm hH hS k (by omega) r x h
   ·rename_i hq
    rw[hq]at h3;rcases a10 h3 h with h3|h3
    ·exact .inl h3
    ·exact .inr (QR (aKQ hS hc.1) _ h3)
  ·rw[if_neg hc]at h
   exact aVY hm hH hS k (by omega) r x h
def bB7(b:Nat) (S:Nat→Bool) (X:Heap) (μ:Mp):Mp:=⟨fun r=>if b≤r∧S (r-b)=false then none else μ.loc r,fun r=>if b≤r∧S (r-b)=false∧aH5 X r=true then none else μ.len r⟩
theorem a4X {b:Nat} {S:Nat→Bool} {X:Heap} {μ:Mp}:∀ s,aWZ b S s=true→(bB7 b S X μ).loc s=μ.loc s∧(bB7 b S X μ).len s=μ.len s:=fun s hs=>by
 have h:¬ (b≤s∧S (s-b)=false):=fun h=>by
  unfold aWZ at hs;rw[Bool.or_eq_true]at hs;rcases hs with hs|hs
  ·have:=jZ hs; omega
  ·rw[h.2]at hs; cases hs
 refine⟨?_,?_⟩
 ·show (if b≤s∧S (s-b)=false then none else μ.loc s)=μ.loc s
  rw[if_neg h]
 ·show (if b≤s∧S (s-b)=false∧aH5 X s=true then none else μ.len s)=μ.len s
  rw[if_neg (fun h2=>h ⟨h2.1,h2.2.1⟩)]
theorem bI7(hmb:∀ b,T.md=some b→a4Y b F=true∧aBH b H=true∧∀ r,b≤r→μi.loc r=none∧μi.len r=none):a63 T n0 wi Gi μi:=by
 intro S F1 w a hC hF1 hI i o q ho hS hr;obtain⟨b,hm,rfl,ha⟩:=aUT hr;obtain⟨hF,hH,hμ⟩:=hmb b hm;obtain⟨G,μ,e,hW,hFI⟩:=hI;refine⟨G,bB7 b S (gZ T S ops.size) μ,?_,?_,?_,?_,?_⟩
 ·exact { e with
   map:=fun r x hx=>by
    show (if b≤r∧S (r-b)=false then none else μ.loc r)=some x
    rw[if_neg (fun h=>by rw[(hμ r h.1).1]at hx; cases hx)]
    exact e.map r x hx
   len:=fun r x hx=>by
    show (if b≤r∧S (r-b)=false∧aH5 (gZ T S ops.size) r=true then none else μ.len r)=some x
    rw[if_neg (fun h=>by rw[(hμ r h.1).2]at hx; cases hx)]
    exact e.len r x hx }
 ·refine⟨?_,?_,?_,hW.lt,?_,hW.base,hW.rows.bNX fun r=>?_⟩
  case refine_5 =>
   show (if b≤r∧S (r-b)=false then none else μ.loc r)=none∨(if b≤r∧S (r-b)=false then none else μ.loc r)=μ.loc r
   split
   ·exact .inl rfl
   ·exact .inr rfl
  ·intro r k x hk hx
   change (if b≤r∧S (r-b)=false then none else μ.loc r)=some x at hx
   split at hx
   ·cases hx
   ·obtain⟨c,h1,h2,h3⟩:=hW.blk r k x hk hx
    refine⟨c,h1,?_,h3⟩;rcases aVY T hm hH hC ops.size (Nat.le_refl _) r k hk with h4|h4
    ·obtain⟨g,hg⟩:=Option.isSome_iff_exists.1 h4
     rw[(hW.tags r k g hk hg).1]at h2 ⊢;exact uO (lS _ _) h2
    ·exact bCC a4X h4 h2
  ·intro r k g hk hg
   obtain⟨h1,h2⟩:=hW.tags r k g hk hg;refine⟨h1,?_⟩;show (if b≤r∧S (r-b)=false∧aH5 (gZ T S ops.size) r=true then none else μ.len r)=_
   rw[if_neg (fun h=>by have h3:=aFT.1 h.2.2; rw[hk]at h3; cases h3)]
   exact h2
  ·intro r s k l x h1 h2 f1 f2 m1 m2
   change (if b≤r∧S (r-b)=false then none else μ.loc r)=some x at m1
   change (if b≤s∧S (s-b)=false then none else μ.loc s)=some x at m2
   split at m1
   ·cases m1
   ·split at m2
    ·cases m2
    ·exact hW.inj r s k l x h1 h2 f1 f2 m1 m2
  ·intro r hr
   have:=hW.top r hr;refine⟨?_,?_⟩
   ·show (if b≤r∧_ then _ else _)=_
    split
    ·rfl
    ·exact this.1
   ·show (if b≤r∧S (r-b)=false∧aH5 (gZ T S ops.size) r=true then none else μ.len r)=_
    split
    ·rfl
    ·exact this.2
 ·refine⟨hFI.size,fun t=>?_,hFI.defers⟩
  have hv:=hFI.slot t;rw[hF1]at hv ⊢;exact bIN a4X _ _ (a6N T hm hF hC t ops.size (Nat.le_refl _)) hv
 ·show (if b≤b+i∧S (b+i-b)=false then none else μ.loc (b+i))=none
  rw[if_pos ⟨Nat.le_add_right _ _,by rw[Nat.add_sub_cancel_left]; exact hS⟩]
 ·intro hx
  show (if b≤b+i∧S (b+i-b)=false∧aH5 (gZ T S ops.size) (b+i)=true then none else μ.len (b+i))=none
  rw[if_pos ⟨Nat.le_add_right _ _,by rw[Nat.add_sub_cancel_left]; exact hS,aFT.2 hx⟩]
theorem bLG {G:Gd} {μ:Mp} {H:Heap} {w:World} (hW:bC n0 G μ H w) {q:Nat} (hq:q<H.length) (hn:μ.loc q=none) (hl:μ.len q=none) {w':World} {G':Gd} {μ':Mp} {k:Blk} {sz:Nat} {v:Value}
  (e:Ext (D2 w) w G.bare aN w' G' μ') (hW':bC (D2 w) G' μ' [some k] w') (hv:VR w' G' μ' (.own 0 sz) v) (ht:a17 k.tag=true) :
  ∃ μ2,Ext n0 w G μ w' (G'.with G) μ2∧bC n0 (G'.with G) μ2 (H.set q (some k)) w'∧VR w' (G'.with G) μ2 (.own q sz) v:=by
 have e2:Ext n0 w G μ w' (G'.with G) ⟨fun s=>if s=q then μ'.loc 0 else μ.loc s,fun s=>if s=q then μ'.len 0 else μ.len s⟩:={
  good:=e.good
  map:=fun r b hb=>by
   show (if r=q then μ'.loc 0 else μ.loc r)=some b
   rw[if_neg (by rintro rfl; rw[hn]at hb; cases hb)]; exact hb
  len:=fun r b hb=>by
   show (if r=q then μ'.len 0 else μ.len r)=some b
   rw[if_neg (by rintro rfl; rw[hl]at hb; cases hb)]; exact hb
  room:=e.room
  row:=fun _ _ h=>h
  os:=e.os
  tape:=e.tape
  output:=e.output
  size:=e.size
  old:=fun b hb _=>e.old b hb (Nat.not_le.2 hb)
  new:=fun b hb=>by
   rcases e.new b hb with h|h
   ·exact .inl h
   ·exact .inr (hW.base b h) }
 have hnew:∀ b,μ'.loc 0=some b→∃ c,w'.heap[b]?=some (.cells c k.ty (0,0))∧aQ w' G' μ' b 0 k.cells∧(k.grown=false→c.size=k.cells.length)∧(k.frozen=true→G' b)∧(k.frozen=false→D2 w b∧¬ G' b):=fun b hb=>hW'.blk 0 k b rfl hb
 obtain⟨g,hg,hgp⟩:∃ g,k.tag=some g∧g.t.plain=true:=by
  cases hk:k.tag with
  | none=>rw[hk]at ht; cases ht
  | some g=>rw[hk]at ht; exact⟨g,rfl,ht⟩
 obtain⟨hgc,hgl⟩:=hW'.tags 0 k g rfl hg;have key:∀ (s:Nat) (k1:Blk),(H.set q (some k))[s]?=some (some k1)→(s=q∧k1=k)∨(s≠q∧H[s]?=some (some k1)):=by
  intro s k1 hs;rw[List.getElem?_set]at hs
  by_cases h:q=s
  ·rw[if_pos h,if_pos hq]at hs
   exact .inl ⟨h.symm,(Option.some.inj (Option.some.inj hs)).symm⟩
  ·rw[if_neg h]at hs
   exact .inr ⟨fun e=>h e.symm,hs⟩
 refine⟨_,e2,⟨?_,?_,?_,hW'.lt,?_,fun b hb=>hW.base b (Nat.le_trans e.size hb),?_⟩,?_⟩
 ·intro s k1 b hs hb
  rcases key s k1 hs with ⟨rfl,rfl⟩|⟨hne,hs'⟩
  ·simp only[if_true]at hb
   obtain⟨c,h1,h2,h3,h4,h5⟩:=hnew b hb;refine⟨c,h1,?_,h3,h4,fun hf=>⟨hW.base b (h5 hf).1,(h5 hf).2⟩⟩
   rw[hgc]at h2 ⊢;exact AU (G:=G') (G':=G'.with G) (fun b h=>h) _ _ _ _ (E0 _ hgp _) (uO (lS _ _) h2)
  ·simp only[if_neg hne]at hb
   obtain⟨c',h2,h3,h4,h5,h6⟩:=hW.blk s k1 b hs' hb;have hlt:=hW.rO hs' hb;have e1:w'.heap[b]?=w.heap[b]?:=e.old b hlt (Nat.not_le.2 hlt);refine⟨c',e1.trans h2,aQ.mono e2.toMono e1 0 _ h3,h4,fun hf=>(e.good b (h5 hf)).1,fun hf=>⟨(h6 hf).1,fun hg=>?_⟩⟩
   rcases e.new b hg with h|h
   ·exact(h6 hf).2 h
   ·exact absurd hlt (Nat.not_lt.2 h)
 ·intro s k1 g1 hs hg1
  rcases key s k1 hs with ⟨rfl,rfl⟩|⟨hne,hs'⟩
  ·simp only[if_true]
   exact hW'.tags 0 k1 g1 rfl hg1
  ·simp only[if_neg hne]
   exact hW.tags s k1 g1 hs' hg1
 ·intro s1 s2 k1 k2 b h1 h2 f1 f2 m1 m2
  rcases key s1 k1 h1 with ⟨rfl,rfl⟩|⟨l1,h1'⟩ <;> rcases key s2 k2 h2 with ⟨e2,rfl⟩|⟨l2,h2'⟩
  ·exact e2.symm
  ·simp only[if_true]at m1
   simp only[if_neg l2]at m2;obtain⟨_,_,_,_,_,h5⟩:=hnew b m1;exact absurd (hW.rO h2' m2) (Nat.not_lt.2 (h5 f1).1)
  ·subst e2
   simp only[if_true]at m2;simp only[if_neg l1]at m1;obtain⟨_,_,_,_,_,h5⟩:=hnew b m2;exact absurd (hW.rO h1' m1) (Nat.not_lt.2 (h5 f2).1)
  ·simp only[if_neg l1]at m1
   simp only[if_neg l2]at m2;exact hW.inj s1 s2 k1 k2 b h1' h2' f1 f2 m1 m2
 ·intro r hr
  rw[List.length_set]at hr;have:=hW.top r hr;exact⟨by show (if r=q then _ else _)=_; rw[if_neg (by omega)]; exact this.1,by show (if r=q then _ else _)=_; rw[if_neg (by omega)]; exact this.2⟩
 ·refine hW.rows.step e2.toMono.aN e.size (fun _=>rfl) (fun j b hj=>?_) (fun s k1 t1 l1 hs hg1 ht1=>?_)
  ·have hlt:=(hW.rows.sep j b hj).1
   refine⟨e.old b hlt (Nat.not_le.2 hlt),fun hg=>?_,fun s k1 hs hf1 hl=>?_⟩
   ·rcases e.new b hg with h|h
    ·exact h
    ·exact absurd hlt (Nat.not_lt.2 h)
   ·rcases key s k1 hs with ⟨rfl,rfl⟩|⟨hne,hs'⟩
    ·simp only[if_true]at hl
     obtain⟨_,_,_,_,_,h5⟩:=hnew b hl;exact absurd hlt (Nat.not_lt.2 (h5 hf1).1)
    ·simp only[if_neg hne]at hl
     exact⟨s,k1,hs',hf1,hl⟩
  ·rcases key s k1 hs with ⟨rfl,rfl⟩|⟨hne,hs'⟩
   ·rw[hg]at ht1
    cases ht1;cases hgp
   ·exact⟨k1,hs',rfl,rfl,rfl,by simp only[if_neg hne]⟩
 ·rw[VR]at hv ⊢
  simp only[if_true];exact hv
theorem bLC {G:Gd} {μ:Mp} {H:Heap} {w:World} (hW:bC n0 G μ H w) {w':World} {G':Gd} {μ':Mp} (e:Ext (D2 w) w G.bare aN w' G' μ') (hlt':∀ b,G' b→b<w'.heap.size):Ext n0 w G μ w' (G'.with G) μ∧bC n0 (G'.with G) μ H w':=by
 have e2:Ext n0 w G μ w' (G'.with G) μ:={
  good:=e.good
  map:=fun _ _ h=>h
  len:=fun _ _ h=>h
  room:=e.room
  row:=fun _ _ h=>h
  os:=e.os
  tape:=e.tape
  output:=e.output
  size:=e.size
  old:=fun b hb _=>e.old b hb (Nat.not_le.2 hb)
  new:=fun b hb=>by
   rcases e.new b hb with h|h
   ·exact .inl h
   ·exact .inr (hW.base b h) }
 have hback:∀ b,b<w.heap.size→G' b→G b:=fun b hlt hg=>by
  rcases e.new b hg with h|h
  ·exact h
  ·exact absurd hlt (Nat.not_lt.2 h)
 refine⟨e2,hW.aZ e2 ⟨fun _=>rfl,fun j b hj=>?_⟩ ?_ hlt'⟩
 ·have hlt:=(hW.rows.sep j b hj).1
  exact⟨e.old b hlt (Nat.not_le.2 hlt),hback b hlt⟩
 ·intro r k b hr hb
  have hlt:=hW.rO hr hb;exact⟨e.old b hlt (Nat.not_le.2 hlt),hback b hlt⟩
def bJD:Frm→Frm
 | []=>[]
 | (t,p)::r=>(t,bif fP p&&gF p then p else .junk)::bJD r
theorem a2D(t:Nat):∀ F:Frm,fB (bJD F) t=bif fP (fB F t)&&gF (fB F t) then fB F t else .junk
 | []=>rfl
 | (u,p)::F=>by
  rw[bJD,jV,jV]
  by_cases h:t=u
  ·rw[if_pos h,if_pos h]
  ·rw[if_neg h,if_neg h]; exact a2D t F
theorem aZT:∀ {l:List PV} {p:PV},fP.noRefs l=true→p∈l→fP p=true
 | [],_,_,h=>by cases h
 | q::l,p,h,hp=>by
  simp only[fP.noRefs,Bool.and_eq_true]at h;rcases List.mem_cons.1 hp with rfl|hp
  ·exact h.1
  ·exact aZT h.2 hp
theorem aZ7:∀ {l:List PV} {p:PV},gF.noRows l=true→p∈l→gF p=true
 | [],_,_,h=>by cases h
 | q::l,p,h,hp=>by
  simp only[gF.noRows,Bool.and_eq_true]at h;rcases List.mem_cons.1 hp with rfl|hp
  ·exact h.1
  ·exact aZ7 h.2 hp
theorem bIG(hcl:fQ P cl) (hst:aKL ops=true) (hE:a63 T n0 wi Gi μi) {Q:Exit→Act→World→Prop} (hQ:∀ a' w',I n0 wi Gi μi nt F' H' a' w'→Q .normal a' w') :
  ∀ (fuel:Nat) (listed:Array Bool) (a:Act) (w:World),(List.range ops.size).countP (fun i=>!listed.getD i false)=fuel→listed.size=ops.size→aMM (qJ ops) (fun i=>listed.getD i false) →
   (∀ F1,(∀ t,fB F1 t=yK T (fun i=>listed.getD i false) t ops.size)→I n0 wi Gi μi nt F1 (gZ T (fun i=>listed.getD i false) ops.size) a w)→wpAny P .any ops Q fuel listed a w:=by
 simp only[aKL,Bool.and_eq_true]at hst;obtain⟨hmask,hpairs⟩:=hst;have hm:∀ i o,ops[i]?=some o→(qJ ops).getD i 0=aD4 (qJ ops) o.after.toList∧∀ e∈o.after,Region.binds .any e=true→e.on<i:=fun i o ho=>by
  have:=aVB hmask (i:=i) (o:=o) (by simpa using ho)
  rwa[Nat.zero_add]at this
 have hap:∀ i j oi oj,ops[i]?=some oi→ops[j]?=some oj→i<j→((qJ ops).getD j 0).testBit i=true∨oi.apart ops oj=true:=fun i j oi oj hi hj hij=>by
  have:=aWC hpairs (j:=j) (oj:=oj) (by simpa using hj)
  rw[Nat.zero_add]at this;have:=a0W this (i:=i) (oi:=oi) (by simpa using hi) (by omega)
  rwa[Nat.zero_add]at this
 -- all listed: the end
 have hend:∀ (listed:Array Bool) (a:Act) (w:World),(∀ i,i<ops.size→listed.getD i false=true) →
   (∀ F1,(∀ t,fB F1 t=yK T (fun i=>listed.getD i false) t ops.size)→I n0 wi Gi μi nt F1 (gZ T (fun i=>listed.getD i false) ops.size) a w)→Q .normal a w:=by
  intro listed a w hall hI;have h1:∀ t,fB F' t=yK T (fun i=>listed.getD i false) t ops.size:=fun t=>by
   rw[V7 T (S':=fun _=>true) fun j hj _=>hall j hj,aPV T t _ (Nat.le_refl _),T.fn]
  have h2:=hI F' h1;rw[JB T (S':=fun _=>true) fun j hj _=>hall j hj,aGV T hcl _ (Nat.le_refl _),T.hn]at h2
  exact hQ a w h2
 -- nothing is ready: all listed
 have hnone:∀ listed:Array Bool,listed.size=ops.size→Region.ready .any ops listed=[]→∀ i,i<ops.size→listed.getD i false=true:=by
  intro listed hsz hr i
  induction i using Nat.strongRecOn with
  | _ i ih =>
   intro hi;cases hli:listed.getD i false with
   | true=>rfl
   | false =>
    obtain⟨o,ho⟩:∃ o,ops[i]?=some o:=⟨ops[i],Array.getElem?_eq_getElem hi⟩;have:i∈Region.ready .any ops listed:=mem_ready.2 ⟨by
     have hlt:i<listed.size:=by omega
     simpa[Array.getD,hlt]using hli,o,ho,fun e he hb=>ih e.on ((hm i o ho).2 e he hb) (by have:=(hm i o ho).2 e he hb; omega)⟩
    rw[hr]at this;cases this
 intro fuel
 induction fuel with
 | zero =>
  intro listed a w hc hsz hcs hI;have hall:∀ i,i<ops.size→listed.getD i false=true:=fun i hi=>by
   rw[List.countP_eq_zero]at hc;have:=hc i (List.mem_range.2 hi);simpa using this
  refine⟨?_,hend listed a w hall hI⟩;cases hr:Region.ready .any ops listed with
  | nil=>rfl
  | cons i r =>
   have:i∈Region.ready .any ops listed:=by rw[hr]; exact List.mem_cons_self
   obtain⟨h1,o,ho,_⟩:=mem_ready.1 this;have hi:i<ops.size:=(Array.getElem?_eq_some_iff.1 ho).1;have h2:=hall i hi;have hlt:i<listed.size:=by omega
   simp only[Array.getD,hlt,dif_pos]at h1 h2;rw[h1]at h2; cases h2
 | succ fuel ih =>
  intro listed a w hc hsz hcs hI;refine⟨fun hr=>hend listed a w (hnone listed hsz hr) hI,fun i hi=>?_⟩
  obtain⟨h1,o,ho,hdeps⟩:=mem_ready.1 hi;have hlt:i<ops.size:=(Array.getElem?_eq_some_iff.1 ho).1;have hlt':i<listed.size:=by omega
  have hun:listed.getD i false=false:=by
   simp only[Array.getD,hlt',dif_pos]at h1 ⊢;exact h1
  -- what must be done ahead of i is listed
  have hahead:∀ b,((qJ ops).getD i 0).testBit b=true→listed.getD b false=true:=fun b hb=>by
   rw[(hm i o ho).1]at hb;rcases WO _ _ hb with h0|⟨e,he,hbd,h2⟩
   ·simp at h0
   ·have he':=hdeps e (Array.mem_toList_iff.1 he) hbd
    rcases h2 with rfl|h2
    ·exact he'
    ·exact hcs e.on he' b h2
  have hbehind:∀ j,((qJ ops).getD j 0).testBit i=true→listed.getD j false=false:=fun j hj=>by
   cases hlj:listed.getD j false with
   | false=>rfl
   | true =>
    have h5:listed.getD i false=true:=hcs j hlj i hj;rw[h5]at hun; cases hun
  -- a slot that i looks at or writes
  have hwr:∀ t,(t∈o.looksAt ops∨o.dst=some t)→(∀ j,j<i→ZA ops j=some t→listed.getD j false=true)∧(∀ j,i<j→j<ops.size→ZA ops j=some t→listed.getD j false=false):=by
   intro t ht;refine⟨fun j hj hd=>?_,fun j hj hjs hd=>?_⟩
   ·cases hoj:ops[j]? with
    | none=>simp[ZA,hoj]at hd
    | some oj =>
     simp only[ZA,hoj,Option.bind_some]at hd;rcases hap j i oj o hoj ho hj with h3|h3
     ·exact hahead j h3
     ·obtain⟨a1,a2,a3⟩:=Oper.apart_spec h3
      rcases ht with ht|ht
      ·exact absurd ht (a1 t hd)
      ·exact absurd ht (a2 t hd)
   ·cases hoj:ops[j]? with
    | none=>simp[ZA,hoj]at hd
    | some oj =>
     simp only[ZA,hoj,Option.bind_some]at hd;rcases hap i j o oj ho hoj hj with h3|h3
     ·exact hbehind j h3
     ·obtain⟨a1,a2,a3⟩:=Oper.apart_spec h3
      rcases ht with ht|ht
      ·exact absurd ht (a3 t hd)
      ·exact absurd hd (a2 t ht)
  have hslot:∀ t∈o.looksAt ops,yK T (fun i=>listed.getD i false) t ops.size=fB (T.Fs i) t:=fun t ht=>by
   obtain⟨w1,w2⟩:=hwr t (.inl ht);rw[aBJ T (k:=i) (by omega) fun j hj hjs hd=>by
    rcases Nat.lt_or_ge i j with hl|hl
    ·exact w2 j hl hjs hd
    ·have:j=i:=by omega
     subst this; exact hun]
   rw[V7 T (S':=fun _=>true) fun j hj hd=>w1 j hj hd,aPV T t i (by omega)]
  obtain⟨hstep,hput,-⟩:=T.step i o ho
  -- the heap that i looks at
  have hord:∀ j,j<ops.size→1<T.cs j→T.cs i≠0→aBX (T.bs j) (T.bs i)=false→listed.getD j false=decide (j<i):=fun j hjs hx hc0 hap'=>by
   rcases Nat.lt_trichotomy j i with hl|hl|hl
   ·rw[decide_eq_true hl]
    rcases T.hits j i hl hlt (by omega) hc0 (.inl hx)with h3|h3
    ·have:aBX (T.bs j) (T.bs i)=true:=by
      revert h3
      cases T.bs j <;> cases T.bs i <;> simp only[aBX,Bool.not_eq_true',imp_self,Bool.false_eq_true,false_implies]
      rename_i x y;intro h3;cases hxy:Nat.beq x y with
      | false=>rfl
      | true=>rw[Nat.eq_of_beq_eq_true hxy,Nat.beq_refl]at h3; cases h3
     rw[this]at hap'; cases hap'
    ·exact hahead j h3
   ·subst hl; rw[decide_eq_false (by omega)]; exact hun
   ·rw[decide_eq_false (by omega)]
    rcases T.hits i j hl hjs hc0 (by omega) (.inr hx)with h3|h3
    ·rw[h3]at hap'; cases hap'
    ·exact hbehind j h3
  have hheap:T.cs i≠0→T.bs i=none→gZ T (fun i=>listed.getD i false) ops.size=T.Hs i:=fun hc0 hb0=>by
   have ho':∀ j,j<ops.size→1<T.cs j→listed.getD j false=decide (j<i):=fun j hjs hx=>hord j hjs hx hc0 (by rw[hb0]; cases T.bs j <;> rfl)
   rw[aBC T (k:=i) (by omega) fun j hj hjs hx=>by rw[ho' j hjs hx,decide_eq_false (by omega)]]
   rw[JB T (S':=fun _=>true) fun j hj hx=>by rw[ho' j (by omega) hx,decide_eq_true hj],aGV T hcl i (by omega)]
  have hheapq:∀ q,T.cs i≠0→T.bs i=some q→(gZ T (fun i=>listed.getD i false) ops.size)[q]?=(T.Hs i)[q]?:=fun q hc0 hb0=>by
   have ho':∀ j,j<ops.size→1<T.cs j→T.bs j=none∨T.bs j=some q→listed.getD j false=decide (j<i):=fun j hjs hx hbj=>hord j hjs hx hc0 (by
    rw[hb0];rcases hbj with h|h <;> rw[h]
    ·rfl
    ·simp[aBX])
   have h1:=(a4N T (q:=q) (S:=fun i=>listed.getD i false) (S':=fun j=>decide (j<i)) (n:=ops.size) ho').2
   rw[h1,aBC T (k:=i) (by omega) fun j hj hjs hx=>decide_eq_false (by omega)]
   rw[JB T (S':=fun _=>true) fun j hj hx=>decide_eq_true hj,aGV T hcl i (by omega)]
  obtain⟨F1,hF1⟩:=bAP T (fun i=>listed.getD i false) ops.size
  have hI1:=hI F1 hF1;obtain⟨H1,c1,hH1⟩:∃ H1 c1,stepT (TG T.md o i) P cl ops.toList o F1 (gZ T (fun i=>listed.getD i false) ops.size)=some (T.vs i,H1,c1)∧H1=gZ T (fun k=>(listed.setIfInBounds i true).getD k false) ops.size:=by
   have hS':∀ j,j≠i→(listed.setIfInBounds i true).getD j false=listed.getD j false:=fun j hj=>getD_set_ne false (fun e=>hj e.symm)
   have hSi:(listed.setIfInBounds i true).getD i false=true:=by simp[Array.getD,hlt']
   have hnewheap:gZ T (fun k=>(listed.setIfInBounds i true).getD k false) ops.size=if 1<T.cs i then ZC T i (gZ T (fun i=>listed.getD i false) ops.size) else gZ T (fun i=>listed.getD i false) ops.size:=by
    by_cases hx:1<T.cs i
    ·rw[if_pos hx]
     refine aW9 T hx hun hSi hS' (fun j hj hjs hxj hlj=>?_) ops.size hlt (Nat.le_refl _)
     cases hap':aBX (T.bs j) (T.bs i)with
     | true=>rfl
     | false =>
      have:=hord j hjs hxj (by omega) hap'
      rw[decide_eq_false (by omega)]at this
      exact absurd hlj (by rw[this]; decide)
    ·rw[if_neg hx]
     refine JB T fun j hj hxj=>?_
     exact hS' j (fun e=>hx (e ▸ hxj))
   have hcg:∀ H2,stepT (TG T.md o i) P cl ops.toList o F1 H2=stepT (TG T.md o i) P cl ops.toList o (T.Fs i) H2:=fun H2=>by
    have h0:∀ H2,BC P cl ops.toList o F1 H2=BC P cl ops.toList o (T.Fs i) H2:=fun H2=>aSP fun t ht=>by rw[hF1,hslot t ht]
    cases TG T.md o i with
    | none=>exact h0 H2
    | some q =>
     have h5:∀ x∈o.op.operands,ev F1 x=ev (T.Fs i) x:=fun x hx=>by
      cases x with
      | tmp t =>
       have h7:t∈o.looksAt ops:=List.mem_append_left _ (List.mem_filterMap.2 ⟨.tmp t,by simpa using hx,rfl⟩)
       show fB F1 t=fB (T.Fs i) t;rw[hF1,hslot t h7]
      | _=>rfl
     have h6:o.op.operands.toList.map (ev F1)=o.op.operands.toList.map (ev (T.Fs i)):=List.map_congr_left fun x hx=>h5 x (by simpa using hx)
     simp only[stepT,h0,h6]
   rw[hcg,hnewheap]
   by_cases hc0:T.cs i=0
   ·rw[hc0]at hstep ⊢
    refine⟨_,_,(aV4 hcl hstep).2 rfl _,?_⟩;simp
   ·cases hb0:T.bs i with
    | none =>
     rw[hheap hc0 hb0];refine⟨_,_,hstep,?_⟩
     by_cases hx:1<T.cs i
     ·rw[if_pos hx]; simp only[ZC,hb0]
     ·rw[if_neg hx]
      exact(aV4 hcl hstep).1 (by omega)
    | some q =>
     obtain⟨H3,c,h3,h4⟩:=T.loc i o q ho hb0 hc0 _ (hheapq q hc0 hb0);refine⟨_,_,h3,?_⟩;rw[h4]; simp only[ZC,hb0]
  obtain⟨hop,hH1⟩:=hH1
  -- behind it
  have hnext:∀ (a':Act) (w':World),(∃ F2,aEM nt F1 o.dst (T.vs i)=some F2∧I n0 wi Gi μi nt F2 H1 a' w')→wpAny P .any ops Q fuel (listed.setIfInBounds i true) a' w':=by
   rintro a' w' ⟨F2,hF2,hI2⟩;have hS':∀ j,j≠i→(listed.setIfInBounds i true).getD j false=listed.getD j false:=fun j hj=>getD_set_ne false (fun e=>hj e.symm)
   have hSi:(listed.setIfInBounds i true).getD i false=true:=by simp[Array.getD,hlt']
   refine ih _ a' w' ?_ (by simpa using hsz) ?_ ?_
   ·have:=aU4 (p:=fun i=>!listed.getD i false) (p':=fun j=>!(listed.setIfInBounds i true).getD j false) (i:=i) (by simp only[hun,Bool.not_false]) (by simp only[hSi,Bool.not_true]) (fun j hj=>by simp only[hS' j hj]) ops.size hlt
    omega
   ·intro j hj b hb
    by_cases hji:j=i
    ·subst hji
     by_cases hbj:b=j
     ·subst hbj; exact hSi
     ·show (listed.setIfInBounds j true).getD b false=true
      rw[hS' b hbj]; exact hahead b hb
    ·have hj':listed.getD j false=true:=by rw[← hS' j hji]; exact hj
     by_cases hbi:b=i
     ·subst hbi; exact hSi
     ·show (listed.setIfInBounds i true).getD b false=true
      rw[hS' b hbi]; exact hcs j hj' b hb
   ·intro F3 hF3
    rw[← hH1];refine hI2.congr fun t=>?_
    rw[hF3,bBW hF2 t]
    by_cases hd:o.dst=some t
    ·rw[if_pos hd]
     rw[aBJ T (k:=i+1) (by omega) fun j hj hjs hdj=>by
      rw[hS' j (by omega)]
      exact(hwr t (.inr hd)).2 j (by omega) hjs hdj]
     rw[yK,if_pos ⟨hSi,by simp[ZA,ho,hd]⟩]
    ·rw[if_neg hd,hF1]
     refine V7 T fun j hj hdj=>hS' j ?_
     rintro rfl;simp only[ZA,ho,Option.bind_some]at hdj;exact hd hdj
  have hputF1:∃ F2,aEM nt F1 o.dst (T.vs i)=some F2:=by
   cases hd:o.dst with
   | none=>exact⟨F1,rfl⟩
   | some d =>
    rw[hd]at hput;simp only[aEM]at hput ⊢;cases hb:Nat.blt d nt with
    | true=>exact⟨_,rfl⟩
    | false=>rw[hb]at hput; cases hput
  obtain⟨F2,hF2⟩:=hputF1;cases hr:TG T.md o i with
  | some q =>
   obtain⟨G,μ,e,hW,hF,hnone,hlnone⟩:=hE (fun i=>listed.getD i false) F1 w a hcs hF1 hI1 i o q ho hun hr
   obtain⟨b,_,_,ha⟩:=aUT hr;obtain⟨hg,⟨d,hd⟩,hkind⟩:=a81 ha;rw[hr]at hop;rcases hkind with ⟨t,hop'⟩|⟨cc,hop'⟩
   case inr =>
    simp only[stepT,hop']at hop;obtain⟨hnr,hop⟩:=aO hop;split at hop
    ·rename_i v1 X c2 hs
     have hcut:BC P cl ops.toList o (bJD F1) []=some (v1,X,c2):=by
      rw[← hs];refine aSP fun t ht=>?_
      rw[a2D];have h7:Operand.tmp t∈o.op.operands:=by
       unfold Oper.looksAt at ht;rw[hg]at ht;simp only[Option.toList,List.append_nil,List.mem_filterMap]at ht;obtain⟨x,h8,h9⟩:=ht;cases x with
       | tmp u=>simp only[Option.some.injEq]at h9; subst h9; simpa using h8
       | _=>cases h9
      rw[Bool.and_eq_true]at hnr;have h8:fP (fB F1 t)=true:=aZT hnr.1 (List.mem_map.2 ⟨.tmp t,by rw[← hop']; simpa using h7,rfl⟩)
      have h9:gF (fB F1 t)=true:=aZ7 hnr.2 (List.mem_map.2 ⟨.tmp t,by rw[← hop']; simpa using h7,rfl⟩)
      rw[h8,h9]; rfl
     have hW0:bC (D2 w) G.bare aN [] w:=⟨fun r k b h=>by simp at h,fun r k g h=>by simp at h,fun r s k l b h=>by simp at h,hW.lt,fun _ _=>⟨rfl,rfl⟩,fun _ h=>h,xI.none _ _ (fun _=>rfl) _ _ (fun r k h=>by simp at h)⟩
     have hF0:j4 w G.bare aN nt (bJD F1) a:=⟨hF.size,fun t=>by
      rw[a2D];cases hn:(fP (fB F1 t)&&gF (fB F1 t))with
      | true =>
       rw[Bool.and_eq_true]at hn;exact W6 (G:=G) (G':=G.bare) (fun b h=>h) _ _ _ hn.2 (FG _ _ hn.1 (hF.slot t))
      | false=>rw[cond_false,VR]; trivial,hF.defers⟩
     unfold wpOp;rw[ho];simp only;rcases aHP hcl hcut hW0 hF0 with ⟨k1,k2⟩|⟨k1,k2,k3⟩
     ·rw[if_pos k1]
      refine .inl (k2 _ _ fun v' w' G' μ' e' hW' hv'=>?_)
      rcases YP hop with ⟨sz,k,rfl,rfl,hv,hH,_,hq,hqn,htag⟩|⟨rfl,hn1,hv,hH,_⟩
      case inr =>
       obtain⟨m1,m2⟩:=bLC hW e' hW'.lt;rw[Bool.and_eq_true]at hn1;exact hnext _ _ ⟨F2,hF2,_,μ,e.trans m1,by rw[hH]; exact m2,(hF.mono m1.toMono).a0N hF2 (by rw[hv]; exact(W6 (G:=G') (G':=G'.with G) (fun b h=>h) _ _ _ hn1.2 (FG _ _ hn1.1 hv')).bN)⟩
      obtain⟨μ2,m1,m2,m3⟩:=bLG hW hq hnone (hlnone hqn) e' hW' hv' htag;exact hnext _ _ ⟨F2,hF2,_,μ2,e.trans m1,by rw[hH]; exact m2,(hF.mono m1.toMono).a0N hF2 (by rw[hv]; exact m3)⟩
     ·rw[k1,if_neg (by decide)]
      subst k3;rcases YP hop with ⟨_,_,_,h9,_⟩|⟨_,_,hv,hH,_⟩
      ·cases h9
      ·exact hnext _ _ ⟨F2,hF2,G,μ,e,by rw[hH]; exact hW,hF.a0N hF2 (by rw[hv,k2,VR])⟩
    ·cases hop
   simp only[stepT,hop']at hop;cases hz:KT P t with
   | none=>rw[hz]at hop; cases hop
   | some z =>
    rw[hz]at hop;simp only at hop;obtain⟨hq,hop⟩:=aO hop;simp only[Option.some.injEq,Prod.mk.injEq]at hop;obtain⟨hv,hH,-⟩:=hop;obtain⟨e1,e2⟩:=bJ7 hW (jZ hq) hnone z.cells t;unfold wpOp;rw[ho];simp only;rw[if_pos (FU hF (b:=true) (by simp only[guardOf,hg]))]
    refine .inl ?_;have hok:N2 P n0 w G μ o a (T.vs i) H1:=by
     refine .value (s:=Instr.alloc t true (.tuple #[])) (by simp only[execOp,hop']) ?_
     refine⟨.pointer (some ⟨w.heap.size,0,none⟩),w.alloc (.cells z.cells t),G,_,?_,e1,by rw[← hH]; exact e2,?_⟩
     ·have hzv:(zeroValue t).run P w=.ok z w:=by
       unfold KT at hz;split at hz
       ·rename_i i hi
        simp[zeroValue,FF hi,hz]
       ·cases hz
      simp only[Instr.alloc,Sem.run_bind,hzv,Result.andThen_ok,newVar];simp[newRow]
     ·rw[← hv,VR]
      exact⟨w.heap.size,by show (if q=q then _ else _)=_; rw[if_pos rfl],rfl⟩
    exact hok _ _ fun v' w' G' μ' e' hW' hv=>hnext _ _ ⟨F2,hF2,G',μ',e.trans e',hW',(hF.mono e'.toMono).a0N hF2 hv⟩
  | none =>
  rw[hr]at hop;replace hop:BC P cl ops.toList o F1 (gZ T (fun i=>listed.getD i false) ops.size)=some (T.vs i,H1,c1):=hop
  obtain⟨G,μ,e,hW,hF⟩:=hI1;unfold wpOp;rw[ho];simp only;rcases aHP hcl hop hW hF with ⟨k1,k2⟩|⟨k1,k2,k3⟩
  ·rw[if_pos k1]
   exact .inl (k2 _ _ fun v' w' G' μ' e' hW' hv=>hnext _ _ ⟨F2,hF2,G',μ',e.trans e',hW',(hF.mono e'.toMono).a0N hF2 hv⟩)
  ·rw[k1,if_neg (by decide)]
   exact hnext _ _ ⟨F2,hF2,G,μ,e,by rw[k3]; exact hW,hF.a0N hF2 (by rw[k2,VR])⟩
theorem bCZ {G:Gd} {μ:Mp} {H:Heap} {w:World} (hW:bC n0 G μ H w) (n:Nat):bC n0 G μ (H++List.replicate n none) w:=by
 have key:∀ (r:Nat) (k:Blk),(H++List.replicate n none)[r]?=some (some k)→H[r]?=some (some k):=by
  intro r k h;rcases Nat.lt_or_ge r H.length with hl|hl
  ·rwa[List.getElem?_append_left hl]at h
  ·rw[List.getElem?_append_right hl,List.getElem?_replicate]at h
   split at h <;> cases h
 exact⟨fun r k b h=>hW.blk r k b (key r k h),fun r k g h=>hW.tags r k g (key r k h),fun r s k l b h1 h2=>hW.inj r s k l b (key r k h1) (key s l h2),hW.lt,fun r hr=>hW.top r (by rw[List.length_append]at hr; omega),hW.base,hW.rows.bL0 id (fun _ _ h=>h) (fun r k h=>⟨key r k h,rfl⟩)⟩
theorem aKJ {b n:Nat}:∀ {H:Heap},aBH b H=true→aBH b (H++List.replicate n none)=true
 | [],_=>by
  rw[List.nil_append]
  induction n with
  | zero=>rfl
  | succ n ih=>rw[List.replicate_succ]; exact ih
 | none::H,h=>aKJ (H:=H) h
 | some k::H,h=>by
  simp only[aBH,Bool.and_eq_true,List.cons_append]at h ⊢;exact⟨h.1,aKJ h.2⟩
theorem bFM {H0:Heap} (T:Trace P cl nt ops F H0 F' H') (hcl:fQ P cl) (hst:aKL ops=true) (hE:a63 T n0 wi Gi μi) {a:Act} {w:World} {Q:Exit→Act→World→Prop} (hI:I n0 wi Gi μi nt F H0 a w)
  (hQ:∀ a' w',I n0 wi Gi μi nt F' H' a' w'→Q .normal a' w'):wpAny P .any ops Q ops.size (Array.replicate ops.size false) a { w with drawn:=w.drawn+1 }:=by
 refine bIG T hcl hst hE hQ ops.size _ _ _ ?_ (by simp) ?_ ?_
 ·rw[List.countP_eq_length.2]
  ·simp
  ·intro i hi
   have:i<ops.size:=List.mem_range.1 hi;simp[Array.getD,this]
 ·intro j hj
  exfalso
  revert hj
  simp only[Array.getD];split <;> simp
 ·intro F1 hF1
  have hfalse:∀ j,(Array.replicate ops.size false).getD j false=false:=fun j=>by
   simp only[Array.getD];split <;> simp
  obtain⟨G,μ,e,hW,hF⟩:=hI;have hslot:∀ t,fB F1 t=fB F t:=fun t=>by
   rw[hF1,aBJ T (k:=0) (Nat.zero_le _) fun j _ _ _=>hfalse j]; rfl
  rw[aBC T (k:=0) (Nat.zero_le _) fun j _ _ _=>hfalse j]
  exact⟨G,μ,e.trans (aZV (Nat.le_add_right _ _)),aU3 hW _,(hF.mono (aNJ _)).congr hslot⟩
theorem aLL(hcl:fQ P cl) {a:Act} {w:World} {Q:Exit→Act→World→Prop} (h:aH8 P cl nt ops F H=some (F',H')) (hI:I n0 wi Gi μi nt F H a w)
  (hQ:∀ a' w',I n0 wi Gi μi nt F' H' a' w'→Q .normal a' w'):wpAny P .any ops Q ops.size (Array.replicate ops.size false) a { w with drawn:=w.drawn+1 }:=by
 unfold aH8 at h;obtain⟨hst,h⟩:=aO h;rw[Bool.and_eq_true]at hst;split at h
 ·rename_i F2 H2 hl hs
  obtain⟨hh,h⟩:=aO h;simp only[Option.some.injEq,Prod.mk.injEq]at h;obtain⟨rfl,rfl⟩:=h;obtain⟨T,hT⟩:=bJB hcl hs hh;have hI0:=hI;obtain⟨G,μ,e,hW,hF⟩:=hI;refine bFM T hcl hst.1 ?_ ?_ hQ
  ·refine bI7 T fun b hb=>?_
   rw[hT]at hb;have h2:=hst.2;rw[hb]at h2 ⊢;simp only[a8I,Bool.and_eq_true]at h2;refine⟨h2.1,aKJ h2.2,fun r hr=>?_⟩
   unfold aGX at hb;obtain⟨_,hb⟩:=aO hb;simp only[Option.some.injEq]at hb;subst hb;refine⟨?_,?_⟩
   ·cases hx:μi.loc r with
    | none=>rfl
    | some x =>
     have:=e.map r x hx;rw[(hW.top r hr).1]at this;cases this
   ·cases hx:μi.len r with
    | none=>rfl
    | some x =>
     have:=e.len r x hx;rw[(hW.top r hr).2]at this;cases this
  ·cases aGX ops H with
   | none=>exact hI0
   | some b=>exact⟨G,μ,e,bCZ hW _,hF⟩
 ·cases h
theorem a3C(hcl:fQ P cl) (hP:P.follows .mixedOrders=true) {id:Nat} {a:Act} {w:World} {Q:Exit→Act→World→Prop} (h:aH8 P cl nt ops F H=some (F',H')) (hI:I n0 wi Gi μi nt F H a w)
  (hQ:∀ a' w',I n0 wi Gi μi nt F' H' a' w'→Q .normal a' w'):(Code.region id ops true).wp P Q a w:=wp_region_any hP (aLL hcl h hI hQ)
end
end
end Go.PM
namespace Go.PM
open Go Go.RowKit
inductive Ex where
 | normal
 | exit (id:Nat)
 | ret
def Ex.to:Ex→Exit
 | .normal=>.normal
 | .exit id=>.exit id
 | .ret=>.ret
structure Cfg where
 nt:Nat
 aZ:Nat
 slots:List Nat
 loops:List (Nat×bL6)
 floor:Nat
def aH:Code→Nat
 | .region id _ _=>id
 | .seq a _=>aH a
 | .block _ a=>aH a
 | .loop a=>aH a
 | .scope a=>aH a
 | .cond _ a _=>aH a
 | _=>0
abbrev Out:=Option (Ex×Frm×Heap)
def iter(f:Frm→Heap→Out):Nat→Frm→Heap→Out
 | 0,_,_=>none
 | n+1,F,H=>match f F H with
  | some (.normal,F',H')=>iter f n F' H'
  | r=>r
section
variable {P:Program} {cl:Callee} {cfg:Cfg} {L:Nat} {n0:Nat→Prop} {wi:World} {Gi:Gd} {μi:Mp}
theorem I.bK4 {nt:Nat} {F F':Frm} {H:Heap} {a:Act} {w:World} (h:I n0 wi Gi μi nt F H a w) (hF:∀ t,fB F' t=fB F t∨fB F' t=.junk):I n0 wi Gi μi nt F' H a w:=by
 obtain⟨G,μ,e,hW,hI⟩:=h;refine⟨G,μ,e,hW,hI.size,fun t=>?_,hI.defers⟩
 rcases hF t with h1|h1
 ·rw[h1]; exact hI.slot t
 ·rw[h1,VR]; trivial
def bN0(P:Program) (n0:Nat→Prop) (wi:World) (Gi:Gd) (μi:Mp) (nt:Nat) (c:Code) (a:Act) (w:World) (r:Ex×Frm×Heap):Prop :=
 c.wp P (fun e a' w'=>e=r.1.to∧I n0 wi Gi μi nt r.2.1 r.2.2 a' w') a w
end
def aY6(P:Program) (F:Frm) (H:Heap):ResultVar→Option PV
 | .tmp t=>some (fB F t)
 | .cell t ty=>match aIT P H ty (fB F t)with|some (v,_)=>some v|none=>none
def AZ(P:Program) (F:Frm) (H:Heap):List ResultVar→Option (List PV)
 | []=>some []
 | r::rs=>match aY6 P F H r,AZ P F H rs with
  | some v,some vs=>some (v::vs)
  | _,_=>none
def lA:List PV→PV
 | [v]=>v
 | vs=>.tuple vs
def start(m:Nat):Nat→List PV→Frm
 | _,[]=>[]
 | i,p::ps=>bif aTJ m i then (i,p)::start m (i+1) ps else start m (i+1) ps
section
variable {P:Program} {cl:Callee} {cfg:Cfg} {L:Nat} {n0:Nat→Prop} {w:World} {G:Gd} {μ:Mp} {H:Heap}
theorem a1J(m:Nat):∀ (ps:List PV) (i t:Nat),fB (start m i ps) t=if i≤t∧aTJ m t=true then (ps[t-i]?).getD .junk else .junk
 | [],i,t=>by simp[start,fB]
 | p::ps,i,t=>by
  simp only[start];have ih:=a1J m ps (i+1) t;cases hi:aTJ m i with
  | true =>
   rw[cond_true,jV,ih]
   by_cases hti:t=i
   ·subst hti; simp[hi]
   ·rw[if_neg hti]
    by_cases hle:i≤t
    ·have e:t-i=(t-(i+1))+1:=by omega
     have h1:i+1≤t:=by omega
     simp[hle,h1,e]
    ·have h1:¬ i+1≤t:=by omega
     simp[hle,h1]
  | false =>
   rw[cond_false,ih]
   by_cases hti:t=i
   ·subst hti; simp[hi]
   ·by_cases hle:i≤t
    ·have e:t-i=(t-(i+1))+1:=by omega
     have h1:i+1≤t:=by omega
     simp[hle,h1,e]
    ·have h1:¬ i+1≤t:=by omega
     simp[hle,h1]
theorem HK {args:List PV} {vs:Array Value} {n m:Nat} (h:VRs w G μ args vs.toList) (hn:args.length≤n):j4 w G μ n (start m 0 args) ⟨vs++Array.replicate (n-vs.size) undef,[]⟩ where
 size:=by
  have:args.length=vs.size:=by simpa using h.length
  simp; omega
 slot t:=by
  rw[a1J]
  by_cases hb:aTJ m t=true
  case neg=>rw[if_neg (fun h=>hb h.2),VR]; trivial
  rw[if_pos ⟨Nat.zero_le _,hb⟩,Nat.sub_zero];cases ht:args[t]? with
  | none=>simp only[Option.getD_none]; rw[VR]; trivial
  | some p =>
   obtain⟨v,h1,h2⟩:=h.get ht;have hv:vs[t]?=some v:=by simpa using h1
   have hlt:t<vs.size:=(Array.getElem?_eq_some_iff.1 hv).1;have:(vs++Array.replicate (n-vs.size) undef).getD t undef=v:=by
    rw[Array.getD_eq_getD_getElem?,Array.getElem?_append_left hlt,hv]; rfl
   rw[this]; exact h2
 defers:=rfl
def a8U(tmps:Array Value):ResultVar→Sem Value
 | .tmp t=>pure (tmps.getD t undef)
 | .cell b t=>do loadVar t (← asAddr (tmps.getD b undef))
theorem L9(fn:Func) (tmps:Array Value):results fn tmps=(do let vs ← fn.results.mapM (a8U tmps); pure (if h:vs.size=1 then vs[0] else .tuple vs)):=by
 unfold results;refine congrArg (fun f:ResultVar→Sem Value=>(do let vs ← fn.results.mapM f; pure (if h:vs.size=1 then vs[0] else .tuple vs):Sem Value)) (funext fun r=>?_)
 cases r <;> rfl
theorem xW {nt:Nat} {F:Frm} {a:Act} (hW:bC n0 G μ H w) (hF:j4 w G μ nt F a):∀ {rs:List ResultVar} {vs:List PV},AZ P F H rs=some vs→∃ us:List Value,(rs.mapM (a8U a.tmps)).run P w=.ok us w∧VRs w G μ vs us
 | [],vs,h=>by
  simp only[AZ,Option.some.injEq]at h;subst h;exact⟨[],rfl,by rw[VRs]⟩
 | r::rs,vs,h=>by
  simp only[AZ]at h;split at h
  ·rename_i v vs' hv hvs
   simp only[Option.some.injEq]at h;subst h;obtain⟨us,h1,h2⟩:=xW hW hF hvs;cases r with
   | tmp t =>
    simp only[aY6,Option.some.injEq]at hv;subst hv;refine⟨a.tmps.getD t undef::us,?_,by rw[VRs]; exact⟨_,_,rfl,hF.slot t,h2⟩⟩
    rw[List.mapM_cons];simp only[a8U,Sem.run_bind,Sem.run_pure,Result.andThen_ok,h1]
   | cell b t =>
    simp only[aY6]at hv;split at hv
    ·rename_i u c hu
     simp only[Option.some.injEq]at hv;subst hv;obtain⟨v',h3,h4⟩:=aXJ (P:=P) hW (hF.slot b) hu;refine⟨v'::us,?_,by rw[VRs]; exact⟨_,_,rfl,h4,h2⟩⟩
     have h5:(do loadVar t (← asAddr (a.tmps.getD b undef)):Sem Value).run P w=.ok v' w:=by
      have hs:=hF.slot b;simp only[Instr.loadAt]at h3;cases hp:a.tmps.getD b undef <;> rw[hp]at h3 <;> simp[Instr.sureAddr]at h3
      rename_i ad;cases ad with
      | none=>simp[Instr.sureAddr]at h3
      | some ad=>simpa[asAddr,Instr.sureAddr]using h3
     rw[List.mapM_cons];simp only[a8U,Sem.run_bind]at h5 ⊢;simp only[h5,Sem.run_pure,Result.andThen_ok,h1]
    ·cases hv
  ·cases h
theorem BL {vs:List PV} {us:List Value} (h:VRs w G μ vs us):VR w G μ (lA vs) (if hh:us.toArray.size=1 then us.toArray[0] else .tuple us.toArray):=by
 match vs,us,h with
 | [v],us,h =>
  rw[VRs]at h;obtain⟨x,xs,rfl,h1,h2⟩:=h;rw[VRs]at h2;subst h2;simpa[lA]using h1
 | [],us,h =>
  rw[VRs]at h;subst h;simp only[lA];rw[VR];exact⟨_,by simp; rfl,by simp[VRs]⟩
 | v::v2::vs,us,h =>
  have hl:=h.length;simp only[List.length_cons]at hl;have:¬ us.toArray.size=1:=by simp; omega
  rw[dif_neg this];simp only[lA];rw[VR];exact⟨_,rfl,by simpa using h⟩
end
end Go.PM
namespace Go.PM
open Go Go.RowKit
def aG8(f:PV→Option PV):List PV→Option (List PV)
 | []=>some []
 | p::ps=>match f p with
  | some q=>match aG8 f ps with
   | some qs=>some (q::qs)
   | none=>none
  | none=>none
def inl(fz:Bool) (H:Heap):Nat→PV→Option PV
 | _,.lit v=>some (.lit v)
 | _,.vals cs n cap=>some (.vals cs n cap)
 | _,.iptr cs=>some (.iptr cs)
 | _,.tl t l cap e=>some (.tl t l cap e)
 | _,.tp t l i off e=>some (.tp t l i off e)
 | _,.row j lo n sz=>some (.row j lo n sz)
 | _,.own r _=>match l7 H r with
  | some k=>match k.tag with
   | some g=>bif k.frozen||!fz then some (W8 g.t g.l none) else none
   | none=>none
  | none=>none
 | _,.win r lo n sz=>match l7 H r with
  | some k=>match k.tag with
   | some g=>bif (k.frozen||!fz)&&Nat.beq sz g.t.size then some (W8 g.t ((g.l.drop lo).take n) none) else none
   | none=>none
  | none=>none
 | n+1,.hs r off len _ sz=>match l7 H r with
  | some k=>bif (k.frozen||!fz)&&Nat.ble (off+len*sz) k.cells.length then match aG8 (fun p=>inl fz H n p) ((k.cells.drop off).take (len*sz))with
    | some cs=>some (.vals cs len none)
    | none=>none
   else none
  | none=>none
 | n+1,.hptr r off=>match l7 H r with
  | some k=>bif k.frozen||!fz then match aG8 (fun p=>inl fz H n p) (k.cells.drop off)with
    | some cs=>some (.iptr cs)
    | none=>none
   else none
  | none=>none
 | n+1,.agg cs=>match aG8 (fun p=>inl fz H n p) cs with|some qs=>some (.agg qs)|none=>none
 | n+1,.tuple cs=>match aG8 (fun p=>inl fz H n p) cs with|some qs=>some (.tuple qs)|none=>none
 | n+1,.clo fn f c=>match aG8 (fun p=>inl fz H n p) f,aG8 (fun p=>inl fz H n p) c with
  | some f',some c'=>some (.clo fn f' c')
  | _,_=>none
 | _,_=>none
section
variable {P:Program} {n0:Nat→Prop} {w:World} {G G':Gd} {μ:Mp} {H:Heap}
theorem YA {f:PV→Option PV} (hf:∀ p q v,f p=some q→VR w G μ p v→VR w G' aN q v):∀ {ps qs:List PV} {vs:List Value},aG8 f ps=some qs→VRs w G μ ps vs→VRs w G' aN qs vs
 | [],qs,vs,h,hv=>by
  simp only[aG8,Option.some.injEq]at h;subst h;rw[VRs]at hv ⊢; exact hv
 | p::ps,qs,vs,h,hv=>by
  simp only[aG8]at h;split at h
  ·rename_i q hq
   split at h
   ·rename_i qs' hqs
    simp only[Option.some.injEq]at h;subst h;rw[VRs]at hv ⊢;obtain⟨x,xs,h1,h2,h3⟩:=hv;exact⟨x,xs,h1,hf p q x hq h2,YA hf hqs h3⟩
   ·cases h
  ·cases h
theorem aRS {f:PV→Option PV} (hf:∀ p q v,f p=some q→VR w G μ p v→VR w G' aN q v) {b:Nat}:∀ {ps qs:List PV} {off:Nat},aG8 f ps=some qs→aQ w G μ b off ps→aQ w G' aN b off qs
 | [],qs,off,h,hv=>by
  simp only[aG8,Option.some.injEq]at h;subst h;rw[aQ]; trivial
 | p::ps,qs,off,h,hv=>by
  simp only[aG8]at h;split at h
  ·rename_i q hq
   split at h
   ·rename_i qs' hqs
    simp only[Option.some.injEq]at h;subst h;rw[aQ]at hv ⊢;obtain⟨⟨v,h1,h2⟩,h3⟩:=hv;exact⟨⟨v,h1,hf p q v hq h2⟩,aRS hf hqs h3⟩
   ·cases h
  ·cases h
theorem QA(hW:bC n0 G μ H w) {fz:Bool} (hR:∀ j b,G.row j=some b→G'.row j=some b) (hG:∀ b,G b→G' b) (hB:∀ r k b,H[r]?=some (some k)→(k.frozen=true∨fz=false)→μ.loc r=some b→G' b):∀ (n:Nat) (p q:PV) (v:Value),inl fz H n p=some q→VR w G μ p v→VR w G' aN q v:=by
 have hm:Mono w G aN w G' aN:=⟨fun b hb=>⟨hG b hb,rfl⟩,fun _ _ h=>h,fun _ _ h=>h,fun _ _ h=>h,hR⟩
 have base:∀ (p q:PV) (v:Value),some p=some q→fP p=true→VR w G μ p v→VR w G' aN q v:=fun p q v h hn hv=>by
  cases h;exact VR.mono hm _ _ (FG p v hn hv)
 have owned:∀ (r sz:Nat) (q:PV) (v:Value),(match l7 H r with
  | some k=>match k.tag with
   | some g=>bif k.frozen||!fz then some (W8 g.t g.l none) else none
   | none=>none
  | none=>none)=some q→VR w G μ (.own r sz) v→VR w G' aN q v:=fun r sz q v h hv=>by
  split at h
  ·rename_i k hk
   split at h
   ·rename_i g hg
    obtain⟨hb,h⟩:=aO h;simp only[Bool.or_eq_true,Bool.not_eq_true']at hb;simp only[Option.some.injEq]at h;subst h;exact LP hW hv hk hg hG (fun b h1=>hB r k b (aP hk) hb h1) hR
   ·cases h
  ·cases h
 have wind:∀ (r lo n sz:Nat) (q:PV) (v:Value),(match l7 H r with
  | some k=>match k.tag with
   | some g=>bif (k.frozen||!fz)&&Nat.beq sz g.t.size then some (W8 g.t ((g.l.drop lo).take n) none) else none
   | none=>none
  | none=>none)=some q→VR w G μ (.win r lo n sz) v→VR w G' aN q v:=fun r lo n sz q v h hv=>by
  split at h
  ·rename_i k hk
   split at h
   ·rename_i g hg
    obtain⟨hb,h⟩:=aO h;simp only[Bool.and_eq_true,Bool.or_eq_true,Bool.not_eq_true']at hb;simp only[Option.some.injEq]at h;subst h;exact bDN hW hv hk hg (Nat.eq_of_beq_eq_true hb.2) hG (fun b h1=>hB r k b (aP hk) hb.1 h1) hR
   ·cases h
  ·cases h
 intro n
 induction n with
 | zero =>
  intro p q v h hv;cases p <;> simp only[inl]at h <;> first|(cases h; done)|exact base _ q v h rfl hv|exact owned _ _ q v h hv|exact wind _ _ _ _ q v h hv
 | succ n ih =>
  intro p q v h hv;cases p with
  | lit u=>simp only[inl]at h; exact base _ q v h rfl hv
  | vals cs k cap=>simp only[inl]at h; exact base _ q v h rfl hv
  | iptr cs=>simp only[inl]at h; exact base _ q v h rfl hv
  | junk=>simp only[inl]at h; cases h
  | tl t l cap e=>simp only[inl]at h; exact base _ q v h rfl hv
  | tp t l i off e=>simp only[inl]at h; exact base _ q v h rfl hv
  | own r sz=>simp only[inl]at h; exact owned r sz q v h hv
  | op r i off sz=>simp only[inl]at h; cases h
  | row j lo n sz=>simp only[inl]at h; exact base _ q v h rfl hv
  | rp j off=>simp only[inl]at h; cases h
  | mp j=>simp only[inl]at h; cases h
  | win r lo n sz=>simp only[inl]at h; exact wind r lo n sz q v h hv
  | hs r off len cap sz =>
   simp only[inl]at h;split at h
   ·rename_i k hk
    cases hb:((k.frozen||!fz)&&Nat.ble (off+len*sz) k.cells.length)with
    | false=>rw[hb]at h; cases h
    | true =>
     rw[hb]at h;simp only[cond_true]at h;simp only[Bool.and_eq_true,Bool.or_eq_true,Bool.not_eq_true']at hb;split at h
     ·rename_i cs hcs
      simp only[Option.some.injEq]at h;subst h;rw[VR]at hv; rw[VR];obtain⟨b,c,h1,rfl,h3,_,_⟩:=hv;obtain⟨c',g2,g3,_⟩:=hW.blk r k b (aP hk) h1;refine⟨_,c,rfl,h3,fun k hk=>(by cases hk),.inr ⟨b,off,rfl,hB r k b (aP hk) hb.1 h1,?_⟩⟩
      have:=g3.sub off (len*sz);rw[Nat.zero_add]at this;exact aRS (fun p q v h hv=>ih p q v h hv) hcs this
     ·cases h
   ·cases h
  | hptr r off =>
   simp only[inl]at h;split at h
   ·rename_i k hk
    cases hb:(k.frozen||!fz)with
    | false=>rw[hb]at h; cases h
    | true =>
     rw[hb]at h;simp only[cond_true]at h;simp only[Bool.or_eq_true,Bool.not_eq_true']at hb;split at h
     ·rename_i cs hcs
      simp only[Option.some.injEq]at h;subst h;rw[VR]at hv; rw[VR];obtain⟨b,h1,rfl⟩:=hv;obtain⟨c',g2,g3,_⟩:=hW.blk r k b (aP hk) h1;refine⟨b,off,rfl,hB r k b (aP hk) hb h1,?_⟩;have:=g3.drop off;rw[Nat.zero_add]at this;exact aRS (fun p q v h hv=>ih p q v h hv) hcs this
     ·cases h
   ·cases h
  | agg cs =>
   simp only[inl]at h;split at h
   ·rename_i qs hqs
    simp only[Option.some.injEq]at h;subst h;rw[VR]at hv ⊢;obtain⟨vs,h1,h2⟩:=hv;exact⟨vs,h1,YA (fun p q v h hv=>ih p q v h hv) hqs h2⟩
   ·cases h
  | tuple cs =>
   simp only[inl]at h;split at h
   ·rename_i qs hqs
    simp only[Option.some.injEq]at h;subst h;rw[VR]at hv ⊢;obtain⟨vs,h1,h2⟩:=hv;exact⟨vs,h1,YA (fun p q v h hv=>ih p q v h hv) hqs h2⟩
   ·cases h
  | clo fn f c =>
   simp only[inl]at h;split at h
   ·rename_i f' c' hf hc
    simp only[Option.some.injEq]at h;subst h;rw[VR]at hv ⊢;obtain⟨fs,cs,h1,h2,h3⟩:=hv;exact⟨fs,cs,h1,YA (fun p q v h hv=>ih p q v h hv) hf h2,YA (fun p q v h hv=>ih p q v h hv) hc h3⟩
   ·cases h
def RZ(P:Program) (g:FuncId) (args:List PV) (r:PV):Prop :=
 ∀ (w:World) (G:Nat→Prop) (vs:Array Value),Lt w G→VRs w (Gd.of G) aN args vs.toList →
  (callFunc g vs).run P w=.ok (.enter g vs) w∧Calls P g vs w fun e w'=>∃ v' G',e=.returned v'∧Ext (D2 w) w (Gd.of G) aN w' (Gd.of G') aN∧(∀ b,G' b→b<w'.heap.size)∧VR w' (Gd.of G') aN r v'
def aY4:PV→Bool
 | .lit _=>true
 | _=>false
def a7F:PV→Bool
 | .lit _=>true
 | .agg cs=>cs.all aY4
 | _=>false
def flat:PV→Bool
 | .lit _=>true
 | .agg cs=>cs.all aY4
 | .tuple cs=>cs.all a7F
 | _=>false
theorem aVU {w':World} {G':Gd}:∀ {ps:List PV} {vs:List Value},ps.all aY4=true→VRs w G aN ps vs→VRs w' G' μ ps vs
 | [],vs,_,h=>by rw[VRs]at h ⊢; exact h
 | p::ps,vs,hf,h=>by
  simp only[List.all_cons,Bool.and_eq_true]at hf;rw[VRs]at h ⊢;obtain⟨x,xs,h1,h2,h3⟩:=h;refine⟨x,xs,h1,?_,aVU hf.2 h3⟩;cases p <;> simp only[aY4]at hf <;> try (exact absurd hf.1 (by decide))
  rw[VR]at h2 ⊢;exact h2
theorem a5J {w':World} {G':Gd}:∀ {ps:List PV} {vs:List Value},ps.all a7F=true→VRs w G aN ps vs→VRs w' G' μ ps vs
 | [],vs,_,h=>by rw[VRs]at h ⊢; exact h
 | p::ps,vs,hf,h=>by
  simp only[List.all_cons,Bool.and_eq_true]at hf;rw[VRs]at h ⊢;obtain⟨x,xs,h1,h2,h3⟩:=h;refine⟨x,xs,h1,?_,a5J hf.2 h3⟩;cases p <;> simp only[a7F]at hf <;> try (exact absurd hf.1 (by decide))
  ·rw[VR]at h2 ⊢
   exact h2
  ·rw[VR]at h2 ⊢
   obtain⟨us,q1,q2⟩:=h2;exact⟨us,q1,aVU hf.1 q2⟩
theorem bLO {w':World} {G':Gd} {p:PV} {v:Value} (hf:flat p=true) (h:VR w G aN p v):VR w' G' μ p v:=by
 cases p <;> simp only[flat]at hf <;> try (cases hf; done)
 ·rw[VR]at h ⊢; exact h
 ·rw[VR]at h ⊢
  obtain⟨vs,h1,h2⟩:=h;exact⟨vs,h1,aVU hf h2⟩
 ·rw[VR]at h ⊢
  obtain⟨vs,h1,h2⟩:=h;exact⟨vs,h1,a5J hf h2⟩
theorem a6J(hW:bC n0 G μ H w) {w':World} {G0 G1:Gd} (hG:∀ b,G b→G0 b) (hG0:∀ b,G0 b→G b∨∃ r,μ.loc r=some b) (e:Ext (D2 w) w G0 aN w' G1 aN) (hlt:∀ b,G1 b→b<w'.heap.size) {G':Gd}
  (hG':∀ b,G' b→G b∨w.heap.size≤b∧b<w'.heap.size) (hGG':∀ b,G b→G' b) (hrow:∀ j,G'.row j=G.row j):Ext n0 w G μ w' G' μ∧bC n0 G' μ H w':=by
 have e':Ext n0 w G μ w' G' μ:={
  good:=fun b hb=>⟨hGG' b hb,e.old b (hW.lt b hb) (Nat.not_le.2 (hW.lt b hb))⟩
  map:=fun _ _ h=>h
  len:=fun _ _ h=>h
  room:=e.room
  row:=fun j b h=>by rw[hrow]; exact h
  os:=e.os
  tape:=e.tape
  output:=e.output
  size:=e.size
  old:=fun b hb _=>e.old b hb (Nat.not_le.2 hb)
  new:=fun b hb=>by
   rcases hG' b hb with h|h
   ·exact .inl h
   ·exact .inr (hW.base b h.1) }
 refine⟨e',hW.aZ e' ⟨hrow,fun j b hj=>?_⟩ ?_ ?_⟩
 ·have hlt:=(hW.rows.sep j b hj).1
  refine⟨e.old b hlt (Nat.not_le.2 hlt),fun hb'=>?_⟩
  rcases hG' b hb' with h|h
  ·exact h
  ·omega
 ·intro r k b hr hb
  have hlt:b<w.heap.size:=hW.rO hr hb;refine⟨e.old b hlt (Nat.not_le.2 hlt),fun hb'=>?_⟩
  rcases hG' b hb' with h|h
  ·exact h
  ·omega
 ·intro b hb
  rcases hG' b hb with h|h
  ·exact Nat.lt_of_lt_of_le (hW.lt b h) e.size
  ·exact h.2
theorem bG8(hW:bC n0 G μ H w) {g:FuncId} {args qs:List PV} {r:PV} {n:Nat} {vs:List Value} (hp:RZ P g qs r) (hq:aG8 (inl false H n) args=some qs) (hn:gF.noRows qs=true) (hf:flat r=true) (hv:VRs w G μ args vs):CC P n0 w G μ g vs.toArray r H:=by
 have hlive:∀ r k b,H[r]?=some (some k)→μ.loc r=some b→b<w.heap.size:=fun r k b hr hb=>by
  exact hW.rO hr hb
 have hvs:VRs w (⟨fun b=>b<w.heap.size,G.row⟩:Gd) aN qs vs:=YA (fun p q v h hv=>QA (G':=⟨fun b=>b<w.heap.size,G.row⟩) hW (fun _ _ h=>h) (fun b hb=>hW.lt b hb) (fun r k b hr _ hb=>hlive r k b hr hb) n p q v h hv) hq hv
 have hvs:VRs w (Gd.of fun b=>b<w.heap.size) aN qs vs:=zX (G:=⟨fun b=>b<w.heap.size,G.row⟩) (G':=Gd.of fun b=>b<w.heap.size) (fun b h=>h) _ _ _ hn hvs
 obtain⟨h1,h2⟩:=hp w (fun b=>b<w.heap.size) vs.toArray hW.lt.all (by simpa using hvs)
 refine⟨h1,h2.mono ?_⟩;rintro e w' ⟨v',G',rfl,e1,e2,e3⟩;have e4:Ext n0 w G μ w' G μ:={
  good:=fun b hb=>⟨hb,e1.old b (hW.lt b hb) (Nat.not_le.2 (hW.lt b hb))⟩
  map:=fun _ _ h=>h
  len:=fun _ _ h=>h
  room:=e1.room
  row:=fun _ _ h=>h
  os:=e1.os
  tape:=e1.tape
  output:=e1.output
  size:=e1.size
  old:=fun b hb _=>e1.old b hb (Nat.not_le.2 hb)
  new:=fun b hb=>.inl hb }
 refine⟨v',G,μ,rfl,e4,hW.aZ e4 ⟨fun _=>rfl,fun j b hj=>⟨e1.old b (hW.rows.sep j b hj).1 (Nat.not_le.2 (hW.rows.sep j b hj).1),id⟩⟩ ?_ ?_,bLO hf e3⟩
 ·intro r k b hr hb
  exact⟨e1.old b (hlive r k b hr hb) (Nat.not_le.2 (hlive r k b hr hb)),id⟩
 ·intro b hb
  exact Nat.lt_of_lt_of_le (hW.lt b hb) e1.size
theorem bFW(hW:bC n0 G μ H w) {g:FuncId} {args qs:List PV} {r:PV} {n:Nat} {vs:List Value} (hp:RZ P g qs r) (hq:aG8 (inl true H n) args=some qs) (hn:gF.noRows qs=true) (hv:VRs w G μ args vs):CC P n0 w G μ g vs.toArray r H:=by
 have hvs:VRs w G aN qs vs:=YA (fun p q v h hv=>QA hW (fun _ _ h=>h) (fun b hb=>hb) (fun r k b hr hf hb=>by
  obtain⟨c,h2,_,_,h5,_⟩:=hW.blk r k b hr hb;rcases hf with hf|hf
  ·exact h5 hf
  ·cases hf) n p q v h hv) hq hv
 have hvs:VRs w (Gd.of G.ok) aN qs vs:=zX (G:=G) (G':=Gd.of G.ok) (fun b h=>h) _ _ _ hn hvs
 obtain⟨h1,h2⟩:=hp w G.ok vs.toArray hW.lt (by simpa using hvs)
 refine⟨h1,h2.mono ?_⟩;rintro e w' ⟨v',G',rfl,e1,e2,e3⟩;obtain⟨e4,e5⟩:=a6J (G':=⟨G',G.row⟩) hW (G0:=Gd.of G.ok) (fun b h=>h) (fun b h=>.inl h) e1 e2 (fun b hb=>by
  rcases e1.new b hb with h|h
  ·exact .inl h
  ·exact .inr ⟨h,e2 b hb⟩) (fun b hb=>(e1.good b hb).1) (fun _=>rfl)
 exact⟨v',⟨G',G.row⟩,μ,rfl,e4,e5,(VR.mono (bEU (fun b h=>h)) _ _ e3).bN⟩
end
end Go.PM
namespace Go.PM
open Go Go.RowKit
def reach(H:Heap):Nat→PV→List Nat
 | n+1,.hs r _ _ _ _=>r::(match l7 H r with|some k=>k.cells.flatMap (fun p=>reach H n p)|none=>[])
 | n+1,.hptr r _=>r::(match l7 H r with|some k=>k.cells.flatMap (fun p=>reach H n p)|none=>[])
 | _,.own r _=>[r]
 | _,.op r _ _ _=>[r]
 | _,.win r _ _ _=>[r]
 | n+1,.agg cs=>cs.flatMap (fun p=>reach H n p)
 | n+1,.tuple cs=>cs.flatMap (fun p=>reach H n p)
 | n+1,.clo _ f c=>f.flatMap (fun p=>reach H n p)++c.flatMap (fun p=>reach H n p)
 | _,_=>[]
def depth:Nat:=16
def bNS(P:Program) (t:TypeId):Bool:=match P.info? t with
 | some i=>!i.hasPointers||(match P.underlying t with|some .string=>true|_=>false)
 | none=>false
def aV2(P:Program) (g:FuncId):Bool:=match P.funcs[g]? with
 | some fn=>fn.resultTypes.toList.all (bNS P)
 | none=>false
def callee(P:Program) (sh:FuncId→Bool) (pure:FuncId→List PV→Option PV) (shared:FuncId→List PV→Heap→Option (PV×Heap)):Callee:=fun g args H =>
 bif sh g then match shared g args H with
  | some (r,H')=>some (r,H',2)
  | none=>none
 else bif fP.noRefs args then bif gF.noRows args then match pure g args with
  | some r=>some (r,H,0)
  | none=>none
  else none
 else bif aV2 P g then match aG8 (fun p=>inl false H depth p) args with
  | some qs=>bif gF.noRows qs then match pure g qs with
   | some r=>bif flat r then some (r,H,1) else none
   | none=>none
   else none
  | none=>none
 else match ZI H (args.flatMap (fun p=>reach H depth p))with
  | H1=>match aG8 (fun p=>inl true H1 depth p) args with
   | some qs=>bif gF.noRows qs then match pure g qs with
    | some r=>some (r,H1,2)
    | none=>none
    else none
   | none=>none
section
variable {P:Program} {n0:Nat→Prop} {w:World} {G:Gd} {μ:Mp} {H:Heap}
theorem CC.trans {g:FuncId} {vs:Array Value} {r:PV} {H':Heap} {G1:Gd} (e:Ext n0 w G μ w G1 μ) (h:CC P n0 w G1 μ g vs r H'):CC P n0 w G μ g vs r H':=by
 refine⟨h.1,h.2.mono ?_⟩;rintro x w' ⟨v',G',μ',rfl,e1,e2,e3⟩;exact⟨v',G',μ',rfl,e.trans e1,e2,e3⟩
theorem bF9 {sh:FuncId→Bool} {pure:FuncId→List PV→Option PV} {shared:FuncId→List PV→Heap→Option (PV×Heap)} (hp:∀ g args r,pure g args=some r→RZ P g args r)
  (hs:∀ g args H r H',shared g args H=some (r,H')→∀ {n0 G μ w vs},bC n0 G μ H w→VRs w G μ args vs→CC P n0 w G μ g vs.toArray r H'):fQ P (callee P sh pure shared) where
 call:=by
  intro g args H r H' c h n0 G μ w vs hW hv;unfold callee at h;cases hsh:sh g with
  | true =>
   rw[hsh]at h;simp only[cond_true]at h;split at h
   ·rename_i r1 H1 hr
    simp only[Option.some.injEq,Prod.mk.injEq]at h;obtain⟨rfl,rfl,rfl⟩:=h;exact hs g args H r1 H1 hr hW hv
   ·cases h
  | false =>
   rw[hsh]at h;simp only[cond_false]at h;cases hn:fP.noRefs args with
   | true =>
    rw[hn]at h;simp only[cond_true]at h;obtain⟨hnr,h⟩:=aO h;split at h
    ·rename_i r1 hr
     simp only[Option.some.injEq,Prod.mk.injEq]at h;obtain⟨rfl,rfl,rfl⟩:=h;obtain⟨h1,h2⟩:=hp g args r1 hr w G.ok vs.toArray hW.lt (by simpa using zX (G:=G) (G':=Gd.of G.ok) (fun b h=>h) _ _ _ hnr (dX _ _ hn hv))
     refine⟨h1,h2.mono ?_⟩;rintro e w' ⟨v',G',rfl,e1,e2,e3⟩;obtain⟨e4,e5⟩:=a6J (G':=⟨G',G.row⟩) hW (G0:=Gd.of G.ok) (fun b h=>h) (fun b h=>.inl h) e1 e2 (fun b hb=>by
      rcases e1.new b hb with h|h
      ·exact .inl h
      ·exact .inr ⟨h,e2 b hb⟩) (fun b hb=>(e1.good b hb).1) (fun _=>rfl)
     exact⟨v',⟨G',G.row⟩,μ,rfl,e4,e5,(VR.mono (bEU (fun b h=>h)) _ _ e3).bN⟩
    ·cases h
   | false =>
    rw[hn]at h;simp only[cond_false]at h;cases hf:aV2 P g with
    | true =>
     rw[hf]at h;simp only[cond_true]at h;split at h
     ·rename_i qs hq
      obtain⟨hnr,h⟩:=aO h;split at h
      ·rename_i r1 hr
       cases hfl:flat r1 with
       | true =>
        rw[hfl]at h;simp only[cond_true,Option.some.injEq,Prod.mk.injEq]at h;obtain⟨rfl,rfl,rfl⟩:=h;exact bG8 hW (hp g qs r1 hr) hq hnr hfl hv
       | false=>rw[hfl]at h; cases h
      ·cases h
     ·cases h
    | false =>
     rw[hf]at h;simp only[cond_false]at h;split at h
     ·rename_i qs hq
      obtain⟨hnr,h⟩:=aO h;split at h
      ·rename_i r1 hr
       simp only[Option.some.injEq,Prod.mk.injEq]at h;obtain⟨rfl,rfl,rfl⟩:=h;obtain⟨G1,e1,hW1⟩:=TK (args.flatMap (fun p=>reach H depth p)) H G hW
       exact(bFW hW1 (hp g qs r1 hr) hq hnr (VRs.mono e1.toMono _ _ hv)).trans e1
      ·cases h
     ·cases h
 free:=by
  intro g args H r H' h;unfold callee at h ⊢;cases hsh:sh g with
  | true =>
   rw[hsh]at h;simp only[cond_true]at h;split at h
   ·simp only[Option.some.injEq,Prod.mk.injEq]at h
    exact absurd h.2.2 (by decide)
   ·cases h
  | false =>
   rw[hsh]at h;simp only[cond_false]at h ⊢;cases hn:fP.noRefs args with
   | true =>
    rw[hn]at h;simp only[cond_true]at h ⊢;obtain⟨hnr,h⟩:=aO h;rw[hnr];split at h
    ·rename_i r1 hr
     simp only[Option.some.injEq,Prod.mk.injEq]at h;obtain⟨rfl,rfl,_⟩:=h;exact⟨rfl,fun H2=>rfl⟩
    ·cases h
   | false =>
    rw[hn]at h;simp only[cond_false]at h;cases hf:aV2 P g with
    | true =>
     rw[hf]at h;simp only[cond_true]at h;split at h
     ·obtain⟨_,h⟩:=aO h
      split at h
      ·rename_i r1 hr
       cases hfl:flat r1 with
       | true =>
        rw[hfl]at h;simp only[cond_true,Option.some.injEq,Prod.mk.injEq]at h;exact absurd h.2.2 (by decide)
       | false=>rw[hfl]at h; cases h
      ·cases h
     ·cases h
    | false =>
     rw[hf]at h;simp only[cond_false]at h;split at h
     ·obtain⟨_,h⟩:=aO h
      split at h
      ·simp only[Option.some.injEq,Prod.mk.injEq]at h
       exact absurd h.2.2 (by decide)
      ·cases h
     ·cases h
 reads:=by
  intro g args H r H' h;unfold callee at h;cases hsh:sh g with
  | true =>
   rw[hsh]at h;simp only[cond_true]at h;split at h
   ·simp only[Option.some.injEq,Prod.mk.injEq]at h
    exact absurd h.2.2 (by decide)
   ·cases h
  | false =>
   rw[hsh]at h;simp only[cond_false]at h;cases hn:fP.noRefs args with
   | true =>
    rw[hn]at h;simp only[cond_true]at h;obtain⟨_,h⟩:=aO h;split at h
    ·simp only[Option.some.injEq,Prod.mk.injEq]at h
     exact absurd h.2.2 (by decide)
    ·cases h
   | false =>
    rw[hn]at h;simp only[cond_false]at h;cases hf:aV2 P g with
    | true =>
     rw[hf]at h;simp only[cond_true]at h;split at h
     ·obtain⟨_,h⟩:=aO h
      split at h
      ·rename_i r1 hr
       cases hfl:flat r1 with
       | true =>
        rw[hfl]at h;simp only[cond_true,Option.some.injEq,Prod.mk.injEq]at h;exact h.2.1.symm
       | false=>rw[hfl]at h; cases h
      ·cases h
     ·cases h
    | false =>
     rw[hf]at h;simp only[cond_false]at h;split at h
     ·obtain⟨_,h⟩:=aO h
      split at h
      ·simp only[Option.some.injEq,Prod.mk.injEq]at h
       exact absurd h.2.2 (by decide)
      ·cases h
     ·cases h
theorem aK0 {g:FuncId} {args:List PV} {v q:PV} {H':Heap} {n:Nat} (hs:∀ {n0 G μ w vs},bC n0 G μ [] w→VRs w G μ args vs→CC P n0 w G μ g vs.toArray v H') (hq:inl false H' n v=some q) (hn:gF q=true):RZ P g args q:=by
 intro w G vs hlt hv;have hW:bC (D2 w) (Gd.of G) aN [] w:=⟨fun r k b h=>by simp at h,fun r k g h=>by simp at h,fun r s k l b h=>by simp at h,hlt,fun _ _=>⟨rfl,rfl⟩,fun _ h=>h,xI.none _ _ (fun _=>rfl) _ _ (fun r k h=>by simp at h)⟩
 obtain⟨h1,h2⟩:=hs hW hv;have hvs:vs.toList.toArray=vs:=by simp
 rw[hvs]at h1 h2;refine⟨h1,h2.mono ?_⟩;rintro e w' ⟨v',G1,μ1,rfl,e1,e2,e3⟩;refine⟨v',fun b=>G1 b∨∃ r k,H'[r]?=some (some k)∧μ1.loc r=some b,rfl,?_,?_,?_⟩
 ·exact {
   good:=fun b hb=>⟨.inl (e1.good b hb).1,(e1.good b hb).2⟩
   map:=fun _ _ h=>h
   len:=fun _ _ h=>h
   room:=e1.room
   row:=fun _ _ h=>h
   os:=e1.os
   tape:=e1.tape
   output:=e1.output
   size:=e1.size
   old:=e1.old
   new:=fun b hb=>by
    rcases hb with hb|⟨r,k,hr,hb⟩
    ·exact e1.new b hb
    ·obtain⟨c,_,_,_,g5,g6⟩:=e2.blk r k b hr hb
     cases hf:k.frozen with
     | true=>exact e1.new b (g5 hf)
     | false=>exact .inr (g6 hf).1 }
 ·rintro b (hb|⟨r,k,hr,hb⟩)
  ·exact e2.lt b hb
  ·exact e2.rO hr hb
 ·exact W6 (G:=⟨fun b=>G1 b∨∃ r k,H'[r]?=some (some k)∧μ1.loc r=some b,G1.row⟩) (G':=Gd.of _) (fun b h=>h) _ _ _ hn
   (QA (G':=⟨fun b=>G1 b∨∃ r k,H'[r]?=some (some k)∧μ1.loc r=some b,G1.row⟩) e2 (fun _ _ h=>h) (fun b hb=>.inl hb) (fun r k b hr _ hb=>.inr ⟨r,k,hr,hb⟩) n v q v' hq e3)
theorem enters {g:Nat} {fn:Func} (h:P.funcs[g]?=some fn) (hn:(fn.name== "runtime.NumGoroutine")=false) (hb:fn.body.isNone=false) (xs:Array Value) (w:World):(callFunc g xs).run P w=.ok (.enter g xs) w:=by
 unfold callFunc;simp only[Sem.run_bind,program,Sem.run,Result.andThen_ok,h,hn,hb,Bool.false_eq_true,if_false];rfl
end
def bDT(H:Heap) (v:PV):Option PV:=match inl false H depth v with
 | some q=>bif gF q then some q else none
 | none=>none
theorem W0 {H:Heap} {v q:PV} (h:bDT H v=some q):inl false H depth v=some q∧gF q=true:=by
 unfold bDT at h;split at h
 ·rename_i q' hq
  obtain⟨hb,h⟩:=aO h;simp only[Option.some.injEq]at h;subst h;exact⟨hq,hb⟩
 ·cases h
structure XL (P:Program):Prop where
 mixed:P.follows .mixedOrders=true
 names:∀ (g:Nat) (fn:Func),P.funcs[g]?=some fn→(fn.name== "runtime.NumGoroutine")=false
section
variable {P:Program} {cfgs:FuncId→Cfg} {sh:FuncId→Bool} {prim:FuncId→List PV→Option PV} {L:Nat}
end
end Go.PM
namespace Go.PM
open Go Go.RowKit
def bJ8:Operand→Nat
 | .tmp t=>2^t
 | _=>0
def bitsOf(m:Nat):List Operand→Nat
 | []=>m
 | .tmp t::r=>bitsOf (m ||| 2^t) r
 | _::r=>bitsOf m r
def Q3(m d:Nat):Nat:=(m ||| d) ^^^ d
def bHN(l:List Oper) (o:Oper):Nat:=match o.guard with
 | some (j,_)=>match l[j]? with
  | some p=>match p.dst with|some t=>2^t|none=>0
  | none=>0
 | none=>0
def aMQ(l:List Oper):List Oper→Nat→Nat→Nat
 | [],_,acc=>acc
 | o::r,d,acc=>aMQ l r (match o.dst with|some t=>d ||| 2^t|none=>d) (acc ||| Q3 (bitsOf (bHN l o) o.op.operands.toList) d)
def MH:Code→Nat
 | .region _ ops _=>aMQ ops.toList ops.toList 0 0
 | .seq a b=>MH a ||| MH b
 | .cond c a b=>bJ8 c ||| MH a ||| MH b
 | .block _ a=>MH a
 | .loop a=>MH a
 | .scope a=>MH a
 | _=>0
def aBN:List ResultVar→Nat→Nat
 | [],m=>m
 | .tmp t::r,m=>aBN r (m ||| 2^t)
 | .cell t _::r,m=>aBN r (m ||| 2^t)
def aD(fn:Func):Nat:=match fn.body with
 | some c=>aBN fn.results.toList (MH c)
 | none=>0
end Go.PM
namespace Go.PM
open Go Go.RowKit
inductive Kd where
 | int (k:IntKind)
 | bool
 | str
 | list (t:Ty)
 | agg (t:Ty)
 | own (e:TypeId) (t:Ty)
 | box (e:TypeId) (t:Ty)
 | ptr (t:Ty)
 | fn (g:FuncId)
 | nil0
 | val
 | nilI
 | clo (g:FuncId) (ts:List Ty)
 | win (j sz:Nat)
 | bown (e et:TypeId) (t:Ty)
 | bag (e:TypeId) (t1:Ty) (et:TypeId) (t:Ty) (t2:Option Ty)
 | bag2 (e:TypeId) (t1:Ty) (et:TypeId) (t:Ty) (eu:TypeId) (u:Ty)
 | hnd (sz:Nat)
 | mpk (j:Nat)
 | ar (e:TypeId) (t:Ty)
@[reducible] def bGG:Option Ty→Type
 | none=>Unit
 | some t=>t.den
def bHK:(t:Option Ty)→bGG t→List PV
 | none,_=>[]
 | some t,x=>enc t x
@[reducible] def XZ:List Ty→Type
 | []=>Unit
 | t::r=>t.den×XZ r
@[reducible] def Kd.den:Kd→Type
 | .int _=>Int
 | .bool=>Bool
 | .str=>ByteArray
 | .list t=>List t.den
 | .agg t=>t.den
 | .own _ t=>List t.den
 | .box _ t=>t.den
 | .ptr t=>t.den
 | .fn _=>Unit
 | .nil0=>Unit
 | .val=>Value
 | .nilI=>Unit
 | .clo _ ts=>XZ ts
 | .win _ _=>Nat×Nat
 | .bown _ _ t=>List t.den
 | .bag _ t1 _ t t2=>t1.den×List t.den×bGG t2
 | .bag2 _ t1 _ t _ u=>t1.den×List t.den×List u.den
 | .hnd _=>Nat×Nat×Nat
 | .mpk _=>Unit
 | .ar _ t=>List (List t.den)
abbrev Shape:=List (Nat×Kd)
@[reducible] def Shape.den:List (Nat×Kd)→Type
 | []=>Unit
 | (_,k)::r=>k.den×Shape.den r
def Kd.pos:Kd→Nat
 | .own _ _|.box _ _|.ar _ _=>1
 | .bown _ _ _=>2
 | .bag _ _ _ _ _=>2
 | .bag2 _ _ _ _ _ _=>3
 | _=>0
def aHY:(ts:List Ty)→XZ ts→List PV
 | [],_=>[]
 | t::r,(x,xs)=>.iptr (enc t x)::aHY r xs
def D5:(k:Kd)→k.den→Nat→PV
 | .int k,x,_=>.lit (.int k x)
 | .bool,x,_=>.lit (.bool x)
 | .str,x,_=>.lit (.string x)
 | .list t,l,_=>W8 t l none
 | .agg t,x,_=>.agg (enc t x)
 | .own _ t,_,n=>.own n t.size
 | .box _ _,_,n=>.hptr n 0
 | .ptr t,x,_=>.iptr (enc t x)
 | .fn g,_,_=>.lit (.func (.func g) #[] #[])
 | .nil0,_,_=>.lit (.slice none 0 0)
 | .val,x,_=>.lit x
 | .nilI,_,_=>.lit .nilIface
 | .clo g ts,x,_=>.clo (.func g) [] (aHY ts x)
 | .win j sz,x,_=>.win j x.1 x.2 sz
 | .bown _ _ _,_,n=>.hptr n 0
 | .bag _ _ _ _ _,_,n=>.hptr n 0
 | .bag2 _ _ _ _ _ _,_,n=>.hptr n 0
 | .hnd sz,x,_=>.row x.1 x.2.1 x.2.2 sz
 | .mpk j,_,_=>.mp j
 | .ar _ _,_,_=>.junk
def bMJ:(k:Kd)→k.den→Nat→Heap
 | .own e t,l,_=>[some ⟨aM t l,e,true,false,some ⟨t,l⟩⟩]
 | .box e t,x,_=>[some ⟨enc t x,e,false,false,none⟩]
 | .bown e et t,l,n=>[some ⟨[.own (n+1) t.size],e,false,false,none⟩,some ⟨aM t l,et,true,false,some ⟨t,l⟩⟩]
 | .bag e t1 et t t2,x,n=>[some ⟨enc t1 x.1++.own (n+1) t.size::bHK t2 x.2.2,e,false,false,none⟩,some ⟨aM t x.2.1,et,true,false,some ⟨t,x.2.1⟩⟩]
 | .bag2 e t1 et t eu u,x,n=>[some ⟨enc t1 x.1++[.own (n+1) t.size,.own (n+2) u.size],e,false,false,none⟩,some ⟨aM t x.2.1,et,true,false,some ⟨t,x.2.1⟩⟩,some ⟨aM u x.2.2,eu,true,false,some ⟨u,x.2.2⟩⟩]
 | .ar e t,l,_=>[some ⟨aM (.rows t) l,e,false,false,some ⟨.rows t,l⟩⟩]
 | .int _,_,_|.bool,_,_|.str,_,_|.list _,_,_|.agg _,_,_|.ptr _,_,_|.fn _,_,_|.nil0,_,_|.val,_,_|.nilI,_,_|.clo _ _,_,_|.win _ _,_,_|.hnd _,_,_|.mpk _,_,_=>[]
def EG:(sh:List (Nat×Kd))→Shape.den sh→Nat→Frm
 | [],_,_=>[]
 | (t,k)::r,(x,xs),n=>(t,D5 k x n)::EG r xs (n+k.pos)
def a5N:(sh:List (Nat×Kd))→Shape.den sh→Nat→Heap
 | [],_,_=>[]
 | (_,k)::r,(x,xs),n=>bMJ k x n++a5N r xs (n+k.pos)
def PO(sh:List (Nat×Kd)) (x:Shape.den sh):Heap:=a5N sh x 0
def N0(e:TypeId) (t:Ty) (p:PV) (H:Heap) (n:Nat):Option (List t.den) :=
 match p with
 | .own s sz=>bif Nat.beq s n&&Nat.beq sz t.size then match l7 H n with
  | some k=>match k.tag with
   | some g=>match M5 g.t t g.l with
    | some l=>bif Nat.beq k.ty e&&k.grown&&!k.frozen then some l else none
    | none=>none
   | none=>none
  | none=>none
  else none
 | _=>none
def a1P(e:TypeId) (t:Ty) (p:PV) (H:Heap) (n:Nat):Option t.den :=
 match p with
 | .hptr s off=>bif Nat.beq s n&&Nat.beq off 0 then match l7 H n with
  | some k=>bif Nat.beq k.ty e&&!k.grown&&!k.frozen&&!k.tag.isSome then dec t k.cells else none
  | none=>none
  else none
 | _=>none
def aR1(e et:TypeId) (t:Ty) (p:PV) (H:Heap) (n:Nat):Option (List t.den) :=
 match p with
 | .hptr s off=>bif Nat.beq s n&&Nat.beq off 0 then match l7 H n with
  | some k=>bif Nat.beq k.ty e&&!k.grown&&!k.frozen&&!k.tag.isSome then match k.cells with
   | [.own r sz]=>N0 et t (.own r sz) H (n+1)
   | _=>none
   else none
  | none=>none
  else none
 | _=>none
def bNW:(t:Option Ty)→List PV→Option (bGG t)
 | none,cs=>match cs with
  | []=>some ()
  | _::_=>none
 | some t,cs=>dec t cs
def a2J(e:TypeId) (t1:Ty) (et:TypeId) (t:Ty) (t2:Option Ty) (p:PV) (H:Heap) (n:Nat):Option (t1.den×List t.den×bGG t2) :=
 match p with
 | .hptr s off=>bif Nat.beq s n&&Nat.beq off 0 then match l7 H n with
  | some k=>bif Nat.beq k.ty e&&!k.grown&&!k.frozen&&!k.tag.isSome then match k.cells.drop t1.size with
   | .own r sz::rest=>match dec t1 (k.cells.take t1.size),N0 et t (.own r sz) H (n+1),bNW t2 rest with
    | some a,some l,some b=>some (a,l,b)
    | _,_,_=>none
   | _=>none
   else none
  | none=>none
  else none
 | _=>none
def aR7(e:TypeId) (t1:Ty) (et:TypeId) (t:Ty) (eu:TypeId) (u:Ty) (p:PV) (H:Heap) (n:Nat):Option (t1.den×List t.den×List u.den) :=
 match p with
 | .hptr s off=>bif Nat.beq s n&&Nat.beq off 0 then match l7 H n with
  | some k=>bif Nat.beq k.ty e&&!k.grown&&!k.frozen&&!k.tag.isSome then match k.cells.drop t1.size with
   | [.own r sz,.own r2 sz2]=>match dec t1 (k.cells.take t1.size),N0 et t (.own r sz) H (n+1),N0 eu u (.own r2 sz2) H (n+2)with
    | some a,some l,some b=>some (a,l,b)
    | _,_,_=>none
   | _=>none
   else none
  | none=>none
  else none
 | _=>none
def bE6(e:TypeId) (t:Ty) (H:Heap) (n:Nat):Option (List (List t.den)):=match l7 H n with
 | some k=>match k.tag with
  | some g=>match M5 g.t (.rows t) g.l with
   | some l=>bif Nat.beq k.ty e&&!k.grown&&!k.frozen then some l else none
   | none=>none
  | none=>none
 | none=>none
def bCJ(t:Ty):PV→Option t.den
 | .agg cs=>dec t cs
 | _=>none
def a69(t:Ty):PV→Option t.den
 | .iptr cs=>dec t cs
 | _=>none
def bLJ:(ts:List Ty)→List PV→Option (XZ ts)
 | [],[]=>some ()
 | t::r,p::ps=>match a69 t p with
  | some x=>match bLJ r ps with
   | some xs=>some (x,xs)
   | none=>none
  | none=>none
 | _,_=>none
def bIC(j:Nat):PV→Option Unit
 | .mp i=>bif Nat.beq i j then some () else none
 | _=>none
def bH0(g:FuncId):PV→Option Unit
 | .lit (.func (.func f) first caps)=>bif Nat.beq f g&&Nat.beq first.size 0&&Nat.beq caps.size 0 then some () else none
 | _=>none
def bC8:PV→Option Unit
 | .lit (.slice none o c)=>bif Nat.beq o 0&&Nat.beq c 0 then some () else none
 | _=>none
def bDJ:PV→Option Value
 | .lit v=>some v
 | _=>none
def a8F:PV→Option Unit
 | .lit .nilIface=>some ()
 | _=>none
theorem aSQ {p:PV} {x:Value} (h:bDJ p=some x):p=.lit x:=by
 unfold bDJ at h;split at h
 ·rw[Option.some.inj h]
 ·cases h
theorem aPG {p:PV} {x:Unit} (h:a8F p=some x):p=.lit .nilIface:=by
 unfold a8F at h;split at h
 ·rfl
 ·cases h
def a74(g:FuncId) (ts:List Ty):PV→Option (XZ ts)
 | .clo (.func f) [] caps=>bif Nat.beq f g then bLJ ts caps else none
 | _=>none
def bC5(j sz:Nat):PV→Option (Nat×Nat)
 | .win r lo n s=>bif Nat.beq r j&&Nat.beq s sz then some (lo,n) else none
 | _=>none
def aVM:(k:Kd)→PV→Heap→Nat→Option k.den
 | .int k,p,_,_=>a8R k [p]
 | .bool,p,_,_=>aZC [p]
 | .str,p,_,_=>a7A [p]
 | .list t,p,_,_=>dec (.list t) [p]
 | .agg t,p,_,_=>bCJ t p
 | .own e t,p,H,n=>N0 e t p H n
 | .box e t,p,H,n=>a1P e t p H n
 | .ptr t,p,_,_=>a69 t p
 | .fn g,p,_,_=>bH0 g p
 | .nil0,p,_,_=>bC8 p
 | .val,p,_,_=>bDJ p
 | .nilI,p,_,_=>a8F p
 | .clo g ts,p,_,_=>a74 g ts p
 | .win j sz,p,_,_=>bC5 j sz p
 | .bown e et t,p,H,n=>aR1 e et t p H n
 | .bag e t1 et t t2,p,H,n=>a2J e t1 et t t2 p H n
 | .bag2 e t1 et t eu u,p,H,n=>aR7 e t1 et t eu u p H n
 | .hnd sz,p,_,_=>a8B sz [p]
 | .mpk j,p,_,_=>bIC j p
 | .ar e t,_,H,n=>bE6 e t H n
def bIV:(sh:List (Nat×Kd))→Frm→Heap→Nat→Option (Shape.den sh)
 | [],_,_,_=>some ()
 | (t,k)::r,F,H,n=>match aVM k (fB F t) H n with
  | some x=>match bIV r F H (n+k.pos)with
   | some xs=>some (x,xs)
   | none=>none
  | none=>none
def a2N:List (Nat×Kd)→List (Nat×TypeId×Option Ty)
 | []=>[]
 | (t,.own e ty)::r=>(t,e,some ty)::a2N r
 | (t,.box e _)::r=>(t,e,none)::a2N r
 | (t,.ar e ty)::r=>(t,e,some (.rows ty))::a2N r
 | _::r=>a2N r
def slotsOf:List (Nat×Kd)→List Nat
 | []=>[]
 | (t,_)::r=>t::slotsOf r
def a2W:List (Nat×Kd)→Nat
 | []=>0
 | (_,k)::r=>k.pos+a2W r
def bI3(e:TypeId) (ty:Ty) (H:Heap):PV→Option (PV×Heap)
 | .win s lo n sz=>bif Nat.beq lo 0&&Nat.beq sz ty.size then match N0 e ty (.own s sz) H s with
   | some l=>some (.own H.length sz,(H.set s none)++[some ⟨aM ty (l.take n),e,true,false,some ⟨ty,l.take n⟩⟩])
   | none=>none
  else none
 | _=>none
def EW:List (Nat×Kd)→Frm→Heap→Frm×Heap
 | [],F,H=>(F,H)
 | (t,.list _)::r,F,H=>match fB F t with
  | .own s _=>match l7 H s with
   | some k=>match k.tag with
    | some g=>bif k.frozen then EW r ((t,W8 g.t g.l none)::F) H else EW r ((t,W8 g.t g.l none)::F) (H.set s (some { k with frozen:=true }))
    | none=>EW r F H
   | none=>EW r F H
  | _=>EW r F H
 | (t,.hnd sz)::r,F,H=>match fB F t with
  | .own s sz2=>bif Nat.beq sz2 sz then match a7H H sz s with
   | some (q,H1)=>EW r ((t,q)::F) H1
   | none=>EW r F H
   else EW r F H
  | _=>EW r F H
 | (t,.own e ty)::r,F,H=>match bI3 e ty H (fB F t)with
  | some (q,H1)=>EW r ((t,q)::F) H1
  | none=>EW r F H
 | _::r,F,H=>EW r F H
def aAW(sh:List (Nat×Kd)) (F:Frm) (H:Heap):Option (Shape.den sh) :=
 match EW sh F H with
 | (F1,H1)=>match tidy ⟨slotsOf sh,a2N sh,0⟩ F1 H1 with
  | some (F',H')=>bif Nat.beq H'.length (a2W sh) then bIV sh F' H' 0 else none
  | none=>none
section
variable {P:Program} {n0:Nat→Prop} {w wi:World} {G Gi:Gd} {μ μi μ':Mp} {H:Heap} {F:Frm} {a:Act} {nt:Nat}
theorem xL(hW:bC n0 G μ H w) {e:TypeId} {t:Ty} {p:PV} {n:Nat} {l:List t.den} (h:N0 e t p H n=some l):p=.own n t.size∧H[n]?=some (some ⟨aM t l,e,true,false,some ⟨t,l⟩⟩):=by
 unfold N0 at h;split at h
 ·rename_i s sz
  replace h:=aO h;obtain⟨hb,h⟩:=h;simp only[Bool.and_eq_true]at hb;have h1:=Nat.eq_of_beq_eq_true hb.1;have h2:=Nat.eq_of_beq_eq_true hb.2;subst h1; subst h2;refine⟨rfl,?_⟩;split at h
  ·rename_i k hk
   split at h
   ·rename_i g hg
    split at h
    ·rename_i l' hc
     obtain⟨hb,h⟩:=aO h;simp only[Bool.and_eq_true,Bool.not_eq_true']at hb;simp only[Option.some.injEq]at h;subst h;have hb3:=Nat.eq_of_beq_eq_true hb.1.1;have ht:=(hW.tags s k g (aP hk) hg).1;obtain⟨gt,gl⟩:=g;obtain⟨rfl,rfl⟩:=uC hc;rw[aP hk];obtain⟨k1,k2,k3,k4,k5⟩:=k;dsimp only at ht hg hb hb3 ⊢;rw[ht,hg,hb3,hb.1.2,hb.2]
    ·cases h
   ·cases h
  ·cases h
 ·cases h
theorem a33(hW:bC n0 G μ H w) {e et:TypeId} {t:Ty} {p:PV} {n:Nat} {l:List t.den} (h:aR1 e et t p H n=some l) :
  p=.hptr n 0∧H[n]?=some (some ⟨[.own (n+1) t.size],e,false,false,none⟩)∧H[n+1]?=some (some ⟨aM t l,et,true,false,some ⟨t,l⟩⟩):=by
 unfold aR1 at h;split at h
 ·rename_i s off
  replace h:=aO h;obtain⟨hb,h⟩:=h;simp only[Bool.and_eq_true]at hb;have h1:=Nat.eq_of_beq_eq_true hb.1;have h2:=Nat.eq_of_beq_eq_true hb.2;subst h1; subst h2;refine⟨rfl,?_⟩;split at h
  ·rename_i k hk
   replace h:=aO h;obtain⟨hc,h⟩:=h;simp only[Bool.and_eq_true,Bool.not_eq_true']at hc;obtain⟨⟨⟨c1,c2⟩,c3⟩,c4⟩:=hc;have c1:=Nat.eq_of_beq_eq_true c1;split at h
   ·rename_i r sz hcs
    obtain⟨h3,h4⟩:=xL hW h;cases h3;refine⟨?_,h4⟩;rw[aP hk];obtain⟨k1,k2,k3,k4,k5⟩:=k;dsimp only at c1 c2 c3 c4 hcs;rw[hcs,c1,c2,c3];cases k5 with
    | none=>rfl
    | some g=>simp at c4
   ·cases h
  ·cases h
 ·cases h
def bHD(k k':Blk):Prop:=k.tag=none∧k'.ty=k.ty∧k'.grown=k.grown∧k'.frozen=k.frozen∧k'.tag=none∧∀ (w:World) (G:Gd) (μ:Mp) (b:Nat),aQ w G μ b 0 k.cells→aQ w G μ b 0 k'.cells∧k'.cells.length=k.cells.length
def bAM(a b:Option (Option Blk)):Prop:=a=b∨∃ k k',a=some (some k)∧b=some (some k')∧bHD k k'
theorem bC.bEX (hW:bC n0 G μ H w) {H':Heap} (h:∀ r:Nat,bAM H[r]? H'[r]?):bC n0 G μ H' w:=by
 have key:∀ (r:Nat) (k':Blk),H'[r]?=some (some k')→∃ k,H[r]?=some (some k)∧(k=k'∨bHD k k')∧k'.frozen=k.frozen:=by
  intro r k' hr;rcases h r with h1|⟨k,k2,h1,h2,h3⟩
  ·exact⟨k',by rw[h1,hr],.inl rfl,rfl⟩
  ·rw[hr]at h2
   cases h2;exact⟨k,h1,.inr h3,h3.2.2.2.1⟩
 refine⟨?_,?_,?_,hW.lt,?_,hW.base,hW.rows.step (Mono.refl _ _ _) (Nat.le_refl _) (fun _=>rfl) (fun j b hj=>⟨rfl,id,fun r k' hr hf hl=>?_⟩) (fun r k' t l hr hg ht=>?_)⟩
 case refine_5 =>
  obtain⟨k,h1,_,h3⟩:=key r k' hr;exact⟨r,k,h1,by rw[← h3]; exact hf,hl⟩
 case refine_6 =>
  obtain⟨k,h1,h2,h3⟩:=key r k' hr;rcases h2 with rfl|⟨_,_,_,_,e4,_⟩
  ·exact⟨k,h1,rfl,rfl,rfl,rfl⟩
  ·rw[e4]at ht; cases ht
 ·intro r k' b hr hb
  obtain⟨k,h1,h2,h3⟩:=key r k' hr;obtain⟨c,a1,a2,a3,a4⟩:=hW.blk r k b h1 hb;rcases h2 with rfl|⟨_,e1,e2,e3,_,e5⟩
  ·exact⟨c,a1,a2,a3,a4⟩
  ·obtain⟨b1,b2⟩:=e5 w G μ b a2
   exact⟨c,by rw[e1]; exact a1,b1,fun hg=>by rw[b2]; exact a3 (by rw[← e2]; exact hg),by rw[e3]; exact a4⟩
 ·intro r k' g hr hg
  obtain⟨k,h1,h2,_⟩:=key r k' hr;rcases h2 with rfl|⟨_,_,_,_,e4,_⟩
  ·exact hW.tags r k g h1 hg
  ·rw[e4]at hg; cases hg
 ·intro r s k l b hr hs fk fl m1 m2
  obtain⟨k1,h1,_,h3⟩:=key r k hr;obtain⟨l1,h4,_,h6⟩:=key s l hs;exact hW.inj r s k1 l1 b h1 h4 (by rw[← h3]; exact fk) (by rw[← h6]; exact fl) m1 m2
 ·intro r hr
  refine hW.top r ?_;rcases Nat.lt_or_ge r H.length with hl|hl
  ·rcases h r with h1|⟨k,k',_,h2,_⟩
   ·rw[List.getElem?_eq_none hr,List.getElem?_eq_getElem hl]at h1; cases h1
   ·rw[List.getElem?_eq_none hr]at h2; cases h2
  ·exact hl
theorem a6Y {e:TypeId} {t:Ty} {p:PV} {n:Nat} {x:t.den} (h:a1P e t p H n=some x):p=.hptr n 0∧bAM H[n]? (some (some ⟨enc t x,e,false,false,none⟩)):=by
 unfold a1P at h;split at h
 ·rename_i s off
  replace h:=aO h;obtain⟨hb,h⟩:=h;simp only[Bool.and_eq_true]at hb;have h1:=Nat.eq_of_beq_eq_true hb.1;have h2:=Nat.eq_of_beq_eq_true hb.2;subst h1; subst h2;refine⟨rfl,?_⟩;split at h
  ·rename_i k hk
   obtain⟨hc,h⟩:=aO h;simp only[Bool.and_eq_true,Bool.not_eq_true']at hc;obtain⟨⟨⟨c1,c2⟩,c3⟩,c4⟩:=hc;have c1:=Nat.eq_of_beq_eq_true c1;refine .inr ⟨k,_,aP hk,rfl,by simpa using c4,c1.symm,c2.symm,c3.symm,rfl,?_⟩
   intro w G μ b hc;obtain⟨vs,d1,d2⟩:=hc.values;have d3:=A8 t μ k.cells x vs h d1;exact⟨aQ.qU d3.bN d2,by rw[d3.length,d1.length]⟩
  ·cases h
 ·cases h
theorem bKY(t:Option Ty) (μ:Mp) (cs:List PV) (x:bGG t) (vs:List Value) (h:bNW t cs=some x) (hv:VRs w G μ cs vs):VRs w G aN (bHK t x) vs:=by
 cases t with
 | none =>
  cases cs with
  | nil=>rw[VRs]at hv; rw[bHK,VRs]; exact hv
  | cons p ps=>cases h
 | some t=>exact A8 t μ cs x vs h hv
theorem a8V(hW:bC n0 G μ H w) {e:TypeId} {t1:Ty} {et:TypeId} {t:Ty} {t2:Option Ty} {p:PV} {n:Nat} {x:t1.den×List t.den×bGG t2} (h:a2J e t1 et t t2 p H n=some x) :
  p=.hptr n 0∧bAM H[n]? (some (some ⟨enc t1 x.1++.own (n+1) t.size::bHK t2 x.2.2,e,false,false,none⟩))∧H[n+1]?=some (some ⟨aM t x.2.1,et,true,false,some ⟨t,x.2.1⟩⟩):=by
 unfold a2J at h;split at h
 ·rename_i s off
  replace h:=aO h;obtain⟨hb,h⟩:=h;simp only[Bool.and_eq_true]at hb;have h1:=Nat.eq_of_beq_eq_true hb.1;have h2:=Nat.eq_of_beq_eq_true hb.2;subst h1; subst h2;refine⟨rfl,?_⟩;split at h
  ·rename_i k hk
   obtain⟨hc,h⟩:=aO h;simp only[Bool.and_eq_true,Bool.not_eq_true']at hc;obtain⟨⟨⟨c1,c2⟩,c3⟩,c4⟩:=hc;have c1:=Nat.eq_of_beq_eq_true c1;split at h
   ·rename_i r sz rest hd
    split at h
    ·rename_i xa xl xb ha hl hbb
     simp only[Option.some.injEq]at h;subst h;obtain⟨h3,h4⟩:=xL hW hl;cases h3;refine⟨.inr ⟨k,_,aP hk,rfl,by simpa using c4,c1.symm,c2.symm,c3.symm,rfl,?_⟩,h4⟩
     intro w G μ b hc;obtain⟨vs,d1,d2⟩:=hc.values;have d3:=d1.take t1.size;have d4:=d1.drop t1.size;rw[hd,VRs]at d4;obtain⟨v,vc,e1,d5,d6⟩:=d4;have d7:=A8 t1 μ _ xa _ ha d3;have d8:=bKY t2 μ _ xb vc hbb d6;have d9:VRs w G μ (enc t1 xa++.own (s+1) t.size::bHK t2 xb) (vs.take t1.size++v::vc):=VRs.append d7.bN (by rw[VRs]; exact⟨v,vc,rfl,d5,d8.bN⟩)
     rw[← e1,List.take_append_drop]at d9;exact⟨aQ.qU d9 d2,by rw[d9.length,d1.length]⟩
    ·cases h
   ·cases h
  ·cases h
 ·cases h
theorem a4H(hW:bC n0 G μ H w) {e:TypeId} {t1:Ty} {et:TypeId} {t:Ty} {eu:TypeId} {u:Ty} {p:PV} {n:Nat} {x:t1.den×List t.den×List u.den} (h:aR7 e t1 et t eu u p H n=some x) :
  p=.hptr n 0∧bAM H[n]? (some (some ⟨enc t1 x.1++[.own (n+1) t.size,.own (n+2) u.size],e,false,false,none⟩))∧H[n+1]?=some (some ⟨aM t x.2.1,et,true,false,some ⟨t,x.2.1⟩⟩)∧H[n+2]?=some (some ⟨aM u x.2.2,eu,true,false,some ⟨u,x.2.2⟩⟩):=by
 unfold aR7 at h;split at h
 ·rename_i s off
  replace h:=aO h;obtain⟨hb,h⟩:=h;simp only[Bool.and_eq_true]at hb;have h1:=Nat.eq_of_beq_eq_true hb.1;have h2:=Nat.eq_of_beq_eq_true hb.2;subst h1; subst h2;refine⟨rfl,?_⟩;split at h
  ·rename_i k hk
   obtain⟨hc,h⟩:=aO h;simp only[Bool.and_eq_true,Bool.not_eq_true']at hc;obtain⟨⟨⟨c1,c2⟩,c3⟩,c4⟩:=hc;have c1:=Nat.eq_of_beq_eq_true c1;split at h
   ·rename_i r sz r2 sz2 hd
    split at h
    ·rename_i xa xl xb ha hl hbb
     simp only[Option.some.injEq]at h;subst h;obtain⟨h3,h4⟩:=xL hW hl;cases h3;obtain⟨h5,h6⟩:=xL hW hbb;cases h5;refine⟨.inr ⟨k,_,aP hk,rfl,by simpa using c4,c1.symm,c2.symm,c3.symm,rfl,?_⟩,h4,h6⟩
     intro w G μ b hc;obtain⟨vs,d1,d2⟩:=hc.values;have d3:=d1.take t1.size;have d4:=d1.drop t1.size;rw[hd]at d4;have d7:=A8 t1 μ _ xa _ ha d3;have d9:VRs w G μ (enc t1 xa++[.own (s+1) t.size,.own (s+2) u.size]) (vs.take t1.size++vs.drop t1.size):=VRs.append d7.bN d4;rw[List.take_append_drop]at d9;exact⟨aQ.qU d9 d2,by rw[d9.length,d1.length]⟩
    ·cases h
   ·cases h
  ·cases h
 ·cases h
theorem a98 {g:Tg} {b:Ty} {l':List b.den} (h:M5 g.t b g.l=some l'):g=⟨b,l'⟩:=by
 obtain⟨a,l⟩:=g;unfold M5 at h;split at h
 ·rename_i e
  dsimp only at e;subst e;simp only[Option.some.injEq]at h;rw[← h]
 ·cases h
theorem bBS(hW:bC n0 G μ H w) {e:TypeId} {t:Ty} {n:Nat} {l:List (List t.den)} (h:bE6 e t H n=some l):H[n]?=some (some ⟨aM (.rows t) l,e,false,false,some ⟨.rows t,l⟩⟩):=by
 unfold bE6 at h;split at h
 ·rename_i k hk
  split at h
  ·rename_i g hg
   split at h
   ·rename_i l' hc
    obtain⟨hb,h⟩:=aO h;simp only[Bool.and_eq_true,Bool.not_eq_true']at hb;simp only[Option.some.injEq]at h;have hb3:=Nat.eq_of_beq_eq_true hb.1.1;have ht:=(hW.tags n k g (aP hk) hg).1;have hge:=a98 hc;rw[hge]at hg ht;rw[← h,aP hk];obtain⟨k1,k2,k3,k4,k5⟩:=k;dsimp only at ht hg hb hb3 ⊢;rw[ht,hg,hb3,hb.1.2,hb.2]
   ·cases h
  ·cases h
 ·cases h
theorem aHW {t:Ty} {p:PV} {x:t.den} {v:Value} (h:a69 t p=some x) (hv:VR w G μ p v):VR w G aN (.iptr (enc t x)) v:=by
 unfold a69 at h;split at h
 ·rename_i cs
  rw[VR]at hv ⊢;obtain⟨b,off,h1,h2,h3⟩:=hv;obtain⟨vs,d1,d2⟩:=h3.values;exact⟨b,off,h1,h2,aQ.qU (A8 t aN cs x vs h d1) d2⟩
 ·cases h
theorem a1I:∀ (ts:List Ty) {ps:List PV} {x:XZ ts} {vs:List Value},bLJ ts ps=some x→VRs w G μ ps vs→VRs w G aN (aHY ts x) vs
 | [],[],x,vs,h,hv=>by rw[VRs]at hv; simp only[aHY]; rw[VRs]; exact hv
 | [],_::_,x,vs,h,hv=>by cases h
 | _::_,[],x,vs,h,hv=>by cases h
 | t::r,p::ps,x,vs,h,hv=>by
  simp only[bLJ]at h;split at h
  ·rename_i y hy
   split at h
   ·rename_i ys hys
    simp only[Option.some.injEq]at h;subst h;rw[VRs]at hv;obtain⟨u,us,h1,h2,h3⟩:=hv;simp only[aHY];rw[VRs];exact⟨u,us,h1,aHW hy h2,a1I r hys h3⟩
   ·cases h
  ·cases h
theorem aS6 {p:PV} {x:Unit} (h:bC8 p=some x):p=.lit (.slice none 0 0):=by
 unfold bC8 at h;split at h
 ·rename_i o c
  cases hb:(Nat.beq o 0&&Nat.beq c 0)with
  | false=>rw[hb]at h; cases h
  | true =>
   simp only[Bool.and_eq_true]at hb;rw[Nat.eq_of_beq_eq_true hb.1,Nat.eq_of_beq_eq_true hb.2]
 ·cases h
theorem aW0 {j:Nat} {p:PV} {x:Unit} (h:bIC j p=some x):p=.mp j:=by
 unfold bIC at h;split at h
 ·rename_i i
  rw[Nat.eq_of_beq_eq_true (aO h).1]
 ·cases h
theorem aWO {g:FuncId} {p:PV} {x:Unit} (h:bH0 g p=some x):p=.lit (.func (.func g) #[] #[]):=by
 unfold bH0 at h;split at h
 ·rename_i f first caps
  replace h:=(aO h).1;simp only[Bool.and_eq_true]at h;have h1:=Nat.eq_of_beq_eq_true h.1.1;have h2:=Array.eq_empty_of_size_eq_zero (Nat.eq_of_beq_eq_true h.1.2);have h3:=Array.eq_empty_of_size_eq_zero (Nat.eq_of_beq_eq_true h.2);rw[h1,h2,h3]
 ·cases h
theorem aHG {g:FuncId} {ts:List Ty} {p:PV} {x:XZ ts} {v:Value} (h:a74 g ts p=some x) (hv:VR w G μ p v):VR w G aN (.clo (.func g) [] (aHY ts x)) v:=by
 unfold a74 at h;split at h
 ·rename_i f caps
  have h1:=Nat.eq_of_beq_eq_true (aO h).1;have h2:=(aO h).2;subst h1;rw[VR]at hv ⊢;obtain⟨fs,cs,e1,e2,e3⟩:=hv;exact⟨fs,cs,e1,by rw[VRs]at e2 ⊢; exact e2,a1I ts h2 e3⟩
 ·cases h
theorem aRT {j sz:Nat} {p:PV} {x:Nat×Nat} (h:bC5 j sz p=some x):p=.win j x.1 x.2 sz:=by
 unfold bC5 at h;split at h
 ·replace h:=aO h
  obtain⟨hb,h⟩:=h;simp only[Bool.and_eq_true]at hb;have h1:=Nat.eq_of_beq_eq_true hb.1;have h2:=Nat.eq_of_beq_eq_true hb.2;simp only[Option.some.injEq]at h;rw[← h,h1,h2]
 ·cases h
theorem bDG(hW:bC n0 G μ H w):∀ (k:Kd) {p:PV} {n:Nat} {x:k.den} {v:Value},aVM k p H n=some x→VR w G μ p v→VR w G μ (D5 k x n) v∧∀ i:Nat,i<k.pos→bAM H[n+i]? (bMJ k x n)[i]?
 | .int k,p,n,x,v,h,hv=>by
  have:=aMU h;simp only[List.cons.injEq,and_true]at this;subst this;exact⟨hv,fun i hi=>absurd hi (Nat.not_lt_zero _)⟩
 | .bool,p,n,x,v,h,hv=>by
  have:=aG4 h;simp only[List.cons.injEq,and_true]at this;subst this;exact⟨hv,fun i hi=>absurd hi (Nat.not_lt_zero _)⟩
 | .str,p,n,x,v,h,hv=>by
  have:=aLN h;simp only[List.cons.injEq,and_true]at this;subst this;exact⟨hv,fun i hi=>absurd hi (Nat.not_lt_zero _)⟩
 | .list t,p,n,x,v,h,hv=>by
  have:=A8 (.list t) μ [p] x [v] h (by rw[VRs]; exact⟨v,[],rfl,hv,by rw[VRs]⟩)
  refine⟨?_,fun i hi=>absurd hi (Nat.not_lt_zero _)⟩
  simp only[enc]at this;rw[VRs]at this;obtain⟨y,ys,h1,h2,_⟩:=this;cases h1;exact h2.bN
 | .agg t,p,n,x,v,h,hv=>by
  refine⟨?_,fun i hi=>absurd hi (Nat.not_lt_zero _)⟩
  simp only[aVM]at h;unfold bCJ at h;split at h
  ·rename_i cs
   rw[VR]at hv;obtain⟨vs,rfl,h2⟩:=hv;simp only[D5];rw[VR];exact⟨vs,rfl,(A8 t μ cs x vs.toList h h2).bN⟩
  ·cases h
 | .own e t,p,n,x,v,h,hv=>by
  obtain⟨rfl,h2⟩:=xL hW h;refine⟨hv,fun i hi=>?_⟩
  simp only[Kd.pos]at hi;have:i=0:=by omega
  subst this;simp only[Nat.add_zero,h2];exact .inl rfl
 | .box e t,p,n,x,v,h,hv=>by
  obtain⟨rfl,h2⟩:=a6Y h;refine⟨hv,fun i hi=>?_⟩
  simp only[Kd.pos]at hi;have:i=0:=by omega
  subst this;exact h2
 | .ptr t,p,n,x,v,h,hv=>⟨(aHW h hv).bN,fun i hi=>absurd hi (Nat.not_lt_zero _)⟩
 | .fn g,p,n,x,v,h,hv=>by
  have:=aWO h;subst this;exact⟨hv,fun i hi=>absurd hi (Nat.not_lt_zero _)⟩
 | .mpk j,p,n,x,v,h,hv=>by
  have:=aW0 h;subst this;exact⟨hv,fun i hi=>absurd hi (Nat.not_lt_zero _)⟩
 | .nil0,p,n,x,v,h,hv=>by
  have:=aS6 h;subst this;exact⟨hv,fun i hi=>absurd hi (Nat.not_lt_zero _)⟩
 | .val,p,n,x,v,h,hv=>by
  have:=aSQ (p:=p) (x:=x) h;subst this;exact⟨hv,fun i hi=>absurd hi (Nat.not_lt_zero _)⟩
 | .nilI,p,n,x,v,h,hv=>by
  have:=aPG (p:=p) (x:=x) h;subst this;exact⟨hv,fun i hi=>absurd hi (Nat.not_lt_zero _)⟩
 | .clo g ts,p,n,x,v,h,hv=>⟨(aHG h hv).bN,fun i hi=>absurd hi (Nat.not_lt_zero _)⟩
 | .win j sz,p,n,x,v,h,hv=>by
  have:=aRT h;subst this;exact⟨hv,fun i hi=>absurd hi (Nat.not_lt_zero _)⟩
 | .bown e et t,p,n,x,v,h,hv=>by
  obtain⟨rfl,h2,h3⟩:=a33 hW h;refine⟨hv,fun i hi=>?_⟩
  simp only[Kd.pos]at hi;rcases(show i=0∨i=1 by omega)with rfl|rfl
  ·simp only[Nat.add_zero,h2]
   exact .inl rfl
  ·simp only[h3]
   exact .inl rfl
 | .bag e t1 et t t2,p,n,x,v,h,hv=>by
  obtain⟨rfl,h2,h3⟩:=a8V hW h;refine⟨hv,fun i hi=>?_⟩
  simp only[Kd.pos]at hi;rcases(show i=0∨i=1 by omega)with rfl|rfl
  ·exact h2
  ·simp only[h3]
   exact .inl rfl
 | .bag2 e t1 et t eu u,p,n,x,v,h,hv=>by
  obtain⟨rfl,h2,h3,h4⟩:=a4H hW h;refine⟨hv,fun i hi=>?_⟩
  simp only[Kd.pos]at hi;rcases(show i=0∨i=1∨i=2 by omega)with rfl|rfl|rfl
  ·exact h2
  ·simp only[h3]
   exact .inl rfl
  ·simp only[h4]
   exact .inl rfl
 | .hnd sz,p,n,x,v,h,hv=>by
  refine⟨?_,fun i hi=>absurd hi (Nat.not_lt_zero _)⟩
  have:=aVH (μ:=μ) (vs:=[v]) h (by rw[VRs]; exact⟨v,[],rfl,hv,by rw[VRs]⟩)
  rw[VRs]at this;obtain⟨y,ys,h1,h2,_⟩:=this;cases h1;exact h2.bN
 | .ar e t,p,n,x,v,h,hv=>by
  have h2:=bBS hW h;refine⟨by simp only[D5]; rw[VR]; trivial,fun i hi=>?_⟩
  simp only[Kd.pos]at hi;have:i=0:=by omega
  subst this;simp only[Nat.add_zero,h2];exact .inl rfl
theorem aBE:∀ (k:Kd) (x:k.den) (n:Nat),(bMJ k x n).length=k.pos
 | .int _,_,_|.bool,_,_|.str,_,_|.list _,_,_|.agg _,_,_|.ptr _,_,_|.fn _,_,_|.nil0,_,_|.val,_,_|.nilI,_,_|.clo _ _,_,_|.win _ _,_,_|.hnd _,_,_|.mpk _,_,_=>rfl
 | .ar _ _,_,_=>rfl
 | .own _ _,_,_=>rfl
 | .box _ _,_,_=>rfl
 | .bown _ _ _,_,_=>rfl
 | .bag _ _ _ _ _,_,_=>rfl
 | .bag2 _ _ _ _ _ _,_,_=>rfl
theorem aSE:∀ (sh:List (Nat×Kd)) (x:Shape.den sh) (n:Nat),(a5N sh x n).length=a2W sh
 | [],_,_=>rfl
 | (_,k)::r,(x,xs),n=>by simp only[a5N,List.length_append,aBE,aSE r xs,a2W]
theorem aXH(sh:List (Nat×Kd)) (x:Shape.den sh):(PO sh x).length=a2W sh:=aSE sh x 0
theorem aQI(hW:bC n0 G μ H w) (hF:∀ t,VR w G μ (fB F t) (a.tmps.getD t undef)):∀ (sh:List (Nat×Kd)) {n:Nat} {x:Shape.den sh},bIV sh F H n=some x→(∀ t,VR w G μ (fB (EG sh x n) t) (a.tmps.getD t undef))∧∀ i:Nat,i<a2W sh→bAM H[n+i]? (a5N sh x n)[i]?
 | [],n,x,h=>⟨fun t=>by simp only[EG,fB]; rw[VR]; trivial,fun i hi=>absurd hi (Nat.not_lt_zero _)⟩
 | (t,k)::r,n,x,h=>by
  simp only[bIV]at h;split at h
  ·rename_i y hy
   split at h
   ·rename_i ys hys
    simp only[Option.some.injEq]at h;subst h;obtain⟨h1,h2⟩:=bDG hW k hy (hF t);obtain⟨h3,h4⟩:=aQI hW hF r hys;refine⟨fun s=>?_,fun i hi=>?_⟩
    ·simp only[EG]
     rw[jV]
     by_cases hs:s=t
     ·subst hs; rw[if_pos rfl]; exact h1
     ·rw[if_neg hs]; exact h3 s
    ·simp only[a5N]
     rcases Nat.lt_or_ge i k.pos with hl|hl
     ·rw[List.getElem?_append_left (by rw[aBE]; exact hl)]
      exact h2 i hl
     ·rw[List.getElem?_append_right (by rw[aBE]; exact hl),aBE]
      have:=h4 (i-k.pos) (by simp only[a2W]at hi; omega)
      have e1:n+k.pos+(i-k.pos)=n+i:=by omega
      rwa[e1]at this
   ·cases h
  ·cases h
theorem a9S(hW:bC n0 G μ H w) {e:TypeId} {ty:Ty} {p q:PV} {H1:Heap} {v:Value} (h:bI3 e ty H p=some (q,H1)) (hv:VR w G μ p v) :
  ∃ μ',Ext n0 w G μ w G μ'∧bC n0 G μ' H1 w∧VR w G μ' q v:=by
 unfold bI3 at h;split at h
 ·rename_i r lo n sz
  obtain⟨hb,hh⟩:(Nat.beq lo 0&&Nat.beq sz ty.size)=true∧(match N0 e ty (.own r sz) H r with
   | some l=>some (PV.own H.length sz,(H.set r none)++[some (⟨aM ty (l.take n),e,true,false,some ⟨ty,l.take n⟩⟩:Blk)])
   | none=>none)=some (q,H1):=by
   cases hb:(Nat.beq lo 0&&Nat.beq sz ty.size)with
   | true=>rw[hb]at h; exact⟨rfl,h⟩
   | false=>rw[hb]at h; cases h
  rw[Bool.and_eq_true]at hb;have h0:=Nat.eq_of_beq_eq_true hb.1;have h1:=Nat.eq_of_beq_eq_true hb.2;clear h;subst h0; subst h1;split at hh
  ·rename_i l hl
   simp only[Option.some.injEq,Prod.mk.injEq]at hh;obtain⟨rfl,rfl⟩:=hh;obtain⟨_,hr⟩:=xL hW hl;rw[VR]at hv;obtain⟨b,c,m,a1,a2,a3,a4,a5,a6,_⟩:=hv;have ht:=(hW.tags r _ _ hr rfl).2;rw[ht]at a5;cases a5;have hlen:(l.take n).length=n:=by rw[List.length_take]; change 0+n≤l.length at a6; omega
   have hk:=zZ hW r;have hl':(H.set r none).length=H.length:=by simp
   have e0:=OM hW (some b) (some n);have e2:Ext n0 w G μ w G (upd μ (H.set r none).length (some b) (some n)):=by rw[hl']; exact e0
   refine⟨_,e0,?_,?_⟩
   ·have:=QE hk e2 ⟨aM ty (l.take n),e,true,false,some ⟨ty,l.take n⟩⟩ (fun _ _ _ _ _=>rfl) ?_ ?_ ?_ (WY hk e2 (fun t l h1 h2=>by cases h1) (fun _ _ _=>rfl) (fun j b1 hj hf hh=>by cases hh; exact(hW.rows.sep j b hj).2.2.2 r _ hr rfl a1))
    ·rwa[hl']at this
    ·rintro b' hb'
     cases hb';obtain⟨c1,h2,h3,h4⟩:=hW.blk r _ b hr a1;refine⟨c1,h2,?_,fun h=>(by cases h),fun h=>(by cases h),h4.2.2⟩
     have h5:=aQ.mono e2.toMono rfl 0 _ h3;refine aQ.mk fun i p hp=>?_
     have hp:(aM ty (l.take n))[i]?=some p:=hp;rw[← xU]at hp;have hi:i<(aM ty l).length∧(aM ty l)[i]?=some p:=by
      rw[List.getElem?_take]at hp;split at hp
      ·exact⟨(List.getElem?_eq_some_iff.1 hp).1,hp⟩
      ·cases hp
     exact h5.get hi.2
    ·intro g hg
     cases hg;exact⟨rfl,by rw[hlen]⟩
    ·intro s k' b' hs hf hb' hh
     cases hh;obtain⟨hs1,hs2⟩:=tT hs;exact hs2 (hW.inj s r k' _ b hs1 hr hf rfl hb' a1)
   ·rw[VR]
    refine⟨n,sV _ _ _ _,.inr ⟨b,c,lC _ _ _ _,by rw[a2,Nat.zero_mul],a3,?_⟩⟩
    simpa using a4
  ·cases hh
 ·cases h
theorem EK:∀ (sh:List (Nat×Kd)) (F:Frm) (H:Heap),I n0 wi Gi μi nt F H a w→I n0 wi Gi μi nt (EW sh F H).1 (EW sh F H).2 a w
 | [],F,H,hI=>hI
 | (t,k0)::r,F,H,hI=>by
  have skip:I n0 wi Gi μi nt (EW r F H).1 (EW r F H).2 a w:=EK r F H hI;unfold EW;split
  ·exact hI
  ·rename_i heq
   cases heq;split
   ·rename_i s sz ht
    split
    ·rename_i k hk
     split
     ·rename_i g hg
      obtain⟨G,μ,e,hW,hF⟩:=hI;have hv:=hF.slot t;rw[ht]at hv;cases hfz:k.frozen with
      | true =>
       simp only[cond_true];refine EK r _ _ ⟨G,μ,e,hW,hF.named ?_⟩;exact(LP hW hv hk hg (fun b h=>h) (fun b hb=>by
        obtain⟨_,_,_,_,h5,_⟩:=hW.blk s k b (aP hk) hb;exact h5 hfz)).bN
      | false =>
       simp only[cond_false];obtain⟨e1,w1⟩:=aBF hW (aP hk) hfz;refine EK r _ _ ⟨_,μ,e.trans e1,w1,(hF.mono e1.toMono).named ?_⟩;exact(LP (G':=G.or fun x=>μ.loc s=some x) hW hv hk hg (fun b h=>.inl h) (fun b hb=>.inr hb)).bN
     ·exact skip
    ·exact skip
   ·exact skip
  ·rename_i heq
   cases heq;split
   ·rename_i s sz2 ht
    cases hsz:Nat.beq sz2 _ with
    | true =>
     simp only[cond_true];have hsz:=Nat.eq_of_beq_eq_true hsz;subst hsz;split
     ·rename_i q H1 hA
      obtain⟨G,μ,e,hW,hF⟩:=hI;have hv:=hF.slot t;rw[ht]at hv;obtain⟨G',μ',e1,w1,v1⟩:=aTU hW hA hv;exact EK r _ _ ⟨G',μ',e.trans e1,w1,(hF.mono e1.toMono).named v1.bN⟩
     ·exact skip
    | false=>exact skip
   ·exact skip
  ·rename_i heq
   cases heq;split
   ·rename_i q H1 hA
    obtain⟨G,μ,e,hW,hF⟩:=hI;have hv:=hF.slot t;obtain⟨μ',e1,w1,v1⟩:=a9S hW hA hv;exact EK r _ _ ⟨G,μ',e.trans e1,w1,(hF.mono e1.toMono).named v1⟩
   ·exact skip
  ·rename_i heq
   cases heq;exact skip
theorem K3 {sh:List (Nat×Kd)} {x:Shape.den sh} (h:aAW sh F H=some x) (hfl:∀ r,μi.loc r=none∧μi.len r=none) (hI:I n0 wi Gi μi nt F H a w):I n0 wi Gi μi nt (EG sh x 0) (PO sh x) a w:=by
 unfold aAW at h;replace hI:=EK sh F H hI;split at h;rename_i F1 H1 hd;rw[hd]at hI;split at h
 ·rename_i F' H' ht
  obtain⟨hb,h⟩:=aO h;obtain⟨⟨G,μ,e,hW,hF⟩,_⟩:=bCM ht (fun r _=>hfl r) hI
  obtain⟨h1,h2⟩:=aQI hW hF.slot sh h;have hH:∀ i:Nat,bAM H'[i]? (PO sh x)[i]?:=by
   intro i;rcases Nat.lt_or_ge i (a2W sh)with hl|hl
   ·have:=h2 i hl
    rwa[Nat.zero_add]at this
   ·have e1:=Nat.eq_of_beq_eq_true hb
    exact .inl (by rw[List.getElem?_eq_none (by omega),List.getElem?_eq_none (by rw[aXH]; omega)])
  exact⟨G,μ,e,hW.bEX hH,hF.size,h1,hF.defers⟩
 ·cases h
end
end Go.PM
namespace Go.PM
open Go Go.RowKit
def ask {α:Type} (b:Bool) (k:Bool→Option α):Option α:=bif b then k true else k false
def aMH {α:Type}:List Bool→Option α→Option α
 | [],r=>r
 | b::l,r=>bif b then aMH l r else none
def aC {τ α:Type} (x:Option τ) (k:τ→Option α):Option α:=match x with
 | some x=>k x
 | none=>none
def BN {β γ α:Type} (z:β⊕γ) (f:β→Option α) (g:γ→Option α):Option α:=match z with
 | .inl a=>f a
 | .inr b=>g b
structure Res where
 τ:Type
 val:Option τ
 out:τ→PV
structure a16 where
 τ:Type
 val:Option τ
 out:τ→PV×Heap
structure Env where
 pure:FuncId→List PV→Option Res
 shr:FuncId→List PV→Heap→Option a16
 sh:FuncId→Bool
def a1M(E:Env) (g:FuncId) (args:List PV):Option PV:=match E.pure g args with
 | some r=>match r.val with
  | some x=>some (r.out x)
  | none=>none
 | none=>none
def aZG(E:Env) (g:FuncId) (args:List PV) (H:Heap):Option (PV×Heap):=match E.shr g args H with
 | some r=>match r.val with
  | some x=>some (r.out x)
  | none=>none
 | none=>none
def gX(P:Program) (E:Env):Callee:=callee P E.sh (a1M E) (aZG E)
section
variable {α:Type} (P:Program) (E:Env)
def bK5(g:FuncId) (args:List PV) (H:Heap) (k:PV→Heap→Nat→Option α):Option α :=
 bif E.sh g then match E.shr g args H with
  | some r=>aC r.val fun x=>k (r.out x).1 (r.out x).2 2
  | none=>none
 else bif fP.noRefs args then bif gF.noRows args then match E.pure g args with
  | some r=>aC r.val fun x=>k (r.out x) H 0
  | none=>none
  else none
 else bif aV2 P g then match aG8 (fun p=>inl false H depth p) args with
  | some qs=>bif gF.noRows qs then match E.pure g qs with
   | some r=>aC r.val fun x=>bif flat (r.out x) then k (r.out x) H 1 else none
   | none=>none
   else none
  | none=>none
 else match ZI H (args.flatMap (fun p=>reach H depth p))with
  | H1=>match aG8 (fun p=>inl true H1 depth p) args with
   | some qs=>bif gF.noRows qs then match E.pure g qs with
    | some r=>aC r.val fun x=>k (r.out x) H1 2
    | none=>none
    else none
   | none=>none
def bH5:Frm→Nat→Bool→Frm
 | [],_,_=>[]
 | (s,p)::r,t,b=>bif Nat.beq s t then (s,.lit (.bool b))::r else (s,p)::bH5 r t b
def bCH(F:Frm) (x:Operand) (b:Bool) (k:Frm→Bool→Option α):Option α:=match x with
 | .tmp t=>ask b fun b=>k (bH5 F t b) b
 | _=>ask b fun b=>k F b
def a6S(F:Frm) (l:List Oper) (o:Oper) (k:Frm→Bool→Option α):Option α :=
 match o.guard with
 | none=>k F true
 | some (j,want)=>match l[j]? with
  | some p=>match p.dst with
   | some t=>match fB F t with
    | .lit (.bool b)=>ask b fun b=>k (bH5 F t b) (bif b then want else !want)
    | .lit _=>k F false
    | _=>none
   | none=>none
  | none=>none
def bMW(op:BinOp) (k1:IntKind) (a b:Int) (k:Value→Option α):Option α:=match op with
 | .quo=>bif eqI b 0 then none else k (.int k1 (aB k1 (a.tdiv b)))
 | .rem=>bif eqI b 0 then none else k (.int k1 (a.tmod b))
 | op=>match a9T op k1 a b with
  | some v=>k v
  | none=>none
def isX:BinOp→Bool
 | .add|.sub|.mul|.quo|.rem|.eql|.neq|.lss|.leq|.gtr|.geq=>true
 | _=>false
def a7P:BinOp→Bool
 | .shl|.shr=>true
 | _=>false
def bDB(op:BinOp) (k:IntKind) (x y:Int):Option Value:=match op with
 | .shl=>some (.int k (k.wrap (x*2^(min y.toNat k.bits))))
 | .shr=>some (.int k (x.fdiv (2^(min y.toNat k.bits))))
 | _=>none
def aQ1(F:Frm) (H:Heap) (o:Oper) (k:Frm→PV→Heap→Nat→Option α):Option α:=match opu P (gX P E) F H o with
 | some (v,H',c)=>k F v H' c
 | none=>none
def bHY(F:Frm) (x:Operand) (k:Frm→Option α):Option α:=match ev F x with
 | .lit (.bool b)=>bCH F x b fun F _=>k F
 | _=>k F
def a7W:List Operand→Frm→(Frm→Option α)→Option α
 | [],F,k=>k F
 | x::r,F,k=>bHY F x fun F=>a7W r F k
def opK(F:Frm) (H:Heap) (o:Oper) (k:Frm→PV→Heap→Nat→Option α):Option α :=
 bif typed P F o then match top P F H o with
  | some (cs,v,H',c)=>aMH cs (k F v H' c)
  | none=>none
 else match o.op with
  | .binOp op _ x y _=>match ev F x,ev F y with
   | .lit (.int k1 a),.lit (.int k2 b)=>bif a7P op then (bif ltI b 0 then none else match bDB op k1 a b with
     | some v=>k F (.lit v) H 0
     | none=>none)
    else bif TE k1 k2&&isX op then bMW op k1 a b fun v=>k F (.lit v) H 0 else aQ1 P E F H o k
   | _,_=>a7W [x,y] F fun F=>aQ1 P E F H o k
  | .unOp ..=>a7W o.op.operands.toList F fun F=>aQ1 P E F H o k
  | .pick c a b=>match ev F c with
   | .lit (.bool t)=>bCH F c t fun F t=>k F (bif t then ev F a else ev F b) H 0
   | _=>none
  | .call c=>match c.callee with
   | .value f=>match ev F f with
    | .lit (.func (.func g) first caps)=>bK5 P E g (lits first++c.args.toList.map (ev F)++lits caps) H (k F)
    | .clo (.func g) first caps=>bK5 P E g (first++c.args.toList.map (ev F)++caps) H (k F)
    | _=>none
   | _=>aQ1 P E F H o k
  | _=>aQ1 P E F H o k
def aU2:Nat→Nat→Int→(Int→Option α)→Option α
 | 0,_,_,_=>none
 | n+1,j,v,f=>bif eqI v (j:Int) then f j else aU2 n (j+1) v f
def bM2(t:TypeId):Option Nat:=match P.underlying t with
 | some (.array n _)=>some n
 | _=>none
def bMD:PV→Bool
 | .hptr _ _|.iptr _=>true
 | _=>false
def bNU:PV→Bool
 | .agg _=>true
 | _=>false
def xIdx(H:Heap) (t:TypeId) (p:PV) (i:Int):Option (PV×Heap×Nat):=match p,P.underlying t with
 | .agg cs,some (.array n e)=>match wV P e with
  | some sz=>bif aL i n then p0 H (IV P e (cs.drop (i.toNat*sz))) else none
  | none=>none
 | _,_=>none
def bM5(l:List Oper) (F:Frm) (H:Heap) (o:Oper) (k:Frm→PV→Heap→Nat→Option α):Option α:=match o.op with
 | .makeSlice t n c=>bif a0H l o.dst then (match aFL P H t (ev F n) (ev F c)with
   | some (cs,v,H',c')=>aMH cs (k F v H' c')
   | none=>none) else opK P E F H o k
 | .indexAddr t x i=>match bM2 P t,ev F i with
  | some n,.lit (.int _ v)=>bif a27 (ev F x) then aU2 n 0 v (fun j=>match yC P H t (ev F x) j with
    | some (cs,p,H',c)=>aMH cs (k F p H' c)
    | none=>none) else bif bMD (ev F x) then aU2 n 0 v (fun j=>match p0 H (aGA P t (ev F x) j)with
    | some (p,H',c)=>k F p H' c
    | none=>none) else opK P E F H o k
  | _,_=>opK P E F H o k
 | .index t x i=>match bM2 P t,ev F i with
  | some n,.lit (.int _ v)=>bif bNU (ev F x) then aU2 n 0 v (fun j=>match xIdx P H t (ev F x) j with
    | some (p,H',c)=>k F p H' c
    | none=>none) else opK P E F H o k
  | _,_=>opK P E F H o k
 | .slice t x lo hi none=>match ev F x with
  | .own r sz=>match a3N H r,P.underlying t with
   | some g,some (.slice e)=>bif aZN g.t then (match wV P e with
    | some n=>bif Nat.beq n sz then ask (Nat.beq g.l.length 0) fun z=>(match aY0 g H r sz (lo.map (ev F)) (hi.map (ev F)) z with
      | some (cs,v,H',c)=>aMH cs (k F v H' c)
      | none=>none) else none
    | none=>none) else opK P E F H o k
   | _,_=>opK P E F H o k
  | _=>opK P E F H o k
 | _=>opK P E F H o k
def a9W(l:List Oper) (o:Oper) (F:Frm) (H:Heap) (k:Frm→PV→Heap→Nat→Option α):Option α :=
 a6S F l o fun F b=>bif b then (match mkData P F l o with
  | none=>bM5 P E l F H o k
  | some none=>none
  | some (some (cs,v))=>aMH cs (k F v H 0)) else k F (.lit undef) H 0
def VF(nt:Nat) (l:List Oper):List Oper→Frm→Heap→(Frm→Heap→Option α)→Option α
 | [],F,H,k=>k F H
 | o::rest,F,H,k=>a9W P E l o F H fun F v H' _=>match aEM nt F o.dst v with
  | some F'=>VF nt l rest F' H' k
  | none=>none
def stK(nt:Nat) (m:Option Nat) (ms:List Nat) (l:List Oper):List Oper→Nat→Frm→Heap→a1Q→(Frm→Heap→a1Q→Option α)→Option α
 | [],_,F,H,hl,k=>k F H hl
 | o::rest,j,F,H,hl,k=>match TG m o j with
  | none=>a9W P E l o F H fun F v H' c=>bif okT m (ms.getD j 0) j (bAU F o) c v H' then (match aEM nt F o.dst v with
   | some F'=>stK nt m ms l rest (j+1) F' H' (bif Nat.beq c 0 then hl else (j,c,bAU F o)::hl) k
   | none=>none) else none
  | some q=>bif aVJ o then (bif fP.noRefs (o.op.operands.toList.map (ev F))&&gF.noRows (o.op.operands.toList.map (ev F)) then a9W P E l o F [] fun F v X _=>match a56 q v X H with
    | some (v,H',c)=>bif okT m (ms.getD j 0) j (some q) c v H' then (match aEM nt F o.dst v with
     | some F'=>stK nt m ms l rest (j+1) F' H' (bif Nat.beq c 0 then hl else (j,c,some q)::hl) k
     | none=>none) else none
    | none=>none else none)
   else match stepT (some q) P (gX P E) l o F H with
   | some (v,H',c)=>bif okT m (ms.getD j 0) j (some q) c v H' then (match aEM nt F o.dst v with
    | some F'=>stK nt m ms l rest (j+1) F' H' ((j,2,some q)::hl) k
    | none=>none) else none
   | none=>none
def LH(nt:Nat) (ops:Array Oper) (draw:Bool) (F:Frm) (H:Heap) (k:Frm→Heap→Option α):Option α :=
 bif draw then (bif aKL ops&&a8I (aGX ops H) F H then stK P E nt (aGX ops H) (qJ ops) ops.toList ops.toList 0 F (bCR (aGX ops H) ops.toList.length H) [] fun F H hl=>bif aQO (qJ ops) hl then k F H else none else none)
 else VF P E nt ops.toList ops.toList F H k
end
section
variable {α:Type} {P:Program} {E:Env} {z:α}
theorem aT7 {b:Bool} {k:Bool→Option α} (h:ask b k=some z):k b=some z:=by cases b <;> exact h
theorem MR:∀ {l:List Bool} {r:Option α},aMH l r=some z→GN l=true∧r=some z
 | [],r,h=>⟨rfl,h⟩
 | b::l,r,h=>by
  simp only[aMH]at h;obtain⟨rfl,h⟩:=aO h;exact MR (l:=l) h
theorem CX {τ:Type} {x:Option τ} {k:τ→Option α} (h:aC x k=some z):∃ y,x=some y∧k y=some z:=by
 cases x with
 | none=>cases h
 | some y=>exact⟨y,rfl,h⟩
theorem a43 {g:FuncId} {args:List PV} {H:Heap} {k:PV→Heap→Nat→Option α} (h:bK5 P E g args H k=some z):∃ v H' c,gX P E g args H=some (v,H',c)∧k v H' c=some z:=by
 unfold bK5 at h;unfold gX callee;cases hsh:E.sh g with
 | true =>
  rw[hsh]at h;simp only[cond_true]at h ⊢;split at h
  ·rename_i r hr
   obtain⟨x,h1,h2⟩:=CX h;exact⟨_,_,_,by simp only[aZG,hr,h1],h2⟩
  ·cases h
 | false =>
  rw[hsh]at h;simp only[cond_false]at h ⊢;cases hn:fP.noRefs args with
  | true =>
   rw[hn]at h;simp only[cond_true]at h ⊢;obtain⟨hnr,h⟩:=aO h;split at h
   ·rename_i r hr
    obtain⟨x,h1,h2⟩:=CX h;exact⟨_,_,_,by simp only[hnr,cond_true,a1M,hr,h1],h2⟩
   ·cases h
  | false =>
   rw[hn]at h;simp only[cond_false]at h ⊢;cases hf:aV2 P g with
   | true =>
    rw[hf]at h;simp only[cond_true]at h ⊢;split at h
    ·rename_i qs hq
     obtain⟨hnr,h⟩:=aO h;split at h
     ·rename_i r hr
      obtain⟨x,h1,h2⟩:=CX h;obtain⟨h3,h2⟩:=aO h2;exact⟨_,_,_,by simp only[hq,hnr,a1M,hr,h1,h3,cond_true],h2⟩
     ·cases h
    ·cases h
   | false =>
    rw[hf]at h;simp only[cond_false]at h ⊢;split at h
    ·rename_i qs hq
     obtain⟨hnr,h⟩:=aO h;split at h
     ·rename_i r hr
      obtain⟨x,h1,h2⟩:=CX h;exact⟨_,_,_,by simp only[hq,hnr,cond_true,a1M,hr,h1],h2⟩
     ·cases h
    ·cases h
theorem a8S {t:Nat} {b:Bool}:∀ {F:Frm},fB F t=.lit (.bool b)→bH5 F t b=F
 | [],_=>rfl
 | (s,p)::r,h=>by
  simp only[fB]at h;simp only[bH5];cases hs:Nat.beq s t with
  | true=>rw[hs]at h; simp only[cond_true]at h ⊢; rw[h]
  | false=>rw[hs]at h; simp only[cond_false]at h ⊢; rw[a8S h]
theorem aFC {F:Frm} {x:Operand} {b:Bool} {k:Frm→Bool→Option α} (h:bCH F x b k=some z) (hx:ev F x=.lit (.bool b)):k F b=some z:=by
 unfold bCH at h;split at h
 ·have:=aT7 h
  rwa[a8S (by simpa only[ev]using hx)]at this
 ·exact aT7 h
theorem aWV {F:Frm} {l:List Oper} {o:Oper} {k:Frm→Bool→Option α} (h:a6S F l o k=some z):∃ b,guardOf F l o=some b∧k F b=some z:=by
 unfold a6S at h;unfold guardOf;cases hg:o.guard with
 | none=>rw[hg]at h; exact⟨true,rfl,h⟩
 | some g =>
  obtain⟨j,want⟩:=g;rw[hg]at h;simp only at h ⊢;cases hp:l[j]? with
  | none=>rw[hp]at h; cases h
  | some p =>
   rw[hp]at h;simp only at h ⊢;cases ht:p.dst with
   | none=>rw[ht]at h; cases h
   | some t =>
    rw[ht]at h;simp only at h ⊢;split at h
    ·rename_i b hb
     have:=aT7 h;rw[a8S hb]at this;exact⟨_,by rw[hb],this⟩
    ·rename_i u hu hb
     refine⟨false,?_,h⟩;rw[hb];cases u <;> first|rfl|exact absurd rfl (hu _)
    ·cases h
theorem bGC {op:BinOp} {k1:IntKind} {a b:Int} {k:Value→Option α} (h:bMW op k1 a b k=some z):∃ v,a9T op k1 a b=some v∧k v=some z:=by
 unfold bMW at h;split at h
 ·cases hb:eqI b 0 with
  | true=>rw[hb]at h; cases h
  | false=>rw[hb]at h; exact⟨_,by simp only[a9T,hb,cond_false],h⟩
 ·cases hb:eqI b 0 with
  | true=>rw[hb]at h; cases h
  | false=>rw[hb]at h; exact⟨_,by simp only[a9T,hb,cond_false],h⟩
 ·split at h
  ·rename_i v hv; exact⟨v,hv,h⟩
  ·cases h
theorem RY {F:Frm} {H:Heap} {o:Oper} {k:Frm→PV→Heap→Nat→Option α} (h:aQ1 P E F H o k=some z):∃ v H' c,opu P (gX P E) F H o=some (v,H',c)∧k F v H' c=some z:=by
 unfold aQ1 at h;split at h
 ·rename_i v H' c hc; exact⟨v,H',c,hc,h⟩
 ·cases h
theorem a9Y {F:Frm} {o:Oper} {op:BinOp} {xt yt:TypeId} {x y:Operand} {k1 k2:IntKind} {a b:Int} {v:Value} (ho:o.op=.binOp op xt x y yt) (hx:ev F x=.lit (.int k1 a)) (hy:ev F y=.lit (.int k2 b)) (hb:ltI b 0=false) (hv:bDB op k1 a b=some v):wT P F o=some (.lit v):=by
 have hb:¬ b<0:=by rw[aI]at hb; exact of_decide_eq_false hb
 have h1:valOf F x=.int k1 a:=by simp[valOf,hx,aXC]
 have h2:valOf F y=.int k2 b:=by simp[valOf,hy,aXC]
 have h3:aCE F o.op.operands.toList=true:=by simp[ho,Op.operands,aCE,hx,hy,aXC]
 have h4:Y6 o.op=false:=by simp[ho,Y6]
 unfold wT;rw[h3,h4];simp only[Bool.not_true,Bool.or_self,cond_false];cases op <;> simp only[bDB]at hv <;> try (cases hv; done)
 all_goals
  simp only[Option.some.injEq]at hv;subst hv;simp[execOp,ho,h1,h2,eqGuard,binOp,Op.shift,hb,YG,aSZ]
  try rfl
theorem bDO {F:Frm} {x:Operand} {k:Frm→Option α} (h:bHY F x k=some z):k F=some z:=by
 unfold bHY at h;split at h
 ·rename_i b hb; exact aFC h hb
 ·exact h
theorem aLQ:∀ {l:List Operand} {F:Frm} {k:Frm→Option α},a7W l F k=some z→k F=some z
 | [],F,k,h=>h
 | x::r,F,k,h=>aLQ (l:=r) (bDO h)
theorem aKR {F:Frm} {H:Heap} {o:Oper} {k:Frm→PV→Heap→Nat→Option α} (h:opK P E F H o k=some z):∃ v H' c,opx P (gX P E) F H o=some (v,H',c)∧k F v H' c=some z:=by
 unfold opK at h;unfold opx;cases ht:typed P F o with
 | true =>
  rw[ht]at h;simp only[cond_true]at h ⊢;split at h
  ·rename_i cs v H' c hc
   obtain⟨h1,h2⟩:=MR h;exact⟨v,H',c,by simp only[hc,h1,cond_true],h2⟩
  ·cases h
 | false =>
  rw[ht]at h;simp only[cond_false]at h ⊢;split at h
  ·rename_i op xt x y yt ho
   split at h
   ·rename_i k1 a k2 b hx hy
    cases hsh:a7P op with
    | true =>
     rw[hsh]at h;simp only[cond_true]at h;cases hb:ltI b 0 with
     | true=>rw[hb]at h; cases h
     | false =>
      rw[hb]at h;simp only[cond_false]at h;split at h
      ·rename_i v hv
       have hp:=a9Y (P:=P) ho hx hy hb hv;have hxb:a9T op k1 a b=none:=by cases op <;> simp only[a7P]at hsh <;> first|rfl|(cases hsh; done)
       refine⟨_,_,_,?_,h⟩;simp only[opu,ho,hx,hy,hxb,hp,p0,Bool.cond_self]
      ·cases h
    | false =>
    rw[hsh]at h;simp only[cond_false]at h;cases hb:(TE k1 k2&&isX op)with
    | true =>
     rw[hb]at h;simp only[cond_true]at h;simp only[Bool.and_eq_true]at hb;obtain⟨v,h1,h2⟩:=bGC h;exact⟨_,_,_,by simp only[opu,ho,hx,hy,hb.1,cond_true,h1],h2⟩
    | false=>rw[hb]at h; exact RY h
   ·exact RY (aLQ h)
  ·exact RY (aLQ h)
  ·rename_i c a b ho
   split at h
   ·rename_i t hc
    exact⟨_,_,_,by simp only[opu,ho,hc],aFC h hc⟩
   ·cases h
  ·rename_i c ho
   split at h
   ·rename_i f hc
    split at h
    ·rename_i g first caps hf
     obtain⟨v,H',c',h1,h2⟩:=a43 h;exact⟨v,H',c',by simp only[opu,ho,hc,hf,h1],h2⟩
    ·rename_i g first caps hf
     obtain⟨v,H',c',h1,h2⟩:=a43 h;exact⟨v,H',c',by simp only[opu,ho,hc,hf,h1],h2⟩
    ·cases h
   ·exact RY h
  ·exact RY h
theorem aBO {f:Int→Option α} {v:Int}:∀ {n j:Nat},aU2 n j v f=some z→f v=some z
 | 0,_,h=>by cases h
 | n+1,j,h=>by
  unfold aU2 at h;cases hb:eqI v (j:Int)with
  | true =>
   rw[hb]at h;rw[jS,decide_eq_true_eq]at hb;rw[hb]; exact h
  | false =>
   rw[hb]at h;exact aBO h
theorem bKI {p:PV} (h:bMD p=true):isT p=false:=by cases p <;> first|rfl|cases h
theorem bG9 {l:List Oper} {F:Frm} {H:Heap} {o:Oper} {k:Frm→PV→Heap→Nat→Option α} (h:bM5 P E l F H o k=some z):∃ v H' c,opz P (gX P E) l F H o=some (v,H',c)∧k F v H' c=some z:=by
 unfold bM5 at h;split at h
 ·rename_i t n c ho
  cases hb:a0H l o.dst with
  | false =>
   rw[hb]at h;obtain⟨v,H',c',h1,h2⟩:=aKR h;exact⟨v,H',c',by simp only[opz,ho,hb,cond_false,h1],h2⟩
  | true =>
   rw[hb]at h;simp only[cond_true]at h;split at h
   ·rename_i cs v1 H1 k1 h1
    obtain⟨h3,h4⟩:=MR h;exact⟨_,_,_,by simp only[opz,ho,hb,cond_true,h1,h3],h4⟩
   ·cases h
 ·rename_i t x i ho
  have plain:opK P E F H o k=some z→∃ v H' c,opz P (gX P E) l F H o=some (v,H',c)∧k F v H' c=some z:=fun h=>by
   obtain⟨v,H',c',h1,h2⟩:=aKR h;exact⟨v,H',c',by simp only[opz,ho,h1],h2⟩
  split at h
  ·rename_i n k1 v hn hv
   cases hb:a27 (ev F x)with
   | false =>
    rw[hb]at h;simp only[cond_false]at h;cases hb2:bMD (ev F x)with
    | false=>rw[hb2]at h; exact plain h
    | true =>
     rw[hb2]at h;simp only[cond_true]at h;have h:=aBO h;split at h
     ·rename_i p H1 c1 h1
      refine⟨_,_,_,?_,h⟩;have ht:typed P F o=false:=by simp only[typed,ho,hb,bKI hb2,Bool.or_false]
      simp only[opz,ho,opx,ht,cond_false,opu,hv,h1]
     ·cases h
   | true =>
    rw[hb]at h;simp only[cond_true]at h;have h:=aBO h;split at h
    ·rename_i cs p H1 c1 h1
     obtain⟨h3,h4⟩:=MR h;refine⟨_,_,_,?_,h4⟩;have ht:typed P F o=true:=by simp only[typed,ho,hb,Bool.or_true]
     simp only[opz,ho,opx,ht,cond_true,top,hv,h1,h3]
    ·cases h
  ·exact plain h
 ·rename_i t x i ho
  have plain:opK P E F H o k=some z→∃ v H' c,opz P (gX P E) l F H o=some (v,H',c)∧k F v H' c=some z:=fun h=>by
   obtain⟨v,H',c',h1,h2⟩:=aKR h;exact⟨v,H',c',by simp only[opz,ho,h1],h2⟩
  split at h
  ·rename_i n k1 v hn hv
   cases hb:bNU (ev F x)with
   | false=>rw[hb]at h; exact plain h
   | true =>
    rw[hb]at h;simp only[cond_true]at h;have h:=aBO h;split at h
    ·rename_i p H1 c1 h1
     refine⟨_,_,_,?_,h⟩;obtain⟨cs,hcs⟩:∃ cs,ev F x=.agg cs:=by
      revert hb
      cases ev F x <;> intro hb <;> first|exact⟨_,rfl⟩|cases hb
     have ht:typed P F o=false:=by simp only[typed,ho,hcs,isS]
     simp only[opz,ho,opx,ht,cond_false,opu,hv,hcs];rw[hcs]at h1;unfold bM2 at hn;split at hn
     ·rename_i n1 e1 hu
      unfold xIdx at h1;simp only[hu]at h1 ⊢;exact h1
     ·cases hn
    ·cases h
  ·exact plain h
 ·rename_i t x lo hi ho
  have plain:opK P E F H o k=some z→∃ v H' c,opz P (gX P E) l F H o=some (v,H',c)∧k F v H' c=some z:=fun h=>by
   obtain⟨v,H',c',h1,h2⟩:=aKR h;exact⟨v,H',c',by simp only[opz,ho,h1],h2⟩
  split at h
  ·rename_i r sz hx
   split at h
   ·rename_i g e hg hu
    cases hb:aZN g.t with
    | false=>rw[hb]at h; exact plain h
    | true =>
     rw[hb]at h;simp only[cond_true]at h;split at h
     ·rename_i n hn
      obtain⟨hbn,h⟩:=aO h;replace h:=aT7 h;split at h
      ·rename_i cs v H1 c1 h1
       obtain⟨h3,h4⟩:=MR h;refine⟨_,_,_,?_,h4⟩;have ht:typed P F o=true:=by simp only[typed,ho,hx,isT,Bool.true_or]
       simp only[opz,ho,opx,ht,cond_true,top,hx,isS,cond_false,aCT,hu,hn,hg,hbn,hb,Bool.true_and,h1,h3]
      ·cases h
     ·cases h
   ·exact plain h
  ·exact plain h
 ·rename_i hno hno2 hno3 hno4
  obtain⟨v,H',c',h1,h2⟩:=aKR h;refine⟨v,H',c',?_,h2⟩;unfold opz;split
  ·rename_i t n c ho
   exact(hno t n c ho).elim
  ·exact h1
theorem aQ8 {l:List Oper} {F:Frm} {H:Heap} {o:Oper} {k:Frm→PV→Heap→Nat→Option α} (h:a9W P E l o F H k=some z):∃ v H' c,BC P (gX P E) l o F H=some (v,H',c)∧k F v H' c=some z:=by
 unfold a9W at h;obtain⟨b,h1,h2⟩:=aWV h;unfold BC;cases b with
 | true =>
  simp only[h1];simp only[cond_true]at h2;split at h2
  ·rename_i hm
   simp only[hm];exact bG9 h2
  ·cases h2
  ·rename_i cs v hm
   obtain⟨h3,h4⟩:=MR h2;exact⟨_,_,_,by simp only[hm,h3,cond_true],h4⟩
 | false=>exact⟨_,_,_,by simp only[h1],h2⟩
theorem EF {nt:Nat} {l:List Oper} {k:Frm→Heap→Option α}:∀ {r:List Oper} {F:Frm} {H:Heap},VF P E nt l r F H k=some z→∃ F' H',aCC P (gX P E) nt l r F H=some (F',H')∧k F' H'=some z
 | [],F,H,h=>⟨F,H,rfl,h⟩
 | o::r,F,H,h=>by
  simp only[VF]at h;obtain⟨v,H1,c,h1,h2⟩:=aQ8 h;split at h2
  ·rename_i F1 hp
   obtain⟨F',H',h3,h4⟩:=EF h2;refine⟨F',H',?_,h4⟩;simp only[aCC,h1,aQU,hp,N4,Bool.cond_self,h3]
  ·cases h2
theorem aS2 {nt:Nat} {m:Option Nat} {ms:List Nat} {l:List Oper} {F0:Frm} {H0:Heap} {k:Frm→Heap→a1Q→Option α}:∀ {r:List Oper} {j:Nat} {F:Frm} {H:Heap} {hl:a1Q},stK P E nt m ms l r j F H hl k=some z→r=l.drop j→j≤l.length→aNQ P (gX P E) nt m ms l F0 H0 j=some (F,H,hl)→∃ F' H' hl',aNQ P (gX P E) nt m ms l F0 H0 l.length=some (F',H',hl')∧k F' H' hl'=some z
 | [],j,F,H,hl,h,hr,hjl,hs=>by
  have h1:(l.drop j).length=0:=by rw[← hr]; rfl
  rw[List.length_drop]at h1;have h2:j=l.length:=by omega
  subst h2;exact⟨F,H,hl,hs,h⟩
 | o::r,j,F,H,hl,h,hr,hjl,hs=>by
  have hj:l[j]?=some o:=by
   have:(l.drop j)[0]?=some o:=by rw[← hr]; rfl
   simpa using this
  have hr':r=l.drop (j+1):=by
   have:(l.drop j).tail=r:=by rw[← hr]; rfl
   rw[← this,List.tail_drop]
  simp only[stK]at h;split at h
  ·rename_i hres
   obtain⟨v,H1,c,h1,h2⟩:=aQ8 h;obtain⟨hok,h2⟩:=aO h2;split at h2
   ·rename_i F1 hp
    refine aS2 h2 hr' (List.getElem?_eq_some_iff.1 hj).1 ?_;simp only[aNQ,hs,hj,hres,stepT,h1,hok,cond_true,aQU,hp,N4,aTV];cases Nat.beq c 0 <;> rfl
   ·cases h2
  ·rename_i q hres
   cases hcall:aVJ o with
   | true =>
    rw[hcall]at h;simp only[cond_true]at h;obtain⟨hnr,h⟩:=aO h;obtain⟨v0,X,c0,h1,h⟩:=aQ8 h;split at h
    ·rename_i v H1 c hct
     obtain⟨hok,h2⟩:=aO h;split at h2
     ·rename_i F1 hp
      refine aS2 h2 hr' (List.getElem?_eq_some_iff.1 hj).1 ?_;have hop:∃ cc,o.op=.call cc:=by
       unfold aVJ at hcall;split at hcall
       ·unfold aUN at hcall
        split at hcall
        ·rename_i cc hcc; exact⟨cc,hcc⟩
        ·cases hcall
       ·cases hcall
      obtain⟨cc,hop⟩:=hop;have hst:stepT (some q) P (gX P E) l o F H=some (v,H1,c):=by
       simp only[stepT,hop];rw[← hop,hnr,cond_true,h1];exact hct
      simp only[aNQ,hs,hj,hres,hst,hok,cond_true,aQU,hp,N4,aTV];cases Nat.beq c 0 <;> rfl
     ·cases h2
    ·cases h
   | false =>
   rw[hcall]at h;simp only[cond_false]at h;split at h
   ·rename_i v H1 c h1
    obtain⟨hok,h2⟩:=aO h;split at h2
    ·rename_i F1 hp
     refine aS2 h2 hr' (List.getElem?_eq_some_iff.1 hj).1 ?_;have hc:c=2:=by
      simp only[stepT]at h1;split at h1
      ·split at h1
       ·obtain⟨_,h1⟩:=aO h1
        simp only[Option.some.injEq,Prod.mk.injEq]at h1;exact h1.2.2.symm
       ·cases h1
      ·obtain⟨_,h1⟩:=aO h1
       split at h1
       ·rcases YP h1 with ⟨_,_,_,_,_,_,h1,_⟩|⟨_,_,_,_,_⟩
        ·exact h1
        ·obtain⟨_,_,_,ha⟩:=aUT hres
         unfold aHR at ha;rw[hcall,Bool.or_false]at ha;unfold isVar at ha;split at ha
         ·simp_all
         ·cases ha
       ·cases h1
      ·cases h1
     subst hc;simp only[aNQ,hs,hj,hres,h1,hok,cond_true,aQU,hp,N4,aTV];rfl
    ·cases h2
   ·cases h
theorem aF6 {nt:Nat} {ops:Array Oper} {F:Frm} {H:Heap} {k:Frm→Heap→Option α} (h:LH P E nt ops true F H k=some z):∃ F' H',aH8 P (gX P E) nt ops F H=some (F',H')∧k F' H'=some z:=by
 unfold LH at h;simp only[cond_true]at h;obtain⟨h1,h⟩:=aO h;obtain⟨F',H',hl,h2,h3⟩:=aS2 h (F0:=F) (H0:=bCR (aGX ops H) ops.toList.length H) (by simp) (Nat.zero_le _) rfl
 obtain⟨h4,h3⟩:=aO h3;exact⟨F',H',by simp only[aH8,h1,cond_true,h2,h4],h3⟩
theorem a4B {nt:Nat} {id:Nat} {ops:Array Oper} {draw:Bool} {F:Frm} {H:Heap} {k:Frm→Heap→Option α} (hcl:fQ P (gX P E)) (hP:P.follows .mixedOrders=true) (h:LH P E nt ops draw F H k=some z) :
  ∃ F' H',k F' H'=some z∧∀ {n0 wi Gi μi a w} {Q:Exit→Act→World→Prop},I n0 wi Gi μi nt F H a w→(∀ a' w',I n0 wi Gi μi nt F' H' a' w'→Q .normal a' w')→(Code.region id ops draw).wp P Q a w:=by
 cases draw with
 | true =>
  obtain⟨F',H',h2,h3⟩:=aF6 h;exact⟨F',H',h3,fun hI hQ=>a3C hcl hP h2 hI hQ⟩
 | false =>
  unfold LH at h;simp only[cond_false]at h;obtain⟨F',H',h2,h3⟩:=EF h;exact⟨F',H',h3,fun hI hQ=>wp_region_list (JD hcl ops.toList F H _ _ h2 hI hQ)⟩
end
end Go.PM
namespace Go.PM
open Go Go.RowKit
def aKZ {α:Type} (m:Nat):Frm→(Frm→α)→α
 | [],k=>k []
 | (t,p)::r,k=>bif aTJ m t then aKZ m r (fun r=>k ((t,p)::r)) else aKZ m r k
theorem WV {α:Type} (m:Nat):∀ (F:Frm) (k:Frm→α),∃ F',aKZ m F k=k F'∧∀ t,fB F' t=fB F t∨fB F' t=.junk
 | [],k=>⟨[],rfl,fun t=>.inl rfl⟩
 | (s,p)::r,k=>by
  simp only[aKZ];cases hs:aTJ m s with
  | true =>
   obtain⟨F',h1,h2⟩:=WV m r fun r=>k ((s,p)::r)
   refine⟨(s,p)::F',h1,fun t=>?_⟩
   rw[jV,jV]
   by_cases hts:t=s
   ·subst hts; simp
   ·simp only[hts,if_false]; exact h2 t
  | false =>
   have key:∀ (F:Frm) (k:Frm→α),∃ F',aKZ m F k=k F'∧∀ t,fB F' t=if aTJ m t then fB F t else .junk:=by
    intro F
    induction F with
    | nil=>intro k; exact⟨[],rfl,fun t=>by simp[fB]⟩
    | cons x r ih =>
     intro k;obtain⟨s,p⟩:=x;simp only[aKZ];cases hs:aTJ m s with
     | true =>
      obtain⟨F',h1,h2⟩:=ih fun r=>k ((s,p)::r)
      refine⟨(s,p)::F',h1,fun t=>?_⟩
      rw[jV,jV,h2 t]
      by_cases hts:t=s
      ·subst hts; simp[hs]
      ·simp[hts]
     | false =>
      obtain⟨F',h1,h2⟩:=ih k;refine⟨F',h1,fun t=>?_⟩
      rw[jV,h2 t]
      by_cases hts:t=s
      ·subst hts; simp[hs]
      ·simp[hts]
   obtain⟨F',h1,h2⟩:=key r k;refine⟨F',h1,fun t=>?_⟩
   rw[jV,h2 t]
   by_cases hts:t=s
   ·subst hts; simp[hs]
   ·simp only[hts,if_false]
    cases aTJ m t <;> simp
@[reducible] def aW:List (Ex×List (Nat×Kd))→Type
 | []=>Empty
 | [(_,s)]=>Shape.den s
 | (_,s)::b::r=>Shape.den s⊕aW (b::r)
structure aS where
 sh:List (Nat×Kd)
 exits:List (Ex×List (Nat×Kd))
 run:Shape.den sh→Option (aW exits)
def I7:(l:List (Ex×List (Nat×Kd)))→aW l→Ex×Frm×Heap
 | [],z=>Empty.elim z
 | [(e,s)],z=>(e,EG s z 0,PO s z)
 | (e,s)::b::r,z=>match z with
  | .inl x=>(e,EG s x 0,PO s x)
  | .inr y=>I7 (b::r) y
def bCA {α:Type}:(l:List (Ex×List (Nat×Kd)))→aW l→(Ex→Frm→Heap→Option α)→Option α
 | [],z,_=>Empty.elim z
 | [(e,s)],z,k=>k e (EG s z 0) (PO s z)
 | (e,s)::b::r,z,k=>BN z (fun x=>k e (EG s x 0) (PO s x)) (fun y=>bCA (b::r) y k)
def bA7:Ex→Ex→Bool
 | .normal,.normal=>true
 | .exit i,.exit j=>Nat.beq i j
 | .ret,.ret=>true
 | _,_=>false
def aPA:(l:List (Ex×List (Nat×Kd)))→Ex→Frm→Heap→Option (aW l)
 | [],_,_,_=>none
 | [(e,s)],ex,F,H=>bif bA7 e ex then aAW s F H else none
 | (e,s)::b::r,ex,F,H=>bif bA7 e ex then (match aAW s F H with|some x=>some (.inl x)|none=>none) else (match aPA (b::r) ex F H with|some y=>some (.inr y)|none=>none)
section
variable {α:Type} (P:Program) (E:Env) (nt aZ:Nat) (lt:Nat→Option aS)
def K5:Code→Frm→Heap→(Ex→Frm→Heap→Option α)→Option α
 | .skip,F,H,k=>k .normal F H
 | .label _,F,H,k=>k .normal F H
 | .region _ ops draw,F,H,k=>LH P E nt ops draw F H fun F H=>aKZ aZ F fun F=>k .normal F H
 | .seq a b,F,H,k=>K5 a F H fun ex F H=>match ex with
  | .normal=>K5 b F H k
  | .exit i=>k (.exit i) F H
  | .ret=>k .ret F H
 | .cond c a b,F,H,k=>match ev F c with
  | .lit (.bool t)=>bCH F c t fun F t=>bif t then K5 a F H k else K5 b F H k
  | _=>none
 | .block id a,F,H,k=>K5 a F H fun ex F H=>match ex with
  | .exit i=>bif Nat.beq i id then k .normal F H else k (.exit i) F H
  | .normal=>k .normal F H
  | .ret=>k .ret F H
 | .loop a,F,H,k=>match lt (aH a)with
  | some s=>match aAW s.sh F H with
   | some x=>aC (s.run x) fun z=>bCA s.exits z k
   | none=>none
  | none=>none
 | .exit id,F,H,k=>k (.exit id) F H
 | .scope a,F,H,k=>K5 a F H k
 | .ret,F,H,k=>k .ret F H
 | _,_,_,_=>none
def a08(sh:List (Nat×Kd)) (exits:List (Ex×List (Nat×Kd))) (ex:Ex) (F:Frm) (H:Heap):Option (Shape.den sh⊕aW exits):=match ex with
 | .normal=>match aAW sh F H with
  | some y=>some (.inl y)
  | none=>none
 | .exit i=>match aPA exits (.exit i) F H with
  | some z=>some (.inr z)
  | none=>none
 | .ret=>match aPA exits .ret F H with
  | some z=>some (.inr z)
  | none=>none
def dM(a:Code) (sh:List (Nat×Kd)) (exits:List (Ex×List (Nat×Kd))) (x:Shape.den sh):Option (Shape.den sh⊕aW exits) :=
 K5 P E nt aZ lt a (EG sh x 0) (PO sh x) (a08 sh exits)
end
def bZ {σ τ:Type} (step:σ→Option (σ⊕τ)):Nat→σ→Option τ
 | 0,_=>none
 | n+1,x=>match step x with
  | some (.inl y)=>bZ step n y
  | some (.inr z)=>some z
  | none=>none
def aF:Code→List Code
 | .seq a b=>aF a++aF b
 | .cond _ a b=>aF a++aF b
 | .block _ a=>aF a
 | .scope a=>aF a
 | .loop a=>[a]
 | _=>[]
section
variable {α:Type} {P:Program} {E:Env} {nt aZ:Nat} {lt:Nat→Option aS}
def bNJ(P:Program) (nt:Nat) (c:Code) (F:Frm) (H:Heap) (r:Ex×Frm×Heap):Prop :=
 ∀ (n0:Nat→Prop) (wi:World) (Gi:Gd) (μi:Mp) (a:Act) (w:World),(∀ r,μi.loc r=none∧μi.len r=none)→I n0 wi Gi μi nt F H a w→bN0 P n0 wi Gi μi nt c a w r
def cF(P:Program) (nt:Nat) (a:Code) (s:aS):Prop :=
 ∀ x z,s.run x=some z→bNJ P nt (.loop a) (EG s.sh x 0) (PO s.sh x) (I7 s.exits z)
theorem WX:∀ {l:List (Ex×List (Nat×Kd))} {z:aW l} {k:Ex→Frm→Heap→Option α} {y:α},bCA l z k=some y→k (I7 l z).1 (I7 l z).2.1 (I7 l z).2.2=some y
 | [],z,_,_,_=>Empty.elim z
 | [(e,s)],z,k,y,h=>h
 | (e,s)::b::r,z,k,y,h=>by
  cases z with
  | inl x=>exact h
  | inr x=>exact WX (l:=b::r) (z:=x) h
theorem aY1 {a b:Ex} (h:bA7 a b=true):a=b:=by
 cases a <;> cases b <;> simp only[bA7]at h <;> first|rfl|(cases h; done)|exact congrArg Ex.exit (Nat.eq_of_beq_eq_true h)
theorem aLC {n0:Nat→Prop} {wi:World} {Gi:Gd} {μi:Mp} (hfl:∀ r,μi.loc r=none∧μi.len r=none) {ex:Ex} {F:Frm} {H:Heap}:∀ {l:List (Ex×List (Nat×Kd))} {z:aW l},aPA l ex F H=some z →
  (I7 l z).1=ex∧∀ a w,I n0 wi Gi μi nt F H a w→I n0 wi Gi μi nt (I7 l z).2.1 (I7 l z).2.2 a w
 | [],z,_=>Empty.elim z
 | [(e,s)],z,h=>by
  simp only[aPA]at h;obtain⟨hb,h⟩:=aO h;exact⟨aY1 hb,fun a w hI=>K3 h hfl hI⟩
 | (e,s)::b::r,z,h=>by
  simp only[aPA]at h;cases hb:bA7 e ex with
  | true =>
   rw[hb]at h;simp only[cond_true]at h;split at h
   ·rename_i x hx
    simp only[Option.some.injEq]at h;subst h;exact⟨aY1 hb,fun a w hI=>K3 hx hfl hI⟩
   ·cases h
  | false =>
   rw[hb]at h;simp only[cond_false]at h;split at h
   ·rename_i x hx
    simp only[Option.some.injEq]at h;subst h;exact aLC hfl (l:=b::r) (z:=x) hx
   ·cases h
theorem sM(hcl:fQ P (gX P E)) (hP:P.follows .mixedOrders=true):∀ (c:Code) (F:Frm) (H:Heap) (k:Ex→Frm→Heap→Option α) (z:α),(∀ a∈aF c,∀ s,lt (aH a)=some s→cF P nt a s) →
  K5 P E nt aZ lt c F H k=some z→∃ r:Ex×Frm×Heap,k r.1 r.2.1 r.2.2=some z∧bNJ P nt c F H r
 | .skip,F,H,k,z,hl,h=>⟨(.normal,F,H),h,fun _ _ _ _ _ _ _ hI=>wp_skip ⟨rfl,hI⟩⟩
 | .label l,F,H,k,z,hl,h=>⟨(.normal,F,H),h,fun _ _ _ _ _ _ _ hI=>wp_label ⟨rfl,hI⟩⟩
 | .region id ops draw,F,H,k,z,hl,h=>by
  simp only[K5]at h;obtain⟨F1,H1,h1,h2⟩:=a4B (id:=id) hcl hP h;obtain⟨F2,h3,h4⟩:=WV aZ F1 fun F=>k .normal F H1
  rw[h3]at h1;exact⟨(.normal,F2,H1),h1,fun _ _ _ _ _ _ _ hI=>h2 hI fun a' w' hI'=>⟨rfl,hI'.bK4 h4⟩⟩
 | .seq x y,F,H,k,z,hl,h=>by
  simp only[K5]at h;obtain⟨⟨ex,F1,H1⟩,h1,h2⟩:=sM hcl hP x F H _ z (fun a ha=>hl a (by simp[aF,ha])) h
  cases ex with
  | normal =>
   obtain⟨r,h3,h4⟩:=sM hcl hP y F1 H1 k z (fun a ha=>hl a (by simp[aF,ha])) h1
   refine⟨r,h3,fun n0 wi Gi μi a w hfl hI=>wp_seq (wp_mono (h2 n0 wi Gi μi a w hfl hI) ?_)⟩
   rintro e a' w' ⟨rfl,hI'⟩;exact h4 n0 wi Gi μi a' w' hfl hI'
  | exit i =>
   refine⟨(.exit i,F1,H1),h1,fun n0 wi Gi μi a w hfl hI=>wp_seq (wp_mono (h2 n0 wi Gi μi a w hfl hI) ?_)⟩
   rintro e a' w' ⟨rfl,hI'⟩;exact⟨rfl,hI'⟩
  | ret =>
   refine⟨(.ret,F1,H1),h1,fun n0 wi Gi μi a w hfl hI=>wp_seq (wp_mono (h2 n0 wi Gi μi a w hfl hI) ?_)⟩
   rintro e a' w' ⟨rfl,hI'⟩;exact⟨rfl,hI'⟩
 | .cond c x y,F,H,k,z,hl,h=>by
  simp only[K5]at h;split at h
  ·rename_i t ht
   replace h:=aFC h ht;have hc:∀ {n0 wi Gi μi a w},I n0 wi Gi μi nt F H a w→a.eval c=.bool t:=fun hI=>by
    obtain⟨G,μ,e,hW,hF⟩:=hI;have hc:=dN hF c;rwa[ht,VR]at hc
   cases t with
   | true =>
    obtain⟨r,h3,h4⟩:=sM hcl hP x F H k z (fun a ha=>hl a (by simp[aF,ha])) h
    exact⟨r,h3,fun n0 wi Gi μi a w hfl hI=>wp_cond (hc hI) (h4 n0 wi Gi μi a w hfl hI)⟩
   | false =>
    obtain⟨r,h3,h4⟩:=sM hcl hP y F H k z (fun a ha=>hl a (by simp[aF,ha])) h
    exact⟨r,h3,fun n0 wi Gi μi a w hfl hI=>wp_cond (hc hI) (h4 n0 wi Gi μi a w hfl hI)⟩
  ·cases h
 | .block id x,F,H,k,z,hl,h=>by
  simp only[K5]at h;obtain⟨⟨ex,F1,H1⟩,h1,h2⟩:=sM hcl hP x F H _ z (fun a ha=>hl a (by simp[aF,ha])) h
  cases ex with
  | normal =>
   refine⟨(.normal,F1,H1),h1,fun n0 wi Gi μi a w hfl hI=>wp_block (wp_mono (h2 n0 wi Gi μi a w hfl hI) ?_)⟩
   rintro e a' w' ⟨rfl,hI'⟩;exact⟨rfl,hI'⟩
  | ret =>
   refine⟨(.ret,F1,H1),h1,fun n0 wi Gi μi a w hfl hI=>wp_block (wp_mono (h2 n0 wi Gi μi a w hfl hI) ?_)⟩
   rintro e a' w' ⟨rfl,hI'⟩;exact⟨rfl,hI'⟩
  | exit i =>
   simp only at h1;cases hi:Nat.beq i id with
   | true =>
    rw[hi]at h1;have:=Nat.eq_of_beq_eq_true hi;subst this;refine⟨(.normal,F1,H1),h1,fun n0 wi Gi μi a w hfl hI=>wp_block (wp_mono (h2 n0 wi Gi μi a w hfl hI) ?_)⟩
    rintro e a' w' ⟨rfl,hI'⟩;simp only[Ex.to,Exit.inBlock,if_true];exact⟨trivial,hI'⟩
   | false =>
    rw[hi]at h1;have hne:¬ i=id:=fun e=>by rw[e]at hi; simp at hi
    refine⟨(.exit i,F1,H1),h1,fun n0 wi Gi μi a w hfl hI=>wp_block (wp_mono (h2 n0 wi Gi μi a w hfl hI) ?_)⟩
    rintro e a' w' ⟨rfl,hI'⟩;simp only[Ex.to,Exit.inBlock,hne,if_false];exact⟨trivial,hI'⟩
 | .loop x,F,H,k,z,hl,h=>by
  simp only[K5]at h;split at h
  ·rename_i s hs
   split at h
   ·rename_i x0 hx
    obtain⟨y,h1,h2⟩:=CX h;exact⟨I7 s.exits y,WX h2,fun n0 wi Gi μi a w hfl hI=>hl x (by simp[aF]) s hs x0 y h1 n0 wi Gi μi a w hfl (K3 hx hfl hI)⟩
   ·cases h
  ·cases h
 | .exit id,F,H,k,z,hl,h=>⟨(.exit id,F,H),h,fun _ _ _ _ _ _ _ hI=>wp_exit ⟨rfl,hI⟩⟩
 | .scope x,F,H,k,z,hl,h=>by
  simp only[K5]at h;obtain⟨⟨ex,F1,H1⟩,h1,h2⟩:=sM hcl hP x F H _ z (fun a ha=>hl a (by simp[aF,ha])) h
  refine⟨(ex,F1,H1),h1,fun n0 wi Gi μi a w hfl hI=>wp_scope_straight (wp_mono (h2 n0 wi Gi μi a w hfl hI) ?_)⟩
  rintro e a' w' ⟨rfl,hI'⟩;cases ex <;> exact⟨rfl,hI'⟩
 | .ret,F,H,k,z,hl,h=>⟨(.ret,F,H),h,fun _ _ _ _ _ _ _ hI=>wp_ret ⟨rfl,hI⟩⟩
 | .rangeFunc ..,F,H,k,z,hl,h=>by simp only[K5]at h; cases h
 | .goto l,F,H,k,z,hl,h=>by simp only[K5]at h; cases h
 | .refuse s,F,H,k,z,hl,h=>by simp only[K5]at h; cases h
theorem cC(hcl:fQ P (gX P E)) (hP:P.follows .mixedOrders=true) {a:Code} {sh:List (Nat×Kd)} {exits:List (Ex×List (Nat×Kd))} {step:Shape.den sh→Option (Shape.den sh⊕aW exits)} (L:Nat)
  (hl:∀ b∈aF a,∀ s,lt (aH b)=some s→cF P nt b s) (hr:∀ x,dM P E nt aZ lt a sh exits x=step x):cF P nt a ⟨sh,exits,bZ step L⟩:=by
 intro x z hz n0 wi Gi μi act w hfl hI;refine wp_loop_ghost (fun k a w=>∃ x,bZ step k x=some z∧I n0 wi Gi μi nt (EG sh x 0) (PO sh x) a w) L ⟨x,hz,hI⟩ ?_
 rintro k act w ⟨x,hz,hI⟩;cases k with
 | zero=>cases hz
 | succ k =>
  simp only[bZ]at hz;split at hz
  ·rename_i y hs
   rw[← hr]at hs;obtain⟨⟨ex,F',H'⟩,h1,h2⟩:=sM hcl hP a _ _ _ _ hl hs;refine wp_mono (h2 n0 wi Gi μi act w hfl hI) ?_;rintro e a' w' ⟨rfl,hI'⟩;cases ex with
   | normal =>
    simp only[a08]at h1;split at h1
    ·rename_i y' hy
     simp only[Option.some.injEq,Sum.inl.injEq]at h1;subst h1;exact⟨k,by omega,y',hz,K3 hy hfl hI'⟩
    ·cases h1
   | exit i =>
    simp only[a08]at h1;split at h1
    ·simp at h1
    ·cases h1
   | ret =>
    simp only[a08]at h1;split at h1
    ·simp at h1
    ·cases h1
  ·rename_i y hs
   simp only[Option.some.injEq]at hz;subst hz;rw[← hr]at hs;obtain⟨⟨ex,F',H'⟩,h1,h2⟩:=sM hcl hP a _ _ _ _ hl hs;refine wp_mono (h2 n0 wi Gi μi act w hfl hI) ?_;rintro e a' w' ⟨rfl,hI'⟩;cases ex with
   | normal =>
    simp only[a08]at h1;split at h1
    ·simp at h1
    ·cases h1
   | exit i =>
    simp only[a08]at h1;split at h1
    ·rename_i y' hy
     simp only[Option.some.injEq,Sum.inr.injEq]at h1;subst h1;obtain⟨h3,h4⟩:=aLC (nt:=nt) (n0:=n0) (wi:=wi) (Gi:=Gi) hfl hy;have h5:=h4 a' w' hI';exact⟨by rw[h3],h5⟩
    ·cases h1
   | ret =>
    simp only[a08]at h1;split at h1
    ·rename_i y' hy
     simp only[Option.some.injEq,Sum.inr.injEq]at h1;subst h1;obtain⟨h3,h4⟩:=aLC (nt:=nt) (n0:=n0) (wi:=wi) (Gi:=Gi) hfl hy;have h5:=h4 a' w' hI';exact⟨by rw[h3],h5⟩
    ·cases h1
  ·cases hz
end
end Go.PM
