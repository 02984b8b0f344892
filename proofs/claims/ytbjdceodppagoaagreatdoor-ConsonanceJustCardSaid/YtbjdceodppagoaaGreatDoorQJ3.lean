/- Texts of one proof, joined (3). -/
import Derived.Laws.Strings
import Derived.MapKept
import Derived.RangeFuncRecord
import Derived.Lib.ConvBytes
import Derived.Laws.BytesString
import Derived.Lib.AppendZerosOnto
import Derived.Lib.SliceRun
import Derived.WalkSpells
import Derived.Test.YtbjdceodppagoaaGreatDoorQJ2
set_option linter.unusedSimpArgs false
set_option linter.unusedVariables false
noncomputable section
namespace Go.PM
open Go Go.RowKit
section
variable {P:Program} {n0:Nat->Prop} {w:World} {G:Gd} {μ:Mp} {H:Heap} {F:Frm} {a:Act} {nt:Nat}
theorem aPG(hW:aO n0 G μ H w) r:∃ G',Ext n0 w G μ w G' μ/\aO n0 G' μ (L8 H r) w:=by
 unfold L8;split
 next k hk=>
  cases hf:k.frozen with
  | true=>exact⟨G,Ext.refl _ _ _ _,hW⟩
  | false=>exact⟨_,xI hW (aH hk) hf⟩
 ·exact⟨G,Ext.refl _ _ _ _,hW⟩
theorem CE:∀ rs H G,aO n0 G μ H w->∃ G',Ext n0 w G μ w G' μ/\aO n0 G' μ (BU H rs) w
 | [],H,G,hW=>⟨G,Ext.refl _ _ _ _,hW⟩
 | r::rs,H,G,hW=>by
  obtain⟨G1,e1,h1⟩:=aPG hW r;obtain⟨G2,e2,h2⟩:=CE rs _ G1 h1;exact⟨G2,e1.trans e2,h2⟩
theorem E5(hW:aO n0 G μ H w) {r sz:Nat} {k:Blk} {g:Tg} {v:Value} (hv:VR w G μ (.own r sz) v) (hk:gS H r=some k) (hg:k.tag=some g) {G':Gd} (hG:∀ b,G b->G' b) (hB:∀ b,μ.loc r=some b->G' b) (hR:∀ j b,G.row j=some b->G'.row j=some b:=by exact λ_ _ h=>h):VR w G' aG (q9 g.t g.l none) v:=by
 obtain⟨ht1,ht2⟩:=hW.tags r k g (aH hk) hg;have hm:Mono w G μ w G' μ:=⟨λb hb=>⟨hG b hb,rfl⟩,λ_ _ h=>h,λ_ _ h=>h,λ_ _ h=>h,hR,λ_ _ _=>rfl⟩;obtain⟨n,h1,h2⟩:=hv;rw[ht2]at h1;cases h1;refine YC ?_;rcases h2 with ⟨h2,ao,rfl⟩|⟨b,c,h3,rfl,h5,h6⟩
 ·have hnil:g.l=[]:=List.eq_nil_of_length_eq_zero h2;exact⟨ao,0,by rw[hnil]; rfl,by omega,λk hk=>(by cases hk),.inl (by rw[hnil]; rfl)⟩
 ·obtain⟨c',g2,g3,_⟩:=hW.blk r k b (aH hk) h3;rw[ht1]at g3;refine⟨_,c,rfl,h5,λk hk=>(by cases hk),.inr ⟨b,μ.sh r,rfl,hB b h3,?_⟩⟩;obtain⟨vs,h7,h8⟩:=g3.values;exact aL.nZ (cU _ _ (iM _ _) (VRs.mono hm _ _ h7)) h8
theorem aYE(hW:aO n0 G μ H w){r lo n sz:Nat}{k:Blk}{g:Tg}{v:Value}(hv:VR w G μ (.win r lo n sz) v)(hk:gS H r=some k)(hg:k.tag=some g)(hsz:sz=g.t.size){G':Gd}(hG:∀ b,G b->G' b)(hB:∀ b,μ.loc r=some b->G' b)(hR:∀ j b,G.row j=some b->G'.row j=some b:=by exact λ_ _ h=>h) :
  VR w G' aG (q9 g.t ((g.l.drop lo).take n) none) v:=by
 subst hsz;obtain⟨ht1,ht2⟩:=hW.tags r k g (aH hk) hg;have hm:Mono w G μ w G' μ:=⟨λb hb=>⟨hG b hb,rfl⟩,λ_ _ h=>h,λ_ _ h=>h,λ_ _ h=>h,hR,λ_ _ _=>rfl⟩;obtain⟨b,c,m,h3,rfl,h5,h6,hm,hle,_⟩:=hv;rw[ht2]at hm;cases hm;refine YC ?_;have hlen:((g.l.drop lo).take n).length=n:=by rw[List.length_take,List.length_drop]; omega
 rw[hlen];obtain⟨c',g2,g3,_⟩:=hW.blk r k b (aH hk) h3;rw[ht1]at g3;refine⟨_,c,rfl,h5,λk hk=>(by cases hk),.inr ⟨b,μ.sh r+lo*g.t.size,rfl,hB b h3,?_⟩⟩;have g4:=g3.sub (lo*g.t.size) (n*g.t.size);rw[sL,qQ]at g4;obtain⟨vs,h7,h8⟩:=g4.values;exact aL.nZ (cU _ _ (iM _ _) (VRs.mono hm _ _ h7)) h8
theorem aUX(hW:aO n0 G μ H w){p q v}(h:aZA H p=some q)(hv:VR w G μ p v):VR w G aG q v:=by
 unfold aZA at h;split at h
 next r sz=>
  split at h
  next k hk=>
   split at h
   ·rename_i g hg;cases hf:k.frozen with
    | false=>grind
    | true =>
     rw[hf]at h;simp only[oC,oJ]at h;subst h;exact E5 hW hv hk hg (λb h=>h) (λb hb=>by
      obtain⟨_,_,_,_,h5,_⟩:=hW.blk r k b (aH hk) hb;grind)
   grind
  grind
 ·obtain⟨hn,h⟩:=qM h;cases h;exact nC p v hn hv
theorem aTZ(hW:aO n0 G μ H w):∀ {ps qs vs},aWW H ps=some qs->VRs w G μ ps vs->VRs w G aG qs vs
 | [],qs,vs,h,hv=>by
  cases h;exact hv
 | p::ps,qs,vs,h,hv=>by
  unfold aWW at h;split at h
  next q hq=>
   split at h
   next qs' hqs=>cases h;obtain⟨x,xs,h1,h2,h3⟩:=hv;exact⟨x,xs,h1,aUX hW hq h2,aTZ hW hqs h3⟩
   grind
  grind
theorem bCG(hW:aO n0 G μ H w){p q v}(h:KP.inlT H p=some q)(hv:VR w G μ p v):VR w G aG q v:=by
 unfold KP.inlT at h;split at h
 next cs=>
  cases hn:dR.noRefs cs with
  | true =>
   rw[hn]at h;cases h;exact nC _ v (by simpa only[dR]using hn) hv
  | false =>
   rw[hn,oD]at h;split at h
   next qs hqs=>cases h;obtain⟨vs,h1,h2⟩:=hv;exact⟨vs,h1,aTZ hW hqs h2⟩
   grind
 ·exact aUX hW h hv
theorem aP3(hW:aO n0 G μ H w){T p v u x y cs H' c}(hp:VR w G μ p x)(hv:VR w G μ v y)(h:aLZ P H T p v=some (cs,u,H',c))(hcs:yY cs=true) :
  u=.lit undef/\c=2/\∃ w' G',(Instr.storeAt T x y).run P w=.ok () w'/\Ext n0 w G μ w' G' μ/\aO n0 G' μ H' w':=by
 unfold aLZ at h;split at h
 next r s=>
  split at h
  next q hq=>obtain⟨G1,e1,hW1⟩:=CE [r] H G hW;obtain⟨h1,h2,w',h3,h4,h5⟩:=aGY hW1 (VR.mono e1.toMono _ _ hp) (aUX hW1 hq (VR.mono e1.toMono _ _ hv)).aV h hcs;exact⟨h1,h2,w',G1,h3,e1.trans h4,h5⟩
  grind
 ·obtain⟨h1,h2,w',h3,h4,h5⟩:=aGY hW hp hv h hcs;grind
def aJS(w:World) (G:Gd) (μ:Mp):List (Nat×PV)->List (Nat×Value)->Prop
 | [],vs=>vs=[]
 | (i,p)::ps,vs=>∃ x xs,vs=(i,x)::xs/\VR w G μ p x/\aJS w G μ ps xs
theorem aAX(hW:aO n0 G μ H w)(ρ:Operand->Value):∀ (ops:List (Nat×Operand)) qs,(∀ x,VR w G μ (ev F x) (ρ x))->KP H (ops.map λp=>(p.1,ev F p.2))=some qs->aJS w G aG qs (ops.map λp=>(p.1,ρ p.2))
 | [],qs,_,h=>by
  simp only[List.map_nil,KP,oJ]at h;subst h;rfl
 | (i,x)::ops,qs,hF,h=>by
  simp only[List.map_cons,KP]at h;split at h
  next q hq=>
   split at h
   next qs' hqs=>simp only[oJ]at h;subst h;exact⟨_,_,rfl,bCG hW hq (hF x),aAX hW ρ ops qs' hF hqs⟩
   grind
  grind
theorem aVU {H1}:∀ ps,aUQ ps=[]->aWW H1 ps=aWW [] ps
 | [],_=>rfl
 | p::ps,h=>by
  have hp:aUQ ps=[]/\aZA H1 p=aZA [] p:=by cases p <;> simp only[aUQ]at h <;> first|exact⟨h,rfl⟩|grind
  simp only[aWW,hp.2,aVU ps hp.1]
theorem aMO {H1}:∀ ps,owns ps=[]->KP H1 ps=KP [] ps
 | [],_=>rfl
 | (i,p)::ps,h=>by
  have hp:owns ps=[]/\KP.inlT H1 p=KP.inlT [] p:=by cases p <;> simp only[owns]at h <;> first|exact⟨h,rfl⟩|grind|(obtain⟨h1,h2⟩:=List.append_eq_nil_iff.1 h; exact⟨h2,by simp only[KP.inlT,aVU _ h1]⟩)
  simp only[KP,hp.2,aMO ps hp.1]
theorem a8O place:∀ ps vs cs out c,aJS w G μ ps vs->VRs w G μ cs c.toList->NQ place cs ps=some out->∃ c',Instr.fill place c vs=some c'/\VRs w G μ out c'.toList
 | [],vs,cs,out,c,hp,hc,h=>by
  subst hp;simp only[NQ,oJ]at h;exact⟨c,rfl,h ▸ hc⟩
 | (i,p)::ps,vs,cs,out,c,hp,hc,h=>by
  obtain⟨x,xs,rfl,hx,hps⟩:=hp;simp only[NQ]at h;split at h
  next off size new hpl hcp=>
   cases hb:(Nat.beq new.length size&&Nat.ble (off+new.length) cs.length)with
   | false=>rw[hb]at h; cases h
   | true =>
    rw[hb]at h;simp only[oA]at hb;have h1:=oE hb.1;have h2:=oL hb.2;have hv:=MX hcp hx;have hl:new.length=x.cells.size:=by simpa using hv.length
    have hcl:cs.length=c.size:=by simpa using hc.length
    obtain⟨c',h3,h4⟩:=a8O place ps xs _ out _ hps (aO0 (off:=off) hc hv) h;refine⟨c',?_,h4⟩;simp only[Instr.fill,hpl];have hf:=YG (off:=off) x.cells.toList 0 c W;rw[<- Array.foldl_toList];grind
  ·cases h
theorem aKM {t e ty} (hel:CZ P t=some (e,ty)) {z} (hz:DP P e=some z) {len} (h1:len*ty.size<=16777216) {qs vs} (hp:aJS w G aG qs vs.toList) {cs}
  (hf:NQ (λi=>some (i*ty.size,ty.size)) (HX z (len*ty.size)) qs=some cs) {l} (hd:zG (dec ty) ty.size len cs=some l) :
  ∃ c' ,VRs w G aG (aI ty l) c'.toList/\l.length=len/\(Instr.buildSlice t len vs).run P w=.ok (.slice (some ⟨w.heap.size,0,none⟩) len len) (w.alloc (.cells c' e)):=by
 obtain⟨hu,hs⟩:=xH hel;obtain⟨c',h3,h4⟩:=a8O (w:=w) (G:=G) (μ:=aG) _ qs vs.toList _ cs _ hp (UO z (len*ty.size)) hf;have hzero:∃ i,P.info? e=some i/\i.zero=some z:=by
  unfold DP at hz;grind
 obtain⟨i,hi,hz'⟩:=hzero;obtain⟨h5,h6⟩:=NV (g:=enc ty) (λcs x vs h hv=>yH ty aG cs x vs h hv) hd h4;refine⟨c',h5,h6,?_⟩
 ·have hn:¬ (len*ty.size>2^24):=Z
  have hrow:(Array.range (len*ty.size)).map (λx=>z.cells[x%z.cells.size]!)=madeCells z.cells (len*ty.size):=rfl;have h3':Instr.fill (λi=>some (i*ty.size,ty.size)) (Array.map (λx=>z.cells[x%z.cells.size]!) (Array.range (len*ty.size))) vs.toList=some c':=by rw[hrow]; exact h3
  by_cases h0:len*ty.size=0
  ·have h3'':Instr.fill (λi=>some (i*ty.size,ty.size)) (Array.map (λx=>(#[]:Array Value)[x%0]!) (Array.range (len*ty.size))) vs.toList=some c':=by
    grind
   rw[h0]at h3'';simp[Instr.buildSlice,run_underlying hu,run_sizeOf hs,h0,newRow]
   simp_all
  ·simp only[Instr.buildSlice,Sem.run_bind,run_underlying hu,Result.andThen_ok,run_sizeOf hs,if_neg hn,if_neg h0];simp only[Sem.run_pure,Result.andThen_ok,Sem.run_bind,zeroValue,CM hi,hz',h3'];simp[newRow]
theorem aEQ(hW:aO n0 G μ H w) {t e ty} (hel:CZ P t=some (e,ty)) {z} (hz:DP P e=some z) {len} (h1:len*ty.size<=16777216) {qs vs} (hp:aJS w G aG qs vs.toList) {cs}
  (hf:NQ (λi=>some (i*ty.size,ty.size)) (HX z (len*ty.size)) qs=some cs) {l} (hd:zG (dec ty) ty.size len cs=some l):uB P n0 w G μ (Instr.buildSlice t len vs) (q9 ty l (some len)) H:=by
 obtain⟨c',h5,h6,hr⟩:=aKM hel hz h1 hp hf hd;obtain⟨e1,e2⟩:=aCY hW (.cells c' e);refine⟨_,_,_,_,hr,e1,e2,YC ?_⟩;refine⟨_,_,by rw[h6],by omega,λk hk=>W,.inr ⟨w.heap.size,0,rfl,.inr rfl,aL.mk λj p hp=>?_⟩⟩;obtain⟨u,g1,g2⟩:=h5.get hp;refine⟨u,?_,VR.mono e1.toMono.aG p u g2⟩
 simp_all
theorem aJ4(hW:aO n0 G μ H w) {t e ty} (hel:CZ P t=some (e,ty)) {z} (hz:DP P e=some z) {len} (h1:len*ty.size<=16777216) {qs vs} (hp:aJS w G aG qs vs.toList) {cs}
  (hf:NQ (λi=>some (i*ty.size,ty.size)) (HX z (len*ty.size)) qs=some cs) {l} (hd:zG (dec ty) ty.size len cs=some l):uB P n0 w G μ (Instr.buildSlice t len vs) (.own H.length ty.size) (H++[some ⟨aI ty l,e,true,false,some ⟨ty,l⟩⟩]):=by
 obtain⟨c',h5,h6,hr⟩:=aKM hel hz h1 hp hf hd;have hk:=EE (on:=some l.length) hW c' ⟨aI ty l,e,true,false,some ⟨ty,l⟩⟩ (λj p hp=>by
  obtain⟨u,g1,g2⟩:=h5.get hp;exact⟨u,by grind,g2.aV⟩) (λh=>by grind) rfl (λg hg=>by grind)
 have hl:=h5.length;rw[bI,h6]at hl;refine⟨_,_,G,_,hr,CP hW _ _ _,hk,?_⟩;rw[VR,xS];simp only ;refine⟨l.length,nV _ _ _ _,.inr ⟨w.heap.size,len,jS _ _ _ _,by grind,by omega,⟨c',e,(0,0),?_,by grind⟩,trivial⟩⟩;show (w.heap.push _)[w.heap.size]?=_;simp
theorem uB.trans {s v H' G1}(e:Ext n0 w G μ w G1 μ)(h:uB P n0 w G1 μ s v H'):uB P n0 w G μ s v H':=by
 obtain⟨v',w',G',μ',h1,h2,h3⟩:=h;exact⟨v',w',G',μ',h1,e.trans h2,h3⟩
theorem aF9(hW:aO n0 G μ H w) {sz r:Nat} {q:PV} {H1:Heap} {v:Value} (h:aUE H sz r=some (q,H1)) (hv:VR w G μ (.own r sz) v):∃ G' μ',Ext n0 w G μ w G' μ'/\aO n0 G' μ' H1 w/\VR w G' aG q v:=by
 unfold aUE at h;split at h
 next ra k har=>
  split at h
  next t l htag=>
   split at h
   ·rename_i kb hkb;split at h
    ·rename_i g hg;split at h
     ·rename_i row hrow;obtain⟨hb,h⟩:=qM h;obtain⟨rfl,rfl⟩:=h;simp only[oA,Bool.not_eq_true']at hb;obtain⟨⟨⟨⟨hf,hgr⟩,hty⟩,hm⟩,hsz⟩:=hb;have hm:k.ty≠SH:=Nat.ne_of_beq_eq_false hm;have hty:=oE hty;obtain⟨gt,gl⟩:=g;obtain⟨rfl,rfl⟩:=lF hrow;obtain⟨hr,hkg⟩:=aBN har;obtain⟨a1,a2,a3⟩:=hW.rows.arn ra k gt l hr hkg htag;obtain⟨ht1,ht2⟩:=hW.tags r kb _ (aH hkb) hg;simp only at ht1 ht2;obtain⟨G',hG'⟩:∃ G':Gd,G'=⟨G.ok,λj=>if j=l.length then μ.loc r else G.row j⟩:=⟨_,rfl⟩
      have hrow':∀ j b,G.row j=some b->G'.row j=some b:=λj b hj=>by
       rw[hG'];grind
      have hrow2:∀ j b,G'.row j=some b->(j=l.length/\μ.loc r=some b)\/(j≠l.length/\G.row j=some b):=λj b hj=>by
       rw[hG']at hj;grind
      have hok:∀ b,G'.ok b=G.ok b:=λb=>by rw[hG']
      have e:Ext n0 w G μ w G' (upd μ H.length none (some (l++[gl]).length)):={ HY hW none (some (l++[gl]).length)with
       good:=λb hb=>⟨by rw[hok]; exact hb,rfl⟩
       row:=hrow'
       new:=λb hb=>.inl (by rw[<- hok]; exact hb) }
      have hnewblk:(H.set r none |>.set ra none).length=H.length:=R
      have key:∀ (s:Nat) (k1:Blk),(((H.set r none).set ra none)++[some ⟨aI (.rows gt) (l++[gl]),k.ty,false,k.frozen,some ⟨.rows gt,l++[gl]⟩⟩])[s]?=some (some k1) ->
        (s=H.length/\k1=⟨aI (.rows gt) (l++[gl]),k.ty,false,k.frozen,some ⟨.rows gt,l++[gl]⟩⟩)\/(s<H.length/\s≠r/\s≠ra/\H[s]?=some (some k1)):=by
       grind
      have hloc:∀ b,μ.loc r=some b->b<w.heap.size/\n0 b/\¬ G b:=λb hb=>by
       obtain⟨c,q1,_,_,_,q2⟩:=hW.blk r kb b (aH hkb) hb;grind
      refine⟨G',_,e,⟨?_,?_,?_,hW.lt.step (λb hb=>⟨by rw[hok]; exact hb,rfl⟩) λb hb=>hW.lt b (by rw[<- hok]; exact hb),?_,hW.base,?_,?_,?_,?_,?_⟩,?_⟩
      ·intro s k1 b hs hb;rcases key s k1 hs with ⟨rfl,rfl⟩|⟨h1,h2,h3,h4⟩
       ·rw[jS]at hb; cases hb
       ·rw[(DE Z).1]at hb;obtain⟨c,q1,q2,q3,q4,q5⟩:=hW.blk s k1 b h4 hb;rw[aJM Z];exact⟨c,q1,aL.mono e.toMono rfl _ _ q2,q3,λhf=>by rw[hok]; exact q4 hf,λhf=>by rw[hok]; exact q5 hf⟩
      ·intro s k1 g1 hs hg1;rcases key s k1 hs with ⟨rfl,rfl⟩|⟨h1,h2,h3,h4⟩
       ·cases hg1;exact⟨rfl,nV _ _ _ _⟩
       ·rw[(DE Z).2];exact hW.tags s k1 g1 h4 hg1
      ·intro x1 x2 k1 k2 b h1 h2 f1 f2 m1 m2;rcases key x1 k1 h1 with ⟨rfl,rfl⟩|⟨p1,p2,p3,p4⟩
       ·rw[jS]at m1; cases m1
       ·rcases key x2 k2 h2 with ⟨rfl,rfl⟩|⟨q1,q2,q3,q4⟩
        ·rw[jS]at m2; cases m2
        ·rw[(DE Z).1]at m1 m2;exact hW.inj x1 x2 k1 k2 b p4 q4 f1 f2 m1 m2
      ·intro s hs;rw[oH,hnewblk]at hs;simp only[List.length_cons,List.length_nil]at hs;rw[(DE Z).1,(DE Z).2];exact hW.top s Z
      ·intro i j b hi hj;rcases hrow2 i b hi with ⟨i1,i2⟩|⟨i1,i2⟩ <;> rcases hrow2 j b hj with ⟨j1,j2⟩|⟨j1,j2⟩
       ·rw[i1,j1]
       ·exact absurd i2 ((hW.rows.sep j b j2).2.2.2 r kb (aH hkb) hf)
       ·exact absurd j2 ((hW.rows.sep i b i2).2.2.2 r kb (aH hkb) hf)
       ·exact hW.rows.inj i j b i2 j2
      ·intro j b hj;have hsep:b<w.heap.size/\n0 b/\¬ G b/\∀ s k1,s≠r->H[s]?=some (some k1)->k1.frozen=false->μ.loc s≠some b:=by
        rcases hrow2 j b hj with ⟨j1,j2⟩|⟨j1,j2⟩
        ·obtain⟨b1,b2,b3⟩:=hloc b j2;exact⟨b1,b2,b3,λs k1 hs h1 h2 h3=>hs (hW.inj s r k1 kb b h1 (aH hkb) h2 hf h3 j2)⟩
        ·obtain⟨b1,b2,b3,b4⟩:=hW.rows.sep j b j2;exact⟨b1,b2,b3,λs k1 _ h1 h2=>b4 s k1 h1 h2⟩
       refine⟨hsep.1,hsep.2.1,by rw[hok]; exact hsep.2.2.1,λs k1 hs hf1 hl=>?_⟩;rcases key s k1 hs with ⟨rfl,rfl⟩|⟨h1,h2,h3,h4⟩
       ·rw[jS]at hl; cases hl
       ·rw[(DE Z).1]at hl;exact hsep.2.2.2 s k1 h2 h4 hf1 hl
      ·intro j b hj;rcases hrow2 j b hj with ⟨j1,j2⟩|⟨j1,j2⟩
       ·obtain⟨c,q1,_⟩:=hW.blk r kb b (aH hkb) j2;exact .inl ⟨_,_,_,q1⟩
       ·exact hW.rows.cel j b j2
      ·intro s k1 t1 l1 hs hg1 ht1';rcases key s k1 hs with ⟨rfl,rfl⟩|⟨h1,h2,h3,h4⟩
       ·cases ht1';refine⟨jS _ _ _ _,λj hj=>?_,λj row hj=>?_⟩
        ·rw[oH]at hj;simp only[List.length_cons,List.length_nil]at hj;rw[hG'];show (if j=l.length then μ.loc r else G.row j)=none;rw[if_neg Z];exact a2 j Z
        ·rcases oG j l.length with hlt|hge
         ·rw[List.getElem?_append_left hlt]at hj;rcases a3 j row hj with h0|⟨b,q1,q2⟩
          ·exact .inl h0
          ·exact .inr ⟨b,hrow' j b q1,q2.mono e.toMono.aG rfl⟩
         ·have hjl:j=l.length:=by
           have:=(oO.1 hj).1;simp only[oH,List.length_cons,List.length_nil]at this;omega
          subst hjl;rw[List.getElem?_append_right (oM _),Nat.sub_self]at hj;simp only[List.getElem?_cons_zero,oJ]at hj;subst hj;rw[VR]at hv;obtain⟨n,n1,n2⟩:=hv;rw[ht2]at n1; cases n1;rcases n2 with ⟨n2,_⟩|⟨b,c,hl,_,_,_,n7⟩
          ·exact .inl ⟨List.eq_nil_of_length_eq_zero n2,hm⟩
          ·right;obtain⟨c,q1,q2,_⟩:=hW.blk r kb b (aH hkb) hl;rw[ht1,n7]at q2;refine⟨b,by rw[hG']; show (if l.length=l.length then μ.loc r else _)=some b; rw[if_pos rfl]; exact hl,.inl ⟨hm,c,by rw[hty]at q1; exact q1,?_⟩⟩;obtain⟨us,u1,u2⟩:=q2.values;exact aL.nZ (cU _ _ (iM _ _) (VRs.mono e.toMono _ _ u1)) u2
       ·exact absurd (hW.rows.one s ra k1 k t1 l1 gt l h4 hg1 ht1' hr hkg htag) h3
      ·intro x1 x2 k1 k2 t1 l1 t2 l2 h1 g1 q1 h2 g2 q2;have old:∀ (s:Nat) (k1:Blk) (t1:Ty) (l1:List (List t1.den)),(((H.set r none).set ra none)++[some ⟨aI (.rows gt) (l++[gl]),k.ty,false,k.frozen,some ⟨.rows gt,l++[gl]⟩⟩])[s]?=some (some k1)->k1.grown=false->k1.tag=some ⟨.rows t1,l1⟩->s=H.length:=by
        intro s k1 t1 l1 h1 g1 q1;rcases key s k1 h1 with ⟨rfl,_⟩|⟨_,_,h3,h4⟩
        ·rfl
        ·exact absurd (hW.rows.one s ra k1 k t1 l1 gt l h4 g1 q1 hr hkg htag) h3
       rw[old x1 k1 t1 l1 h1 g1 q1,old x2 k2 t2 l2 h2 g2 q2]
      ·rw[VR]at hv;rw[VR.eq_def];simp only;obtain⟨n,n1,n2⟩:=hv;rw[ht2]at n1; cases n1;rcases n2 with ⟨n2,ao,rfl⟩|⟨b,c,n3,rfl,n5,n6⟩
       ·exact⟨ao,0,by rw[n2],by omega,.inl n2⟩
       ·refine⟨_,c,rfl,n5,.inr ⟨b,?_,by rw[n6.2,Nat.zero_mul],by rw[Nat.zero_add]; have:=n6.1; rwa[n6.2,Nat.zero_add]at this⟩⟩;rw[hG'];show (if l.length=l.length then μ.loc r else _)=some b;rw[if_pos rfl]; exact n3
     ·cases h
    ·cases h
   ·cases h
  ·cases h
 ·cases h
theorem aZ1(hW:aO n0 G μ H w) {s:Nat} {k:Blk} {t:Ty} {l:List (List t.den)} (hs:H[s]?=some (some k)) (hg:k.grown=false) (ht:k.tag=some ⟨.rows t,l⟩) :
  Ext n0 w G μ w G (upd μ H.length none (some l.length))/\aO n0 G (upd μ H.length none (some l.length)) (H.set s none++[some k]) w:=by
 have hk:=rP hW s;have hlen:(H.set s none).length=H.length:=R
 have e:=HY hW none (some l.length);have e2:Ext n0 w G μ w G (upd μ (H.set s none).length none (some l.length)):=by rw[hlen]; exact e
 refine⟨e,?_⟩;obtain⟨a1,_⟩:=hW.rows.arn s k t l hs hg ht;have:=JB hk e2 k (λ_ _ _ _ _=>rfl) (λb hb=>by cases hb) (λg hg'=>by rw[ht]at hg'; cases hg'; exact⟨(hW.tags s k _ hs ht).1,rfl⟩) (λr k' b _ _ _ hh=>by cases hh)
  (hW.rows.rel (λr r'=>(r=H.length/\r'=s)\/(r<H.length/\r≠s/\r'=r)) (λr r2 q h1 h2=>by
   rcases h1 with ⟨h1,h3⟩|⟨h1,h3,h4⟩ <;> rcases h2 with ⟨h2,h5⟩|⟨h2,h5,h6⟩
   ·grind
   ·grind
   ·grind
   ·exact h4.symm.trans h6) (λr k' hr=>by
   rcases aCC r k' hr with ⟨h1,rfl⟩|⟨h1,h2⟩
   ·rw[hlen]at h1;exact⟨s,k',.inl ⟨h1,rfl⟩,hs,rfl,rfl,rfl,rfl,by rw[h1,<- hlen,jS,a1]⟩
   ·obtain⟨h3,h4⟩:=sI h2;rw[hlen]at h1;exact⟨r,k',.inr ⟨h1,h4,rfl⟩,h3,rfl,rfl,rfl,rfl,(DE (by rw[hlen]; omega)).1⟩))
 grind
theorem aG3(hW:aO n0 G μ H w)(hF:cZ w G μ nt F a){t len}{parts:Array (Nat×Operand)}{v cs H' c}(h:AZ P F H t len parts.toList=some (cs,v,H',c)) :
  uB P n0 w G μ (Instr.buildSlice t len (parts.map λ(i,x)=>(i,a.eval x))) v H':=by
 unfold AZ at h;split at h
 next e ty hel=>
  split at h
  next z hz=>
   cases hb:(Nat.ble (len*ty.size) 16777216&&Nat.ble 1 z.cells.size)with
   | false=>rw[hb]at h; cases h
   | true =>
    rw[hb]at h;simp only[oC]at h;simp only[oA]at hb;have hb1:=oL hb.1;split at h
    ·rename_i r sz had;split at h
     ·rename_i q H1 hq;split at h
      ·rename_i cs' hf;split at h
       ·rename_i l hd;obtain⟨rfl,rfl,rfl,rfl⟩:=h;obtain⟨x,hpl,hx⟩:∃ x,parts.toList=[(0,x)]/\ev F x=.own r sz:=by
         unfold aF6 at had;split at had
         ·split at had
          ·rename_i x hpl;split at had
           ·rename_i r' s' hx;obtain⟨hc,had⟩:=qM had
            simp_all
           ·cases had
          ·cases had
         ·cases had
        have hv:=cC hF x;rw[hx]at hv;obtain⟨G1,μ1,e1,hW1,hq1⟩:=aF9 hW hq hv;obtain⟨v',w',G2,μ2,z1,z2,z3⟩:=aEQ hW1 hel hz hb1 (qs:=[(0,q)]) (vs:=parts.map λ(i,x)=>(i,a.eval x)) (by
         rw[Array.toList_map,hpl];exact⟨_,_,rfl,hq1,rfl⟩) hf hd
        exact⟨v',w',G2,μ2,z1,e1.trans z2,z3⟩
       ·cases h
      ·cases h
     ·cases h
    split at h
    ·rename_i how;split at h
     ·rename_i ps hps;split at h
      ·rename_i cs' hf;split at h
       ·rename_i l hd;rw[<- aMO (H1:=H) _ how]at hps;cases hbl:aA4 a7X t with
        | true =>
         rw[hbl]at h;obtain⟨rfl,rfl,rfl,rfl⟩:=h;exact aJ4 hW hel hz hb1 (by rw[OJ]; exact aAX hW a.eval _ _ (cC hF) hps) hf hd
        | false =>
        rw[hbl]at h;obtain⟨rfl,rfl,rfl,rfl⟩:=h;exact aEQ hW hel hz hb1 (by rw[OJ]; exact aAX hW a.eval _ _ (cC hF) hps) hf hd
       ·cases h
      ·cases h
     ·cases h
    ·rename_i r rs how;split at h
     ·rename_i ps hps;split at h
      ·rename_i cs' hf;split at h
       ·rename_i l hd;obtain⟨G1,e1,hW1⟩:=CE (r::rs) H G hW;cases hbl:aA4 a7X t with
        | true =>
         rw[hbl]at h;obtain⟨rfl,rfl,rfl,rfl⟩:=h;exact(aJ4 hW1 hel hz hb1 (by rw[OJ]; exact aAX hW1 a.eval _ _ (λx=>VR.mono e1.toMono _ _ (cC hF x)) hps) hf hd).trans e1
        | false =>
        rw[hbl]at h;simp only[oD,oJ,oP]at h;obtain⟨rfl,rfl,rfl,rfl⟩:=h;exact(aEQ hW1 hel hz hb1 (by rw[OJ]; exact aAX hW1 a.eval _ _ (λx=>VR.mono e1.toMono _ _ (cC hF x)) hps) hf hd).trans e1
       ·cases h
      ·cases h
     ·cases h
  ·cases h
 ·cases h
theorem EZ z:∀ n ,(madeCells z (n*z.size)).toList=(List.replicate n z.toList).flatten
 | 0=>by simp[madeCells,Array.range_zero']
 | n+1=>by
  have ih:=EZ z n;rw[List.replicate_succ',List.flatten_append,<- ih];apply List.ext_getElem
  ·simp[madeCells,Nat.add_mul]
  ·intro i h1 h2;simp only[madeCells,Array.toList_map,Array.toList_range,List.getElem_map,List.getElem_range];simp only[madeCells,Array.toList_map,Array.toList_range,List.length_map,List.length_range,Nat.add_mul,Nat.one_mul]at h1
   by_cases hi:i<n*z.size
   ·grind
   ·have hlt:i-n*z.size<z.size:=Z
    have hmod:i%z.size=i-n*z.size:=by
     have:i=(i-n*z.size)+z.size*n:=by rw[Nat.mul_comm z.size n]; omega
     rw[this,Nat.add_mul_mod_self_left,Nat.mod_eq_of_lt hlt];grind
    grind
theorem yP {ty d zs}(h:VRs w G aG (enc ty d) zs):∀ n ,VRs w G aG (aI ty (List.replicate n d)) (List.replicate n zs).flatten
 | 0=>by rfl
 | n+1=>by exact h.append (yP h n)
theorem aIT(hW:aO n0 G μ H w){t p q v x y cs H' c}(hp:VR w G μ p x)(hq:VR w G μ q y)(h:R4 P H t p q=some (cs,v,H',c))(hcs:yY cs=true) :
  c=2/\uB P n0 w G μ (Instr.makeSlice t x y) v H':=by
 unfold R4 at h;split at h
 next e ty kl l kc cc hel=>
  subst hp; subst hq;obtain⟨hu,hs⟩:=xH hel;split at h
  next i hi=>
   have hsz:=MH hs hi;split at h
   ·rename_i z hz;split at h
    ·rename_i d hd;cases hb:(Nat.ble i.bytes 65536&&Nat.beq z.cells.size i.size)with
     | false=>rw[hb]at h; cases h
     | true =>
      rw[hb]at h;obtain⟨rfl,rfl,rfl,rfl⟩:=h;refine⟨rfl,?_⟩;simp only[oA]at hb;have hb1:=oL hb.1;have hb2:=oE hb.2;obtain⟨c1,hcs⟩:=aN hcs;obtain⟨c2,hcs⟩:=aN hcs;obtain⟨c3,_⟩:=aN hcs;rw[aE,Bool.not_eq_true',decide_eq_false_iff_not]at c1 c2 c3;have hbytes:(i.bytes:Int)*cc<=281474976710656:=by
       have:(i.bytes:Int)*cc<=65536*1048576:=Int.mul_le_mul Z Z Z Z;omega
      have hr:=run_make (P:=P) w t e i z hu hi hz kl kc l cc Z Z hbytes Z;have hdz:VRs w G aG (enc ty d) z.cells.toList:=yH ty aG _ d _ hd (zB _);have hrep:=yP hdz l.toNat;have hmade:(madeCells z.cells (cc.toNat*i.size)).toList=(List.replicate cc.toNat z.cells.toList).flatten:=by rw[<- hb2]; exact EZ z.cells cc.toNat
      have hsplit:(List.replicate cc.toNat z.cells.toList).flatten=(List.replicate l.toNat z.cells.toList).flatten++(List.replicate (cc.toNat-l.toNat) z.cells.toList).flatten:=by
       rw[<- List.flatten_append,List.replicate_append_replicate];grind
      have hk:=EE (on:=some l.toNat) hW (madeCells z.cells (cc.toNat*i.size)) ⟨aI ty (List.replicate l.toNat d),e,true,false,some ⟨ty,List.replicate l.toNat d⟩⟩ (λj p hp=>by
       obtain⟨u,g1,g2⟩:=hrep.get hp;refine⟨u,?_,g2.aV⟩;rw[<- Array.getElem?_toList,hmade,hsplit,List.getElem?_append_left (oO.1 g1).1];exact g1) (λh=>by cases h) rfl (λg hg=>by cases hg; exact⟨rfl,by simp⟩)
      refine⟨_,_,G,_,hr,CP hW _ _ _,hk,?_⟩;rw[VR,xS];simp only[Nat.zero_add];refine⟨l.toNat,nV _ _ _ _,.inr ⟨w.heap.size,cc.toNat,jS _ _ _ _,rfl,by omega,⟨madeCells z.cells (cc.toNat*i.size),e,(0,0),?_,?_⟩,trivial⟩⟩
      ·show (w.heap.push _)[w.heap.size]?=_;simp
      ·simp[madeCells,hsz]
    ·cases h
   ·cases h
  ·cases h
 ·cases h
theorem aYJ {e z}(hz:DP P e=some z) w:(zeroValue e).run P w=.ok z w:=by
 unfold DP at hz;split at hz
 next i hi=>simp[zeroValue,CM hi,hz]
 grind
theorem RQ z n:(Builtin.zeroCells z n).toList=(List.replicate n z.toList).flatten:=EZ z n
theorem aTV(hW:aO n0 G μ H w){tys ty p v x cs H' c}(hp:VR w G μ p x)(h:aON P H tys p=some (cs,v,H',c))(hcs:yY cs=true):uB P n0 w G μ (Builtin.clear_ tys ty #[x]) v H':=by
 unfold aON at h;split at h
 next t ts ht=>
  have ht':tys[0]?=some t:=by rw[<- Array.getElem?_toList,ht]; rfl
  split at h
  next e ety hel=>
   obtain⟨hu,hse⟩:=xH hel;split at h
   ·rename_i z hz;split at h
    ·rename_i r lo n sz;split at h
     ·rename_i k hk;split at h
      ·rename_i g hg;split at h
       ·rename_i d hd;obtain⟨hb,h⟩:=qM h;obtain⟨rfl,rfl,rfl,rfl⟩:=h;simp only[oA,Bool.not_eq_true']at hb;obtain⟨⟨⟨b1,b2⟩,hf⟩,hok⟩:=hb;have b1:=oE b1;subst b1;have hle:=oL (aN hcs).1;obtain⟨b,cc,_,hloc,rfl,h5,h6,_⟩:=hp;have htu:VR w G μ (.tuple []) (.tuple #[]):=by rw[VR]; exact⟨#[],rfl,by rw[VRs]⟩
        have q2:(#[Value.slice (some ⟨b,μ.sh r+lo*g.t.size,none⟩) n cc]:Array Value)[0]?=some (Value.slice (some ⟨b,μ.sh r+lo*g.t.size,none⟩) n cc):=rfl;have hdz:VRs w G aG (enc g.t d) z.cells.toList:=yH g.t aG _ d _ hd (zB _);have hrep:=yP hdz n;have hone:∀ v∈(List.replicate n z.cells.toList).flatten,v.oneCell'=true:=by
         intro v hv;obtain⟨l,h1,h2⟩:=List.mem_flatten.1 hv;rw[List.mem_replicate]at h1;rw[h1.2]at h2;exact IX hok (zB (w:=w) (G:=G) (μ:=μ) _) v h2
        have hclr:clr g.l lo n d=spl g.l lo (List.replicate n d):=by simp only[clr,spl,List.length_replicate]
        obtain⟨w',h1,e1,e2⟩:=aTF (P:=P) (l:=g.l) (p:=lo) hW (VRs.aV hrep) hone (aH hk |> λ_=>hk) hf hg hloc (by rw[List.length_replicate]; exact hle);rw[<- hclr]at e2;cases n with
        | zero =>
         have hw:w'=w:=by
          have:(List.replicate 0 z.cells.toList).flatten=[]:=rfl;rw[this]at h1;simp only[storeCells,Sem.run_pure,Result.ok.injEq,true_and]at h1;grind
         subst hw;refine .put (v':=.tuple #[]) (w':=w') ?_ e1 e2 htu;unfold Builtin.clear_;simp only[ht',q2,Sem.run_bind,run_underlying hu,Result.andThen_ok,Sem.run_pure]
        | succ n =>
         refine .put (v':=.tuple #[]) (w':=w') ?_ e1 e2 (VR.mono e1.toMono _ _ htu);unfold Builtin.clear_;simp only[ht',q2,Sem.run_bind,run_underlying hu,Result.andThen_ok,aYJ hz,RQ,h1,Sem.run_pure]
       ·cases h
      ·cases h
     ·cases h
    ·cases h
   ·cases h
  ·cases h
 ·cases h
theorem aW8(hW:aO n0 G μ H w){tys ty p q v x y cs H' c}(hp:VR w G μ p x)(hq:VR w G μ q y)(h:aXH P H tys p q=some (cs,v,H',c))(hcs:yY cs=true):c=2/\uB P n0 w G μ (Builtin.copy_ tys ty #[x,y]) v H':=by
 unfold aXH at h;split at h
 next t ts ht=>
  have ht':tys[0]?=some t:=by rw[<- Array.getElem?_toList,ht]; rfl
  split at h
  next e ety hel=>
   obtain⟨hu,hse⟩:=xH hel;split at h
   ·rename_i r lo n sz hdst;split at h
    ·rename_i k hk;split at h
     ·rename_i g hg;split at h
      ·rename_i l hl;split at h
       ·rename_i new hnew;obtain⟨hb,h⟩:=qM h;obtain⟨rfl,rfl,rfl,rfl⟩:=h;refine⟨rfl,?_⟩;simp only[oA,Bool.not_eq_true']at hb;obtain⟨⟨b1,hf⟩,b2⟩:=hb;have b1:=oE b1;subst b1;obtain⟨c1,hcs⟩:=aN hcs;obtain⟨c2,hcs⟩:=aN hcs;obtain⟨c3,_⟩:=aN hcs;have c1:=fX c1;have c2:=oL c2;have c3:=oL c3;obtain⟨gt,gl⟩:=g;obtain⟨rfl,rfl⟩:=lF hl;obtain⟨ht1,ht2⟩:=hW.tags r k _ (aH hk) hg;obtain⟨b,cc,hloc,rfl⟩:∃ b cc,μ.loc r=some b/\x=.slice (some ⟨b,μ.sh r+lo*gt.size,none⟩) n cc:=by
         unfold bDA at hdst;split at hdst
         ·rename_i r' sz';split at hdst
          next g' hg'=>obtain⟨rfl,rfl,rfl,rfl⟩:=hdst;obtain⟨kb,hk1,hk2⟩:=CS hg';rw[hk]at hk1; cases hk1;rw[hg]at hk2; cases hk2;obtain⟨m,h1,h2⟩:=hp;grind
          ·grind
         ·simp only[oJ,oP]at hdst;obtain⟨rfl,rfl,rfl,rfl⟩:=hdst;obtain⟨b,c',m,h1,rfl,_⟩:=hp;grind
         ·grind
        have hrun:∀ {w':World} {vs:Array Value},(∃ m:Nat,(∀ w1:World,(Builtin.lenOf y).run P w1=.ok m w1)/\min m n=new.length/\(Builtin.firstCells gt.size new.length y).run P w=.ok vs w)->(storeCells ⟨b,μ.sh r+lo*gt.size,none⟩ vs.toList).run P w=.ok () w'->(Builtin.copy_ tys ty #[.slice (some ⟨b,μ.sh r+lo*gt.size,none⟩) n cc,y]).run P w=.ok (goInt new.length) w':=by
         rintro w' vs ⟨m,s1,s4,s3⟩ a1;have q2:(#[Value.slice (some ⟨b,μ.sh r+lo*gt.size,none⟩) n cc,y]:Array Value)[0]?=some (Value.slice (some ⟨b,μ.sh r+lo*gt.size,none⟩) n cc):=rfl;have q3:(#[Value.slice (some ⟨b,μ.sh r+lo*gt.size,none⟩) n cc,y]:Array Value)[1]?=some y:=rfl;have hm:Nat.min m n=new.length:=s4;unfold Builtin.copy_;simp only[ht',q2,q3,Sem.run_bind,run_underlying hu,Result.andThen_ok,s1,run_sizeOf hse,hm,s3,a1,Sem.run_pure]
        have key:∃ vs:Array Value,VRs w G μ (aI gt new) vs.toList/\∃ m:Nat,(∀ w1:World,(Builtin.lenOf y).run P w1=.ok m w1)/\min m n=new.length/\(Builtin.firstCells gt.size new.length y).run P w=.ok vs w:=by
         unfold bC5 at hnew;split at hnew
         ·rename_i r2 lo2 m2 sz2;rw[VR]at hq;obtain⟨b2',c2',mm,u1,rfl,u2,u3,u4,u5,u6⟩:=hq;have hq':VR w G μ (.win r2 lo2 (min m2 n) sz2) (.slice (some ⟨b2',μ.sh r2+lo2*sz2,none⟩) (min m2 n) c2'):=by
           rw[VR];exact⟨b2',c2',mm,u1,rfl,by omega,u3,u4,by omega,u6⟩
          obtain⟨s1,vs,s2,s3⟩:=NA (P:=P) hW hq' (by rfl) hnew;have hl1:min m2 n=new.length:=by
           have:=s1 w;simp[Builtin.lenOf]at this;exact this
          exact⟨vs,s2,m2,λw1=>rfl,hl1,s3 w rfl⟩
         ·unfold aCO at hnew; cases hnew
         ·rename_i h1 h2;have hok:yY (aO2 H q)=true:=by
           unfold aO2;split
           ·exact absurd rfl (h2 _ _ _ _)
           ·rfl
          obtain⟨s1,vs,s2,s3⟩:=NA (P:=P) hW hq hok hnew;exact⟨vs,s2,new.length,s1,by omega,s3 w rfl⟩
        obtain⟨vs,s2,key⟩:=key;obtain⟨w',h1,e1,e2⟩:=aTF (P:=P) (p:=lo) hW s2 (MO _ _ _ s2) hk hf hg hloc (by simp only at c2; omega);exact⟨_,w',G,μ,hrun key h1,e1,e2,by rw[VR]⟩
       ·cases h
      ·cases h
     ·cases h
    ·cases h
   ·cases h
  ·cases h
 ·cases h
theorem Q7 {r cs v H' c}(h:aX5 H r=some (cs,v,H',c)):H'=H/\c=0/\∃ u,r=some (cs,u)/\v=.lit u:=by
 unfold aX5 at h;grind
theorem aY6 {t p q x y cs u}(hp:VR w G μ p x)(hq:VR w G μ q y)(h:bD2 P t p q=some (cs,u))(hcs:yY cs=true) w1:(Instr.index t x y).run P w1=.ok u w1:=by
 unfold bD2 at h;split at h
 next s k i hu=>
  obtain⟨rfl,rfl⟩:=h;subst hp; subst hq;have h1:=(aN hcs).1;replace h1:=xA h1;have h2 :=Z
  simp[Instr.index,asIntOf,run_underlying hu,h2,aPL]
 grind
theorem aTY {F a nt}(hF:cZ w G μ nt F a){t p x}{lo hi:Option Operand}{cs u}(hp:VR w G μ p x)(h:a0C P t p (lo.map (ev F)) (hi.map (ev F))=some (cs,u))(hcs:yY cs=true) w1 :
  (Instr.sliceAt t x (lo.map a.eval) (hi.map a.eval) none).run P w1=.ok u w1:=by
 unfold a0C at h;split at h
 next s hu=>
  split at h
  next b1 i b2 j h1 h2=>obtain⟨rfl,rfl⟩:=h;subst hp;obtain⟨c1,hcs⟩:=aN hcs;obtain⟨c2,hcs⟩:=aN hcs;obtain⟨c3,hcs⟩:=aN hcs;obtain⟨c4,_⟩:=aN hcs;have hr:=tV (P:=P) (isSlice:=false) (EN hF (sS h1 c1)) (EN hF (sS h2 c2)) (oL c3) (oL c4) w1;simp[Instr.sliceAt,Instr.slice,run_underlying hu,hr]
  grind
 grind
theorem aYV {op t p q x y ox oy cs u}(hp:VR w G μ p x)(hq:VR w G μ q y)(h:bD0 op p q=some (cs,u))(hcs:yY cs=true) w1 :
  (do eqGuard op t ox oy x y; binOp op t x y:Sem Value).run P w1=.ok u w1:=by
 unfold bD0 at h;split at h
 next a b=>
  subst hp; subst hq;have hg:(eqGuard op t ox oy (.string a) (.string b)).run P w1=.ok () w1:=by cases op <;> simp[eqGuard]
  have hb:(binOp op t (.string a) (.string b)).run P w1=.ok u w1:=by
   unfold bGM at h;split at h
   ·simp only[oJ,oP]at h;obtain⟨rfl,rfl⟩:=h;have h1:=oL (aN hcs).1;have h2:¬ ((a.size+b.size:Nat):Int)>IntKind.i64.max:=by
     show ¬ ((a.size+b.size:Nat):Int)>9223372036854775807;omega
    simp only[binOp,Op.stringOp,h2,if_false,Sem.run_pure]
   all_goals first
    | (obtain⟨rfl,rfl⟩:=h
       simp[binOp,Op.stringOp,eqS,ltS,ByteArray.toList_eq])
    | cases h
  simp_all
 ·cases h
end
variable {P:Program} {n0:Nat->Prop} {w:World} {G:Gd} {μ:Mp} {H:Heap}
theorem aSE {α:Type}{b x}{y:α}(h:(bif b then x else none)=some y):b=true/\x=some y:=W
theorem aM4(hW:aO n0 G μ H w){t v cs H' c}(h:aG5 P H t=some (cs,v,H',c)):c=2/\uB P n0 w G μ (Instr.makeMap t none) v H':=by
 unfold aG5 at h;cases h
theorem a1S {a b}:eqS a b=true↔a=b:=by
 unfold eqS;constructor
 ·cases a; simp_all
 grind
theorem aPS(hW:aO n0 G μ H w){t m k v x y cs H' c}(hm:VR w G μ m x)(hk:VR w G μ k y)(h:aLV P H t m k=some (cs,v,H',c))(hcs:yY cs=true) :
  H'=H/\c=1/\∃ v',(Instr.lookup t x y false).run P w=.ok v' w/\VR w G μ v v':=by
 unfold aLV at h;cases h
theorem aXP {t}(h:aZ8 P t=true):∃ k e,P.underlying t=some (.map k e)/\P.underlying k=some .string/\DP P e=some (.int .i64 0):=by
 unfold aZ8 at h;split at h
 ·split at h
  ·split at h
   ·rw[bP]at h;grind
   grind
  grind
 grind
theorem aRG {s:ByteArray}:∀ {es:List MapEntry} {l:List (ByteArray×Int)} (i:Nat),es.map (λe=>(e.key,e.val))=l.map (λp=>(Value.string p.1,Value.int .i64 p.2)) ->
  (a4E l s=false/\getM l s=0/\Instr.findNow .string (.string s) es i=some none)\/∃ j,a4E l s=true/\Instr.findNow .string (.string s) es i=some (some (j,.int .i64 (getM l s)))
 | [],[],i,_=>.inl ⟨rfl,rfl,rfl⟩
 | [],_::_,i,h=>by simp at h
 | _::_,[],i,h=>by simp at h
 | e::es,x::l,i,h=>by
  simp only[List.map_cons,List.cons.injEq,oP]at h;obtain⟨⟨h1,h2⟩,h3⟩:=h;obtain⟨r,hr,hiff⟩:=MapKept.sameNow_of_keys (d:=.string) (a:=.string s) (b:=.string x.1) trivial trivial;rw[a4E,getM,Instr.findNow,h1,hr];cases hs:eqS x.1 s with
  | true =>
   have:=a1S.1 hs
   simp_all
  | false =>
   have hn:r=false:=by
    cases r with
    | false=>rfl
    | true =>
     have:=hiff.1 rfl;simp only[Value.string.injEq]at this;rw[a1S.2 this.symm]at hs; cases hs
   rw[hn];exact aRG (i+1) h3
theorem aOO {t m k v x y cs H' c}(hm:VR w G μ m x)(hk:VR w G μ k y)(h:SM P H t m k=some (cs,v,H',c)) :
  H'=H/\c=0/\(∀ H2,SM P H2 t m k=some (cs,v,H2,c))/\∃ v',(Instr.lookup t x y true).run P w=.ok v' w/\VR w G μ v v':=by
 unfold SM at h;split at h
 next l s=>
  obtain⟨hok,h⟩:=qM h;obtain⟨rfl,rfl,rfl,rfl⟩:=h;refine⟨rfl,rfl,λH2=>by unfold SM; rw[hok]; rfl,?_⟩;obtain⟨kt,et,u1,u2,u3⟩:=aXP hok;obtain⟨b,es,clk,rfl,_,g2,g3⟩:=hm;subst hk;have hc:∀ em,(Instr.checkKey em 10000 kt (.string s)).run P w=.ok () w:=λem=>MapKept.run_checkKey (k:=.string s) u2 trivial em 9999
  refine⟨.tuple #[.int .i64 (getM l s),.bool (a4E l s)],?_,?_⟩
  ·rcases aRG (s:=s) 0 g3 with ⟨f0,f1,f2⟩|⟨i,f1,f2⟩
   ·rw[f0,f1];simp[Instr.lookup,run_underlying u1,MapKept.run_getObj_map g2,hc,MapKept.run_findKey u2 f2,aQY u3,Result.andThen]
   ·rw[f1];simp[Instr.lookup,run_underlying u1,MapKept.run_getObj_map g2,hc,MapKept.run_findKey u2 f2,Result.andThen]
  ·rw[VR];refine⟨_,rfl,?_⟩;exact⟨_,_,rfl,rfl,_,_,rfl,rfl,rfl⟩
 ·cases h
theorem aPR(hW:aO n0 G μ H w){t m k v u x y z cs H' c}(hm:VR w G μ m x)(hk:VR w G μ k y)(hz:VR w G μ v z)(h:aL8 P H t m k v=some (cs,u,H',c))(hcs:yY cs=true) :
  u=.lit undef/\c=2/\∃ w',(Instr.mapUpdate t x y z).run P w=.ok () w'/\Ext n0 w G μ w' G μ/\aO n0 G μ H' w':=by
 unfold aL8 at h;cases h
theorem aTI(hW:aO n0 G μ H w) {w'} (hold:∀ j,j<w.heap.size->w'.heap[j]?=w.heap[j]?) (hsz:w'.heap.size=w.heap.size+1) (h1:w'.os=w.os) (h2:w'.tape=w.tape) (h3:w'.output=w.output) :
  Ext n0 w G μ w' (G.or λx=>x=w.heap.size) μ/\aO n0 (G.or λx=>x=w.heap.size) μ H w':=by
 have e:Ext n0 w G μ w' (G.or λx=>x=w.heap.size) μ:={
  good:=λb hb=>⟨.inl hb,hold b (hW.lt b hb)⟩
  map:=λ_ _ h=>h
  len:=λ_ _ h=>h
  room:=λb n hc=>by
   obtain⟨cs,t,fr,h1,h2⟩:=hc;exact⟨cs,t,fr,by grind,h2⟩
  row:=λ_ _ h=>h
  os:=h1
  tape:=h2
  output:=h3
  size:=Z
  old:=λb hb _=>hold b hb
  new:=λb hb=>by
   rcases hb with hb|rfl
   ·grind
   ·exact .inr (hW.base _ (oM _)) }
 refine⟨e,hW.keep e ⟨λ_=>rfl,λj b hj=>⟨hold _ (hW.rows.sep j b hj).1,?_⟩⟩ ?_ ?_⟩
 ·rintro(h|rfl)
  ·exact h
  ·exact absurd (hW.rows.sep j _ hj).1 (Nat.lt_irrefl _)
 ·intro r k b hr hb;have hlt:=hW.pK hr hb;refine⟨hold _ hlt,?_⟩;rintro(h|rfl)
  ·exact h
  ·omega
 ·rintro b (hb|rfl)
  ·have:=hW.lt b hb; omega
  grind
theorem a3W {e}(h:bDR P e=true):P.underlying e=some (.int .u8):=by
 unfold bDR at h;grind
theorem aRV {t}(h:a7M P t=true):∃ e,P.underlying t=some (.slice e)/\P.underlying e=some (.int .u8):=by
 unfold a7M at h;split at h
 next e he=>exact⟨e,he,a3W h⟩
 grind
theorem aQR {t}(h:bCS P t=true):P.underlying t=some .string:=by
 unfold bCS at h;grind
theorem aRY(l:List Int):aI (.int .u8) l=l.map λn=>PV.lit (.int .u8 n):=by
 induction l with
 | nil=>rfl
 | cons x l ih=>rw[qP,ih]; rfl
theorem aXQ(hW:aO n0 G μ H w){s d p v x cs H' c}(hp:VR w G μ p x)(h:aWL P H s d p=some (cs,v,H',c)):H'=H/\uB P n0 w G μ (convert s d x) v H:=by
 unfold aWL at h;split at h
 next b=>
  obtain⟨hc,h⟩:=aSE h;obtain⟨rfl,rfl,rfl,rfl⟩:=h;rw[oA]at hc;subst hp;obtain⟨e,hd,he⟩:=aRV hc.2;have hr:=Lib.run_convert_string_bytes (P:=P) w s d e b (aQR hc.1) hd he;obtain⟨e1,e2⟩:=aTI hW (w':=Lib.bytesWorld w e b) (λj hj=>Lib.bytesWorld_at_old w e b j hj) (Lib.bytesWorld_size w e b) rfl rfl rfl;refine⟨rfl,_,_,_,_,hr,e1,e2,YC ?_⟩;have hlen:(VN b).length=b.size:=by simp[VN]
  refine⟨_,_,by rw[hlen],by rw[hlen]; exact grownCap_ge _ _ _ _,λk hk=>(by cases hk),.inr ⟨w.heap.size,0,rfl,.inr rfl,?_⟩⟩;rw[aRY];refine aL.mk λj q hq=>?_
  rw[List.getElem?_map]at hq;unfold VN at hq;rw[List.getElem?_map]at hq;cases hb:b.data.toList[j]? with
  | none=>rw[hb]at hq; cases hq
  | some u =>
   rw[hb]at hq;cases hq;have hj:j<b.size:=by
    have:=(oO.1 hb).1
    simp_all
   refine⟨_,by rw[Nat.zero_add]; exact Lib.bytesWorld_cell w e b j hj,?_⟩;rw[VR,oQ,hb];rfl
 next r sz=>
  obtain⟨hc,h⟩:=aSE h;split at h
  next g hg=>
   split at h
   ·rename_i l hl;obtain⟨rfl,rfl,rfl,rfl⟩:=h;rw[oA]at hc;obtain⟨e,hs,he⟩:=aRV hc.1;have hd:=aQR hc.2;obtain⟨kb,hk1,hk2⟩:=CS hg;obtain⟨ht1,ht2⟩:=hW.tags r kb g (aH hk1) hk2;obtain⟨hty,hl⟩:=lF hl;obtain⟨gt,gl⟩:=g;dsimp only at hty hl ht1 ht2;subst hty;subst hl;refine⟨rfl,.same hW (v':=.string (aMW gl)) ?_ (by rw[VR])⟩;obtain⟨m,h1,h2⟩:=hp;rw[ht2]at h1;cases h1;rcases h2 with ⟨h2,ao,rfl⟩|⟨b,c',h3,rfl,h5,h6⟩
    ·have hnil:gl=[]:=List.eq_nil_of_length_eq_zero h2;subst hnil;rw[run_convert_bytes_string w s d e _ _ _ hs he hd];cases ao with
     | none=>rfl
     | some a=>exact run_bytesToString w a 0 _ [] (by simp[loadCells,loadCellsFrom,Sem.run_pure])
    ·rw[run_convert_bytes_string w s d e _ _ _ hs he hd];obtain⟨c'',g2,g3,_⟩:=hW.blk r kb b (aH hk1) h3;rw[ht1,aRY]at g3;refine run_bytesToString w _ _ _ gl ?_;have:=run_loadCells (P:=P) (w:=w) (b:=b) (off:=μ.sh r) (vs:=gl.map (Value.int .u8)) λj hj=>by
      rw[List.length_map]at hj;obtain⟨u,q1,q2⟩:=g3.get (i:=j) (p:=PV.lit (.int .u8 gl[j])) (by simp[hj]);rw[q1,q2];simp
     grind
   ·cases h
  ·cases h
 ·cases h
section
variable {t u e:TypeId} {i:TypeInfo} {z:Value} {ku:IntKind} (ht:P.underlying t=some (.slice e)) (hu:P.underlying u=some (.int ku)) (hi:P.info? e=some i) (hz:i.zero=some z)
include ht hu hi hz
theorem WV(hzs:z.cells.size=i.size) (hb1:i.bytes<=65536) {k l c:Nat} {kq:IntKind} {ty:TypeId} {ao:Option Addr} (hn:k<=1048576) (hfit:l+k<=c) {w':World}
  (hst:match ao with|some a=>(storeCells (a.add (l*i.size)) (Builtin.zeroCells z.cells k).toList).run P w=.ok () w'|none=>w'=w) :
  (Builtin.append_ #[t,u] ty #[.slice ao l c,.int kq (k:Int)]).run P w=.ok (.slice ao (l+k) c) w':=by
 have hw:IntKind.i64.wrap (k:Int)=k:=by rw[IntKind.wrap_i64]; omega
 have hneg:¬ ((k:Int)<0):=Z
 have h48:¬ (281474976710656<(k:Int)*(i.bytes:Int)):=by
  have:k*i.bytes<=1048576*65536:=Nat.mul_le_mul hn hb1;rw[<- Int.natCast_mul]; omega
 by_cases hz0:k*i.size=0
 ·have hvs:Builtin.zeroCells z.cells k=#[]:=by
   apply Array.eq_empty_of_size_eq_zero;rw[mU,hzs]; exact hz0
  rw[hvs]at hst;cases ao with
  | none=>simp only at hst; subst hst; simp[Builtin.append_,run_underlying ht,run_underlying hu,sizeOf,typeInfo,zeroValue,hi,hz,asInt,asIntOf,hw,hneg,h48,hfit,hz0]
  | some a=>simp only at hst; simp[Builtin.append_,run_underlying ht,run_underlying hu,sizeOf,typeInfo,zeroValue,hi,hz,asInt,asIntOf,hw,hneg,h48,hfit,hz0,show (storeCells (a.add (l*i.size)) []).run P w=.ok () w' by simpa using hst]
 ·cases ao with
  | none=>simp only at hst; subst hst; simp[Builtin.append_,run_underlying ht,run_underlying hu,sizeOf,typeInfo,zeroValue,hi,hz,asInt,asIntOf,hw,hneg,h48,hfit,hz0]
  | some a=>simp only at hst; simp[Builtin.append_,run_underlying ht,run_underlying hu,sizeOf,typeInfo,zeroValue,hi,hz,asInt,asIntOf,hw,hneg,h48,hfit,hz0,hst]
theorem WZ(hzs:z.cells.size=i.size) (hpos:0<i.size) (hb1:i.bytes<=65536) {k l c kq ty ao} (hb2:k<=1048576) (hb3:l<=1048576) (hfit:¬ l+k<=c)
  {os} (ho:∀ w1 ,w1.heap=w.heap->(Builtin.firstCells i.size l (.slice ao l c)).run P w1=.ok os w1) (hlc:l<=c) :
  ∃ c',l+k<=c'/\(Builtin.append_ #[t,u] ty #[.slice ao l c,.int kq k]).run P w=.ok (.slice (some ⟨w.heap.size,0,none⟩) (l+k) c') (w.drew.alloc (.cells (os++Builtin.zeroCells z.cells k++Builtin.zeroCells z.cells (c'-(l+k))) e)):=by
 have hcap:Builtin.nextslicecap (l+k) c*i.bytes<=281474976710656:=by
  have h1:=nextslicecap_le (need:=l+k) (old:=c) Z;have h2 :=Nat.mul_le_mul Z hb1;omega
 have h48:k*i.bytes<=281474976710656:=by
  have :=Nat.mul_le_mul hb2 hb1;omega
 refine⟨grownCap w (l+k) c e,grownCap_ge _ _ _ _,?_⟩;have h:=Lib.run_append_grow_zeros w t u ty e i z kq ku ht hu hi hz ao l c os.toList (ho w.drew rfl) k Z hpos Z Z h48 hcap;omega
theorem aAV(hW:aO n0 G μ H w){ty}(hsz:i.size=ty.size)(hb1:i.bytes<=65536)(hzs:z.cells.size=i.size)(hpos:0<i.size){kq}{k0:Nat}{d0}(hdz:VRs w G aG (enc ty d0) z.cells.toList){tt ao}(hn:k0<=1048576) :
  uB P n0 w G μ (Builtin.append_ #[t,u] tt #[.slice ao 0 0,.int kq k0]) (.own H.length ty.size) (H++[some ⟨aI ty (List.replicate k0 d0),e,true,false,some ⟨ty,List.replicate k0 d0⟩⟩]):=by
 have s2:VRs w G μ (aI ty (List.replicate k0 d0)) (Builtin.zeroCells z.cells k0).toList:=by rw[RQ]; exact(yP hdz k0).aV
 by_cases h0:k0=0
 ·subst h0;have:=WV (w:=w) (w':=w) (ty:=tt) (kq:=kq) (ao:=ao) (l:=0) (c:=0) (k:=0) ht hu hi hz hzs hb1 Z Z (by cases ao <;> simp[Builtin.zeroCells,storeCells]);exact aQ9 hW R this
 ·obtain⟨c',q1,q2⟩:=WZ (w:=w) (ty:=tt) (kq:=kq) (ao:=ao) (l:=0) (c:=0) (k:=k0) ht hu hi hz hzs hpos hb1 hn Z Z (os:=#[]) (λw1 _=>by
   cases ao with
   | none=>rfl
   | some a=>simp[Builtin.firstCells,loadCells,loadCellsFrom]) (oM _)
  rw[Nat.zero_add]at q1 q2;have hll:(List.replicate k0 d0).length=k0:=List.length_replicate;exact W3 hW (os:=#[]) (by simpa using s2) (by rw[hll]; exact q1) (by rw[mU,hzs,hsz,hll]) W
theorem aP9(hW:aO n0 G μ H w) {ty} (hsz:i.size=ty.size) (hb1:i.bytes<=65536) (hzs:z.cells.size=i.size) {kq} {k0:Nat} {d0} (hdz:VRs w G aG (enc ty d0) z.cells.toList) {l tt} (hn:k0<=1048576) (hl:l.length<=1048576)
  {r k} (hk:gS H r=some k) (hf:k.frozen=false) (hg:k.grown=true) (hte:k.ty=e) (htag:k.tag=some ⟨ty,l⟩) {b c} (hb:μ.loc r=some b) (hlc:l.length<=c) (hroom:Room w b (μ.sh r+c*ty.size)) (hs0:μ.sh r=0) (hpos:0<i.size) :
  uB P n0 w G μ (Builtin.append_ #[t,u] tt #[.slice (some ⟨b,μ.sh r,none⟩) l.length c,.int kq k0]) (.own H.length ty.size) (H.set r none++[some ⟨aI ty (l++List.replicate k0 d0),e,true,false,some ⟨ty,l++List.replicate k0 d0⟩⟩]):=by
 obtain⟨new,hnew⟩:∃ new,new=List.replicate k0 d0:=⟨_,rfl⟩;rw[<- hnew];have hnl:new.length=k0:=by rw[hnew,List.length_replicate]
 obtain⟨vs,hvs⟩:∃ vs,vs=Builtin.zeroCells z.cells k0:=⟨_,rfl⟩;have s2:VRs w G μ (aI ty new) vs.toList:=by rw[hvs,hnew,RQ]; exact(yP hdz k0).aV
 obtain⟨cs,g2,g3,g4,g5,g6⟩:=hW.blk r k b (aH hk) hb;obtain⟨ht1,ht2⟩:=hW.tags r k _ (aH hk) htag;simp only at ht1 ht2;rw[ht1]at g3;have hvl:new.length*ty.size=vs.size:=by have:=s2.length; rw[bI]at this; simpa using this
 obtain⟨i1,i2⟩:=E8 g2 g3;have hel:=bI ty l;rw[hel]at i1 i2
 by_cases hfit:l.length+new.length<=c
 ·obtain⟨c2,t2,fr2,r1,r2⟩:=hroom;rw[g2]at r1; cases r1;have hmul:(l.length+new.length)*ty.size<=c*ty.size:=Nat.mul_le_mul_right _ hfit;rw[Nat.add_mul]at hmul;have hfs:Fits cs (μ.sh r+l.length*ty.size) vs.toList:=.inr (by simp only[Array.length_toList]; omega);obtain⟨w',h1,h2⟩:=sM (P:=P) (off:=μ.sh r+l.length*ty.size) vs.toList 0 w cs (MO _ _ _ s2) g2 hfs;rw[Nat.add_zero]at h2;have hszV:(pY cs (μ.sh r+l.length*ty.size) vs.toList).size=cs.size:=BX hfs
  have e1:=BN hW (aH hk) hf hb g2 h2 hszV;have hW':=D6 (k':=⟨aI ty (l++new),e,true,false,none⟩) hW (aH hk) hf hb g2 (hte ▸ h2) hszV rfl (by
   refine vS (n:=l.length*ty.size+vs.size) h2.at_ (VRs.mono e1.toMono _ _ ?_);have h3:=i1.append s2;rw[<- pW]at h3;rw[FL (by simp only[Array.length_toList]; omega) Z,List.take_take,Nat.min_eq_left Z,@List.drop_eq_nil_of_le _ ((cs.toList.drop (μ.sh r)).take (l.length*ty.size+vs.size)) _ (by simp only[List.length_take,Array.length_toList]; omega),List.append_nil];exact h3) (λh=>by cases h) (λg hg=>by cases hg)
  have hrl:r<H.length:=(oO.1 (aH hk)).1;obtain⟨e3,hW''⟩:=OP (r:=r) (on:=some (l++new).length) hW' (List.getElem?_set_self hrl) hb (λg hg=>by cases hg);simp only[List.length_set,List.set_set]at e3 hW'';have hW3:aO n0 G (upd μ H.length (some b) (some (l++new).length) (μ.sh r)) (H.set r none++[some ⟨aI ty (l++new),e,true,false,some ⟨ty,l++new⟩⟩]) w':=by
   have hkill:=rP hW' r;simp only[List.set_set]at hkill;have hlen:(H.set r none).length=H.length:=R
   have e4:Ext n0 w' G μ w' G (upd μ (H.set r none).length (some b) (some (l++new).length) (μ.sh r)):=by rw[hlen]; exact e3
   have:=JB hkill e4 ⟨aI ty (l++new),e,true,false,some ⟨ty,l++new⟩⟩ (λ_ _ _ _ _=>rfl) (by
    rintro b' hb';cases hb';obtain⟨c9,k2,k3,k4,k5,k6⟩:=hW'.blk r _ b (List.getElem?_set_self hrl) hb;exact⟨c9,k2,aL.mono e4.toMono rfl _ _ k3,λh=>(by cases h),λh=>(by cases h),k6⟩) (λg hg=>by cases hg; exact⟨rfl,rfl⟩) (by
    intro s k' b' hs hf' hb' hh;cases hh;obtain⟨hs1,hs2⟩:=sI hs;exact hs2 (hW.inj s r k' k b hs1 (aH hk) hf' hf hb' hb))
    (LZ hkill e4 (λt l h1 h2=>by cases h1) (λ_ _ _=>rfl) (λj b1 hj _ hh=>by cases hh; exact(hW'.rows.sep j b hj).2.2.2 r _ (List.getElem?_set_self hrl) rfl hb))
   rwa[hlen]at this
  have hrun:=WV (w:=w) (w':=w') (ty:=tt) (kq:=kq) (k:=k0) (ao:=some ⟨b,μ.sh r,none⟩) ht hu hi hz hzs hb1 hn (by rw[<- hnl]; exact hfit) (by simp only[Addr.add_lit,hsz,<- hvs]; exact h1);rw[<- hnl]at hrun ⊢;refine⟨_,w',G,_,hrun,e1.trans e3,hW3,?_⟩;rw[VR,xS];exact⟨_,nV _ _ _ _,.inr ⟨b,c,jS _ _ _ _,by rw[oH],by rw[oH]; exact hfit,⟨_,_,_,h2.at_,by rw[hszV]; exact r2⟩,hs0⟩⟩
 ·obtain⟨os,o1,o2⟩:=(AD (P:=P) (c:=c) g3 (bI _ _):Source P w G μ ty.size (.slice (some ⟨b,μ.sh r,none⟩) l.length c) _ l.length).2.2 l.length (oM _);rw[List.take_of_length_le (by rw[hel]; exact oM _)]at o1;rw[<- hsz]at o2;obtain⟨c',q1,q2⟩:=WZ (w:=w) (ty:=tt) (kq:=kq) (k:=k0) (ao:=some ⟨b,μ.sh r,none⟩) ht hu hi hz hzs hpos hb1 hn hl (by rw[<- hnl]; exact hfit) o2 hlc;rw[<- hvs,<- hnl]at q2;rw[<- hnl]at q1 ⊢
  have hlen:(H.set r none).length=H.length:=R
  have:=W3 (rP hW r) (e:=e) (ty:=ty) (l:=l++new) (c':=c') (os:=os) (vs:=vs) (rest:=Builtin.zeroCells z.cells (c'-(l.length+new.length))) (by rw[pW,Array.toList_append]; exact o1.append s2) (by rw[oH]; exact q1) (by rw[mU,hzs,hsz,oH]) (s:=Builtin.append_ #[t,u] tt #[.slice (some ⟨b,μ.sh r,none⟩) l.length c,.int kq (new.length:Int)]) (by rw[oH]; exact q2);rwa[hlen]at this
end
theorem a0N {t u}(h:isLen P #[t,u]=true):∃ k,P.underlying u=some (.int k):=by
 change (match P.underlying u with
  | some (.int _)=>true
  | _=>false)=true at h
 grind
theorem aNR(hW:aO n0 G μ H w){tys tt p q v s x cs H' c}(hlen:isLen P tys=true)(hp:VR w G μ p s)(hq:VR w G μ q x)(h:aA0 P H tys p q=some (cs,v,H',c))(hcs:yY cs=true) :
  c=2/\uB P n0 w G μ (Builtin.append_ tys tt #[s,x]) v H':=by
 unfold aA0 at h;split at h
 next t u kq n htys=>
  have htys:tys=#[t,u]:=by apply Array.ext'; simpa using htys
  subst htys;obtain⟨ku,hu⟩:=a0N hlen;subst hq;split at h
  next e ty hel=>
   obtain⟨ht,hsz0⟩:=xH hel;split at h
   ·rename_i i hi;have hsz:=MH hsz0 hi;split at h
    ·rename_i z hz;split at h
     ·rename_i d hd;cases hb:(Nat.ble i.bytes 65536&&Nat.beq z.cells.size i.size&&Nat.ble 1 i.size)with
      | false=>rw[hb]at h; cases h
      | true =>
       rw[hb]at h;simp only[oA]at hb;have hb1:=oL hb.1.1;have hzs:=oE hb.1.2;have hpos:=oL hb.2;have hdz:VRs w G aG (enc ty d) z.cells.toList:=yH ty aG _ d _ hd (zB _);split at h
       ·rename_i r sz;split at h
        ·rename_i k hk;split at h
         ·rename_i g hg;obtain⟨gt,gl⟩:=g;split at h
          ·rename_i l hl;obtain⟨rfl,rfl⟩:=lF hl;cases hm:(Nat.beq sz gt.size&&!k.frozen&&Nat.beq k.ty e&&k.grown)with
           | false=>rw[hm]at h; cases h
           | true =>
            rw[hm]at h;simp only[oA,Bool.not_eq_true']at hm;obtain⟨⟨⟨m1,m2⟩,m3⟩,m4⟩:=hm;have m1:=oE m1;have m3:=oE m3;subst m1;obtain⟨rfl,rfl,rfl,rfl⟩:=LY h;refine⟨rfl,?_⟩;obtain⟨c1,hcs⟩:=aN hcs;obtain⟨c2,hcs⟩:=aN hcs;obtain⟨c3,_⟩:=aN hcs;rw[aE,Bool.not_eq_true',decide_eq_false_iff_not]at c1 c2;obtain⟨k0,rfl⟩:∃ k0:Nat,n=k0:=⟨n.toNat,by omega⟩;obtain⟨ht1,ht2⟩:=hW.tags r k _ (aH hk) hg;have hlenset:(H.set r none).length=H.length:=R
            rw[VR]at hp;obtain⟨n,h1,h2⟩:=hp;simp only at ht2;rw[ht2]at h1;cases h1;rcases h2 with ⟨h2,ao,rfl⟩|⟨b,cc,h3,rfl,h5,h6⟩
            ·have hnil:gl=[]:=List.eq_nil_of_length_eq_zero h2;subst hnil;have:=aAV (tt:=tt) (kq:=kq) (ao:=ao) (e:=e) ht hu hi hz (rP hW r) hsz hb1 hzs hpos hdz (k0:=k0) Z;simpa using this
            ·rw[hlenset];have:=aP9 (tt:=tt) (kq:=kq) ht hu hi hz hW hsz hb1 hzs hdz Z (oL c3) hk m2 m4 m3 hg h3 h5 h6.1 h6.2 hpos (k0:=k0);exact this
          ·cases h
         ·cases h
        ·cases h
       ·rename_i m c0;cases hm:(Nat.beq m 0&&Nat.beq c0 0)with
        | false=>rw[hm]at h; cases h
        | true =>
         rw[hm]at h;simp only[oC]at h;simp only[oA]at hm;have e1:=oE hm.1;have e2:=oE hm.2;subst e1; subst e2;obtain⟨rfl,rfl,rfl,rfl⟩:=LY h;refine⟨rfl,?_⟩;obtain⟨c1,hcs⟩:=aN hcs;obtain⟨c2,_⟩:=aN hcs;rw[aE,Bool.not_eq_true',decide_eq_false_iff_not]at c1 c2;obtain⟨k0,rfl⟩:∃ k0:Nat,n=k0:=⟨n.toNat,by omega⟩;rw[oN];rw[VR]at hp;subst hp;exact aAV (tt:=tt) (kq:=kq) (ao:=none) (e:=e) ht hu hi hz hW hsz hb1 hzs hpos hdz (k0:=k0) Z
       ·cases h
     ·cases h
    ·cases h
   ·cases h
  ·cases h
 ·cases h
end Go.PM
namespace Go.PM
open Go Go.RowKit
section
variable {P:Program} {n0:Nat->Prop} {w:World} {G:Gd} {μ:Mp} {H:Heap} {F F':Frm} {a:Act} {nt:Nat}
theorem bDB {xs}{x:Operand}(h:xs.toList=[x]):xs=#[x]:=W
theorem bGJ {xs}{x y:Operand}(h:xs.toList=[x,y]):xs=#[x,y]:=W
theorem aY4 {t op x y p v u qx qy cs H' k}(hx:VR w G μ x v)(hy:VR w G μ y u)(h:aPW P H t op x y=some (cs,p,H',k))(hcs:yY cs=true) :
  H'=H/\∃ v',(∀ w1 ,(do eqGuard op t qx qy v u; binOp op t v u:Sem Value).run P w1=.ok v' w1)/\VR w G μ p v':=by
 unfold aPW at h;split at h
 next e hu=>
  split at h
  next m c=>
   split at h
   ·rename_i ty l cap e';have h1:=UQ hx;obtain⟨ao,c',rfl,_,_,h2⟩:=h1;subst hy;have key:Nat.blt 0 l.length=true->ao.isNone=false:=by
     intro hb;rcases h2 with h2|⟨b,off,rfl,_⟩
     ·exfalso;have h3:0<l.length:=fX hb;cases l with
      | nil=>simp at h3
      | cons a l =>
       have h4:=oZ List.length h2;have h5:=vP ty a;have h6:=ty.size_pos;simp only[aI,List.flatMap_cons,oH,List.length_nil]at h4;omega
     ·rfl
    split at h
    ·simp only[oJ,oP]at h;obtain⟨rfl,rfl,rfl,rfl⟩:=h;have hcs:Nat.blt 0 l.length=true:=by
      cases hb:Nat.blt 0 l.length with
      | true=>rfl
      | false=>simp only[yY,hb]at hcs; cases hcs
     refine⟨rfl,.bool false,λw1=>?_,by rw[VR]⟩;have:=Lib.run_eql_slice_nil w1 t e ao l.length c' m c hu;rw[key hcs]at this;simp[eqGuard,this]
    ·simp only[oJ,oP]at h;obtain⟨rfl,rfl,rfl,rfl⟩:=h;have hcs:Nat.blt 0 l.length=true:=by
      cases hb:Nat.blt 0 l.length with
      | true=>rfl
      | false=>simp only[yY,hb]at hcs; cases hcs
     refine⟨rfl,.bool true,λw1=>?_,by rw[VR]⟩;have:=run_neq_slice_nil_any w1 t e ao l.length c' m c hu;rw[key hcs]at this;simp[eqGuard,this]
    ·cases h
   ·rename_i r lo nn sz;subst hy;obtain⟨b,c',mm,_,rfl,_⟩:=hx;split at h
    ·simp only[oJ,oP]at h;obtain⟨rfl,rfl,rfl,rfl⟩:=h;refine⟨rfl,.bool false,λw1=>?_,by rw[VR]⟩;have:=Lib.run_eql_slice_nil w1 t e (some ⟨b,μ.sh r+lo*sz,none⟩) nn c' m c hu;simp[eqGuard,this]
    ·simp only[oJ,oP]at h;obtain⟨rfl,rfl,rfl,rfl⟩:=h;refine⟨rfl,.bool true,λw1=>?_,by rw[VR]⟩;have:=run_neq_slice_nil_any w1 t e (some ⟨b,μ.sh r+lo*sz,none⟩) nn c' m c hu;simp[eqGuard,this]
    ·cases h
   ·cases h
  ·cases h
 ·cases h
theorem a5U {t op x y p cs H' c}(h:aPW P H t op x y=some (cs,p,H',c)):H'=H/\c=0/\∀ H2,aPW P H2 t op x y=some (cs,p,H2,0):=by
 unfold aPW at h;split at h
 next e hu=>
  split at h
  ·split at h
   ·split at h
    ·simp only[oJ]at h;obtain⟨rfl,rfl,rfl,rfl⟩:=h;exact⟨rfl,rfl,λH2=>by simp only[aPW,hu]⟩
    ·simp only[oJ,oP]at h;obtain⟨rfl,rfl,rfl,rfl⟩:=h;exact⟨rfl,rfl,λH2=>by simp only[aPW,hu]⟩
    ·cases h
   ·split at h
    ·obtain⟨rfl,rfl,rfl,rfl⟩:=h;exact⟨rfl,rfl,λH2=>by simp only[aPW,hu]⟩
    ·obtain⟨rfl,rfl,rfl,rfl⟩:=h;exact⟨rfl,rfl,λH2=>by simp only[aPW,hu]⟩
    ·cases h
   ·cases h
  ·cases h
 ·cases h
set_option maxHeartbeats 1000000 in
theorem a3H(hW:aO n0 G μ H w) (hF:cZ w G μ nt F a) {o:Oper} {v:PV} {cs:List Bool} {H':Heap} {k:Nat} (ht:typed P F o=true) (h:top P F H o=some (cs,v,H',k)) (hcs:yY cs=true):KL P n0 w G μ o a v H':=by
 unfold top at h;split at h
 next t x i ho=>
  split at h
  next k1 i1 hi=>obtain⟨rfl,v',h1,h2⟩:=aIS (k:=k1) hW (cC hF x) h hcs;have h3:=cC hF i;rw[hi,VR]at h3;exact .value (s:=Instr.indexAt t (a.eval x) (a.eval i)) (by simp only[execOp,ho]) (.same hW (by rw[h3]; exact h1) h2)
  ·cases h
 next s x f ho=>obtain⟨rfl,rfl,v',h1,h2⟩:=aJP (cC hF x) h;exact .value (by simp only[execOp,ho]) (.same hW h1 h2)
 next t x ho=>obtain⟨rfl,v',h1,h2⟩:=aWE hW (cC hF x) h hcs;exact .value (by simp only[execOp,ho]) (.same hW h1 h2)
 next t x y ho=>
  obtain⟨rfl,rfl,w',G',h1,h2,h3⟩:=aP3 hW (cC hF x) (cC hF y) h hcs;intro K Q hK;unfold Oper.wp;have hx:(execOp a.eval o).run P w=.ok .skip w':=by simp[execOp,ho,h1]
  rw[hx];exact hK undef w' G' μ h2 h3 (by rw[VR])
 next x ho=>
  simp only[oJ,oP]at h;obtain⟨rfl,rfl,rfl,rfl⟩:=h;have h1:=cC hF x;simp only[typed,ho]at ht;obtain⟨b,hb⟩:∃ b,a.eval x=.pointer (some b):=by
   cases hx:ev F x <;> rw[hx]at ht h1 <;> simp only[aP5]at ht <;> try (cases ht; done)
   ·rw[VR]at h1;obtain⟨h2,rfl,_⟩:=h1;rw[VR]at h2;obtain⟨b,off,h3,_⟩:=h2;exact⟨_,h3⟩
   ·rw[VR]at h1;obtain⟨b,_,h3⟩:=h1;exact⟨_,h3⟩
   ·rw[VR]at h1;obtain⟨b,_,h3⟩:=h1;exact⟨_,h3⟩
  exact .pure hW (v':=a.eval x) (by simp[execOp,ho,hb]) h1
 next t x lo hi ho=>
  cases hs:isS (ev F x)with
  | true =>
   rw[hs]at h;obtain⟨rfl,rfl,u,h1,rfl⟩:=Q7 h;exact .value (by simp only[execOp,ho]; rfl) (.same hW (aTY hF (cC hF x) h1 hcs w) (by rw[VR]))
  | false =>
  rw[hs,oD]at h;cases hq:isQ (ev F x)with
  | true =>
   rw[hq]at h;exact .value (by simp only[execOp,ho]; rfl) (aPV hW hF (cC hF x) h hcs).2
  | false =>
  rw[hq]at h;obtain⟨rfl,v',h1,h2⟩:=aS2 hW hF (cC hF x) h hcs w;exact .value (by simp only[execOp,ho]; rfl) (.same hW h1 h2)
 next t x lo hi mx ho=>obtain⟨rfl,v',h1,h2⟩:=aQB hF (cC hF x) h hcs w;exact .value (by simp only[execOp,ho]; rfl) (.same hW h1 h2)
 next t x i ho=>obtain⟨rfl,rfl,u,h1,rfl⟩:=Q7 h;exact .value (by simp only[execOp,ho]) (.same hW (aY6 (cC hF x) (cC hF i) h1 hcs w) (by rw[VR]))
 next t ho=>exact .value (by simp only[execOp,ho]; rfl) (aM4 hW h).2
 next t m x ho=>obtain⟨rfl,rfl,v',h1,h2⟩:=aPS hW (cC hF m) (cC hF x) h hcs;exact .value (by simp only[execOp,ho]) (.same hW h1 h2)
 next t m x ho=>obtain⟨rfl,rfl,_,v',h1,h2⟩:=aOO (cC hF m) (cC hF x) h;exact .value (by simp only[execOp,ho]) (.same hW h1 h2)
 next t m x y ho=>
  obtain⟨rfl,rfl,w',h1,h2,h3⟩:=aPR hW (cC hF m) (cC hF x) (cC hF y) h hcs;intro K Q hK;unfold Oper.wp;have hx:(execOp a.eval o).run P w=.ok .skip w':=by simp[execOp,ho,h1]
  rw[hx];exact hK undef w' G μ h2 h3 (by rw[VR])
 next t n parts ho=>exact .value (by simp only[execOp,ho]) (aG3 hW hF h)
 next t l c ho=>exact .value (by simp only[execOp,ho]) (aIT hW (cC hF l) (cC hF c) h hcs).2
 next s d x ho=>obtain⟨rfl,h1⟩:=aXQ hW (cC hF x) h;exact .value (by simp only[execOp,ho]) h1
 next op t x y ty ho=>
  cases hs:isS (ev F x)with
  | true =>
   rw[hs]at h;obtain⟨rfl,rfl,u,h1,rfl⟩:=Q7 h;exact .value (by simp only[execOp,ho]) (.same hW (aYV (ox:=x) (oy:=y) (t:=t) (cC hF x) (cC hF y) h1 hcs w) (by rw[VR]))
  | false =>
  rw[hs]at h;obtain⟨rfl,v',h1,h2⟩:=aY4 (qx:=x) (qy:=y) (cC hF x) (cC hF y) h hcs;exact .value (by simp only[execOp,ho]) (.same hW (h1 w) h2)
 next c ho=>
  split at h
  next hc=>
   split at h
   next x hx=>have hx:=bDB hx;obtain⟨rfl,v',h1,h2⟩:=a0P (ty:=o.type) hW (cC hF x) h;refine .value (s:=Builtin.len_ c.argTypes o.type #[a.eval x]) ?_ (.same hW h1 h2);simp[execOp,ho,resolve,hc,hx,invoke,builtin]
   ·cases h
  next hc=>
   split at h
   ·rename_i s x hx;have hx:=bGJ hx;refine .value (s:=Builtin.append_ c.argTypes o.type #[a.eval s,a.eval x]) ?_ ?_
    rotate_left
    ·cases hl:isLen P c.argTypes with
     | true=>rw[hl]at h; exact(aNR hW hl (cC hF s) (cC hF x) h hcs).2
     | false =>
      rw[hl,oD]at h;obtain⟨c0,h1,rfl⟩:=aRN h;obtain⟨k1,k2⟩:=aMJ hcs;cases hq:isQ (ev F s)with
      | true=>rw[hq]at h1; exact(aM8 hW (cC hF s) (cC hF x) k1 h1 k2).2
      | false=>rw[hq]at h1; exact(aP0 hW (cC hF s) (cC hF x) k1 h1 k2).2
    simp[execOp,ho,resolve,hc,hx,invoke,builtin]
   ·cases h
  next hc=>
   split at h
   next x hx=>have hx:=bDB hx;refine .value (s:=Builtin.clear_ c.argTypes o.type #[a.eval x]) ?_ (aTV hW (cC hF x) h hcs);simp[execOp,ho,resolve,hc,hx,invoke,builtin]
   ·cases h
  next hc=>
   split at h
   ·rename_i x y hx;have hx:c.args=#[x,y]:=by apply Array.ext'; simpa using hx
    refine .value (s:=Builtin.copy_ c.argTypes o.type #[a.eval x,a.eval y]) ?_ (aW8 hW (cC hF x) (cC hF y) h hcs).2;simp[execOp,ho,resolve,hc,hx,invoke,builtin]
   ·cases h
  ·cases h
 ·cases h
theorem aXX {cl o v H' k}(h:opx P cl F H o=some (v,H',k)):(typed P F o=true/\∃ cs,top P F H o=some (cs,v,H',k)/\yY cs=true)\/(typed P F o=false/\opu P cl F H o=some (v,H',k)):=by
 unfold opx at h;grind
theorem aQO {cl}(hcl:dA P cl)(hW:aO n0 G μ H w)(hF:cZ w G μ nt F a){o v H' k}(h:opx P cl F H o=some (v,H',k)):KL P n0 w G μ o a v H':=by
 rcases aXX h with ⟨ht,cs,h1,h2⟩|⟨_,h⟩
 ·exact a3H hW hF ht h1 h2
 ·exact a3Y hcl hW hF h
def aIQ(c:Nat) (cs:List Bool) (v:PV) (H H':Heap) (f:Heap->GV):Prop:=(c=0->H'=H/\∀ H2,f H2=some (cs,v,H2,0))/\(c=1->H'=H)
def T2(x:GV):Prop:=∀ cs v H' c,x=some (cs,v,H',c)->c=2
theorem T2.no:T2 none:=λ_ _ _ _ h=>by cases h
theorem T2.cond {b x y}(hx:T2 x)(hy:T2 y):T2 (bif b then x else y):=W
theorem T2.grow {H1 e ty l cs}:T2 (aHT H1 e ty l cs):=λ_ _ _ _ h=>(LY h).2.2.2
theorem T2.yes {cs v H1}:T2 (some (cs,v,H1,2)):=λ_ _ _ _ h=>W
theorem T2.cls {x}(hx:T2 x){cs v H' c f}(h:x=some (cs,v,H',c)):aIQ c cs v H H' f:=by
 have:=hx _ _ _ _ h;subst this;exact⟨λh=>Z,λh=>by omega⟩
theorem aIQ.zero {cs cs' v v' H' c}{f:Heap->GV}(h:some (cs',v',H,0)=some (cs,v,H',c))(hf:∀ H2,f H2=some (cs',v',H2,0)):aIQ c cs v H H' f:=by
 obtain⟨rfl,rfl,rfl,rfl⟩:=h;exact⟨λ_=>⟨rfl,hf⟩,λ_=>rfl⟩
theorem aIQ.one {cs cs' v v' H' c f}(h:some (cs',v',H,1)=some (cs,v,H',c)):aIQ c cs v H H' f:=by
 obtain⟨rfl,rfl,rfl,rfl⟩:=h;exact⟨λh=>W,λ_=>rfl⟩
theorem a9P {b r}(hr:T2 r):T2 (bAD b r):=λ_ _ _ _ h=>by
 obtain⟨_,h1,_⟩:=aRN h;exact hr _ _ _ _ h1
theorem aVI {tys p q}:T2 (aGP P H tys p q):=by
 unfold aGP
 repeat' first
  | exact T2.no
  | rfl
  | exact T2.yes
  | apply T2.cond
  | split
theorem aTJ {tys p q}:T2 (aBE P H tys p q):=by
 unfold aBE
 repeat' first
  | exact T2.no
  | rfl
  | exact T2.yes
  | apply T2.cond
  | split
theorem aWS {t p lo hi}:T2 (aGA P H t p lo hi):=by
 unfold aGA
 repeat' first
  | exact T2.no
  | exact T2.yes
  | apply T2.cond
  | split
theorem aS6 {tys p q}:T2 (aA0 P H tys p q):=by
 unfold aA0
 repeat' (first|exact T2.no|rfl|exact T2.yes|refine T2.cond ?_ ?_|split)
theorem aOL {t p q}:T2 (R4 P H t p q):=by
 unfold R4
 repeat' first
  | exact T2.no
  | exact T2.yes
  | apply T2.cond
  | split
theorem aSV {t:TypeId}:T2 (aG5 P H t):=T2.no
theorem aXF {t:TypeId}{m x y:PV}:T2 (aL8 P H t m x y):=T2.no
theorem aNO {t p q}:T2 (aI0 P H t p q):=by
 unfold aI0
 repeat' first
  | exact T2.no
  | exact T2.yes
  | apply T2.cond
  | split
theorem aY0 {tys p}:T2 (aON P H tys p):=by
 unfold aON
 repeat' first
  | exact T2.no
  | exact T2.yes
  | apply T2.cond
  | split
theorem a3V {tys p q}:T2 (aXH P H tys p q):=by
 unfold aXH
 repeat' first
  | exact T2.no
  | exact T2.yes
  | apply T2.cond
  | split
theorem aJ {α:Type}{b x}{y:α}(h:(bif b then x else none)=some y):b=true/\x=some y:=W
theorem aN6 {t p v i cs H' c}(h:vI P H t p i=some (cs,v,H',c)):aIQ c cs v H H' λH2=>vI P H2 t p i:=by
 unfold vI at h;split at h
 next e hu=>
  split at h
  next n hs=>
   split at h
   ·obtain⟨hb,h⟩:=aJ h;exact .zero h λH2=>by simp only[vI,hu,hs,hb,oC]
   ·split at h
    ·obtain⟨_,h⟩:=aJ h;exact .one h
    ·cases h
   ·split at h
    ·obtain⟨_,h⟩:=aJ h;exact .one h
    ·cases h
   ·obtain⟨hb,h⟩:=aJ h;exact .zero h λH2=>by simp only[vI,hu,hs,hb,oC]
   ·obtain⟨hb,h⟩:=aJ h;exact .zero h λH2=>by simp only[vI,hu,hs,hb,oC]
   ·cases h
  ·cases h
 next n e hu=>
  split at h
  next sz hs=>
   split at h
   ·exact .zero h λH2=>by simp only[vI,hu,hs]
   ·cases h
  ·cases h
 ·cases h
theorem aOX {t f p v cs H' c}(h:D5 P H t f p=some (cs,v,H',c)):aIQ c cs v H H' λH2=>D5 P H2 t f p:=by
 unfold D5 at h;split at h
 next fd hf=>
  split at h
  next n hs=>
   split at h
   ·exact .zero h λH2=>by simp only[D5,hf,hs]
   ·exact .zero h λH2=>by simp only[D5,hf,hs]
   grind
  grind
 grind
theorem a3Q {t p v cs H' c}(h:aMY P H t p=some (cs,v,H',c)):aIQ c cs v H H' λH2=>aMY P H2 t p:=by
 unfold aMY at h;split at h
 ·split at h
  next u hu=>exact .zero h λH2=>by simp only[aMY,hu]
  grind
 ·split at h
  ·obtain⟨_,h⟩:=aJ h;split at h
   ·exact .one h
   grind
  ·cases h
 ·split at h
  ·split at h
   ·obtain⟨_,h⟩:=aJ h;split at h
    ·exact .one h
    grind
   ·cases h
  ·cases h
 ·cases h
theorem a5Y {tys p v cs H' c}(h:aSZ P H tys p=some (cs,v,H',c)):aIQ c cs v H H' λH2=>aSZ P H2 tys p:=by
 unfold aSZ at h;split at h
 next t ts ht=>
  split at h
  next e hu=>
   split at h
   ·exact .zero h λH2=>by simp only[aSZ,ht,hu]
   ·split at h
    ·exact .one h
    grind
   ·split at h
    ·exact .one h
    simp_all
   ·exact .zero h λH2=>by simp only[aSZ,ht,hu]
   ·exact .zero h λH2=>by simp only[aSZ,ht,hu]
   grind
  grind
 grind
theorem aYU {t p v lo hi cs H' c}(h:VZ P H t p lo hi=some (cs,v,H',c)):aIQ c cs v H H' λH2=>VZ P H2 t p lo hi:=by
 unfold VZ at h;split at h
 next e hu=>
  split at h
  next n hs=>
   split at h
   ·obtain⟨hb,h⟩:=aJ h;split at h
    next b1 i b2 j h1 h2=>exact .zero h λH2=>by simp only[VZ,hu,hs,hb,oC,h1,h2]
    ·cases h
   ·split at h
    ·rename_i g hg;obtain⟨hb,h⟩:=aJ h;unfold aLT at h;split at h
     ·
      cases hz:(aNT g.t&&Nat.beq g.l.length 0)with
      | true=>rw[hz]at h; exact .one h
      | false=>rw[hz]at h; exact .one h
     ·cases h
    ·cases h
   ·obtain⟨hb,h⟩:=aJ h;split at h
    next b1 i b2 j h1 h2=>exact .zero h λH2=>by simp only[VZ,hu,hs,hb,oC,h1,h2]
    ·cases h
   ·obtain⟨hb,h⟩:=aJ h;split at h
    next b1 i b2 j h1 h2=>exact .zero h λH2=>by simp only[VZ,hu,hs,hb,oC,h1,h2]
    ·cases h
   ·cases h
  ·cases h
 ·cases h
theorem aVM {t p v hi mx lo cs H' c}(h:XQ P H t p lo hi mx=some (cs,v,H',c)):aIQ c cs v H H' λH2=>XQ P H2 t p lo hi mx:=by
 unfold XQ at h;split at h
 next e hu=>
  split at h
  next n hs=>
   split at h
   ·obtain⟨hb,h⟩:=aJ h;split at h
    next h1 h2 h3=>exact .zero h λH2=>by simp only[XQ,hu,hs,hb,oC,h1,h2,h3]
    grind
   grind
  grind
 grind
theorem aLH {t n parts v cs H' c}(h:AZ P F H t n parts=some (cs,v,H',c)):aIQ c cs v H H' λH2=>AZ P F H2 t n parts:=by
 unfold AZ at h;split at h
 next e ty hel=>
  split at h
  next z hz=>
   obtain⟨hb,h⟩:=aJ h;split at h
   ·refine T2.cls ?_ h
    repeat' first
     | exact T2.no
     | exact T2.yes
     | apply T2.cond
     | split
   rename_i had;split at h
   ·rename_i ho;split at h
    ·rename_i ps hps;split at h
     ·rename_i cc hcc;split at h
      ·rename_i l hl;cases hbl:aA4 a7X t with
       | true=>rw[hbl]at h; exact T2.grow.cls h
       | false =>
       rw[hbl]at h;exact .zero h λH2=>by simp only[AZ,hel,hz,hb,oC,had,ho,hps,hcc,hl,hbl,oD]
      ·cases h
     ·cases h
    ·cases h
   ·dsimp only at h;refine T2.cls ?_ h
    repeat' first
     | exact T2.no
     | exact T2.grow
     | exact T2.yes
     | apply T2.cond
     | split
  ·cases h
 ·cases h
theorem bC1 {o v cs H' k}(h:top P F H o=some (cs,v,H',k)):aIQ k cs v H H' λH2=>top P F H2 o:=by
 unfold top at h;split at h
 next t x i ho=>
  split at h
  next k1 i1 hi=>have:=aN6 h;simpa only[top,ho,hi]using this
  ·cases h
 next s x f ho=>have:=aOX h;simpa only[top,ho]using this
 next t x ho=>have:=a3Q h;simpa only[top,ho]using this
 ·refine T2.cls ?_ h;unfold aLZ;split
  ·split
   ·exact aNO
   ·exact T2.no
  ·exact aNO
 next x ho=>exact .zero h λH2=>by simp only[top,ho]
 next t x lo hi ho=>
  cases hs:isS (ev F x)with
  | true =>
   rw[hs]at h;obtain⟨rfl,rfl,u,h1,rfl⟩:=Q7 h;exact⟨λ_=>⟨rfl,λH2=>by simp only[top,ho,hs,oC,h1,aX5]⟩,λ_=>rfl⟩
  | false =>
  rw[hs,oD]at h;cases hq:isQ (ev F x)with
  | true =>
   rw[hq]at h;exact aWS.cls h
  | false =>
  rw[hq]at h;have:=aYU h;simpa only[top,ho,hs,hq,oD]using this
 next t x lo hi mx ho=>have:=aVM h;simpa only[top,ho]using this
 next t x i ho=>obtain⟨rfl,rfl,u,h1,rfl⟩:=Q7 h;exact⟨λ_=>⟨rfl,λH2=>by simp only[top,ho,h1,aX5]⟩,λ_=>rfl⟩
 ·exact aSV.cls h
 next t m x ho=>unfold aLV at h;cases h
 next t m x ho=>
  unfold SM at h;split at h
  ·obtain⟨hk,h⟩:=aJ h;exact .zero h λH2=>by simp only[top,ho]; unfold SM; simp_all
  ·cases h
 ·exact aXF.cls h
 next t n parts ho=>have:=aLH h;simpa only[top,ho]using this
 ·exact aOL.cls h
 next s d x ho=>
  unfold aWL at h;split at h
  next b hb=>obtain⟨hc,h⟩:=aJ h;exact .zero h λH2=>by simp only[top,ho,aWL,hb,hc,oC]
  ·obtain⟨hc,h⟩:=aJ h;split at h
   ·split at h
    ·exact .one h
    ·cases h
   ·cases h
  ·cases h
 next op t x y ty ho=>
  cases hs:isS (ev F x)with
  | true =>
   rw[hs]at h;obtain⟨rfl,rfl,u,h1,rfl⟩:=Q7 h;exact⟨λ_=>⟨rfl,λH2=>by simp only[top,ho,hs,oC,h1,aX5]⟩,λ_=>rfl⟩
  | false =>
  rw[hs]at h;obtain⟨rfl,rfl,h3⟩:=a5U h;exact⟨λ_=>⟨rfl,λH2=>by simpa only[top,ho,hs,oD]using h3 H2⟩,λ_=>rfl⟩
 next c ho=>
  split at h
  next hc=>
   split at h
   next x hx=>have:=a5Y h;simpa only[top,ho,hc,hx]using this
   ·cases h
  ·split at h
   ·exact(T2.cond aS6 (a9P (T2.cond aTJ aVI))).cls h
   ·cases h
  ·split at h
   ·exact aY0.cls h
   ·cases h
  ·split at h
   ·exact a3V.cls h
   ·cases h
  ·cases h
 ·cases h
theorem a18 {cl}(hcl:dA P cl){o v H' k}(h:opx P cl F H o=some (v,H',k)):aEB k H H' v (λH2=>opx P cl F H2 o):=by
 rcases aXX h with ⟨ht,cs,h1,h2⟩|⟨ht,h⟩
 ·obtain⟨a1,a2⟩:=bC1 h1;refine⟨λhk=>⟨(a1 hk).1,λH2=>?_⟩,a2⟩;simp only[opx,ht,oC,(a1 hk).2 H2,h2]
 ·obtain⟨a1,a2⟩:=bBR hcl h;refine⟨λhk=>⟨(a1 hk).1,λH2=>?_⟩,a2⟩;simp only[opx,ht,oD,(a1 hk).2 H2]
theorem a4W {cl o}(h:∀ x∈o.op.operands,ev F' x=ev F x):opx P cl F' H o=opx P cl F H o:=by
 have hu:=a3F (P:=P) (cl:=cl) (H:=H) h;have hm:∀ {xs:List Operand},(∀ x∈xs,x∈o.op.operands)->xs.map (ev F')=xs.map (ev F):=λhx=>List.map_congr_left λx hm=>h x (hx x hm)
 have both:typed P F' o=typed P F o/\top P F' H o=top P F H o:=by
  unfold typed top;cases hop:o.op
  case makeMap t r=>cases r <;> exact⟨rfl,rfl⟩
  case lookup t m x c =>
   have h1:=h m (by simp[hop,Op.operands]);have h2:=h x (by simp[hop,Op.operands]);cases c <;> simp only[h1,h2,and_self]
  case buildSlice t n parts =>
   have:=VE (F:=F) (F':=F') (ps:=parts.toList) λp hpm=>h p.2 (by simp only[hop,Op.operands]; simp; exact⟨p.1,by simpa using hpm⟩)
   have had:∀ ty,aF6 F' ty n parts.toList=aF6 F ty n parts.toList:=λty=>by
    unfold aF6;split
    ·grind
    ·rfl
   simp only[AZ,this,had,and_self]
  case slice t x lo hi mx =>
   have hx:=h x (by simp[hop,Op.operands]);have hlo:lo.map (ev F')=lo.map (ev F):=by
    cases lo with
    | none=>rfl
    | some y=>simp[h y (by simp[hop,Op.operands])]
   have hhi:hi.map (ev F')=hi.map (ev F):=by
    cases hi with
    | none=>rfl
    | some y=>simp[h y (by simp[hop,Op.operands])]
   cases mx with
   | none=>simp only[hx,hlo,hhi,and_self]
   | some y =>
    have hy:=h y (by simp[hop,Op.operands]);cases hi with
    | none=>exact⟨rfl,rfl⟩
    | some z =>
     simp only[Option.map_some,oJ]at hhi;simp only[hx,hlo,hhi,hy,and_self]
  case call c =>
   have hargs:=hm (xs:=c.args.toList) λx hx=>by simp[hop,Op.operands,Call.operands]; exact .inr (by simpa using hx)
   have h0:ev F' (c.args.getD 0 (.const undef))=ev F (c.args.getD 0 (.const undef)):=by
    by_cases h1:0<c.args.size
    ·refine h _ ?_;simp only[hop,Op.operands,Call.operands,Array.mem_append];right;simp[h1]
    ·have:c.args=#[]:=Array.eq_empty_of_size_eq_zero Z;rw[this]; rfl
   have h1:∀ s,c.args.toList=[s]->ev F' s=ev F s:=λs hc=>by
    have:=hargs;rw[hc]at this;simpa using this
   have h2:∀ s x,c.args.toList=[s,x]->ev F' s=ev F s/\ev F' x=ev F x:=λs x hc=>by
    have:=hargs;rw[hc]at this;simpa using this
   constructor
   ·simp only[h0];split
    ·rfl
    ·rfl
    ·rfl
    ·cases hl:c.args.toList with
     | nil=>rfl
     | cons s l =>
      cases l with
      | nil=>rfl
      | cons x l =>
       cases l with
       | nil=>(cases c.argTypes.toList <;> first|rfl|simp only[(h2 s x hl).1])
       | cons y l=>rfl
    ·rfl
   ·simp only;split
    ·cases hl:c.args.toList with
     | nil=>rfl
     | cons s l =>
      cases l with
      | nil=>simp only[h1 s hl]
      | cons x l=>rfl
    ·cases hl:c.args.toList with
     | nil=>rfl
     | cons s l =>
      cases l with
      | nil=>rfl
      | cons x l =>
       cases l with
       | nil=>simp only[(h2 s x hl).1,(h2 s x hl).2]
       | cons y l=>rfl
    ·cases hl:c.args.toList with
     | nil=>rfl
     | cons s l =>
      cases l with
      | nil=>simp only[h1 s hl]
      | cons x l=>rfl
    ·cases hl:c.args.toList with
     | nil=>rfl
     | cons s l =>
      cases l with
      | nil=>rfl
      | cons x l =>
       cases l with
       | nil=>simp only[(h2 s x hl).1,(h2 s x hl).2]
       | cons y l=>rfl
    ·rfl
  all_goals
   first
   | exact⟨rfl,rfl⟩
   | (simp only[hop,Op.operands]at h
      simp at h;simp[h])
 unfold opx;rw[both.1,both.2,hu]
end
variable {P:Program} {n0:Nat->Prop} {w:World} {G:Gd} {μ:Mp} {H:Heap}
def aI4(P:Program) (t:TypeId) (l c:PV):Option (List Bool×PV) :=
 match CZ P t,l,c with
 | some (e,ty),.lit (.int _ l),.lit (.int _ c)=>match P.info? e with
  | some i=>match i.zero with
   | some z=>match dec ty (lits z.cells)with
    | some d=>bif Nat.ble i.bytes 65536&&Nat.beq z.cells.size i.size then
      some ([!ltI l 0,!ltI c l,!ltI 1048576 c],q9 ty (List.replicate l.toNat d) (some c.toNat))
     else none
    | none=>none
   | none=>none
  | none=>none
 | _,_,_=>none
theorem aLJ(hW:aO n0 G μ H w){t p q v x y cs}(hp:VR w G μ p x)(hq:VR w G μ q y)(h:aI4 P t p q=some (cs,v))(hcs:yY cs=true) :
  uB P n0 w G μ (Instr.makeSlice t x y) v H:=by
 unfold aI4 at h;split at h
 next e ty kl l kc cc hel=>
  rw[VR]at hp hq;subst hp; subst hq;obtain⟨hu,hs⟩:=xH hel;split at h
  next i hi=>
   have hsz:=MH hs hi;split at h
   ·rename_i z hz;split at h
    ·rename_i d hd;cases hb:(Nat.ble i.bytes 65536&&Nat.beq z.cells.size i.size)with
     | false=>rw[hb]at h; cases h
     | true =>
      rw[hb]at h;simp only[oC,oJ,oP]at h;obtain⟨rfl,rfl⟩:=h;simp only[oA]at hb;have hb1:=oL hb.1;have hb2:=oE hb.2;obtain⟨c1,hcs⟩:=aN hcs;obtain⟨c2,hcs⟩:=aN hcs;obtain⟨c3,_⟩:=aN hcs;rw[aE,Bool.not_eq_true',decide_eq_false_iff_not]at c1 c2 c3;have hbytes:(i.bytes:Int)*cc<=281474976710656:=by
       have:(i.bytes:Int)*cc<=65536*1048576:=Int.mul_le_mul Z Z Z Z;omega
      have hr:=run_make (P:=P) w t e i z hu hi hz kl kc l cc Z Z hbytes Z;have hdz:VRs w G aG (enc ty d) z.cells.toList:=yH ty aG _ d _ hd (zB _);have hrep:=yP hdz l.toNat;have hmade:(madeCells z.cells (cc.toNat*i.size)).toList=(List.replicate cc.toNat z.cells.toList).flatten:=by rw[<- hb2]; exact EZ z.cells cc.toNat
      have hsplit:(List.replicate cc.toNat z.cells.toList).flatten=(List.replicate l.toNat z.cells.toList).flatten++(List.replicate (cc.toNat-l.toNat) z.cells.toList).flatten:=by
       rw[<- List.flatten_append,List.replicate_append_replicate]
       congr 2; omega
      obtain⟨e1,e2⟩:=aCY hW (.cells (madeCells z.cells (cc.toNat*i.size)) e);refine⟨_,_,_,_,hr,e1,e2,YC ?_⟩;rw[VR];refine⟨_,_,by rw[List.length_replicate],by rw[List.length_replicate]; omega,λk hk=>by cases hk; rfl,.inr ⟨w.heap.size,0,rfl,.inr rfl,?_⟩⟩;refine aL.mk λj p hp=>?_
      obtain⟨u,g1,g2⟩:=hrep.get hp;refine⟨u,?_,VR.mono e1.toMono.aG p u g2⟩;rw[Nat.zero_add,World.cell?_alloc_new,<- Array.getElem?_toList,hmade,hsplit,List.getElem?_append_left (oO.1 g1).1];exact g1
    ·cases h
   ·cases h
  ·cases h
 ·cases h
def V6(P:Program) (H:Heap) (t:TypeId) (l c:PV):GV :=
 match CZ P t,l,c with
 | some (e,ty),.lit (.int _ l),.lit (.int _ c)=>match P.info? e with
  | some i=>match i.zero with
   | some z=>match dec ty (lits z.cells)with
    | some d=>bif Nat.ble i.bytes 65536&&Nat.beq z.cells.size i.size then
      some ([!ltI l 0,!ltI c l,!ltI 1048576 c],.win H.length 0 l.toNat ty.size,H++[some ⟨aI ty (List.replicate c.toNat d),e,true,false,some ⟨ty,List.replicate c.toNat d⟩⟩],2)
     else none
    | none=>none
   | none=>none
  | none=>none
 | _,_,_=>none
theorem aO3(hW:aO n0 G μ H w){t p q v x y cs H' c}(hp:VR w G μ p x)(hq:VR w G μ q y)(h:V6 P H t p q=some (cs,v,H',c))(hcs:yY cs=true) :
  c=2/\uB P n0 w G μ (Instr.makeSlice t x y) v H':=by
 unfold V6 at h;split at h
 next e ty kl l kc cc hel=>
  rw[VR]at hp hq;subst hp; subst hq;obtain⟨hu,hs⟩:=xH hel;split at h
  next i hi=>
   have hsz:=MH hs hi;split at h
   ·rename_i z hz;split at h
    ·rename_i d hd;cases hb:(Nat.ble i.bytes 65536&&Nat.beq z.cells.size i.size)with
     | false=>rw[hb]at h; cases h
     | true =>
      rw[hb]at h;simp only[oC,oJ,oP]at h;obtain⟨rfl,rfl,rfl,rfl⟩:=h;refine⟨rfl,?_⟩;simp only[oA]at hb;have hb1:=oL hb.1;have hb2:=oE hb.2;obtain⟨c1,hcs⟩:=aN hcs;obtain⟨c2,hcs⟩:=aN hcs;obtain⟨c3,_⟩:=aN hcs;rw[aE,Bool.not_eq_true',decide_eq_false_iff_not]at c1 c2 c3;have hbytes:(i.bytes:Int)*cc<=281474976710656:=by
       have:(i.bytes:Int)*cc<=65536*1048576:=Int.mul_le_mul Z Z Z Z;omega
      have hr:=run_make (P:=P) w t e i z hu hi hz kl kc l cc Z Z hbytes Z;have hdz:VRs w G aG (enc ty d) z.cells.toList:=yH ty aG _ d _ hd (zB _);have hrep:=yP hdz cc.toNat;have hmade:(madeCells z.cells (cc.toNat*i.size)).toList=(List.replicate cc.toNat z.cells.toList).flatten:=by rw[<- hb2]; exact EZ z.cells cc.toNat
      have hk:=EE (on:=some cc.toNat) hW (madeCells z.cells (cc.toNat*i.size)) ⟨aI ty (List.replicate cc.toNat d),e,true,false,some ⟨ty,List.replicate cc.toNat d⟩⟩ (λj p hp=>by
       obtain⟨u,g1,g2⟩:=hrep.get hp;refine⟨u,?_,g2.aV⟩;rw[<- Array.getElem?_toList,hmade];exact g1) (λh=>by cases h) rfl (λg hg=>by cases hg; exact⟨rfl,by simp⟩)
      refine⟨_,_,G,_,hr,CP hW _ _ _,hk,?_⟩;rw[VR,xS];simp only[Nat.zero_add];refine⟨w.heap.size,cc.toNat,cc.toNat,jS _ _ _ _,by rw[Nat.zero_mul],by omega,⟨madeCells z.cells (cc.toNat*i.size),e,(0,0),?_,?_⟩,nV _ _ _ _,by omega,by omega,trivial⟩
      ·show (w.heap.push _)[w.heap.size]?=_;simp
      ·simp[madeCells,hsz]
    ·cases h
   ·cases h
  ·cases h
 ·cases h
end Go.PM
namespace Go.PM
open Go Go.RowKit
def guardOf(F:Frm) (l:List Oper) (o:Oper):Option Bool :=
 match o.guard with
 | none=>some true
 | some (j,want)=>match l[j]? with
  | some p=>match p.dst with
   | some t=>match bM F t with
    | .lit (.bool b)=>some (bif b then want else !want)
    | .lit _=>some false
    | _=>none
   | none=>none
  | none=>none
def VA(nt:Nat)(F:Frm)(d:Option Tmp)(v:PV):Option Frm :=
 match d with
 | none=>some F
 | some t=>bif Nat.blt t nt then some ((t,v)::F) else none
def a5V(l:List Oper):Option Tmp->Bool
 | none=>false
 | some t=>l.any λo=>match o.op with
  | .call c=>match c.callee with
   | .value _=>c.args.toList.any λx=>match x with
    | .tmp s=>Nat.beq s t
    | _=>false
   | _=>false
  | .buildSlice _ _ ps=>ps.toList.any λx=>match x.2 with
   | .tmp s=>Nat.beq s t
   | _=>false
  | .build _ ps=>ps.toList.any λx=>match x.2 with
   | .tmp s=>Nat.beq s t
   | _=>false
  | .store _ (.tmp a) (.tmp s)=>Nat.beq s t&&l.any λo=>match o.dst,o.op with
   | some b,.fieldAddr _ _ _=>Nat.beq a b
   | _,_=>false
  | _=>false
def aN1(l:List Oper):Option Tmp->Bool
 | none=>false
 | some t=>l.any λo=>match o.op with
  | .call c=>match c.callee with
   | .builtin .append=>match c.args.toList with
    | .tmp s::_=>Nat.beq s t
    | _=>false
   | _=>false
  | _=>false
def opz(P:Program) (cl:Callee) (l:List Oper) (F:Frm) (H:Heap) (o:Oper):Option (PV×Heap×Nat):=match o.op with
 | .makeSlice t n c=>bif aN1 l o.dst then (match V6 P H t (ev F n) (ev F c)with
   | some (cs,v,H',k)=>bif yY cs then some (v,H',k) else none
   | none=>none) else opx P cl F H o
 | _=>opx P cl F H o
def mkData(P:Program) (F:Frm) (l:List Oper) (o:Oper):Option (Option (List Bool×PV)):=match o.op with
 | .makeSlice t n c=>bif a5V l o.dst then some (aI4 P t (ev F n) (ev F c)) else none
 | _=>none
def xV(P:Program)(cl:Callee)(l:List Oper)(o:Oper)(F:Frm)(H:Heap):Option (PV×Heap×Nat) :=
 match guardOf F l o with
 | some true=>match mkData P F l o with
  | none=>opz P cl l F H o
  | some none=>none
  | some (some (cs,v))=>bif yY cs then some (v,H,0) else none
 | some false=>some (.lit undef,H,0)
 | none=>none
def PL(P:Program)(cl:Callee)(nt:Nat)(l:List Oper):List Oper->Frm->Heap->Option (Frm×Heap)
 | [],F,H=>some (F,H)
 | o::rest,F,H=>match xV P cl l o F H with
  | some (v,H',c)=>fPV v λv=>match VA nt F o.dst v with
   | some F'=>bif Nat.beq c 2 then aGJ H' λH'=>PL P cl nt l rest F' H' else PL P cl nt l rest F' H'
   | none=>none
  | none=>none
def aLC:List Oper->Nat
 | []=>0
 | o::l=>match o.dst with|some _=>aLC l+1|none=>aLC l
def bFJ:Option Tmp->Nat
 | some _=>1
 | none=>0
theorem aQN {nt F F' d v}(h:VA nt F d v=some F'):∃ news ,F'=news++F/\news.length=bFJ d:=by
 cases d with
 | none=>simp only[VA,oJ]at h; subst h; exact⟨[],rfl,rfl⟩
 | some t =>
  simp only[VA]at h;cases hb:Nat.blt t nt with
  | false=>grind
  | true =>
   rw[hb]at h;simp only[oC,oJ]at h;subst h;exact⟨[(t,v)],rfl,rfl⟩
theorem aJW {P cl nt ops}:∀ {l F F' H H'},PL P cl nt ops l F H=some (F',H')->∃ news ,F'=news++F/\news.length=aLC l
 | [],F,F',H,H',h=>by
  simp only[PL,oJ,oP]at h;exact⟨[],h.1.symm,rfl⟩
 | o::l,F,F',H,H',h=>by
  simp only[PL]at h;split at h
  ·rw[VH]at h;split at h
   next F1 hp=>rw[D1,Bool.cond_self]at h;obtain⟨n1,e1,l1⟩:=aJW h;obtain⟨n2,e2,l2⟩:=aQN hp;refine⟨n1++n2,by grind,?_⟩;rw[oH,l1,l2];simp only[aLC];generalize o.dst=d;cases d <;> rfl
   grind
  grind
section
variable {P:Program} {cl:Callee} {n0:Nat->Prop} {nt:Nat} {wi:World} {Gi:Gd} {μi:Mp} {w:World} {G:Gd} {μ:Mp} {F:Frm} {H:Heap} {a:Act}
theorem yI(hF:cZ w G μ nt F a){ops o b}(h:guardOf F ops.toList o=some b):Region.wanted o (yielded ops a.tmps)=b:=by
 unfold guardOf at h;unfold Region.wanted;split at h
 next hg=>simp only[oJ]at h;rw[hg,<- h]
 next j want hg=>
  rw[hg];simp only;split at h
  next p hp=>
   have hp:ops[j]?=some p:=by simpa using hp
   split at h
   ·rename_i t ht;have hs:=hF.slot t;have hy:yielded ops a.tmps j=match a.tmps[t]? with|some (.bool b)=>some b|_=>none:=by
     unfold yielded;simp only[hp,Option.bind_some,ht];rfl
    rw[hy];split at h
    ·rename_i c hc;rw[hc,VR]at hs;simp only[oJ]at h;have:a.tmps[t]?=some (.bool c):=by
      rcases oG t a.tmps.size with hl|hl
      ·simp only[Array.getD,hl,dif_pos]at hs;rw[Array.getElem?_eq_getElem hl,<- hs]; rfl
      ·simp only[Array.getD,Nat.not_lt.2 hl,dif_neg,not_false_iff]at hs;cases hs
     rw[this,<- h];cases c <;> cases want <;> rfl
    ·rename_i u hno hc;rw[hc,VR]at hs;simp only[oJ]at h;rw[<- h];rcases oG t a.tmps.size with hl|hl
     ·have:a.tmps[t]?=some u:=by
       simp only[Array.getD,hl,dif_pos]at hs;rw[Array.getElem?_eq_getElem hl,<- hs]; rfl
      rw[this];cases u <;> first|rfl|exact absurd rfl (hno _)
     ·rw[Array.getElem?_eq_none hl]; rfl
    ·cases h
   ·cases h
  ·cases h
def I(n0:Nat->Prop) (wi:World) (Gi:Gd) (μi:Mp) (nt:Nat) (F:Frm) (H:Heap) (a:Act) (w:World):Prop :=
 ∃ G μ,Ext n0 wi Gi μi w G μ/\aO n0 G μ H w/\cZ w G μ nt F a
theorem cZ.aX2 (h:cZ w G μ nt F a){d p v F'}(hx:VA nt F d p=some F')(hv:VR w G μ p v):cZ w G μ nt F' (a.put d v):=by
 cases d with
 | none=>simp only[VA,oJ]at hx; subst hx; exact h
 | some t =>
  simp only[VA]at hx;cases hb:Nat.blt t nt with
  | false=>grind
  | true =>
   rw[hb]at hx;simp only[oC,oJ]at hx;subst hx;exact h.cons (by simp_all) hv
theorem aTA(hW:aO n0 G μ H w)(hF:cZ w G μ nt F a){l o cs v}(h:mkData P F l o=some (some (cs,v)))(hcs:yY cs=true):KL P n0 w G μ o a v H:=by
 unfold mkData at h;split at h
 next t x y ho=>
  cases hb:a5V l o.dst with
  | false=>grind
  | true =>
   rw[hb]at h;simp only[oC,oJ]at h;exact .value (by simp only[execOp,ho]) (aLJ hW (cC hF x) (cC hF y) h hcs)
 grind
theorem a2X(hcl:dA P cl)(hW:aO n0 G μ H w)(hF:cZ w G μ nt F a){l o v H' k}(h:opz P cl l F H o=some (v,H',k)):KL P n0 w G μ o a v H':=by
 unfold opz at h;split at h
 next t n c ho=>
  cases hb:aN1 l o.dst with
  | false=>rw[hb]at h; exact aQO hcl hW hF h
  | true =>
   rw[hb]at h;split at h
   next cs v1 H1 k1 h1=>obtain⟨hcs,h⟩:=aJ h;obtain⟨rfl,rfl,rfl⟩:=h;exact .value (by simp only[execOp,ho]) (aO3 hW (cC hF n) (cC hF c) h1 hcs).2
   grind
 ·exact aQO hcl hW hF h
theorem aU4 {t p q}:T2 (V6 P H t p q):=by
 unfold V6
 repeat' first
  | exact T2.no
  | exact T2.yes
  | apply T2.cond
  | split
theorem bCC(hcl:dA P cl){l o v H' k}(h:opz P cl l F H o=some (v,H',k)):aEB k H H' v (λH2=>opz P cl l F H2 o):=by
 unfold opz at h ⊢;split at h
 ·cases hb:aN1 l o.dst with
  | false =>
   rw[hb]at h;exact a18 hcl h
  | true =>
   rw[hb]at h;split at h
   next cs v1 H1 k1 h1=>obtain⟨hcs,h⟩:=aJ h;obtain⟨rfl,rfl,rfl⟩:=h;have:=aU4 _ _ _ _ h1;subst this;exact⟨λh=>Z,λh=>by cases h⟩
   grind
 ·exact a18 hcl h
theorem XP(hcl:dA P cl){ops o v H' c}(h:xV P cl ops.toList o F H=some (v,H',c))(hW:aO n0 G μ H w)(hF:cZ w G μ nt F a) :
  (Region.wanted o (yielded ops a.tmps)=true/\KL P n0 w G μ o a v H')\/(Region.wanted o (yielded ops a.tmps)=false/\v=.lit undef/\H'=H):=by
 unfold xV at h;split at h
 next hg=>
  split at h
  ·exact .inl ⟨yI hF hg,a2X hcl hW hF h⟩
  ·grind
  next cs v' hm=>
   cases hb:yY cs with
   | false=>grind
   | true =>
    rw[hb]at h;obtain⟨rfl,rfl,rfl⟩:=h;exact .inl ⟨yI hF hg,aTA hW hF hm hb⟩
 next hg=>obtain⟨rfl,rfl,rfl⟩:=h;exact .inr ⟨yI hF hg,rfl,rfl⟩
 grind
theorem CA(hcl:dA P cl){ops Q F' H'}:∀ l F H a w,PL P cl nt ops.toList l F H=some (F',H')->I n0 wi Gi μi nt F H a w ->
  (∀ a' w',I n0 wi Gi μi nt F' H' a' w'->Q .normal a' w')->wpList P ops Q l a w
 | [],F,H,a,w,h,hI,hQ=>by
  obtain⟨rfl,rfl⟩:=h;exact hQ a w hI
 | o::rest,F,H,a,w,h,hI,hQ=>by
  simp only[PL]at h;split at h
  next v H1 c hs=>
   rw[VH]at h;split at h
   ·rename_i F1 hp;rw[D1,Bool.cond_self]at h;obtain⟨G,μ,e,hW,hF⟩:=hI;unfold wpList;rcases XP hcl hs hW hF with ⟨h1,h2⟩|⟨h1,rfl,rfl⟩
    ·rw[if_pos h1];refine .inl (h2 _ _ λv' w' G' μ' e' hW' hv=>?_);exact CA hcl rest F1 H1 _ _ h ⟨G',μ',e.trans e',hW',(hF.mono e'.toMono).aX2 hp hv⟩ hQ
    ·rw[h1,if_neg O];exact CA hcl rest F1 H1 _ _ h ⟨G,μ,e,hW,hF.aX2 hp (by rfl)⟩ hQ
   grind
  grind
end
structure bAO where
 l8:List Nat
 own:List (Nat×TypeId×Option Ty)
 base:Nat
def below(m:Nat):PV->Bool
 | .hptr r _=>Nat.blt r m
 | .hs r _ _ _ _=>Nat.blt r m
 | .own r _=>Nat.blt r m
 | .op r _ _ _=>Nat.blt r m
 | .win r _ _ _=>Nat.blt r m
 | .qs r _=>Nat.blt r m
 | .agg cs|.tuple cs=>belows m cs
 | .clo _ f c=>belows m f&&belows m c
 | _=>true
where belows m:List PV->Bool
 | []=>true
 | p::ps=>below m p&&belows m ps
def aS4(s n:Nat):PV->PV
 | .win r lo m sz=>bif Nat.beq r s then .win n lo m sz else .win r lo m sz
 | p=>p
def aW2(s n:Nat):Frm->Frm
 | []=>[]
 | (t,p)::r=>(t,aS4 s n p)::aW2 s n r
def aSO(t:Nat) (e:TypeId) (ty:Ty) (F:Frm) (H:Heap) (k:Frm->Heap->Option (Frm×Heap)) (s sz:Nat) (q:PV):Option (Frm×Heap):=match gS H s with
 | some kb=>match kb.tag with
  | some g=>match AY g.t ty g.l with
   | some l=>bif Nat.beq sz ty.size&&!kb.frozen&&Nat.beq kb.ty e&&kb.grown then k ((t,q)::aW2 s H.length F) (H.set s none++[some ⟨aI ty l,e,true,false,some ⟨ty,l⟩⟩]) else none
   | none=>none
  | none=>none
 | none=>none
def aSL(t:Nat) (e:TypeId) (ty:Ty) (F:Frm) (H:Heap) (k:Frm->Heap->Option (Frm×Heap)):Option (Frm×Heap):=match bM F t with
 | .lit (.slice none m c)=>bif Nat.beq m 0&&Nat.beq c 0 then k ((t,.own H.length ty.size)::F) (H++[some ⟨aI ty [],e,true,false,some ⟨ty,[]⟩⟩]) else none
 | .tl _ [] (some 0) _=>k ((t,.own H.length ty.size)::F) (H++[some ⟨aI ty [],e,true,false,some ⟨ty,[]⟩⟩])
 | .own s sz=>aSO t e ty F H k s sz (.own H.length sz)
 | .qs s sz=>aSO t e ty F H k s sz (.qs H.length sz)
 | _=>none
def DQ:List (Nat×TypeId×Option Ty)->Frm->Heap->Option (Frm×Heap)
 | [],F,H=>some (F,H)
 | (t,e,none)::r,F,H=>match bM F t with
  | .hptr s off=>match gS H s with
   | some k=>bif Nat.beq k.ty e&&!k.tag.isSome then DQ r ((t,.hptr H.length off)::F) (H.set s none++[some k]) else none
   | none=>none
  | _=>none
 | (_,e,some (.rows _))::r,F,H=>match aC4 0 H with
  | some (s,k)=>match k.tag with
   | some ⟨.rows _,_⟩=>bif Nat.beq k.ty e&&!k.frozen then DQ r F (H.set s none++[some k]) else none
   | _=>none
  | none=>none
 | (t,e,some ty)::r,F,H=>aSL t e ty F H (DQ r)
def aMK(m d:Nat):PV->Option PV
 | .own r sz=>bif Nat.blt r m then some (.own r sz) else bif Nat.ble (m+d) r then some (.own (r-d) sz) else none
 | .qs r sz=>bif Nat.blt r m then some (.qs r sz) else bif Nat.ble (m+d) r then some (.qs (r-d) sz) else none
 | .hptr r off=>bif Nat.blt r m then some (.hptr r off) else bif Nat.ble (m+d) r then some (.hptr (r-d) off) else none
 | .win r lo n sz=>bif Nat.blt r m then some (.win r lo n sz) else bif Nat.ble (m+d) r then some (.win (r-d) lo n sz) else none
 | p=>bif below m p then some p else none
def aND(m d:Nat)(F:Frm):List Nat->Option Frm
 | []=>some []
 | t::r=>match aMK m d (bM F t),aND m d F r with
  | some p,some F'=>some ((t,p)::F')
  | _,_=>none
def UM(m:Nat):List (Option Blk)->Bool
 | []=>true
 | none::r=>UM m r
 | some k::r=>(k.tag.isSome||below.belows m k.cells)&&UM m r
def XR:List (Option Blk)->Bool
 | []=>true
 | none::r=>XR r
 | some k::r=>(k.tag.isSome||dR.noRefs k.cells)&&XR r
def tidy(pl:bAO)(F:Frm)(H:Heap):Option (Frm×Heap) :=
 bif Nat.ble pl.base H.length then match DQ pl.own F H with
  | some (F1,H1)=>bif UM pl.base (H1.take pl.base)&&XR (H1.drop (pl.base+(H.length-pl.base))) then match aND pl.base (H.length-pl.base) F1 pl.l8 with
   | some F2=>some (F2,H1.take pl.base++H1.drop (pl.base+(H.length-pl.base)))
   | none=>none
   else none
  | none=>none
 else none
section
variable {P:Program} {n0:Nat->Prop} {w wi:World} {G Gi:Gd} {μ μi μ':Mp} {H:Heap} {F:Frm} {a:Act} {nt:Nat}
mutual
theorem WM {m:Nat} (h:∀ r,r<m->μ'.loc r=μ.loc r/\μ'.len r=μ.len r/\μ'.sh r=μ.sh r):∀ (p:PV) (v:Value),below m p=true->VR w G μ p v->VR w G μ' p v
 | .lit u,v,_,hv=>by rw[VR]at hv ⊢; exact hv
 | .vals ..,v,_,hv=>by rw[VR]at hv ⊢; exact hv
 | .iptr _,v,_,hv=>by rw[VR]at hv ⊢; exact hv
 | .tl ..,v,_,hv=>by rw[VR]at hv ⊢; exact hv
 | .tp ..,v,_,hv=>by rw[VR]at hv ⊢; exact hv
 | .row ..,v,_,hv=>by rw[VR]at hv ⊢; exact hv
 | .rp ..,v,_,hv=>by rw[VR]at hv ⊢; exact hv
 | .mp _,v,_,hv=>by rw[VR]at hv ⊢; exact hv
 | .tm _,v,_,hv=>by rw[VR]at hv ⊢; exact hv
 | .junk,v,_,hv=>by rw[VR]; trivial
 | .hptr r off,v,hb,hv=>by
  have:=h r (fX (by simpa only[below]using hb));rw[VR]at hv ⊢; rw[this.1,this.2.2]; exact hv
 | .hs r off l c s,v,hb,hv=>by
  have:=h r (fX (by simpa only[below]using hb));rw[VR]at hv ⊢; rw[this.1,this.2.2]; exact hv
 | .own r s,v,hb,hv=>by
  have:=h r (fX (by simpa only[below]using hb));rw[VR]at hv ⊢; rw[this.1,this.2.1,this.2.2]; exact hv
 | .op r i off s,v,hb,hv=>by
  have:=h r (fX (by simpa only[below]using hb));rw[VR]at hv ⊢; rw[this.1,this.2.2]; exact hv
 | .win r lo n s,v,hb,hv=>by
  have:=h r (fX (by simpa only[below]using hb));rw[VR]at hv ⊢; rw[this.1,this.2.1,this.2.2]; exact hv
 | .qs r s,v,hb,hv=>by
  have:=h r (fX (by simpa only[below]using hb));rw[VR]at hv ⊢; rw[this.1,this.2.1,this.2.2]; exact hv
 | .agg cs,v,hb,hv=>by
  rw[VR]at hv ⊢;obtain⟨vs,h1,h2⟩:=hv;exact⟨vs,h1,Q8 h cs _ (by simpa only[below]using hb) h2⟩
 | .tuple cs,v,hb,hv=>by
  rw[VR]at hv ⊢;obtain⟨vs,h1,h2⟩:=hv;exact⟨vs,h1,Q8 h cs _ (by simpa only[below]using hb) h2⟩
 | .clo fn f c,v,hb,hv=>by
  rw[VR]at hv ⊢;simp only[below,oA]at hb;obtain⟨fs,cs,h1,h2,h3⟩:=hv;exact⟨fs,cs,h1,Q8 h f _ hb.1 h2,Q8 h c _ hb.2 h3⟩
theorem Q8 {m:Nat} (h:∀ r,r<m->μ'.loc r=μ.loc r/\μ'.len r=μ.len r/\μ'.sh r=μ.sh r):∀ (ps:List PV) (vs:List Value),below.belows m ps=true->VRs w G μ ps vs->VRs w G μ' ps vs
 | [],vs,_,hv=>by rw[VRs]at hv ⊢; exact hv
 | p::ps,vs,hb,hv=>by
  rw[VRs]at hv ⊢;simp only[below.belows,oA]at hb;obtain⟨x,xs,h1,h2,h3⟩:=hv;exact⟨x,xs,h1,WM h p x hb.1 h2,Q8 h ps xs hb.2 h3⟩
end
theorem nR {b off ps}(hn:dR.noRefs ps=true)(h:aL w G μ b off ps):aL w G μ' b off ps:=by
 obtain⟨vs,h1,h2⟩:=h.values;exact aL.nZ (VRs.aV (cU ps vs hn h1)) h2
theorem aS9 {m}(hm:∀ r,r<m->μ'.loc r=μ.loc r/\μ'.len r=μ.len r/\μ'.sh r=μ.sh r){b off ps}(hn:below.belows m ps=true)(h:aL w G μ b off ps):aL w G μ' b off ps:=by
 obtain⟨vs,h1,h2⟩:=h.values;exact aL.nZ (Q8 hm ps vs hn h1) h2
theorem aCV {t e v}(h:VR w G μ (.tl t [] (some 0) e) v):∃ ao,v=.slice ao 0 0:=by
 obtain⟨h1,rfl⟩:=h;obtain⟨ao,c,rfl,_,h2,_⟩:=h1
 simp_all
theorem cZ.named (h:cZ w G μ nt F a){t p}(hv:VR w G μ p (a.tmps.getD t undef)):cZ w G μ nt ((t,p)::F) a :=
 ⟨h.size,λs=>by
  rw[bT]
  by_cases hs:s=t
  ·grind
  ·rw[if_neg hs]; exact h.slot s,h.defers⟩
theorem aIX s n t:∀ F ,bM (aW2 s n F) t=aS4 s n (bM F t)
 | []=>rfl
 | (u,p)::r=>by
  simp only[aW2];rw[bT,bT]
  by_cases h:t=u
  ·grind
  ·rw[if_neg h,if_neg h]; exact aIX s n t r
theorem a4I {s n}(e:Mono w G μ w G μ')(hl:μ'.loc n=μ.loc s)(hn:μ'.len n=μ.len s)(hs:∀ b,μ.loc s=some b->μ'.sh n=μ.sh s){p v}(h:VR w G μ p v):VR w G μ' (aS4 s n p) v:=by
 cases p with
 | win r lo m sz =>
  simp only[aS4];cases hb:Nat.beq r s with
  | true =>
   have hb:=oE hb;simp only[oC];rw[VR];obtain⟨b,c,m',h1,h2,h3,h4,h5,h6⟩:=h
   simp_all
  | false=>exact VR.mono e _ _ h
 | _=>exact VR.mono e _ _ h
theorem cZ.aW2 (h:cZ w G μ nt F a){s n}(e:Mono w G μ w G μ')(hl:μ'.loc n=μ.loc s)(hn:μ'.len n=μ.len s)(hs:∀ b,μ.loc s=some b->μ'.sh n=μ.sh s):cZ w G μ' nt (PM.aW2 s n F) a :=
 ⟨h.size,λt=>by rw[aIX]; exact a4I e hl hn hs (h.slot t),h.defers⟩
theorem aN8 {t e ty F H F' H' kk s sz q}
  (rec_:∀ F H F' H',kk F H=some (F',H')->I n0 wi Gi μi nt F H a w->I n0 wi Gi μi nt F' H' a w/\H.length<=H'.length/\∀ t,bM F t=.junk->bM F' t=.junk)
  (h:aSO t e ty F H kk s sz q=some (F',H')) (hI:I n0 wi Gi μi nt F H a w) (ht:bM F t=.own s sz\/bM F t=.qs s sz) (hW:aO n0 G μ H w) (hF:cZ w G μ nt F a) (e0:Ext n0 wi Gi μi w G μ) (hs:VR w G μ (.qs s sz) (a.tmps.getD t undef)) (hq:q=.qs H.length sz\/q=.own H.length sz/\VR w G μ (.own s sz) (a.tmps.getD t undef)) :
  I n0 wi Gi μi nt F' H' a w/\H.length<=H'.length/\∀ t,bM F t=.junk->bM F' t=.junk:=by
 unfold aSO at h;split at h
 next k hk=>
  split at h
  next g hg=>
   split at h
   ·rename_i l' hc;obtain⟨hb,h⟩:=aJ h;simp only[oA,Bool.not_eq_true']at hb;obtain⟨⟨⟨hb1,hb2⟩,hb3⟩,hb4⟩:=hb;have hb3:=oE hb3;obtain⟨ht1,ht2⟩:=hW.tags s k g (aH hk) hg;obtain⟨gt,gl⟩:=g;obtain⟨rfl,rfl⟩:=lF hc;obtain⟨n,h1,h2⟩:=hs;rw[ht2]at h1;cases h1;have hkk:k=⟨aI gt gl,e,true,false,some ⟨gt,gl⟩⟩:=by
     obtain⟨k1,k2,k3,k4,k5⟩:=k;grind
    have junk:∀ x,bM F x=.junk->bM ((t,q)::aW2 s H.length F) x=.junk:=λx hx=>by
     rw[bT,if_neg,aIX,hx]; rfl;grind
    have fin:∀ (ob:Option Nat) (o:Nat),μ.loc s=ob->(∀ b,μ.loc s=some b->o=μ.sh s)->Ext n0 w G μ w G (upd μ H.length ob (some gl.length) o)->aO n0 G (upd μ H.length ob (some gl.length) o) (H.set s none++[some ⟨aI gt gl,e,true,false,some ⟨gt,gl⟩⟩]) w ->
      VR w G (upd μ H.length ob (some gl.length) o) q (a.tmps.getD t undef)->I n0 wi Gi μi nt F' H' a w/\H.length<=H'.length/\∀ t,bM F t=.junk->bM F' t=.junk:=λob o hob ho e1 w1 v1=>by
     obtain⟨g1,g2,g3⟩:=rec_ _ _ F' H' h ⟨G,_,e0.trans e1,w1,cZ.named (hF.aW2 e1.toMono (by rw[jS,hob]) (by rw[nV,ht2]) (λb hb=>by rw[xS]; exact ho b hb)) v1⟩;grind
    cases hls:μ.loc s with
    | none =>
     rcases h2 with ⟨h2,ao,h3⟩|⟨b,c,h3,h4,h5,h6⟩
     ·have hk0:=rP hW s;obtain⟨e1,w1⟩:=qS hk0 ⟨aI gt gl,e,true,false,some ⟨gt,gl⟩⟩ (on:=some gl.length) (λg hg=>by cases hg; exact⟨rfl,rfl⟩);rw[List.length_set]at e1 w1;refine fin none 0 hls (λb hb=>by rw[hls]at hb; cases hb) e1 w1 ?_;rcases hq with rfl|⟨rfl,_⟩ <;> (rw[VR]; exact⟨_,nV ..,.inl ⟨h2,ao,h3⟩⟩)
     ·grind
    | some b =>
     rw[hkk]at hk;obtain⟨e1,w1⟩:=OP hW (aH hk) hls (on:=some gl.length) (λg hg=>by cases hg; exact⟨rfl,rfl⟩);refine fin (some b) _ hls (λ_ _=>rfl) e1 w1 ?_;rcases hq with rfl|⟨rfl,hq⟩
     ·rw[VR];rw[xS];refine⟨_,nV ..,?_⟩;rcases h2 with ⟨h2,ao,h3⟩|⟨b',c,h3,h4,h5,h6⟩
      ·grind
      ·rw[hls]at h3; cases h3;exact .inr ⟨b,c,jS ..,h4,h5,h6⟩
     ·rw[VR]at hq;rw[VR,xS];obtain⟨n,h1,h2⟩:=hq;rw[ht2]at h1;cases h1;refine⟨_,nV ..,?_⟩;rcases h2 with ⟨h2,ao,h3⟩|⟨b',c,h3,h4,h5,h6⟩
      ·exact .inl ⟨h2,ao,h3⟩
      ·rw[hls]at h3; cases h3;exact .inr ⟨b,c,jS ..,h4,h5,h6⟩
   ·cases h
  ·cases h
 ·cases h
theorem D3 {t e ty F H F' H' kk}
  (rec_:∀ F H F' H',kk F H=some (F',H')->I n0 wi Gi μi nt F H a w->I n0 wi Gi μi nt F' H' a w/\H.length<=H'.length/\∀ t,bM F t=.junk->bM F' t=.junk)
  (h:aSL t e ty F H kk=some (F',H')) (hI:I n0 wi Gi μi nt F H a w):I n0 wi Gi μi nt F' H' a w/\H.length<=H'.length/\∀ t,bM F t=.junk->bM F' t=.junk:=by
 unfold aSL at h;obtain⟨G,μ,e0,hW,hF⟩:=hI;have hs:=hF.slot t;split at h
 next m c ht=>
  obtain⟨hb,h⟩:=aJ h;simp only[oA]at hb;have h1:=oE hb.1;have h2:=oE hb.2;subst h1; subst h2;rw[ht,VR]at hs;obtain⟨e1,w1⟩:=qS hW ⟨aI ty [],e,true,false,some ⟨ty,[]⟩⟩ (on:=some 0) (λg hg=>by cases hg; exact⟨rfl,rfl⟩);have f1:cZ w G (upd μ H.length none (some 0)) nt ((t,.own H.length ty.size)::F) a:=by
   refine cZ.named (hF.mono e1.toMono) ?_;exact⟨0,nV ..,.inl ⟨rfl,none,hs⟩⟩
  obtain⟨g1,g2,g3⟩:=rec_ _ _ F' H' h ⟨G,_,e0.trans e1,w1,f1⟩;refine⟨g1,by simp only[oH]at g2; omega,λs hx=>g3 s ?_⟩;rw[bT,if_neg,hx];grind
 next t' e' ht=>
  rw[ht]at hs;obtain⟨ao,hs⟩:=aCV hs;obtain⟨e1,w1⟩:=qS hW ⟨aI ty [],e,true,false,some ⟨ty,[]⟩⟩ (on:=some 0) (λg hg=>by cases hg; exact⟨rfl,rfl⟩);have f1:cZ w G (upd μ H.length none (some 0)) nt ((t,.own H.length ty.size)::F) a:=by
   refine cZ.named (hF.mono e1.toMono) ?_;exact⟨0,nV ..,.inl ⟨rfl,ao,hs⟩⟩
  obtain⟨g1,g2,g3⟩:=rec_ _ _ F' H' h ⟨G,_,e0.trans e1,w1,f1⟩;refine⟨g1,by simp only[oH]at g2; omega,λs hx=>g3 s ?_⟩;rw[bT,if_neg,hx];grind
 next s sz ht=>rw[ht]at hs;exact aN8 rec_ h ⟨G,μ,e0,hW,hF⟩ (by rw[ht]; exact .inl rfl) hW hF e0 (a0B hs) (.inr ⟨rfl,hs⟩)
 next s sz ht=>rw[ht]at hs;exact aN8 rec_ h ⟨G,μ,e0,hW,hF⟩ (by rw[ht]; exact .inr rfl) hW hF e0 hs (.inl rfl)
 ·cases h
theorem pX:∀ l F H F' H',DQ l F H=some (F',H')->I n0 wi Gi μi nt F H a w->I n0 wi Gi μi nt F' H' a w/\H.length<=H'.length/\∀ t,bM F t=.junk->bM F' t=.junk
 | [],F,H,F',H',h,hI=>by
  obtain⟨rfl,rfl⟩:=h;grind
 | (t,e,none)::l,F,H,F',H',h,hI=>by
  simp only[DQ]at h;obtain⟨G,μ,e0,hW,hF⟩:=hI;have hs:=hF.slot t;split at h
  next s off ht=>
   split at h
   ·rename_i k hk;obtain⟨hb,h⟩:=aJ h;rw[ht,VR]at hs;obtain⟨b,h1,h2⟩:=hs;obtain⟨e1,w1⟩:=OP hW (aH hk) h1 (on:=none) (λg hg=>by rw[hg]at hb; simp at hb);have f1:cZ w G (upd μ H.length (some b) none (μ.sh s)) nt ((t,.hptr H.length off)::F) a:=by
     refine cZ.named (hF.mono e1.toMono) ?_;rw[VR,xS];exact⟨b,jS ..,h2⟩
    obtain⟨g1,g2,g3⟩:=pX l _ _ F' H' h ⟨G,_,e0.trans e1,w1,f1⟩;refine⟨g1,by simp only[oH,List.length_set]at g2; omega,λx hx=>g3 x ?_⟩;rw[bT,if_neg,hx];grind
   ·cases h
  ·cases h
 | (t,e,some (.rows ty))::l,F,H,F',H',h,hI=>by
  simp only[DQ]at h;obtain⟨G,μ,e0,hW,hF⟩:=hI;split at h
  next s k har=>
   split at h
   next t' l' ht=>obtain⟨hb,h⟩:=aJ h;obtain⟨hs,hg⟩:=aBN har;obtain⟨e1,w1⟩:=aZ1 hW hs hg ht;obtain⟨g1,g2,g3⟩:=pX l _ _ F' H' h ⟨G,_,e0.trans e1,w1,hF.mono e1.toMono⟩;grind
   ·cases h
  ·cases h
 | (t,e,some (.int ik))::l,F,H,F',H',h,hI=>D3 (ty:=.int ik) (λF H F' H'=>pX l F H F' H') (by simpa only[DQ]using h) hI
 | (t,e,some .bool)::l,F,H,F',H',h,hI=>D3 (ty:=.bool) (λF H F' H'=>pX l F H F' H') (by simpa only[DQ]using h) hI
 | (t,e,some .str)::l,F,H,F',H',h,hI=>D3 (ty:=.str) (λF H F' H'=>pX l F H F' H') (by simpa only[DQ]using h) hI
 | (t,e,some (.list lt))::l,F,H,F',H',h,hI=>D3 (ty:=.list lt) (λF H F' H'=>pX l F H F' H') (by simpa only[DQ]using h) hI
 | (t,e,some (.prod pa pb))::l,F,H,F',H',h,hI=>D3 (ty:=.prod pa pb) (λF H F' H'=>pX l F H F' H') (by simpa only[DQ]using h) hI
 | (t,e,some (.hnd hs))::l,F,H,F',H',h,hI=>D3 (ty:=.hnd hs) (λF H F' H'=>pX l F H F' H') (by simpa only[DQ]using h) hI
 | (t,e,some .smap)::l,F,H,F',H',h,hI=>D3 (ty:=.smap) (λF H F' H'=>pX l F H F' H') (by simpa only[DQ]using h) hI
theorem aCT {m:Nat}:∀ {l:List (Option Blk)} {r:Nat} {k:Blk},UM m l=true->l[r]?=some (some k)->k.tag.isSome=true\/below.belows m k.cells=true
 | [],r,k,_,h=>by simp at h
 | none::l,0,k,_,h=>by simp at h
 | some k'::l,0,k,hp,h=>by
  simp only[List.getElem?_cons_zero,oJ]at h;subst h;simp only[UM,oA,Bool.or_eq_true]at hp;exact hp.1
 | none::l,r+1,k,hp,h=>aCT (l:=l) (r:=r) (by simpa only[UM]using hp) (by simpa using h)
 | some k'::l,r+1,k,hp,h=>by
  simp only[UM,oA]at hp;exact aCT (l:=l) (r:=r) hp.2 (by simpa using h)
theorem YN:∀ {l:List (Option Blk)} {r:Nat} {k:Blk},XR l=true->l[r]?=some (some k)->k.tag.isSome=true\/dR.noRefs k.cells=true
 | [],r,k,_,h=>by simp at h
 | none::l,0,k,_,h=>by simp at h
 | some k'::l,0,k,hp,h=>by
  simp only[List.getElem?_cons_zero,oJ]at h;subst h;simp only[XR,oA,Bool.or_eq_true]at hp;exact hp.1
 | none::l,r+1,k,hp,h=>YN (l:=l) (r:=r) (by simpa only[XR]using hp) (by simpa using h)
 | some k'::l,r+1,k,hp,h=>by
  simp only[XR,oA]at hp;exact YN (l:=l) (r:=r) hp.2 (by simpa using h)
def LM(μ:Mp) (m d:Nat):Mp:=⟨λr=>if r<m then μ.loc r else μ.loc (r+d),λr=>if r<m then μ.len r else μ.len (r+d),λr=>if r<m then μ.sh r else μ.sh (r+d)⟩
theorem EW {m d r}(h:r<m):(LM μ m d).loc r=μ.loc r/\(LM μ m d).len r=μ.len r/\(LM μ m d).sh r=μ.sh r:=by simp[LM,h]
theorem aGX {m d r}(h:m+d<=r):(LM μ m d).loc (r-d)=μ.loc r/\(LM μ m d).len (r-d)=μ.len r/\(LM μ m d).sh (r-d)=μ.sh r:=by
 have h1:¬ r-d<m:=Z
 have h2:r-d+d=r:=Z
 simp[LM,h1,h2]
theorem a6C(hW:aO n0 G μ H w){m d}(hm:m+d<=H.length)(h1:UM m (H.take m)=true)(h2:XR (H.drop (m+d))=true):aO n0 G (LM μ m d) (H.take m++H.drop (m+d)) w:=by
 have key:∀ (r:Nat) (k:Blk),(H.take m++H.drop (m+d))[r]?=some (some k)->∃ s,H[s]?=some (some k)/\(LM μ m d).loc r=μ.loc s/\((LM μ m d).len r=μ.len s/\(LM μ m d).sh r=μ.sh s)/\(k.tag.isSome=true\/below.belows m k.cells=true\/dR.noRefs k.cells=true)/\((r<m/\s=r)\/(m<=r/\s=r+d)):=by
  intro r k hr;rcases oG r m with hl|hl
  ·rw[List.getElem?_append_left (by simp; omega)]at hr;have hp:=aCT h1 hr;rw[List.getElem?_take,if_pos hl]at hr;exact⟨r,hr,(EW hl).1,(EW hl).2,hp.elim .inl λh=>.inr (.inl h),.inl ⟨hl,rfl⟩⟩
  ·rw[List.getElem?_append_right (by simp; omega)]at hr;have hp:=YN h2 hr;rw[List.getElem?_drop]at hr;have e:m+d+(r-(H.take m).length)=r+d:=by simp only[List.length_take]; omega
   rw[e]at hr;have hn:¬ r<m:=Z
   exact⟨r+d,hr,by simp[LM,hn],⟨by simp[LM,hn],by simp[LM,hn]⟩,hp.elim .inl λh=>.inr (.inr h),.inr ⟨hl,rfl⟩⟩
 refine⟨?_,?_,?_,hW.lt,?_,hW.base,hW.rows.bDE (λr=>if r<m then r else r+d) (λr s h=>by
  by_cases h1:r<m <;> by_cases h2:s<m <;> simp only[h1,h2,if_true,if_false]at h <;> omega) (λr k hr=>by
  obtain⟨s,g1,g2,_,_,g5⟩:=key r k hr;rcases g5 with ⟨g5,g6⟩|⟨g5,g6⟩
  ·grind
  ·subst g6;simp only[if_neg (Nat.not_lt.2 g5)];exact⟨g1,g2⟩)⟩
 ·intro r k b hr hb;obtain⟨s,g1,g2,g3,g4,_⟩:=key r k hr;rw[g2]at hb;obtain⟨c,a1,a2,a3⟩:=hW.blk s k b g1 hb;rw[g3.2];refine⟨c,a1,?_,a3⟩;rcases g4 with g4|g4|g4
  ·obtain⟨g,hg⟩:=Option.isSome_iff_exists.1 g4;have:=(hW.tags s k g g1 hg).1;rw[this]at a2 ⊢;exact nR (iM _ _) a2
  ·exact aS9 (λr hr=>EW hr) g4 a2
  ·exact nR g4 a2
 ·intro r k g hr hg;obtain⟨s,g1,g2,g3,_⟩:=key r k hr;rw[g3.1];exact hW.tags s k g g1 hg
 ·intro r1 r2 k1 k2 b e1 e2 f1 f2 m1 m2;obtain⟨s1,a1,a2,_,_,a5⟩:=key r1 k1 e1;obtain⟨s2,b1,b2,_,_,b5⟩:=key r2 k2 e2;rw[a2]at m1;rw[b2]at m2;have:=hW.inj s1 s2 k1 k2 b a1 b1 f1 f2 m1 m2;omega
 ·intro r hr;simp only[oH,List.length_take,List.length_drop]at hr;have hn:¬ r<m:=Z
  have:=hW.top (r+d) Z;simpa[LM,hn]using this
theorem a4A {m d p q v}(h:aMK m d p=some q)(hv:VR w G μ p v):VR w G (LM μ m d) q v:=by
 unfold aMK at h;split at h
 next r sz=>
  cases hb:Nat.blt r m with
  | true =>
   rw[hb]at h;simp only[oC,oJ]at h;subst h;exact WM (λr hr=>EW hr) _ v (by simpa only[below]using hb) hv
  | false =>
   rw[hb]at h;obtain⟨hc,h⟩:=aJ h;simp only[oJ]at h;subst h;have:=aGX (μ:=μ) (oL hc);rw[VR]at hv ⊢;grind
 next r sz=>
  cases hb:Nat.blt r m with
  | true =>
   rw[hb]at h;simp only[oC,oJ]at h;subst h;exact WM (λr hr=>EW hr) _ v (by simpa only[below]using hb) hv
  | false =>
   rw[hb]at h;obtain⟨hc,h⟩:=aJ h;simp only[oJ]at h;subst h;have:=aGX (μ:=μ) (oL hc);rw[VR]at hv ⊢;grind
 next r off=>
  cases hb:Nat.blt r m with
  | true =>
   rw[hb]at h;simp only[oC,oJ]at h;subst h;exact WM (λr hr=>EW hr) _ v (by simpa only[below]using hb) hv
  | false =>
   rw[hb]at h;obtain⟨hc,h⟩:=aJ h;simp only[oJ]at h;subst h;have:=aGX (μ:=μ) (oL hc);rw[VR]at hv ⊢;grind
 next r lo n sz=>
  cases hb:Nat.blt r m with
  | true =>
   rw[hb]at h;simp only[oC,oJ]at h;subst h;exact WM (λr hr=>EW hr) _ v (by simpa only[below]using hb) hv
  | false =>
   rw[hb]at h;obtain⟨hc,h⟩:=aJ h;simp only[oJ]at h;subst h;have:=aGX (μ:=μ) (oL hc);rw[VR]at hv ⊢
   simp_all
 ·obtain⟨hb,h⟩:=aJ h;simp only[oJ]at h;subst h;exact WM (λr hr=>EW hr) _ v hb hv
theorem aNJ {m d}:∀ {l F'},aND m d F l=some F'->∀ t,bM F' t=.junk\/aMK m d (bM F t)=some (bM F' t)
 | [],F',h,t=>by
  simp only[aND,oJ]at h;subst h;exact .inl rfl
 | s::l,F',h,t=>by
  simp only[aND]at h;split at h
  next p F1 hp hl=>
   simp only[oJ]at h;subst h;rw[bT]
   by_cases hs:t=s
   ·grind
   ·rw[if_neg hs]; exact aNJ hl t
  grind
theorem aPE {pl F' H'}(h:tidy pl F H=some (F',H'))(hfl:∀ r,pl.base<=r->μi.loc r=none/\μi.len r=none)(hI:I n0 wi Gi μi nt F H a w):I n0 wi Gi μi nt F' H' a w/\∀ t,bM F t=.junk->bM F' t=.junk:=by
 obtain⟨hb,h⟩:=aJ h;have hb:=oL hb;split at h
 next F1 H1 h1=>
  obtain⟨hc,h⟩:=aJ h;simp only[oA]at hc;split at h
  next F2 hF2=>
   obtain⟨rfl,rfl⟩:=h;obtain⟨⟨G,μ,e,hW,hF⟩,hlen,hj⟩:=pX pl.own F H F1 H1 h1 hI;have gS:=aNJ hF2;refine⟨⟨G,LM μ pl.base (H.length-pl.base),?_,a6C hW Z hc.1 hc.2,hF.size,λt=>?_,hF.defers⟩,λt ht=>?_⟩
   ·exact {
     good:=e.good
     map:=λr b hr=>by
      rcases oG r pl.base with hl|hl
      ·rw[(EW hl).1]; exact e.map r b hr
      ·grind
     len:=λr b hr=>by
      rcases oG r pl.base with hl|hl
      ·rw[(EW hl).2.1]; exact e.len r b hr
      ·grind
     sh:=λr b hr=>by
      rcases oG r pl.base with hl|hl
      ·rw[(EW hl).2.2]; exact e.sh r b hr
      ·grind
     room:=e.room
     row:=e.row
     os:=e.os
     tape:=e.tape
     output:=e.output
     size:=e.size
     old:=e.old
     new:=e.new }
   ·rcases gS t with h3|h3
    ·rw[h3,VR]; trivial
    ·exact a4A h3 (hF.slot t)
   ·rcases gS t with h3|h3
    ·exact h3
    ·rw[hj t ht]at h3;have e3:aMK pl.base (H.length-pl.base) .junk=some .junk:=rfl;grind
  ·cases h
 ·cases h
end
end Go.PM
