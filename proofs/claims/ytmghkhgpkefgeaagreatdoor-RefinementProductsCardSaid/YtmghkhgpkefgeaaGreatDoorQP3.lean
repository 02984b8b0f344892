/- Texts of one proof, joined (3). -/
import Derived.Laws.Strings
import Derived.MapKept
import Derived.RangeFuncRecord
import Derived.Lib.ConvBytes
import Derived.Laws.BytesString
import Derived.Lib.AppendZerosOnto
import Derived.Lib.SliceRun
import Derived.WalkSpells
import Derived.Test.YtmghkhgpkefgeaaGreatDoorQP2
set_option linter.unusedSimpArgs false
set_option linter.unusedVariables false
noncomputable section
namespace Go.PM
open Go Go.RowKit
section
variable {P:Program} {n0:Nat->Prop} {w:World} {G:Gd} {μ:Mp} {H:Heap} {F:Frm} {a:Act} {nt:Nat}
theorem aR1(hW:aR n0 G μ H w) r:∃ G',Ext n0 w G μ w G' μ/\aR n0 G' μ (PC H r) w:=by
 unfold PC;split
 next k hk=>
  cases hf:k.frozen with
  | true=>exact⟨G,Ext.refl _ _ _ _,hW⟩
  | false=>exact⟨_,XG hW (aG hk) hf⟩
 ·exact⟨G,Ext.refl _ _ _ _,hW⟩
theorem EW:∀ rs H G,aR n0 G μ H w->∃ G',Ext n0 w G μ w G' μ/\aR n0 G' μ (EE H rs) w
 | [],H,G,hW=>⟨G,Ext.refl _ _ _ _,hW⟩
 | r::rs,H,G,hW=>by
  obtain⟨G1,e1,h1⟩:=aR1 hW r;obtain⟨G2,e2,h2⟩:=EW rs _ G1 h1;exact⟨G2,e1.trans e2,h2⟩
theorem LS(hW:aR n0 G μ H w) {r sz:Nat} {k:Blk} {g:Tg} {v:Value} (hv:VR w G μ (.own r sz) v) (hk:kK H r=some k) (hg:k.tag=some g) {G':Gd} (hG:∀ b,G b->G' b) (hB:∀ b,μ.loc r=some b->G' b) (hR:∀ j b,G.row j=some b->G'.row j=some b:=by exact λ_ _ h=>h):VR w G' aJ (UK g.t g.l none) v:=by
 obtain⟨ht1,ht2⟩:=hW.tags r k g (aG hk) hg;have hm:Mono w G μ w G' μ:=⟨λb hb=>⟨hG b hb,rfl⟩,λ_ _ h=>h,λ_ _ h=>h,λ_ _ h=>h,hR,λ_ _ _=>rfl⟩;obtain⟨n,h1,h2⟩:=hv;rw[ht2]at h1;cases h1;refine aA0 ?_;rcases h2 with ⟨h2,ao,rfl⟩|⟨b,c,h3,rfl,h5,h6⟩
 ·have hnil:g.l=[]:=List.eq_nil_of_length_eq_zero h2;exact⟨ao,0,by rw[hnil]; rfl,by omega,λk hk=>(by cases hk),.inl (by rw[hnil]; rfl)⟩
 ·obtain⟨c',g2,g3,_⟩:=hW.blk r k b (aG hk) h3;rw[ht1]at g3;refine⟨_,c,rfl,h5,λk hk=>(by cases hk),.inr ⟨b,μ.sh r,rfl,hB b h3,?_⟩⟩;obtain⟨vs,h7,h8⟩:=g3.values;exact aM.qV (dK _ _ (lL _ _) (VRs.mono hm _ _ h7)) h8
theorem a0Y(hW:aR n0 G μ H w){r lo n sz:Nat}{k:Blk}{g:Tg}{v:Value}(hv:VR w G μ (.win r lo n sz) v)(hk:kK H r=some k)(hg:k.tag=some g)(hsz:sz=g.t.size){G':Gd}(hG:∀ b,G b->G' b)(hB:∀ b,μ.loc r=some b->G' b)(hR:∀ j b,G.row j=some b->G'.row j=some b:=by exact λ_ _ h=>h) :
  VR w G' aJ (UK g.t ((g.l.drop lo).take n) none) v:=by
 subst hsz;obtain⟨ht1,ht2⟩:=hW.tags r k g (aG hk) hg;have hm:Mono w G μ w G' μ:=⟨λb hb=>⟨hG b hb,rfl⟩,λ_ _ h=>h,λ_ _ h=>h,λ_ _ h=>h,hR,λ_ _ _=>rfl⟩;obtain⟨b,c,m,h3,rfl,h5,h6,hm,hle,_⟩:=hv;rw[ht2]at hm;cases hm;refine aA0 ?_;have hlen:((g.l.drop lo).take n).length=n:=by rw[List.length_take,List.length_drop]; omega
 rw[hlen];obtain⟨c',g2,g3,_⟩:=hW.blk r k b (aG hk) h3;rw[ht1]at g3;refine⟨_,c,rfl,h5,λk hk=>(by cases hk),.inr ⟨b,μ.sh r+lo*g.t.size,rfl,hB b h3,?_⟩⟩;have g4:=g3.sub (lo*g.t.size) (n*g.t.size);rw[u9,rA]at g4;obtain⟨vs,h7,h8⟩:=g4.values;exact aM.qV (dK _ _ (lL _ _) (VRs.mono hm _ _ h7)) h8
theorem aXK(hW:aR n0 G μ H w){p q v}(h:a1Y H p=some q)(hv:VR w G μ p v):VR w G aJ q v:=by
 unfold a1Y at h;split at h
 next r sz=>
  split at h
  next k hk=>
   split at h
   ·rename_i g hg;cases hf:k.frozen with
    | false=>grind
    | true =>
     rw[hf]at h;simp only[oC,oJ]at h;subst h;exact LS hW hv hk hg (λb h=>h) (λb hb=>by
      obtain⟨_,_,_,_,h5,_⟩:=hW.blk r k b (aG hk) hb;grind)
   grind
  grind
 ·obtain⟨hn,h⟩:=sR h;cases h;exact C6 p v hn hv
theorem aWH(hW:aR n0 G μ H w):∀ {ps qs vs},aZN H ps=some qs->VRs w G μ ps vs->VRs w G aJ qs vs
 | [],qs,vs,h,hv=>by
  cases h;exact hv
 | p::ps,qs,vs,h,hv=>by
  unfold aZN at h;split at h
  next q hq=>
   split at h
   next qs' hqs=>cases h;obtain⟨x,xs,h1,h2,h3⟩:=hv;exact⟨x,xs,h1,aXK hW hq h2,aWH hW hqs h3⟩
   grind
  grind
theorem bDA(hW:aR n0 G μ H w){p q v}(h:N9.inlT H p=some q)(hv:VR w G μ p v):VR w G aJ q v:=by
 unfold N9.inlT at h;split at h
 next cs=>
  cases hn:eX.noRefs cs with
  | true =>
   rw[hn]at h;cases h;exact C6 _ v (by simpa only[eX]using hn) hv
  | false =>
   rw[hn,oD]at h;split at h
   next qs hqs=>cases h;obtain⟨vs,h1,h2⟩:=hv;exact⟨vs,h1,aWH hW hqs h2⟩
   grind
 ·exact aXK hW h hv
theorem aSP(hW:aR n0 G μ H w){T p v u x y cs H' c}(hp:VR w G μ p x)(hv:VR w G μ v y)(h:aOO P H T p v=some (cs,u,H',c))(hcs:B3 cs=true) :
  u=.lit undef/\c=2/\∃ w' G',(Instr.storeAt T x y).run P w=.ok () w'/\Ext n0 w G μ w' G' μ/\aR n0 G' μ H' w':=by
 unfold aOO at h;split at h
 next r s=>
  split at h
  next q hq=>obtain⟨G1,e1,hW1⟩:=EW [r] H G hW;obtain⟨h1,h2,w',h3,h4,h5⟩:=aJI hW1 (VR.mono e1.toMono _ _ hp) (aXK hW1 hq (VR.mono e1.toMono _ _ hv)).aW h hcs;exact⟨h1,h2,w',G1,h3,e1.trans h4,h5⟩
  grind
 ·obtain⟨h1,h2,w',h3,h4,h5⟩:=aJI hW hp hv h hcs;grind
def aME(w:World) (G:Gd) (μ:Mp):List (Nat×PV)->List (Nat×Value)->Prop
 | [],vs=>vs=[]
 | (i,p)::ps,vs=>∃ x xs,vs=(i,x)::xs/\VR w G μ p x/\aME w G μ ps xs
theorem aDL(hW:aR n0 G μ H w)(ρ:Operand->Value):∀ (ops:List (Nat×Operand)) qs,(∀ x,VR w G μ (ev F x) (ρ x))->N9 H (ops.map λp=>(p.1,ev F p.2))=some qs->aME w G aJ qs (ops.map λp=>(p.1,ρ p.2))
 | [],qs,_,h=>by
  simp only[List.map_nil,N9,oJ]at h;subst h;rfl
 | (i,x)::ops,qs,hF,h=>by
  simp only[List.map_cons,N9]at h;split at h
  next q hq=>
   split at h
   next qs' hqs=>simp only[oJ]at h;subst h;exact⟨_,_,rfl,bDA hW hq (hF x),aDL hW ρ ops qs' hF hqs⟩
   grind
  grind
theorem aYI {H1}:∀ ps,aXC ps=[]->aZN H1 ps=aZN [] ps
 | [],_=>rfl
 | p::ps,h=>by
  have hp:aXC ps=[]/\a1Y H1 p=a1Y [] p:=by cases p <;> simp only[aXC]at h <;> first|exact⟨h,rfl⟩|grind
  simp only[aZN,hp.2,aYI ps hp.1]
theorem aPE {H1}:∀ ps,owns ps=[]->N9 H1 ps=N9 [] ps
 | [],_=>rfl
 | (i,p)::ps,h=>by
  have hp:owns ps=[]/\N9.inlT H1 p=N9.inlT [] p:=by cases p <;> simp only[owns]at h <;> first|exact⟨h,rfl⟩|grind|(obtain⟨h1,h2⟩:=List.append_eq_nil_iff.1 h; exact⟨h2,by simp only[N9.inlT,aYI _ h1]⟩)
  simp only[N9,hp.2,aPE ps hp.1]
theorem bAC place:∀ ps vs cs out c,aME w G μ ps vs->VRs w G μ cs c.toList->QN place cs ps=some out->∃ c',Instr.fill place c vs=some c'/\VRs w G μ out c'.toList
 | [],vs,cs,out,c,hp,hc,h=>by
  subst hp;simp only[QN,oJ]at h;exact⟨c,rfl,h ▸ hc⟩
 | (i,p)::ps,vs,cs,out,c,hp,hc,h=>by
  obtain⟨x,xs,rfl,hx,hps⟩:=hp;simp only[QN]at h;split at h
  next off size new hpl hcp=>
   cases hb:(Nat.beq new.length size&&Nat.ble (off+new.length) cs.length)with
   | false=>rw[hb]at h; cases h
   | true =>
    rw[hb]at h;simp only[oA]at hb;have h1:=oE hb.1;have h2:=oL hb.2;have hv:=PX hcp hx;have hl:new.length=x.cells.size:=by simpa using hv.length
    have hcl:cs.length=c.size:=by simpa using hc.length
    obtain⟨c',h3,h4⟩:=bAC place ps xs _ out _ hps (aRI (off:=off) hc hv) h;refine⟨c',?_,h4⟩;simp only[Instr.fill,hpl];have hf:=aA4 (off:=off) x.cells.toList 0 c W;rw[<- Array.foldl_toList];grind
  ·cases h
theorem aNC {t e ty} (hel:FN P t=some (e,ty)) {z} (hz:GQ P e=some z) {len} (h1:len*ty.size<=16777216) {qs vs} (hp:aME w G aJ qs vs.toList) {cs}
  (hf:QN (λi=>some (i*ty.size,ty.size)) (LF z (len*ty.size)) qs=some cs) {l} (hd:CA (dec ty) ty.size len cs=some l) :
  ∃ c' ,VRs w G aJ (aK ty l) c'.toList/\l.length=len/\(Instr.buildSlice t len vs).run P w=.ok (.slice (some ⟨w.heap.size,0,none⟩) len len) (w.alloc (.cells c' e)):=by
 obtain⟨hu,hs⟩:=AY hel;obtain⟨c',h3,h4⟩:=bAC (w:=w) (G:=G) (μ:=aJ) _ qs vs.toList _ cs _ hp (XO z (len*ty.size)) hf;have hzero:∃ i,P.info? e=some i/\i.zero=some z:=by
  unfold GQ at hz;grind
 obtain⟨i,hi,hz'⟩:=hzero;obtain⟨h5,h6⟩:=QV (g:=enc ty) (λcs x vs h hv=>AF ty aJ cs x vs h hv) hd h4;refine⟨c',h5,h6,?_⟩
 ·have hn:¬ (len*ty.size>2^24):=Z
  have hrow:(Array.range (len*ty.size)).map (λx=>z.cells[x%z.cells.size]!)=madeCells z.cells (len*ty.size):=rfl;have h3':Instr.fill (λi=>some (i*ty.size,ty.size)) (Array.map (λx=>z.cells[x%z.cells.size]!) (Array.range (len*ty.size))) vs.toList=some c':=by rw[hrow]; exact h3
  by_cases h0:len*ty.size=0
  ·have h3'':Instr.fill (λi=>some (i*ty.size,ty.size)) (Array.map (λx=>(#[]:Array Value)[x%0]!) (Array.range (len*ty.size))) vs.toList=some c':=by
    grind
   rw[h0]at h3'';simp[Instr.buildSlice,run_underlying hu,run_sizeOf hs,h0,newRow]
   simp_all
  ·simp only[Instr.buildSlice,Sem.run_bind,run_underlying hu,Result.andThen_ok,run_sizeOf hs,if_neg hn,if_neg h0];simp only[Sem.run_pure,Result.andThen_ok,Sem.run_bind,zeroValue,FA hi,hz',h3'];simp[newRow]
theorem aGZ(hW:aR n0 G μ H w) {t e ty} (hel:FN P t=some (e,ty)) {z} (hz:GQ P e=some z) {len} (h1:len*ty.size<=16777216) {qs vs} (hp:aME w G aJ qs vs.toList) {cs}
  (hf:QN (λi=>some (i*ty.size,ty.size)) (LF z (len*ty.size)) qs=some cs) {l} (hd:CA (dec ty) ty.size len cs=some l):xE P n0 w G μ (Instr.buildSlice t len vs) (UK ty l (some len)) H:=by
 obtain⟨c',h5,h6,hr⟩:=aNC hel hz h1 hp hf hd;obtain⟨e1,e2⟩:=aFG hW (.cells c' e);refine⟨_,_,_,_,hr,e1,e2,aA0 ?_⟩;refine⟨_,_,by rw[h6],by omega,λk hk=>W,.inr ⟨w.heap.size,0,rfl,.inr rfl,aM.mk λj p hp=>?_⟩⟩;obtain⟨u,g1,g2⟩:=h5.get hp;refine⟨u,?_,VR.mono e1.toMono.aJ p u g2⟩
 simp_all
theorem aMS(hW:aR n0 G μ H w) {t e ty} (hel:FN P t=some (e,ty)) {z} (hz:GQ P e=some z) {len} (h1:len*ty.size<=16777216) {qs vs} (hp:aME w G aJ qs vs.toList) {cs}
  (hf:QN (λi=>some (i*ty.size,ty.size)) (LF z (len*ty.size)) qs=some cs) {l} (hd:CA (dec ty) ty.size len cs=some l):xE P n0 w G μ (Instr.buildSlice t len vs) (.own H.length ty.size) (H++[some ⟨aK ty l,e,true,false,some ⟨ty,l⟩⟩]):=by
 obtain⟨c',h5,h6,hr⟩:=aNC hel hz h1 hp hf hd;have hk:=HX (on:=some l.length) hW c' ⟨aK ty l,e,true,false,some ⟨ty,l⟩⟩ (λj p hp=>by
  obtain⟨u,g1,g2⟩:=h5.get hp;exact⟨u,by grind,g2.aW⟩) (λh=>by grind) rfl (λg hg=>by grind)
 have hl:=h5.length;rw[bW,h6]at hl;refine⟨_,_,G,_,hr,FD hW _ _ _,hk,?_⟩;rw[VR,A8];simp only ;refine⟨l.length,qL _ _ _ _,.inr ⟨w.heap.size,len,lE _ _ _ _,by grind,by omega,⟨c',e,(0,0),?_,by grind⟩,trivial⟩⟩;show (w.heap.push _)[w.heap.size]?=_;simp
theorem xE.trans {s v H' G1}(e:Ext n0 w G μ w G1 μ)(h:xE P n0 w G1 μ s v H'):xE P n0 w G μ s v H':=by
 obtain⟨v',w',G',μ',h1,h2,h3⟩:=h;exact⟨v',w',G',μ',h1,e.trans h2,h3⟩
theorem aIV(hW:aR n0 G μ H w) {sz r:Nat} {q:PV} {H1:Heap} {v:Value} (h:aWX H sz r=some (q,H1)) (hv:VR w G μ (.own r sz) v):∃ G' μ',Ext n0 w G μ w G' μ'/\aR n0 G' μ' H1 w/\VR w G' aJ q v:=by
 unfold aWX at h;split at h
 next ra k har=>
  split at h
  next t l htag=>
   split at h
   ·rename_i kb hkb;split at h
    ·rename_i g hg;split at h
     ·rename_i row hrow;obtain⟨hb,h⟩:=sR h;obtain⟨rfl,rfl⟩:=h;simp only[oA,Bool.not_eq_true']at hb;obtain⟨⟨⟨⟨hf,hgr⟩,hty⟩,hm⟩,hsz⟩:=hb;have hm:k.ty≠VV:=Nat.ne_of_beq_eq_false hm;have hty:=oE hty;obtain⟨gt,gl⟩:=g;obtain⟨rfl,rfl⟩:=qQ hrow;obtain⟨hr,hkg⟩:=aEB har;obtain⟨a1,a2,a3⟩:=hW.rows.arn ra k gt l hr hkg htag;obtain⟨ht1,ht2⟩:=hW.tags r kb _ (aG hkb) hg;simp only at ht1 ht2;obtain⟨G',hG'⟩:∃ G':Gd,G'=⟨G.ok,λj=>if j=l.length then μ.loc r else G.row j⟩:=⟨_,rfl⟩
      have hrow':∀ j b,G.row j=some b->G'.row j=some b:=λj b hj=>by
       rw[hG'];grind
      have hrow2:∀ j b,G'.row j=some b->(j=l.length/\μ.loc r=some b)\/(j≠l.length/\G.row j=some b):=λj b hj=>by
       rw[hG']at hj;grind
      have hok:∀ b,G'.ok b=G.ok b:=λb=>by rw[hG']
      have e:Ext n0 w G μ w G' (upd μ H.length none (some (l++[gl]).length)):={ LG hW none (some (l++[gl]).length)with
       good:=λb hb=>⟨by rw[hok]; exact hb,rfl⟩
       row:=hrow'
       new:=λb hb=>.inl (by rw[<- hok]; exact hb) }
      have hnewblk:(H.set r none |>.set ra none).length=H.length:=R
      have key:∀ (s:Nat) (k1:Blk),(((H.set r none).set ra none)++[some ⟨aK (.rows gt) (l++[gl]),k.ty,false,k.frozen,some ⟨.rows gt,l++[gl]⟩⟩])[s]?=some (some k1) ->
        (s=H.length/\k1=⟨aK (.rows gt) (l++[gl]),k.ty,false,k.frozen,some ⟨.rows gt,l++[gl]⟩⟩)\/(s<H.length/\s≠r/\s≠ra/\H[s]?=some (some k1)):=by
       grind
      have hloc:∀ b,μ.loc r=some b->b<w.heap.size/\n0 b/\¬ G b:=λb hb=>by
       obtain⟨c,q1,_,_,_,q2⟩:=hW.blk r kb b (aG hkb) hb;grind
      refine⟨G',_,e,⟨?_,?_,?_,hW.lt.step (λb hb=>⟨by rw[hok]; exact hb,rfl⟩) λb hb=>hW.lt b (by rw[<- hok]; exact hb),?_,hW.base,?_,?_,?_,?_,?_⟩,?_⟩
      ·intro s k1 b hs hb;rcases key s k1 hs with ⟨rfl,rfl⟩|⟨h1,h2,h3,h4⟩
       ·rw[lE]at hb; cases hb
       ·rw[(GG Z).1]at hb;obtain⟨c,q1,q2,q3,q4,q5⟩:=hW.blk s k1 b h4 hb;rw[aMA Z];exact⟨c,q1,aM.mono e.toMono rfl _ _ q2,q3,λhf=>by rw[hok]; exact q4 hf,λhf=>by rw[hok]; exact q5 hf⟩
      ·intro s k1 g1 hs hg1;rcases key s k1 hs with ⟨rfl,rfl⟩|⟨h1,h2,h3,h4⟩
       ·cases hg1;exact⟨rfl,qL _ _ _ _⟩
       ·rw[(GG Z).2];exact hW.tags s k1 g1 h4 hg1
      ·intro x1 x2 k1 k2 b h1 h2 f1 f2 m1 m2;rcases key x1 k1 h1 with ⟨rfl,rfl⟩|⟨p1,p2,p3,p4⟩
       ·rw[lE]at m1; cases m1
       ·rcases key x2 k2 h2 with ⟨rfl,rfl⟩|⟨q1,q2,q3,q4⟩
        ·rw[lE]at m2; cases m2
        ·rw[(GG Z).1]at m1 m2;exact hW.inj x1 x2 k1 k2 b p4 q4 f1 f2 m1 m2
      ·intro s hs;rw[oH,hnewblk]at hs;simp only[List.length_cons,List.length_nil]at hs;rw[(GG Z).1,(GG Z).2];exact hW.top s Z
      ·intro i j b hi hj;rcases hrow2 i b hi with ⟨i1,i2⟩|⟨i1,i2⟩ <;> rcases hrow2 j b hj with ⟨j1,j2⟩|⟨j1,j2⟩
       ·rw[i1,j1]
       ·exact absurd i2 ((hW.rows.sep j b j2).2.2.2 r kb (aG hkb) hf)
       ·exact absurd j2 ((hW.rows.sep i b i2).2.2.2 r kb (aG hkb) hf)
       ·exact hW.rows.inj i j b i2 j2
      ·intro j b hj;have hsep:b<w.heap.size/\n0 b/\¬ G b/\∀ s k1,s≠r->H[s]?=some (some k1)->k1.frozen=false->μ.loc s≠some b:=by
        rcases hrow2 j b hj with ⟨j1,j2⟩|⟨j1,j2⟩
        ·obtain⟨b1,b2,b3⟩:=hloc b j2;exact⟨b1,b2,b3,λs k1 hs h1 h2 h3=>hs (hW.inj s r k1 kb b h1 (aG hkb) h2 hf h3 j2)⟩
        ·obtain⟨b1,b2,b3,b4⟩:=hW.rows.sep j b j2;exact⟨b1,b2,b3,λs k1 _ h1 h2=>b4 s k1 h1 h2⟩
       refine⟨hsep.1,hsep.2.1,by rw[hok]; exact hsep.2.2.1,λs k1 hs hf1 hl=>?_⟩;rcases key s k1 hs with ⟨rfl,rfl⟩|⟨h1,h2,h3,h4⟩
       ·rw[lE]at hl; cases hl
       ·rw[(GG Z).1]at hl;exact hsep.2.2.2 s k1 h2 h4 hf1 hl
      ·intro j b hj;rcases hrow2 j b hj with ⟨j1,j2⟩|⟨j1,j2⟩
       ·obtain⟨c,q1,_⟩:=hW.blk r kb b (aG hkb) j2;exact .inl ⟨_,_,_,q1⟩
       ·exact hW.rows.cel j b j2
      ·intro s k1 t1 l1 hs hg1 ht1';rcases key s k1 hs with ⟨rfl,rfl⟩|⟨h1,h2,h3,h4⟩
       ·cases ht1';refine⟨lE _ _ _ _,λj hj=>?_,λj row hj=>?_⟩
        ·rw[oH]at hj;simp only[List.length_cons,List.length_nil]at hj;rw[hG'];show (if j=l.length then μ.loc r else G.row j)=none;rw[if_neg Z];exact a2 j Z
        ·rcases oG j l.length with hlt|hge
         ·rw[List.getElem?_append_left hlt]at hj;rcases a3 j row hj with h0|⟨b,q1,q2⟩
          ·exact .inl h0
          ·exact .inr ⟨b,hrow' j b q1,q2.mono e.toMono.aJ rfl⟩
         ·have hjl:j=l.length:=by
           have:=(oO.1 hj).1;simp only[oH,List.length_cons,List.length_nil]at this;omega
          subst hjl;rw[List.getElem?_append_right (oM _),Nat.sub_self]at hj;simp only[List.getElem?_cons_zero,oJ]at hj;subst hj;rw[VR]at hv;obtain⟨n,n1,n2⟩:=hv;rw[ht2]at n1; cases n1;rcases n2 with ⟨n2,_⟩|⟨b,c,hl,_,_,_,n7⟩
          ·exact .inl ⟨List.eq_nil_of_length_eq_zero n2,hm⟩
          ·right;obtain⟨c,q1,q2,_⟩:=hW.blk r kb b (aG hkb) hl;rw[ht1,n7]at q2;refine⟨b,by rw[hG']; show (if l.length=l.length then μ.loc r else _)=some b; rw[if_pos rfl]; exact hl,.inl ⟨hm,c,by rw[hty]at q1; exact q1,?_⟩⟩;obtain⟨us,u1,u2⟩:=q2.values;exact aM.qV (dK _ _ (lL _ _) (VRs.mono e.toMono _ _ u1)) u2
       ·exact absurd (hW.rows.one s ra k1 k t1 l1 gt l h4 hg1 ht1' hr hkg htag) h3
      ·intro x1 x2 k1 k2 t1 l1 t2 l2 h1 g1 q1 h2 g2 q2;have old:∀ (s:Nat) (k1:Blk) (t1:Ty) (l1:List (List t1.den)),(((H.set r none).set ra none)++[some ⟨aK (.rows gt) (l++[gl]),k.ty,false,k.frozen,some ⟨.rows gt,l++[gl]⟩⟩])[s]?=some (some k1)->k1.grown=false->k1.tag=some ⟨.rows t1,l1⟩->s=H.length:=by
        intro s k1 t1 l1 h1 g1 q1;rcases key s k1 h1 with ⟨rfl,_⟩|⟨_,_,h3,h4⟩
        ·rfl
        ·exact absurd (hW.rows.one s ra k1 k t1 l1 gt l h4 g1 q1 hr hkg htag) h3
       rw[old x1 k1 t1 l1 h1 g1 q1,old x2 k2 t2 l2 h2 g2 q2]
      ·rw[VR]at hv;rw[VR.eq_def];simp only;obtain⟨n,n1,n2⟩:=hv;rw[ht2]at n1; cases n1;rcases n2 with ⟨n2,ao,rfl⟩|⟨b,c,n3,rfl,n5,n6⟩
       ·exact⟨ao,0,by rw[n2],by omega,.inl n2⟩
       ·refine⟨_,c,rfl,n5,.inr ⟨b,?_,by rw[n6.2,Nat.zero_mul],by rw[Nat.zero_add]; have:=n6.1; rwa[n6.2,Nat.zero_add]at this⟩⟩;rw[hG'];show (if l.length=l.length then μ.loc r else _)=some b;rw[if_pos rfl]; exact n3
     ·cases h
    ·cases h
   ·cases h
  ·cases h
 ·cases h
theorem a2V(hW:aR n0 G μ H w) {s:Nat} {k:Blk} {t:Ty} {l:List (List t.den)} (hs:H[s]?=some (some k)) (hg:k.grown=false) (ht:k.tag=some ⟨.rows t,l⟩) :
  Ext n0 w G μ w G (upd μ H.length none (some l.length))/\aR n0 G (upd μ H.length none (some l.length)) (H.set s none++[some k]) w:=by
 have hk:=tY hW s;have hlen:(H.set s none).length=H.length:=R
 have e:=LG hW none (some l.length);have e2:Ext n0 w G μ w G (upd μ (H.set s none).length none (some l.length)):=by rw[hlen]; exact e
 refine⟨e,?_⟩;obtain⟨a1,_⟩:=hW.rows.arn s k t l hs hg ht;have:=MG hk e2 k (λ_ _ _ _ _=>rfl) (λb hb=>by cases hb) (λg hg'=>by rw[ht]at hg'; cases hg'; exact⟨(hW.tags s k _ hs ht).1,rfl⟩) (λr k' b _ _ _ hh=>by cases hh)
  (hW.rows.rel (λr r'=>(r=H.length/\r'=s)\/(r<H.length/\r≠s/\r'=r)) (λr r2 q h1 h2=>by
   rcases h1 with ⟨h1,h3⟩|⟨h1,h3,h4⟩ <;> rcases h2 with ⟨h2,h5⟩|⟨h2,h5,h6⟩
   ·grind
   ·grind
   ·grind
   ·exact h4.symm.trans h6) (λr k' hr=>by
   rcases aEW r k' hr with ⟨h1,rfl⟩|⟨h1,h2⟩
   ·rw[hlen]at h1;exact⟨s,k',.inl ⟨h1,rfl⟩,hs,rfl,rfl,rfl,rfl,by rw[h1,<- hlen,lE,a1]⟩
   ·obtain⟨h3,h4⟩:=uV h2;rw[hlen]at h1;exact⟨r,k',.inr ⟨h1,h4,rfl⟩,h3,rfl,rfl,rfl,rfl,(GG (by rw[hlen]; omega)).1⟩))
 grind
theorem aJL(hW:aR n0 G μ H w)(hF:iV w G μ nt F a){t len}{parts:Array (Nat×Operand)}{v cs H' c}(h:DQ P F H t len parts.toList=some (cs,v,H',c)) :
  xE P n0 w G μ (Instr.buildSlice t len (parts.map λ(i,x)=>(i,a.eval x))) v H':=by
 unfold DQ at h;split at h
 next e ty hel=>
  split at h
  next z hz=>
   cases hb:(Nat.ble (len*ty.size) 16777216&&Nat.ble 1 z.cells.size)with
   | false=>rw[hb]at h; cases h
   | true =>
    rw[hb]at h;simp only[oC]at h;simp only[oA]at hb;have hb1:=oL hb.1;split at h
    ·rename_i r sz had;split at h
     ·rename_i q H1 hq;split at h
      ·rename_i cs' hf;split at h
       ·rename_i l hd;obtain⟨rfl,rfl,rfl,rfl⟩:=h;obtain⟨x,hpl,hx⟩:∃ x,parts.toList=[(0,x)]/\ev F x=.own r sz:=by
         unfold aIQ at had;split at had
         ·split at had
          ·rename_i x hpl;split at had
           ·rename_i r' s' hx;obtain⟨hc,had⟩:=sR had
            simp_all
           ·cases had
          ·cases had
         ·cases had
        have hv:=cO hF x;rw[hx]at hv;obtain⟨G1,μ1,e1,hW1,hq1⟩:=aIV hW hq hv;obtain⟨v',w',G2,μ2,z1,z2,z3⟩:=aGZ hW1 hel hz hb1 (qs:=[(0,q)]) (vs:=parts.map λ(i,x)=>(i,a.eval x)) (by
         rw[Array.toList_map,hpl];exact⟨_,_,rfl,hq1,rfl⟩) hf hd
        exact⟨v',w',G2,μ2,z1,e1.trans z2,z3⟩
       ·cases h
      ·cases h
     ·cases h
    split at h
    ·rename_i how;split at h
     ·rename_i ps hps;split at h
      ·rename_i cs' hf;split at h
       ·rename_i l hd;rw[<- aPE (H1:=H) _ how]at hps;cases hbl:aDR a9O t with
        | true =>
         rw[hbl]at h;obtain⟨rfl,rfl,rfl,rfl⟩:=h;exact aMS hW hel hz hb1 (by rw[RO]; exact aDL hW a.eval _ _ (cO hF) hps) hf hd
        | false =>
        rw[hbl]at h;obtain⟨rfl,rfl,rfl,rfl⟩:=h;exact aGZ hW hel hz hb1 (by rw[RO]; exact aDL hW a.eval _ _ (cO hF) hps) hf hd
       ·cases h
      ·cases h
     ·cases h
    ·rename_i r rs how;split at h
     ·rename_i ps hps;split at h
      ·rename_i cs' hf;split at h
       ·rename_i l hd;obtain⟨G1,e1,hW1⟩:=EW (r::rs) H G hW;cases hbl:aDR a9O t with
        | true =>
         rw[hbl]at h;obtain⟨rfl,rfl,rfl,rfl⟩:=h;exact(aMS hW1 hel hz hb1 (by rw[RO]; exact aDL hW1 a.eval _ _ (λx=>VR.mono e1.toMono _ _ (cO hF x)) hps) hf hd).trans e1
        | false =>
        rw[hbl]at h;simp only[oD,oJ,oP]at h;obtain⟨rfl,rfl,rfl,rfl⟩:=h;exact(aGZ hW1 hel hz hb1 (by rw[RO]; exact aDL hW1 a.eval _ _ (λx=>VR.mono e1.toMono _ _ (cO hF x)) hps) hf hd).trans e1
       ·cases h
      ·cases h
     ·cases h
  ·cases h
 ·cases h
theorem IN z:∀ n ,(madeCells z (n*z.size)).toList=(List.replicate n z.toList).flatten
 | 0=>by simp[madeCells,Array.range_zero']
 | n+1=>by
  have ih:=IN z n;rw[List.replicate_succ',List.flatten_append,<- ih];apply List.ext_getElem
  ·simp[madeCells,Nat.add_mul]
  ·intro i h1 h2;simp only[madeCells,Array.toList_map,Array.toList_range,List.getElem_map,List.getElem_range];simp only[madeCells,Array.toList_map,Array.toList_range,List.length_map,List.length_range,Nat.add_mul,Nat.one_mul]at h1
   by_cases hi:i<n*z.size
   ·grind
   ·have hlt:i-n*z.size<z.size:=Z
    have hmod:i%z.size=i-n*z.size:=by
     have:i=(i-n*z.size)+z.size*n:=by rw[Nat.mul_comm z.size n]; omega
     rw[this,Nat.add_mul_mod_self_left,Nat.mod_eq_of_lt hlt];grind
    grind
theorem BO {ty d zs}(h:VRs w G aJ (enc ty d) zs):∀ n ,VRs w G aJ (aK ty (List.replicate n d)) (List.replicate n zs).flatten
 | 0=>by rfl
 | n+1=>by exact h.append (BO h n)
theorem aLE(hW:aR n0 G μ H w){t p q v x y cs H' c}(hp:VR w G μ p x)(hq:VR w G μ q y)(h:VG P H t p q=some (cs,v,H',c))(hcs:B3 cs=true) :
  c=2/\xE P n0 w G μ (Instr.makeSlice t x y) v H':=by
 unfold VG at h;split at h
 next e ty kl l kc cc hel=>
  subst hp; subst hq;obtain⟨hu,hs⟩:=AY hel;split at h
  next i hi=>
   have hsz:=PI hs hi;split at h
   ·rename_i z hz;split at h
    ·rename_i d hd;cases hb:(Nat.ble i.bytes 65536&&Nat.beq z.cells.size i.size)with
     | false=>rw[hb]at h; cases h
     | true =>
      rw[hb]at h;obtain⟨rfl,rfl,rfl,rfl⟩:=h;refine⟨rfl,?_⟩;simp only[oA]at hb;have hb1:=oL hb.1;have hb2:=oE hb.2;obtain⟨c1,hcs⟩:=aN hcs;obtain⟨c2,hcs⟩:=aN hcs;obtain⟨c3,_⟩:=aN hcs;rw[aE,Bool.not_eq_true',decide_eq_false_iff_not]at c1 c2 c3;have hbytes:(i.bytes:Int)*cc<=281474976710656:=by
       have:(i.bytes:Int)*cc<=65536*1048576:=Int.mul_le_mul Z Z Z Z;omega
      have hr:=run_make (P:=P) w t e i z hu hi hz kl kc l cc Z Z hbytes Z;have hdz:VRs w G aJ (enc ty d) z.cells.toList:=AF ty aJ _ d _ hd (B6 _);have hrep:=BO hdz l.toNat;have hmade:(madeCells z.cells (cc.toNat*i.size)).toList=(List.replicate cc.toNat z.cells.toList).flatten:=by rw[<- hb2]; exact IN z.cells cc.toNat
      have hsplit:(List.replicate cc.toNat z.cells.toList).flatten=(List.replicate l.toNat z.cells.toList).flatten++(List.replicate (cc.toNat-l.toNat) z.cells.toList).flatten:=by
       rw[<- List.flatten_append,List.replicate_append_replicate];grind
      have hk:=HX (on:=some l.toNat) hW (madeCells z.cells (cc.toNat*i.size)) ⟨aK ty (List.replicate l.toNat d),e,true,false,some ⟨ty,List.replicate l.toNat d⟩⟩ (λj p hp=>by
       obtain⟨u,g1,g2⟩:=hrep.get hp;refine⟨u,?_,g2.aW⟩;rw[<- Array.getElem?_toList,hmade,hsplit,List.getElem?_append_left (oO.1 g1).1];exact g1) (λh=>by cases h) rfl (λg hg=>by cases hg; exact⟨rfl,by simp⟩)
      refine⟨_,_,G,_,hr,FD hW _ _ _,hk,?_⟩;rw[VR,A8];simp only[Nat.zero_add];refine⟨l.toNat,qL _ _ _ _,.inr ⟨w.heap.size,cc.toNat,lE _ _ _ _,rfl,by omega,⟨madeCells z.cells (cc.toNat*i.size),e,(0,0),?_,?_⟩,trivial⟩⟩
      ·show (w.heap.push _)[w.heap.size]?=_;simp
      ·simp[madeCells,hsz]
    ·cases h
   ·cases h
  ·cases h
 ·cases h
theorem a02 {e z}(hz:GQ P e=some z) w:(zeroValue e).run P w=.ok z w:=by
 unfold GQ at hz;split at hz
 next i hi=>simp[zeroValue,FA hi,hz]
 grind
theorem UZ z n:(Builtin.zeroCells z n).toList=(List.replicate n z.toList).flatten:=IN z n
theorem aWD(hW:aR n0 G μ H w){tys ty p v x cs H' c}(hp:VR w G μ p x)(h:aQ7 P H tys p=some (cs,v,H',c))(hcs:B3 cs=true):xE P n0 w G μ (Builtin.clear_ tys ty #[x]) v H':=by
 unfold aQ7 at h;split at h
 next t ts ht=>
  have ht':tys[0]?=some t:=by rw[<- Array.getElem?_toList,ht]; rfl
  split at h
  next e ety hel=>
   obtain⟨hu,hse⟩:=AY hel;split at h
   ·rename_i z hz;split at h
    ·rename_i r lo n sz;split at h
     ·rename_i k hk;split at h
      ·rename_i g hg;split at h
       ·rename_i d hd;obtain⟨hb,h⟩:=sR h;obtain⟨rfl,rfl,rfl,rfl⟩:=h;simp only[oA,Bool.not_eq_true']at hb;obtain⟨⟨⟨b1,b2⟩,hf⟩,hok⟩:=hb;have b1:=oE b1;subst b1;have hle:=oL (aN hcs).1;obtain⟨b,cc,_,hloc,rfl,h5,h6,_⟩:=hp;have htu:VR w G μ (.tuple []) (.tuple #[]):=by rw[VR]; exact⟨#[],rfl,by rw[VRs]⟩
        have q2:(#[Value.slice (some ⟨b,μ.sh r+lo*g.t.size,none⟩) n cc]:Array Value)[0]?=some (Value.slice (some ⟨b,μ.sh r+lo*g.t.size,none⟩) n cc):=rfl;have hdz:VRs w G aJ (enc g.t d) z.cells.toList:=AF g.t aJ _ d _ hd (B6 _);have hrep:=BO hdz n;have hone:∀ v∈(List.replicate n z.cells.toList).flatten,v.oneCell'=true:=by
         intro v hv;obtain⟨l,h1,h2⟩:=List.mem_flatten.1 hv;rw[List.mem_replicate]at h1;rw[h1.2]at h2;exact L4 hok (B6 (w:=w) (G:=G) (μ:=μ) _) v h2
        have hclr:clr g.l lo n d=spl g.l lo (List.replicate n d):=by simp only[clr,spl,List.length_replicate]
        obtain⟨w',h1,e1,e2⟩:=aVX (P:=P) (l:=g.l) (p:=lo) hW (VRs.aW hrep) hone (aG hk |> λ_=>hk) hf hg hloc (by rw[List.length_replicate]; exact hle);rw[<- hclr]at e2;cases n with
        | zero =>
         have hw:w'=w:=by
          have:(List.replicate 0 z.cells.toList).flatten=[]:=rfl;rw[this]at h1;simp only[storeCells,Sem.run_pure,Result.ok.injEq,true_and]at h1;grind
         subst hw;refine .put (v':=.tuple #[]) (w':=w') ?_ e1 e2 htu;unfold Builtin.clear_;simp only[ht',q2,Sem.run_bind,run_underlying hu,Result.andThen_ok,Sem.run_pure]
        | succ n =>
         refine .put (v':=.tuple #[]) (w':=w') ?_ e1 e2 (VR.mono e1.toMono _ _ htu);unfold Builtin.clear_;simp only[ht',q2,Sem.run_bind,run_underlying hu,Result.andThen_ok,a02 hz,UZ,h1,Sem.run_pure]
       ·cases h
      ·cases h
     ·cases h
    ·cases h
   ·cases h
  ·cases h
 ·cases h
theorem aZV(hW:aR n0 G μ H w){tys ty p q v x y cs H' c}(hp:VR w G μ p x)(hq:VR w G μ q y)(h:aZ6 P H tys p q=some (cs,v,H',c))(hcs:B3 cs=true):c=2/\xE P n0 w G μ (Builtin.copy_ tys ty #[x,y]) v H':=by
 unfold aZ6 at h;split at h
 next t ts ht=>
  have ht':tys[0]?=some t:=by rw[<- Array.getElem?_toList,ht]; rfl
  split at h
  next e ety hel=>
   obtain⟨hu,hse⟩:=AY hel;split at h
   ·rename_i r lo n sz hdst;split at h
    ·rename_i k hk;split at h
     ·rename_i g hg;split at h
      ·rename_i l hl;split at h
       ·rename_i new hnew;obtain⟨hb,h⟩:=sR h;obtain⟨rfl,rfl,rfl,rfl⟩:=h;refine⟨rfl,?_⟩;simp only[oA,Bool.not_eq_true']at hb;obtain⟨⟨b1,hf⟩,b2⟩:=hb;have b1:=oE b1;subst b1;obtain⟨c1,hcs⟩:=aN hcs;obtain⟨c2,hcs⟩:=aN hcs;obtain⟨c3,_⟩:=aN hcs;have c1:=jN c1;have c2:=oL c2;have c3:=oL c3;obtain⟨gt,gl⟩:=g;obtain⟨rfl,rfl⟩:=qQ hl;obtain⟨ht1,ht2⟩:=hW.tags r k _ (aG hk) hg;obtain⟨b,cc,hloc,rfl⟩:∃ b cc,μ.loc r=some b/\x=.slice (some ⟨b,μ.sh r+lo*gt.size,none⟩) n cc:=by
         unfold bDY at hdst;split at hdst
         ·rename_i r' sz';split at hdst
          next g' hg'=>obtain⟨rfl,rfl,rfl,rfl⟩:=hdst;obtain⟨kb,hk1,hk2⟩:=FE hg';rw[hk]at hk1; cases hk1;rw[hg]at hk2; cases hk2;obtain⟨m,h1,h2⟩:=hp;grind
          ·grind
         ·simp only[oJ,oP]at hdst;obtain⟨rfl,rfl,rfl,rfl⟩:=hdst;obtain⟨b,c',m,h1,rfl,_⟩:=hp;grind
         ·grind
        have hrun:∀ {w':World} {vs:Array Value},(∃ m:Nat,(∀ w1:World,(Builtin.lenOf y).run P w1=.ok m w1)/\min m n=new.length/\(Builtin.firstCells gt.size new.length y).run P w=.ok vs w)->(storeCells ⟨b,μ.sh r+lo*gt.size,none⟩ vs.toList).run P w=.ok () w'->(Builtin.copy_ tys ty #[.slice (some ⟨b,μ.sh r+lo*gt.size,none⟩) n cc,y]).run P w=.ok (goInt new.length) w':=by
         rintro w' vs ⟨m,s1,s4,s3⟩ a1;have q2:(#[Value.slice (some ⟨b,μ.sh r+lo*gt.size,none⟩) n cc,y]:Array Value)[0]?=some (Value.slice (some ⟨b,μ.sh r+lo*gt.size,none⟩) n cc):=rfl;have q3:(#[Value.slice (some ⟨b,μ.sh r+lo*gt.size,none⟩) n cc,y]:Array Value)[1]?=some y:=rfl;have hm:Nat.min m n=new.length:=s4;unfold Builtin.copy_;simp only[ht',q2,q3,Sem.run_bind,run_underlying hu,Result.andThen_ok,s1,run_sizeOf hse,hm,s3,a1,Sem.run_pure]
        have key:∃ vs:Array Value,VRs w G μ (aK gt new) vs.toList/\∃ m:Nat,(∀ w1:World,(Builtin.lenOf y).run P w1=.ok m w1)/\min m n=new.length/\(Builtin.firstCells gt.size new.length y).run P w=.ok vs w:=by
         unfold bDV at hnew;split at hnew
         ·rename_i r2 lo2 m2 sz2;rw[VR]at hq;obtain⟨b2',c2',mm,u1,rfl,u2,u3,u4,u5,u6⟩:=hq;have hq':VR w G μ (.win r2 lo2 (min m2 n) sz2) (.slice (some ⟨b2',μ.sh r2+lo2*sz2,none⟩) (min m2 n) c2'):=by
           rw[VR];exact⟨b2',c2',mm,u1,rfl,by omega,u3,u4,by omega,u6⟩
          obtain⟨s1,vs,s2,s3⟩:=P9 (P:=P) hW hq' (by rfl) hnew;have hl1:min m2 n=new.length:=by
           have:=s1 w;simp[Builtin.lenOf]at this;exact this
          exact⟨vs,s2,m2,λw1=>rfl,hl1,s3 w rfl⟩
         ·unfold aE8 at hnew; cases hnew
         ·rename_i h1 h2;have hok:B3 (aRO H q)=true:=by
           unfold aRO;split
           ·exact absurd rfl (h2 _ _ _ _)
           ·rfl
          obtain⟨s1,vs,s2,s3⟩:=P9 (P:=P) hW hq hok hnew;exact⟨vs,s2,new.length,s1,by omega,s3 w rfl⟩
        obtain⟨vs,s2,key⟩:=key;obtain⟨w',h1,e1,e2⟩:=aVX (P:=P) (p:=lo) hW s2 (PL _ _ _ s2) hk hf hg hloc (by simp only at c2; omega);exact⟨_,w',G,μ,hrun key h1,e1,e2,by rw[VR]⟩
       ·cases h
      ·cases h
     ·cases h
    ·cases h
   ·cases h
  ·cases h
 ·cases h
theorem UB {r cs v H' c}(h:a0T H r=some (cs,v,H',c)):H'=H/\c=0/\∃ u,r=some (cs,u)/\v=.lit u:=by
 unfold a0T at h;grind
theorem a1Q {t p q x y cs u}(hp:VR w G μ p x)(hq:VR w G μ q y)(h:bEP P t p q=some (cs,u))(hcs:B3 cs=true) w1:(Instr.index t x y).run P w1=.ok u w1:=by
 unfold bEP at h;split at h
 next s k i hu=>
  obtain⟨rfl,rfl⟩:=h;subst hp; subst hq;have h1:=(aN hcs).1;replace h1:=AO h1;have h2 :=Z
  simp[Instr.index,asIntOf,run_underlying hu,h2,aCB]
 grind
theorem aWG {F a nt}(hF:iV w G μ nt F a){t p x}{lo hi:Option Operand}{cs u}(hp:VR w G μ p x)(h:a3D P t p (lo.map (ev F)) (hi.map (ev F))=some (cs,u))(hcs:B3 cs=true) w1 :
  (Instr.sliceAt t x (lo.map a.eval) (hi.map a.eval) none).run P w1=.ok u w1:=by
 unfold a3D at h;split at h
 next s hu=>
  split at h
  next b1 i b2 j h1 h2=>obtain⟨rfl,rfl⟩:=h;subst hp;obtain⟨c1,hcs⟩:=aN hcs;obtain⟨c2,hcs⟩:=aN hcs;obtain⟨c3,hcs⟩:=aN hcs;obtain⟨c4,_⟩:=aN hcs;have hr:=wW (P:=P) (isSlice:=false) (IC hF (vF h1 c1)) (IC hF (vF h2 c2)) (oL c3) (oL c4) w1;simp[Instr.sliceAt,Instr.slice,run_underlying hu,hr]
  grind
 grind
theorem a1D {op t p q x y ox oy cs u}(hp:VR w G μ p x)(hq:VR w G μ q y)(h:bEO op p q=some (cs,u))(hcs:B3 cs=true) w1 :
  (do eqGuard op t ox oy x y; binOp op t x y:Sem Value).run P w1=.ok u w1:=by
 unfold bEO at h;split at h
 next a b=>
  subst hp; subst hq;have hg:(eqGuard op t ox oy (.string a) (.string b)).run P w1=.ok () w1:=by cases op <;> simp[eqGuard]
  have hb:(binOp op t (.string a) (.string b)).run P w1=.ok u w1:=by
   unfold bGK at h;split at h
   ·simp only[oJ,oP]at h;obtain⟨rfl,rfl⟩:=h;have h1:=oL (aN hcs).1;have h2:¬ ((a.size+b.size:Nat):Int)>IntKind.i64.max:=by
     show ¬ ((a.size+b.size:Nat):Int)>9223372036854775807;omega
    simp only[binOp,Op.stringOp,h2,if_false,Sem.run_pure]
   all_goals first
    | (obtain⟨rfl,rfl⟩:=h
       simp[binOp,Op.stringOp,eqS,ltS,ByteArray.toList_eq])
    | cases h
  simp_all
 ·cases h
end
variable {P:Program} {n0:Nat->Prop} {w:World} {G:Gd} {μ:Mp} {H:Heap}
theorem aUT {α:Type}{b x}{y:α}(h:(bif b then x else none)=some y):b=true/\x=some y:=W
theorem aPR(hW:aR n0 G μ H w){t v cs H' c}(h:aJN P H t=some (cs,v,H',c)):c=2/\xE P n0 w G μ (Instr.makeMap t none) v H':=by
 unfold aJN at h;cases h
theorem a4T {a b}:eqS a b=true↔a=b:=by
 unfold eqS;constructor
 ·cases a; simp_all
 grind
theorem aSD(hW:aR n0 G μ H w){t m k v x y cs H' c}(hm:VR w G μ m x)(hk:VR w G μ k y)(h:aOJ P H t m k=some (cs,v,H',c))(hcs:B3 cs=true) :
  H'=H/\c=1/\∃ v',(Instr.lookup t x y false).run P w=.ok v' w/\VR w G μ v v':=by
 unfold aOJ at h;cases h
theorem a0C {t}(h:a3A P t=true):∃ k e,P.underlying t=some (.map k e)/\P.underlying k=some .string/\GQ P e=some (.int .i64 0):=by
 unfold a3A at h;split at h
 ·split at h
  ·split at h
   ·rw[eG]at h;grind
   grind
  grind
 grind
theorem aTZ {s:ByteArray}:∀ {es:List MapEntry} {l:List (ByteArray×Int)} (i:Nat),es.map (λe=>(e.key,e.val))=l.map (λp=>(Value.string p.1,Value.int .i64 p.2)) ->
  (a6S l s=false/\getM l s=0/\Instr.findNow .string (.string s) es i=some none)\/∃ j,a6S l s=true/\Instr.findNow .string (.string s) es i=some (some (j,.int .i64 (getM l s)))
 | [],[],i,_=>.inl ⟨rfl,rfl,rfl⟩
 | [],_::_,i,h=>by simp at h
 | _::_,[],i,h=>by simp at h
 | e::es,x::l,i,h=>by
  simp only[List.map_cons,List.cons.injEq,oP]at h;obtain⟨⟨h1,h2⟩,h3⟩:=h;obtain⟨r,hr,hiff⟩:=MapKept.sameNow_of_keys (d:=.string) (a:=.string s) (b:=.string x.1) trivial trivial;rw[a6S,getM,Instr.findNow,h1,hr];cases hs:eqS x.1 s with
  | true =>
   have:=a4T.1 hs
   simp_all
  | false =>
   have hn:r=false:=by
    cases r with
    | false=>rfl
    | true =>
     have:=hiff.1 rfl;simp only[Value.string.injEq]at this;rw[a4T.2 this.symm]at hs; cases hs
   rw[hn];exact aTZ (i+1) h3
theorem aQ8 {t m k v x y cs H' c}(hm:VR w G μ m x)(hk:VR w G μ k y)(h:VY P H t m k=some (cs,v,H',c)) :
  H'=H/\c=0/\(∀ H2,VY P H2 t m k=some (cs,v,H2,c))/\∃ v',(Instr.lookup t x y true).run P w=.ok v' w/\VR w G μ v v':=by
 unfold VY at h;split at h
 next l s=>
  obtain⟨hok,h⟩:=sR h;obtain⟨rfl,rfl,rfl,rfl⟩:=h;refine⟨rfl,rfl,λH2=>by unfold VY; rw[hok]; rfl,?_⟩;obtain⟨kt,et,u1,u2,u3⟩:=a0C hok;obtain⟨b,es,clk,rfl,_,g2,g3⟩:=hm;subst hk;have hc:∀ em,(Instr.checkKey em 10000 kt (.string s)).run P w=.ok () w:=λem=>MapKept.run_checkKey (k:=.string s) u2 trivial em 9999
  refine⟨.tuple #[.int .i64 (getM l s),.bool (a6S l s)],?_,?_⟩
  ·rcases aTZ (s:=s) 0 g3 with ⟨f0,f1,f2⟩|⟨i,f1,f2⟩
   ·rw[f0,f1];simp[Instr.lookup,run_underlying u1,MapKept.run_getObj_map g2,hc,MapKept.run_findKey u2 f2,aTM u3,Result.andThen]
   ·rw[f1];simp[Instr.lookup,run_underlying u1,MapKept.run_getObj_map g2,hc,MapKept.run_findKey u2 f2,Result.andThen]
  ·rw[VR];refine⟨_,rfl,?_⟩;exact⟨_,_,rfl,rfl,_,_,rfl,rfl,rfl⟩
 ·cases h
theorem aSA(hW:aR n0 G μ H w){t m k v u x y z cs H' c}(hm:VR w G μ m x)(hk:VR w G μ k y)(hz:VR w G μ v z)(h:aOU P H t m k v=some (cs,u,H',c))(hcs:B3 cs=true) :
  u=.lit undef/\c=2/\∃ w',(Instr.mapUpdate t x y z).run P w=.ok () w'/\Ext n0 w G μ w' G μ/\aR n0 G μ H' w':=by
 unfold aOU at h;cases h
theorem aVZ(hW:aR n0 G μ H w) {w'} (hold:∀ j,j<w.heap.size->w'.heap[j]?=w.heap[j]?) (hsz:w'.heap.size=w.heap.size+1) (h1:w'.os=w.os) (h2:w'.tape=w.tape) (h3:w'.output=w.output) :
  Ext n0 w G μ w' (G.or λx=>x=w.heap.size) μ/\aR n0 (G.or λx=>x=w.heap.size) μ H w':=by
 have e:Ext n0 w G μ w' (G.or λx=>x=w.heap.size) μ:={
  good:=λb hb=>⟨.inl hb,hold b (hW.lt b hb)⟩
  map:=λ_ _ h=>h
  len:=λ_ _ h=>h
  room:=λb n hc=>by
   obtain⟨cs,t,fr,h1,h2⟩:=hc;exact⟨cs,t,fr,by grind,h2⟩
  row:=λ_ _ h=>h
  os:=h1
  tape:=h2
  output:=h3
  size:=Z
  old:=λb hb _=>hold b hb
  new:=λb hb=>by
   rcases hb with hb|rfl
   ·grind
   ·exact .inr (hW.base _ (oM _)) }
 refine⟨e,hW.bZ e ⟨λ_=>rfl,λj b hj=>⟨hold _ (hW.rows.sep j b hj).1,?_⟩⟩ ?_ ?_⟩
 ·rintro(h|rfl)
  ·exact h
  ·exact absurd (hW.rows.sep j _ hj).1 (Nat.lt_irrefl _)
 ·intro r k b hr hb;have hlt:=hW.sY hr hb;refine⟨hold _ hlt,?_⟩;rintro(h|rfl)
  ·exact h
  ·omega
 ·rintro b (hb|rfl)
  ·have:=hW.lt b hb; omega
  grind
theorem a6J {e}(h:bEJ P e=true):P.underlying e=some (.int .u8):=by
 unfold bEJ at h;grind
theorem aUE {t}(h:a9C P t=true):∃ e,P.underlying t=some (.slice e)/\P.underlying e=some (.int .u8):=by
 unfold a9C at h;split at h
 next e he=>exact⟨e,he,a6J h⟩
 grind
theorem aTC {t}(h:bDJ P t=true):P.underlying t=some .string:=by
 unfold bDJ at h;grind
theorem aUH(l:List Int):aK (.int .u8) l=l.map λn=>PV.lit (.int .u8 n):=by
 induction l with
 | nil=>rfl
 | cons x l ih=>rw[yH,ih]; rfl
theorem a0D(hW:aR n0 G μ H w){s d p v x cs H' c}(hp:VR w G μ p x)(h:aZB P H s d p=some (cs,v,H',c)):H'=H/\xE P n0 w G μ (convert s d x) v H:=by
 unfold aZB at h;split at h
 next b=>
  obtain⟨hc,h⟩:=aUT h;obtain⟨rfl,rfl,rfl,rfl⟩:=h;rw[oA]at hc;subst hp;obtain⟨e,hd,he⟩:=aUE hc.2;have hr:=Lib.run_convert_string_bytes (P:=P) w s d e b (aTC hc.1) hd he;obtain⟨e1,e2⟩:=aVZ hW (w':=Lib.bytesWorld w e b) (λj hj=>Lib.bytesWorld_at_old w e b j hj) (Lib.bytesWorld_size w e b) rfl rfl rfl;refine⟨rfl,_,_,_,_,hr,e1,e2,aA0 ?_⟩;have hlen:(YD b).length=b.size:=by simp[YD]
  refine⟨_,_,by rw[hlen],by rw[hlen]; exact grownCap_ge _ _ _ _,λk hk=>(by cases hk),.inr ⟨w.heap.size,0,rfl,.inr rfl,?_⟩⟩;rw[aUH];refine aM.mk λj q hq=>?_
  rw[List.getElem?_map]at hq;unfold YD at hq;rw[List.getElem?_map]at hq;cases hb:b.data.toList[j]? with
  | none=>rw[hb]at hq; cases hq
  | some u =>
   rw[hb]at hq;cases hq;have hj:j<b.size:=by
    have:=(oO.1 hb).1
    simp_all
   refine⟨_,by rw[Nat.zero_add]; exact Lib.bytesWorld_cell w e b j hj,?_⟩;rw[VR,oQ,hb];rfl
 next r sz=>
  obtain⟨hc,h⟩:=aUT h;split at h
  next g hg=>
   split at h
   ·rename_i l hl;obtain⟨rfl,rfl,rfl,rfl⟩:=h;rw[oA]at hc;obtain⟨e,hs,he⟩:=aUE hc.1;have hd:=aTC hc.2;obtain⟨kb,hk1,hk2⟩:=FE hg;obtain⟨ht1,ht2⟩:=hW.tags r kb g (aG hk1) hk2;obtain⟨hty,hl⟩:=qQ hl;obtain⟨gt,gl⟩:=g;dsimp only at hty hl ht1 ht2;subst hty;subst hl;refine⟨rfl,.same hW (v':=.string (aPL gl)) ?_ (by rw[VR])⟩;obtain⟨m,h1,h2⟩:=hp;rw[ht2]at h1;cases h1;rcases h2 with ⟨h2,ao,rfl⟩|⟨b,c',h3,rfl,h5,h6⟩
    ·have hnil:gl=[]:=List.eq_nil_of_length_eq_zero h2;subst hnil;rw[run_convert_bytes_string w s d e _ _ _ hs he hd];cases ao with
     | none=>rfl
     | some a=>exact run_bytesToString w a 0 _ [] (by simp[loadCells,loadCellsFrom,Sem.run_pure])
    ·rw[run_convert_bytes_string w s d e _ _ _ hs he hd];obtain⟨c'',g2,g3,_⟩:=hW.blk r kb b (aG hk1) h3;rw[ht1,aUH]at g3;refine run_bytesToString w _ _ _ gl ?_;have:=run_loadCells (P:=P) (w:=w) (b:=b) (off:=μ.sh r) (vs:=gl.map (Value.int .u8)) λj hj=>by
      rw[List.length_map]at hj;obtain⟨u,q1,q2⟩:=g3.get (i:=j) (p:=PV.lit (.int .u8 gl[j])) (by simp[hj]);rw[q1,q2];simp
     grind
   ·cases h
  ·cases h
 ·cases h
section
variable {t u e:TypeId} {i:TypeInfo} {z:Value} {ku:IntKind} (ht:P.underlying t=some (.slice e)) (hu:P.underlying u=some (.int ku)) (hi:P.info? e=some i) (hz:i.zero=some z)
include ht hu hi hz
theorem ZF(hzs:z.cells.size=i.size) (hb1:i.bytes<=65536) {k l c:Nat} {kq:IntKind} {ty:TypeId} {ao:Option Addr} (hn:k<=1048576) (hfit:l+k<=c) {w':World}
  (hst:match ao with|some a=>(storeCells (a.add (l*i.size)) (Builtin.zeroCells z.cells k).toList).run P w=.ok () w'|none=>w'=w) :
  (Builtin.append_ #[t,u] ty #[.slice ao l c,.int kq (k:Int)]).run P w=.ok (.slice ao (l+k) c) w':=by
 have hw:IntKind.i64.wrap (k:Int)=k:=by rw[IntKind.wrap_i64]; omega
 have hneg:¬ ((k:Int)<0):=Z
 have h48:¬ (281474976710656<(k:Int)*(i.bytes:Int)):=by
  have:k*i.bytes<=1048576*65536:=Nat.mul_le_mul hn hb1;rw[<- Int.natCast_mul]; omega
 by_cases hz0:k*i.size=0
 ·have hvs:Builtin.zeroCells z.cells k=#[]:=by
   apply Array.eq_empty_of_size_eq_zero;rw[pR,hzs]; exact hz0
  rw[hvs]at hst;cases ao with
  | none=>simp only at hst; subst hst; simp[Builtin.append_,run_underlying ht,run_underlying hu,sizeOf,typeInfo,zeroValue,hi,hz,asInt,asIntOf,hw,hneg,h48,hfit,hz0]
  | some a=>simp only at hst; simp[Builtin.append_,run_underlying ht,run_underlying hu,sizeOf,typeInfo,zeroValue,hi,hz,asInt,asIntOf,hw,hneg,h48,hfit,hz0,show (storeCells (a.add (l*i.size)) []).run P w=.ok () w' by simpa using hst]
 ·cases ao with
  | none=>simp only at hst; subst hst; simp[Builtin.append_,run_underlying ht,run_underlying hu,sizeOf,typeInfo,zeroValue,hi,hz,asInt,asIntOf,hw,hneg,h48,hfit,hz0]
  | some a=>simp only at hst; simp[Builtin.append_,run_underlying ht,run_underlying hu,sizeOf,typeInfo,zeroValue,hi,hz,asInt,asIntOf,hw,hneg,h48,hfit,hz0,hst]
theorem ZJ(hzs:z.cells.size=i.size) (hpos:0<i.size) (hb1:i.bytes<=65536) {k l c kq ty ao} (hb2:k<=1048576) (hb3:l<=1048576) (hfit:¬ l+k<=c)
  {os} (ho:∀ w1 ,w1.heap=w.heap->(Builtin.firstCells i.size l (.slice ao l c)).run P w1=.ok os w1) (hlc:l<=c) :
  ∃ c',l+k<=c'/\(Builtin.append_ #[t,u] ty #[.slice ao l c,.int kq k]).run P w=.ok (.slice (some ⟨w.heap.size,0,none⟩) (l+k) c') (w.drew.alloc (.cells (os++Builtin.zeroCells z.cells k++Builtin.zeroCells z.cells (c'-(l+k))) e)):=by
 have hcap:Builtin.nextslicecap (l+k) c*i.bytes<=281474976710656:=by
  have h1:=nextslicecap_le (need:=l+k) (old:=c) Z;have h2 :=Nat.mul_le_mul Z hb1;omega
 have h48:k*i.bytes<=281474976710656:=by
  have :=Nat.mul_le_mul hb2 hb1;omega
 refine⟨grownCap w (l+k) c e,grownCap_ge _ _ _ _,?_⟩;have h:=Lib.run_append_grow_zeros w t u ty e i z kq ku ht hu hi hz ao l c os.toList (ho w.drew rfl) k Z hpos Z Z h48 hcap;omega
theorem aDI(hW:aR n0 G μ H w){ty}(hsz:i.size=ty.size)(hb1:i.bytes<=65536)(hzs:z.cells.size=i.size)(hpos:0<i.size){kq}{k0:Nat}{d0}(hdz:VRs w G aJ (enc ty d0) z.cells.toList){tt ao}(hn:k0<=1048576) :
  xE P n0 w G μ (Builtin.append_ #[t,u] tt #[.slice ao 0 0,.int kq k0]) (.own H.length ty.size) (H++[some ⟨aK ty (List.replicate k0 d0),e,true,false,some ⟨ty,List.replicate k0 d0⟩⟩]):=by
 have s2:VRs w G μ (aK ty (List.replicate k0 d0)) (Builtin.zeroCells z.cells k0).toList:=by rw[UZ]; exact(BO hdz k0).aW
 by_cases h0:k0=0
 ·subst h0;have:=ZF (w:=w) (w':=w) (ty:=tt) (kq:=kq) (ao:=ao) (l:=0) (c:=0) (k:=0) ht hu hi hz hzs hb1 Z Z (by cases ao <;> simp[Builtin.zeroCells,storeCells]);exact aTW hW R this
 ·obtain⟨c',q1,q2⟩:=ZJ (w:=w) (ty:=tt) (kq:=kq) (ao:=ao) (l:=0) (c:=0) (k:=k0) ht hu hi hz hzs hpos hb1 hn Z Z (os:=#[]) (λw1 _=>by
   cases ao with
   | none=>rfl
   | some a=>simp[Builtin.firstCells,loadCells,loadCellsFrom]) (oM _)
  rw[Nat.zero_add]at q1 q2;have hll:(List.replicate k0 d0).length=k0:=List.length_replicate;exact ZN hW (os:=#[]) (by simpa using s2) (by rw[hll]; exact q1) (by rw[pR,hzs,hsz,hll]) W
theorem aSY(hW:aR n0 G μ H w) {ty} (hsz:i.size=ty.size) (hb1:i.bytes<=65536) (hzs:z.cells.size=i.size) {kq} {k0:Nat} {d0} (hdz:VRs w G aJ (enc ty d0) z.cells.toList) {l tt} (hn:k0<=1048576) (hl:l.length<=1048576)
  {r k} (hk:kK H r=some k) (hf:k.frozen=false) (hg:k.grown=true) (hte:k.ty=e) (htag:k.tag=some ⟨ty,l⟩) {b c} (hb:μ.loc r=some b) (hlc:l.length<=c) (hroom:Room w b (μ.sh r+c*ty.size)) (hs0:μ.sh r=0) (hpos:0<i.size) :
  xE P n0 w G μ (Builtin.append_ #[t,u] tt #[.slice (some ⟨b,μ.sh r,none⟩) l.length c,.int kq k0]) (.own H.length ty.size) (H.set r none++[some ⟨aK ty (l++List.replicate k0 d0),e,true,false,some ⟨ty,l++List.replicate k0 d0⟩⟩]):=by
 obtain⟨new,hnew⟩:∃ new,new=List.replicate k0 d0:=⟨_,rfl⟩;rw[<- hnew];have hnl:new.length=k0:=by rw[hnew,List.length_replicate]
 obtain⟨vs,hvs⟩:∃ vs,vs=Builtin.zeroCells z.cells k0:=⟨_,rfl⟩;have s2:VRs w G μ (aK ty new) vs.toList:=by rw[hvs,hnew,UZ]; exact(BO hdz k0).aW
 obtain⟨cs,g2,g3,g4,g5,g6⟩:=hW.blk r k b (aG hk) hb;obtain⟨ht1,ht2⟩:=hW.tags r k _ (aG hk) htag;simp only at ht1 ht2;rw[ht1]at g3;have hvl:new.length*ty.size=vs.size:=by have:=s2.length; rw[bW]at this; simpa using this
 obtain⟨i1,i2⟩:=IW g2 g3;have hel:=bW ty l;rw[hel]at i1 i2
 by_cases hfit:l.length+new.length<=c
 ·obtain⟨c2,t2,fr2,r1,r2⟩:=hroom;rw[g2]at r1; cases r1;have hmul:(l.length+new.length)*ty.size<=c*ty.size:=Nat.mul_le_mul_right _ hfit;rw[Nat.add_mul]at hmul;have hfs:Fits cs (μ.sh r+l.length*ty.size) vs.toList:=.inr (by simp only[Array.length_toList]; omega);obtain⟨w',h1,h2⟩:=vA (P:=P) (off:=μ.sh r+l.length*ty.size) vs.toList 0 w cs (PL _ _ _ s2) g2 hfs;rw[Nat.add_zero]at h2;have hszV:(sC cs (μ.sh r+l.length*ty.size) vs.toList).size=cs.size:=EG hfs
  have e1:=H6 hW (aG hk) hf hb g2 h2 hszV;have hW':=L6 (k':=⟨aK ty (l++new),e,true,false,none⟩) hW (aG hk) hf hb g2 (hte ▸ h2) hszV rfl (by
   refine zD (n:=l.length*ty.size+vs.size) h2.at_ (VRs.mono e1.toMono _ _ ?_);have h3:=i1.append s2;rw[<- sA]at h3;rw[JC (by simp only[Array.length_toList]; omega) Z,List.take_take,Nat.min_eq_left Z,@List.drop_eq_nil_of_le _ ((cs.toList.drop (μ.sh r)).take (l.length*ty.size+vs.size)) _ (by simp only[List.length_take,Array.length_toList]; omega),List.append_nil];exact h3) (λh=>by cases h) (λg hg=>by cases hg)
  have hrl:r<H.length:=(oO.1 (aG hk)).1;obtain⟨e3,hW''⟩:=RV (r:=r) (on:=some (l++new).length) hW' (List.getElem?_set_self hrl) hb (λg hg=>by cases hg);simp only[List.length_set,List.set_set]at e3 hW'';have hW3:aR n0 G (upd μ H.length (some b) (some (l++new).length) (μ.sh r)) (H.set r none++[some ⟨aK ty (l++new),e,true,false,some ⟨ty,l++new⟩⟩]) w':=by
   have hkill:=tY hW' r;simp only[List.set_set]at hkill;have hlen:(H.set r none).length=H.length:=R
   have e4:Ext n0 w' G μ w' G (upd μ (H.set r none).length (some b) (some (l++new).length) (μ.sh r)):=by rw[hlen]; exact e3
   have:=MG hkill e4 ⟨aK ty (l++new),e,true,false,some ⟨ty,l++new⟩⟩ (λ_ _ _ _ _=>rfl) (by
    rintro b' hb';cases hb';obtain⟨c9,k2,k3,k4,k5,k6⟩:=hW'.blk r _ b (List.getElem?_set_self hrl) hb;exact⟨c9,k2,aM.mono e4.toMono rfl _ _ k3,λh=>(by cases h),λh=>(by cases h),k6⟩) (λg hg=>by cases hg; exact⟨rfl,rfl⟩) (by
    intro s k' b' hs hf' hb' hh;cases hh;obtain⟨hs1,hs2⟩:=uV hs;exact hs2 (hW.inj s r k' k b hs1 (aG hk) hf' hf hb' hb))
    (O7 hkill e4 (λt l h1 h2=>by cases h1) (λ_ _ _=>rfl) (λj b1 hj _ hh=>by cases hh; exact(hW'.rows.sep j b hj).2.2.2 r _ (List.getElem?_set_self hrl) rfl hb))
   rwa[hlen]at this
  have hrun:=ZF (w:=w) (w':=w') (ty:=tt) (kq:=kq) (k:=k0) (ao:=some ⟨b,μ.sh r,none⟩) ht hu hi hz hzs hb1 hn (by rw[<- hnl]; exact hfit) (by simp only[Addr.add_lit,hsz,<- hvs]; exact h1);rw[<- hnl]at hrun ⊢;refine⟨_,w',G,_,hrun,e1.trans e3,hW3,?_⟩;rw[VR,A8];exact⟨_,qL _ _ _ _,.inr ⟨b,c,lE _ _ _ _,by rw[oH],by rw[oH]; exact hfit,⟨_,_,_,h2.at_,by rw[hszV]; exact r2⟩,hs0⟩⟩
 ·obtain⟨os,o1,o2⟩:=(C3 (P:=P) (c:=c) g3 (bW _ _):Source P w G μ ty.size (.slice (some ⟨b,μ.sh r,none⟩) l.length c) _ l.length).2.2 l.length (oM _);rw[List.take_of_length_le (by rw[hel]; exact oM _)]at o1;rw[<- hsz]at o2;obtain⟨c',q1,q2⟩:=ZJ (w:=w) (ty:=tt) (kq:=kq) (k:=k0) (ao:=some ⟨b,μ.sh r,none⟩) ht hu hi hz hzs hpos hb1 hn hl (by rw[<- hnl]; exact hfit) o2 hlc;rw[<- hvs,<- hnl]at q2;rw[<- hnl]at q1 ⊢
  have hlen:(H.set r none).length=H.length:=R
  have:=ZN (tY hW r) (e:=e) (ty:=ty) (l:=l++new) (c':=c') (os:=os) (vs:=vs) (rest:=Builtin.zeroCells z.cells (c'-(l.length+new.length))) (by rw[sA,Array.toList_append]; exact o1.append s2) (by rw[oH]; exact q1) (by rw[pR,hzs,hsz,oH]) (s:=Builtin.append_ #[t,u] tt #[.slice (some ⟨b,μ.sh r,none⟩) l.length c,.int kq (new.length:Int)]) (by rw[oH]; exact q2);rwa[hlen]at this
end
theorem a3M {t u}(h:isLen P #[t,u]=true):∃ k,P.underlying u=some (.int k):=by
 change (match P.underlying u with
  | some (.int _)=>true
  | _=>false)=true at h
 grind
theorem aQD(hW:aR n0 G μ H w){tys tt p q v s x cs H' c}(hlen:isLen P tys=true)(hp:VR w G μ p s)(hq:VR w G μ q x)(h:aDN P H tys p q=some (cs,v,H',c))(hcs:B3 cs=true) :
  c=2/\xE P n0 w G μ (Builtin.append_ tys tt #[s,x]) v H':=by
 unfold aDN at h;split at h
 next t u kq n htys=>
  have htys:tys=#[t,u]:=by apply Array.ext'; simpa using htys
  subst htys;obtain⟨ku,hu⟩:=a3M hlen;subst hq;split at h
  next e ty hel=>
   obtain⟨ht,hsz0⟩:=AY hel;split at h
   ·rename_i i hi;have hsz:=PI hsz0 hi;split at h
    ·rename_i z hz;split at h
     ·rename_i d hd;cases hb:(Nat.ble i.bytes 65536&&Nat.beq z.cells.size i.size&&Nat.ble 1 i.size)with
      | false=>rw[hb]at h; cases h
      | true =>
       rw[hb]at h;simp only[oA]at hb;have hb1:=oL hb.1.1;have hzs:=oE hb.1.2;have hpos:=oL hb.2;have hdz:VRs w G aJ (enc ty d) z.cells.toList:=AF ty aJ _ d _ hd (B6 _);split at h
       ·rename_i r sz;split at h
        ·rename_i k hk;split at h
         ·rename_i g hg;obtain⟨gt,gl⟩:=g;split at h
          ·rename_i l hl;obtain⟨rfl,rfl⟩:=qQ hl;cases hm:(Nat.beq sz gt.size&&!k.frozen&&Nat.beq k.ty e&&k.grown)with
           | false=>rw[hm]at h; cases h
           | true =>
            rw[hm]at h;simp only[oA,Bool.not_eq_true']at hm;obtain⟨⟨⟨m1,m2⟩,m3⟩,m4⟩:=hm;have m1:=oE m1;have m3:=oE m3;subst m1;obtain⟨rfl,rfl,rfl,rfl⟩:=O6 h;refine⟨rfl,?_⟩;obtain⟨c1,hcs⟩:=aN hcs;obtain⟨c2,hcs⟩:=aN hcs;obtain⟨c3,_⟩:=aN hcs;rw[aE,Bool.not_eq_true',decide_eq_false_iff_not]at c1 c2;obtain⟨k0,rfl⟩:∃ k0:Nat,n=k0:=⟨n.toNat,by omega⟩;obtain⟨ht1,ht2⟩:=hW.tags r k _ (aG hk) hg;have hlenset:(H.set r none).length=H.length:=R
            rw[VR]at hp;obtain⟨n,h1,h2⟩:=hp;simp only at ht2;rw[ht2]at h1;cases h1;rcases h2 with ⟨h2,ao,rfl⟩|⟨b,cc,h3,rfl,h5,h6⟩
            ·have hnil:gl=[]:=List.eq_nil_of_length_eq_zero h2;subst hnil;have:=aDI (tt:=tt) (kq:=kq) (ao:=ao) (e:=e) ht hu hi hz (tY hW r) hsz hb1 hzs hpos hdz (k0:=k0) Z;simpa using this
            ·rw[hlenset];have:=aSY (tt:=tt) (kq:=kq) ht hu hi hz hW hsz hb1 hzs hdz Z (oL c3) hk m2 m4 m3 hg h3 h5 h6.1 h6.2 hpos (k0:=k0);exact this
          ·cases h
         ·cases h
        ·cases h
       ·rename_i m c0;cases hm:(Nat.beq m 0&&Nat.beq c0 0)with
        | false=>rw[hm]at h; cases h
        | true =>
         rw[hm]at h;simp only[oC]at h;simp only[oA]at hm;have e1:=oE hm.1;have e2:=oE hm.2;subst e1; subst e2;obtain⟨rfl,rfl,rfl,rfl⟩:=O6 h;refine⟨rfl,?_⟩;obtain⟨c1,hcs⟩:=aN hcs;obtain⟨c2,_⟩:=aN hcs;rw[aE,Bool.not_eq_true',decide_eq_false_iff_not]at c1 c2;obtain⟨k0,rfl⟩:∃ k0:Nat,n=k0:=⟨n.toNat,by omega⟩;rw[oN];rw[VR]at hp;subst hp;exact aDI (tt:=tt) (kq:=kq) (ao:=none) (e:=e) ht hu hi hz hW hsz hb1 hzs hpos hdz (k0:=k0) Z
       ·cases h
     ·cases h
    ·cases h
   ·cases h
  ·cases h
 ·cases h
end Go.PM
namespace Go.PM
open Go Go.RowKit
section
variable {P:Program} {n0:Nat->Prop} {w:World} {G:Gd} {μ:Mp} {H:Heap} {F F':Frm} {a:Act} {nt:Nat}
theorem bD2 {xs}{x:Operand}(h:xs.toList=[x]):xs=#[x]:=W
theorem bGF {xs}{x y:Operand}(h:xs.toList=[x,y]):xs=#[x,y]:=W
theorem a1O {t op x y p v u qx qy cs H' k}(hx:VR w G μ x v)(hy:VR w G μ y u)(h:aSH P H t op x y=some (cs,p,H',k))(hcs:B3 cs=true) :
  H'=H/\∃ v',(∀ w1 ,(do eqGuard op t qx qy v u; binOp op t v u:Sem Value).run P w1=.ok v' w1)/\VR w G μ p v':=by
 unfold aSH at h;split at h
 next e hu=>
  split at h
  next m c=>
   split at h
   ·rename_i ty l cap e';have h1:=XQ hx;obtain⟨ao,c',rfl,_,_,h2⟩:=h1;subst hy;have key:Nat.blt 0 l.length=true->ao.isNone=false:=by
     intro hb;rcases h2 with h2|⟨b,off,rfl,_⟩
     ·exfalso;have h3:0<l.length:=jN hb;cases l with
      | nil=>simp at h3
      | cons a l =>
       have h4:=oZ List.length h2;have h5:=tW ty a;have h6:=ty.size_pos;simp only[aK,List.flatMap_cons,oH,List.length_nil]at h4;omega
     ·rfl
    split at h
    ·simp only[oJ,oP]at h;obtain⟨rfl,rfl,rfl,rfl⟩:=h;have hcs:Nat.blt 0 l.length=true:=by
      cases hb:Nat.blt 0 l.length with
      | true=>rfl
      | false=>simp only[B3,hb]at hcs; cases hcs
     refine⟨rfl,.bool false,λw1=>?_,by rw[VR]⟩;have:=Lib.run_eql_slice_nil w1 t e ao l.length c' m c hu;rw[key hcs]at this;simp[eqGuard,this]
    ·simp only[oJ,oP]at h;obtain⟨rfl,rfl,rfl,rfl⟩:=h;have hcs:Nat.blt 0 l.length=true:=by
      cases hb:Nat.blt 0 l.length with
      | true=>rfl
      | false=>simp only[B3,hb]at hcs; cases hcs
     refine⟨rfl,.bool true,λw1=>?_,by rw[VR]⟩;have:=run_neq_slice_nil_any w1 t e ao l.length c' m c hu;rw[key hcs]at this;simp[eqGuard,this]
    ·cases h
   ·rename_i r lo nn sz;subst hy;obtain⟨b,c',mm,_,rfl,_⟩:=hx;split at h
    ·simp only[oJ,oP]at h;obtain⟨rfl,rfl,rfl,rfl⟩:=h;refine⟨rfl,.bool false,λw1=>?_,by rw[VR]⟩;have:=Lib.run_eql_slice_nil w1 t e (some ⟨b,μ.sh r+lo*sz,none⟩) nn c' m c hu;simp[eqGuard,this]
    ·simp only[oJ,oP]at h;obtain⟨rfl,rfl,rfl,rfl⟩:=h;refine⟨rfl,.bool true,λw1=>?_,by rw[VR]⟩;have:=run_neq_slice_nil_any w1 t e (some ⟨b,μ.sh r+lo*sz,none⟩) nn c' m c hu;simp[eqGuard,this]
    ·cases h
   ·cases h
  ·cases h
 ·cases h
theorem a74 {t op x y p cs H' c}(h:aSH P H t op x y=some (cs,p,H',c)):H'=H/\c=0/\∀ H2,aSH P H2 t op x y=some (cs,p,H2,0):=by
 unfold aSH at h;split at h
 next e hu=>
  split at h
  ·split at h
   ·split at h
    ·simp only[oJ]at h;obtain⟨rfl,rfl,rfl,rfl⟩:=h;exact⟨rfl,rfl,λH2=>by simp only[aSH,hu]⟩
    ·simp only[oJ,oP]at h;obtain⟨rfl,rfl,rfl,rfl⟩:=h;exact⟨rfl,rfl,λH2=>by simp only[aSH,hu]⟩
    ·cases h
   ·split at h
    ·obtain⟨rfl,rfl,rfl,rfl⟩:=h;exact⟨rfl,rfl,λH2=>by simp only[aSH,hu]⟩
    ·obtain⟨rfl,rfl,rfl,rfl⟩:=h;exact⟨rfl,rfl,λH2=>by simp only[aSH,hu]⟩
    ·cases h
   ·cases h
  ·cases h
 ·cases h
set_option maxHeartbeats 1000000 in
theorem a56(hW:aR n0 G μ H w) (hF:iV w G μ nt F a) {o:Oper} {v:PV} {cs:List Bool} {H':Heap} {k:Nat} (ht:typed P F o=true) (h:top P F H o=some (cs,v,H',k)) (hcs:B3 cs=true):N1 P n0 w G μ o a v H':=by
 unfold top at h;split at h
 next t x i ho=>
  split at h
  next k1 i1 hi=>obtain⟨rfl,v',h1,h2⟩:=aLD (k:=k1) hW (cO hF x) h hcs;have h3:=cO hF i;rw[hi,VR]at h3;exact .value (s:=Instr.indexAt t (a.eval x) (a.eval i)) (by simp only[execOp,ho]) (.same hW (by rw[h3]; exact h1) h2)
  ·cases h
 next s x f ho=>obtain⟨rfl,rfl,v',h1,h2⟩:=aMC (cO hF x) h;exact .value (by simp only[execOp,ho]) (.same hW h1 h2)
 next t x ho=>obtain⟨rfl,v',h1,h2⟩:=aY2 hW (cO hF x) h hcs;exact .value (by simp only[execOp,ho]) (.same hW h1 h2)
 next t x y ho=>
  obtain⟨rfl,rfl,w',G',h1,h2,h3⟩:=aSP hW (cO hF x) (cO hF y) h hcs;intro K Q hK;unfold Oper.wp;have hx:(execOp a.eval o).run P w=.ok .skip w':=by simp[execOp,ho,h1]
  rw[hx];exact hK undef w' G' μ h2 h3 (by rw[VR])
 next x ho=>
  simp only[oJ,oP]at h;obtain⟨rfl,rfl,rfl,rfl⟩:=h;have h1:=cO hF x;simp only[typed,ho]at ht;obtain⟨b,hb⟩:∃ b,a.eval x=.pointer (some b):=by
   cases hx:ev F x <;> rw[hx]at ht h1 <;> simp only[aSR]at ht <;> try (cases ht; done)
   ·rw[VR]at h1;obtain⟨h2,rfl,_⟩:=h1;rw[VR]at h2;obtain⟨b,off,h3,_⟩:=h2;exact⟨_,h3⟩
   ·rw[VR]at h1;obtain⟨b,_,h3⟩:=h1;exact⟨_,h3⟩
   ·rw[VR]at h1;obtain⟨b,_,h3⟩:=h1;exact⟨_,h3⟩
  exact .pure hW (v':=a.eval x) (by simp[execOp,ho,hb]) h1
 next t x lo hi ho=>
  cases hs:isS (ev F x)with
  | true =>
   rw[hs]at h;obtain⟨rfl,rfl,u,h1,rfl⟩:=UB h;exact .value (by simp only[execOp,ho]; rfl) (.same hW (aWG hF (cO hF x) h1 hcs w) (by rw[VR]))
  | false =>
  rw[hs,oD]at h;cases hq:isQ (ev F x)with
  | true =>
   rw[hq]at h;exact .value (by simp only[execOp,ho]; rfl) (aSG hW hF (cO hF x) h hcs).2
  | false =>
  rw[hq]at h;obtain⟨rfl,v',h1,h2⟩:=aVH hW hF (cO hF x) h hcs w;exact .value (by simp only[execOp,ho]; rfl) (.same hW h1 h2)
 next t x lo hi mx ho=>obtain⟨rfl,v',h1,h2⟩:=aSZ hF (cO hF x) h hcs w;exact .value (by simp only[execOp,ho]; rfl) (.same hW h1 h2)
 next t x i ho=>obtain⟨rfl,rfl,u,h1,rfl⟩:=UB h;exact .value (by simp only[execOp,ho]) (.same hW (a1Q (cO hF x) (cO hF i) h1 hcs w) (by rw[VR]))
 next t ho=>exact .value (by simp only[execOp,ho]; rfl) (aPR hW h).2
 next t m x ho=>obtain⟨rfl,rfl,v',h1,h2⟩:=aSD hW (cO hF m) (cO hF x) h hcs;exact .value (by simp only[execOp,ho]) (.same hW h1 h2)
 next t m x ho=>obtain⟨rfl,rfl,_,v',h1,h2⟩:=aQ8 (cO hF m) (cO hF x) h;exact .value (by simp only[execOp,ho]) (.same hW h1 h2)
 next t m x y ho=>
  obtain⟨rfl,rfl,w',h1,h2,h3⟩:=aSA hW (cO hF m) (cO hF x) (cO hF y) h hcs;intro K Q hK;unfold Oper.wp;have hx:(execOp a.eval o).run P w=.ok .skip w':=by simp[execOp,ho,h1]
  rw[hx];exact hK undef w' G μ h2 h3 (by rw[VR])
 next t n parts ho=>exact .value (by simp only[execOp,ho]) (aJL hW hF h)
 next t l c ho=>exact .value (by simp only[execOp,ho]) (aLE hW (cO hF l) (cO hF c) h hcs).2
 next s d x ho=>obtain⟨rfl,h1⟩:=a0D hW (cO hF x) h;exact .value (by simp only[execOp,ho]) h1
 next op t x y ty ho=>
  cases hs:isS (ev F x)with
  | true =>
   rw[hs]at h;obtain⟨rfl,rfl,u,h1,rfl⟩:=UB h;exact .value (by simp only[execOp,ho]) (.same hW (a1D (ox:=x) (oy:=y) (t:=t) (cO hF x) (cO hF y) h1 hcs w) (by rw[VR]))
  | false =>
  rw[hs]at h;obtain⟨rfl,v',h1,h2⟩:=a1O (qx:=x) (qy:=y) (cO hF x) (cO hF y) h hcs;exact .value (by simp only[execOp,ho]) (.same hW (h1 w) h2)
 next c ho=>
  split at h
  next hc=>
   split at h
   next x hx=>have hx:=bD2 hx;obtain⟨rfl,v',h1,h2⟩:=a3O (ty:=o.type) hW (cO hF x) h;refine .value (s:=Builtin.len_ c.argTypes o.type #[a.eval x]) ?_ (.same hW h1 h2);simp[execOp,ho,resolve,hc,hx,invoke,builtin]
   ·cases h
  next hc=>
   split at h
   ·rename_i s x hx;have hx:=bGF hx;refine .value (s:=Builtin.append_ c.argTypes o.type #[a.eval s,a.eval x]) ?_ ?_
    rotate_left
    ·cases hl:isLen P c.argTypes with
     | true=>rw[hl]at h; exact(aQD hW hl (cO hF s) (cO hF x) h hcs).2
     | false =>
      rw[hl,oD]at h;obtain⟨c0,h1,rfl⟩:=aT8 h;obtain⟨k1,k2⟩:=aO6 hcs;cases hq:isQ (ev F s)with
      | true=>rw[hq]at h1; exact(aPU hW (cO hF s) (cO hF x) k1 h1 k2).2
      | false=>rw[hq]at h1; exact(aSL hW (cO hF s) (cO hF x) k1 h1 k2).2
    simp[execOp,ho,resolve,hc,hx,invoke,builtin]
   ·cases h
  next hc=>
   split at h
   next x hx=>have hx:=bD2 hx;refine .value (s:=Builtin.clear_ c.argTypes o.type #[a.eval x]) ?_ (aWD hW (cO hF x) h hcs);simp[execOp,ho,resolve,hc,hx,invoke,builtin]
   ·cases h
  next hc=>
   split at h
   ·rename_i x y hx;have hx:c.args=#[x,y]:=by apply Array.ext'; simpa using hx
    refine .value (s:=Builtin.copy_ c.argTypes o.type #[a.eval x,a.eval y]) ?_ (aZV hW (cO hF x) (cO hF y) h hcs).2;simp[execOp,ho,resolve,hc,hx,invoke,builtin]
   ·cases h
  ·cases h
 ·cases h
theorem a0M {cl o v H' k}(h:opx P cl F H o=some (v,H',k)):(typed P F o=true/\∃ cs,top P F H o=some (cs,v,H',k)/\B3 cs=true)\/(typed P F o=false/\opu P cl F H o=some (v,H',k)):=by
 unfold opx at h;grind
theorem aS9 {cl}(hcl:eO P cl)(hW:aR n0 G μ H w)(hF:iV w G μ nt F a){o v H' k}(h:opx P cl F H o=some (v,H',k)):N1 P n0 w G μ o a v H':=by
 rcases a0M h with ⟨ht,cs,h1,h2⟩|⟨_,h⟩
 ·exact a56 hW hF ht h1 h2
 ·exact a6L hcl hW hF h
def aLB(c:Nat) (cs:List Bool) (v:PV) (H H':Heap) (f:Heap->KT):Prop:=(c=0->H'=H/\∀ H2,f H2=some (cs,v,H2,0))/\(c=1->H'=H)
def T2(x:KT):Prop:=∀ cs v H' c,x=some (cs,v,H',c)->c=2
theorem T2.no:T2 none:=λ_ _ _ _ h=>by cases h
theorem T2.cond {b x y}(hx:T2 x)(hy:T2 y):T2 (bif b then x else y):=W
theorem T2.grow {H1 e ty l cs}:T2 (aJ7 H1 e ty l cs):=λ_ _ _ _ h=>(O6 h).2.2.2
theorem T2.yes {cs v H1}:T2 (some (cs,v,H1,2)):=λ_ _ _ _ h=>W
theorem T2.cls {x}(hx:T2 x){cs v H' c f}(h:x=some (cs,v,H',c)):aLB c cs v H H' f:=by
 have:=hx _ _ _ _ h;subst this;exact⟨λh=>Z,λh=>by omega⟩
theorem aLB.zero {cs cs' v v' H' c}{f:Heap->KT}(h:some (cs',v',H,0)=some (cs,v,H',c))(hf:∀ H2,f H2=some (cs',v',H2,0)):aLB c cs v H H' f:=by
 obtain⟨rfl,rfl,rfl,rfl⟩:=h;exact⟨λ_=>⟨rfl,hf⟩,λ_=>rfl⟩
theorem aLB.one {cs cs' v v' H' c f}(h:some (cs',v',H,1)=some (cs,v,H',c)):aLB c cs v H H' f:=by
 obtain⟨rfl,rfl,rfl,rfl⟩:=h;exact⟨λh=>W,λ_=>rfl⟩
theorem bA7 {b r}(hr:T2 r):T2 (bBV b r):=λ_ _ _ _ h=>by
 obtain⟨_,h1,_⟩:=aT8 h;exact hr _ _ _ _ h1
theorem aX1 {tys p q}:T2 (aI8 P H tys p q):=by
 unfold aI8
 repeat' first
  | exact T2.no
  | rfl
  | exact T2.yes
  | apply T2.cond
  | split
theorem aV0 {tys p q}:T2 (aDW P H tys p q):=by
 unfold aDW
 repeat' first
  | exact T2.no
  | rfl
  | exact T2.yes
  | apply T2.cond
  | split
theorem aZJ {t p lo hi}:T2 (aIW P H t p lo hi):=by
 unfold aIW
 repeat' first
  | exact T2.no
  | exact T2.yes
  | apply T2.cond
  | split
theorem aVL {tys p q}:T2 (aDN P H tys p q):=by
 unfold aDN
 repeat' (first|exact T2.no|rfl|exact T2.yes|refine T2.cond ?_ ?_|split)
theorem aQ6 {t p q}:T2 (VG P H t p q):=by
 unfold VG
 repeat' first
  | exact T2.no
  | exact T2.yes
  | apply T2.cond
  | split
theorem aU8 {t:TypeId}:T2 (aJN P H t):=T2.no
theorem aZ2 {t:TypeId}{m x y:PV}:T2 (aOU P H t m x y):=T2.no
theorem aQB {t p q}:T2 (aLP P H t p q):=by
 unfold aLP
 repeat' first
  | exact T2.no
  | exact T2.yes
  | apply T2.cond
  | split
theorem a1I {tys p}:T2 (aQ7 P H tys p):=by
 unfold aQ7
 repeat' first
  | exact T2.no
  | exact T2.yes
  | apply T2.cond
  | split
theorem a6I {tys p q}:T2 (aZ6 P H tys p q):=by
 unfold aZ6
 repeat' first
  | exact T2.no
  | exact T2.yes
  | apply T2.cond
  | split
theorem aI {α:Type}{b x}{y:α}(h:(bif b then x else none)=some y):b=true/\x=some y:=W
theorem aQO {t p v i cs H' c}(h:yU P H t p i=some (cs,v,H',c)):aLB c cs v H H' λH2=>yU P H2 t p i:=by
 unfold yU at h;split at h
 next e hu=>
  split at h
  next n hs=>
   split at h
   ·obtain⟨hb,h⟩:=aI h;exact .zero h λH2=>by simp only[yU,hu,hs,hb,oC]
   ·split at h
    ·obtain⟨_,h⟩:=aI h;exact .one h
    ·cases h
   ·split at h
    ·obtain⟨_,h⟩:=aI h;exact .one h
    ·cases h
   ·obtain⟨hb,h⟩:=aI h;exact .zero h λH2=>by simp only[yU,hu,hs,hb,oC]
   ·obtain⟨hb,h⟩:=aI h;exact .zero h λH2=>by simp only[yU,hu,hs,hb,oC]
   ·cases h
  ·cases h
 next n e hu=>
  split at h
  next sz hs=>
   split at h
   ·exact .zero h λH2=>by simp only[yU,hu,hs]
   ·cases h
  ·cases h
 ·cases h
theorem aRF {t f p v cs H' c}(h:HO P H t f p=some (cs,v,H',c)):aLB c cs v H H' λH2=>HO P H2 t f p:=by
 unfold HO at h;split at h
 next fd hf=>
  split at h
  next n hs=>
   split at h
   ·exact .zero h λH2=>by simp only[HO,hf,hs]
   ·exact .zero h λH2=>by simp only[HO,hf,hs]
   grind
  grind
 grind
theorem a6E {t p v cs H' c}(h:aPM P H t p=some (cs,v,H',c)):aLB c cs v H H' λH2=>aPM P H2 t p:=by
 unfold aPM at h;split at h
 ·split at h
  next u hu=>exact .zero h λH2=>by simp only[aPM,hu]
  grind
 ·split at h
  ·obtain⟨_,h⟩:=aI h;split at h
   ·exact .one h
   grind
  ·cases h
 ·split at h
  ·split at h
   ·obtain⟨_,h⟩:=aI h;split at h
    ·exact .one h
    grind
   ·cases h
  ·cases h
 ·cases h
theorem a79 {tys p v cs H' c}(h:aVD P H tys p=some (cs,v,H',c)):aLB c cs v H H' λH2=>aVD P H2 tys p:=by
 unfold aVD at h;split at h
 next t ts ht=>
  split at h
  next e hu=>
   split at h
   ·exact .zero h λH2=>by simp only[aVD,ht,hu]
   ·split at h
    ·exact .one h
    grind
   ·split at h
    ·exact .one h
    simp_all
   ·exact .zero h λH2=>by simp only[aVD,ht,hu]
   ·exact .zero h λH2=>by simp only[aVD,ht,hu]
   grind
  grind
 grind
theorem a1C {t p v lo hi cs H' c}(h:YN P H t p lo hi=some (cs,v,H',c)):aLB c cs v H H' λH2=>YN P H2 t p lo hi:=by
 unfold YN at h;split at h
 next e hu=>
  split at h
  next n hs=>
   split at h
   ·obtain⟨hb,h⟩:=aI h;split at h
    next b1 i b2 j h1 h2=>exact .zero h λH2=>by simp only[YN,hu,hs,hb,oC,h1,h2]
    ·cases h
   ·split at h
    ·rename_i g hg;obtain⟨hb,h⟩:=aI h;unfold aOG at h;split at h
     ·
      cases hz:(aQE g.t&&Nat.beq g.l.length 0)with
      | true=>rw[hz]at h; exact .one h
      | false=>rw[hz]at h; exact .one h
     ·cases h
    ·cases h
   ·obtain⟨hb,h⟩:=aI h;split at h
    next b1 i b2 j h1 h2=>exact .zero h λH2=>by simp only[YN,hu,hs,hb,oC,h1,h2]
    ·cases h
   ·obtain⟨hb,h⟩:=aI h;split at h
    next b1 i b2 j h1 h2=>exact .zero h λH2=>by simp only[YN,hu,hs,hb,oC,h1,h2]
    ·cases h
   ·cases h
  ·cases h
 ·cases h
theorem aX7 {t p v hi mx lo cs H' c}(h:aAH P H t p lo hi mx=some (cs,v,H',c)):aLB c cs v H H' λH2=>aAH P H2 t p lo hi mx:=by
 unfold aAH at h;split at h
 next e hu=>
  split at h
  next n hs=>
   split at h
   ·obtain⟨hb,h⟩:=aI h;split at h
    next h1 h2 h3=>exact .zero h λH2=>by simp only[aAH,hu,hs,hb,oC,h1,h2,h3]
    grind
   grind
  grind
 grind
theorem aN6 {t n parts v cs H' c}(h:DQ P F H t n parts=some (cs,v,H',c)):aLB c cs v H H' λH2=>DQ P F H2 t n parts:=by
 unfold DQ at h;split at h
 next e ty hel=>
  split at h
  next z hz=>
   obtain⟨hb,h⟩:=aI h;split at h
   ·refine T2.cls ?_ h
    repeat' first
     | exact T2.no
     | exact T2.yes
     | apply T2.cond
     | split
   rename_i had;split at h
   ·rename_i ho;split at h
    ·rename_i ps hps;split at h
     ·rename_i cc hcc;split at h
      ·rename_i l hl;cases hbl:aDR a9O t with
       | true=>rw[hbl]at h; exact T2.grow.cls h
       | false =>
       rw[hbl]at h;exact .zero h λH2=>by simp only[DQ,hel,hz,hb,oC,had,ho,hps,hcc,hl,hbl,oD]
      ·cases h
     ·cases h
    ·cases h
   ·dsimp only at h;refine T2.cls ?_ h
    repeat' first
     | exact T2.no
     | exact T2.grow
     | exact T2.yes
     | apply T2.cond
     | split
  ·cases h
 ·cases h
theorem bDP {o v cs H' k}(h:top P F H o=some (cs,v,H',k)):aLB k cs v H H' λH2=>top P F H2 o:=by
 unfold top at h;split at h
 next t x i ho=>
  split at h
  next k1 i1 hi=>have:=aQO h;simpa only[top,ho,hi]using this
  ·cases h
 next s x f ho=>have:=aRF h;simpa only[top,ho]using this
 next t x ho=>have:=a6E h;simpa only[top,ho]using this
 ·refine T2.cls ?_ h;unfold aOO;split
  ·split
   ·exact aQB
   ·exact T2.no
  ·exact aQB
 next x ho=>exact .zero h λH2=>by simp only[top,ho]
 next t x lo hi ho=>
  cases hs:isS (ev F x)with
  | true =>
   rw[hs]at h;obtain⟨rfl,rfl,u,h1,rfl⟩:=UB h;exact⟨λ_=>⟨rfl,λH2=>by simp only[top,ho,hs,oC,h1,a0T]⟩,λ_=>rfl⟩
  | false =>
  rw[hs,oD]at h;cases hq:isQ (ev F x)with
  | true =>
   rw[hq]at h;exact aZJ.cls h
  | false =>
  rw[hq]at h;have:=a1C h;simpa only[top,ho,hs,hq,oD]using this
 next t x lo hi mx ho=>have:=aX7 h;simpa only[top,ho]using this
 next t x i ho=>obtain⟨rfl,rfl,u,h1,rfl⟩:=UB h;exact⟨λ_=>⟨rfl,λH2=>by simp only[top,ho,h1,a0T]⟩,λ_=>rfl⟩
 ·exact aU8.cls h
 next t m x ho=>unfold aOJ at h;cases h
 next t m x ho=>
  unfold VY at h;split at h
  ·obtain⟨hk,h⟩:=aI h;exact .zero h λH2=>by simp only[top,ho]; unfold VY; simp_all
  ·cases h
 ·exact aZ2.cls h
 next t n parts ho=>have:=aN6 h;simpa only[top,ho]using this
 ·exact aQ6.cls h
 next s d x ho=>
  unfold aZB at h;split at h
  next b hb=>obtain⟨hc,h⟩:=aI h;exact .zero h λH2=>by simp only[top,ho,aZB,hb,hc,oC]
  ·obtain⟨hc,h⟩:=aI h;split at h
   ·split at h
    ·exact .one h
    ·cases h
   ·cases h
  ·cases h
 next op t x y ty ho=>
  cases hs:isS (ev F x)with
  | true =>
   rw[hs]at h;obtain⟨rfl,rfl,u,h1,rfl⟩:=UB h;exact⟨λ_=>⟨rfl,λH2=>by simp only[top,ho,hs,oC,h1,a0T]⟩,λ_=>rfl⟩
  | false =>
  rw[hs]at h;obtain⟨rfl,rfl,h3⟩:=a74 h;exact⟨λ_=>⟨rfl,λH2=>by simpa only[top,ho,hs,oD]using h3 H2⟩,λ_=>rfl⟩
 next c ho=>
  split at h
  next hc=>
   split at h
   next x hx=>have:=a79 h;simpa only[top,ho,hc,hx]using this
   ·cases h
  ·split at h
   ·exact(T2.cond aVL (bA7 (T2.cond aV0 aX1))).cls h
   ·cases h
  ·split at h
   ·exact a1I.cls h
   ·cases h
  ·split at h
   ·exact a6I.cls h
   ·cases h
  ·cases h
 ·cases h
theorem a41 {cl}(hcl:eO P cl){o v H' k}(h:opx P cl F H o=some (v,H',k)):aGR k H H' v (λH2=>opx P cl F H2 o):=by
 rcases a0M h with ⟨ht,cs,h1,h2⟩|⟨ht,h⟩
 ·obtain⟨a1,a2⟩:=bDP h1;refine⟨λhk=>⟨(a1 hk).1,λH2=>?_⟩,a2⟩;simp only[opx,ht,oC,(a1 hk).2 H2,h2]
 ·obtain⟨a1,a2⟩:=bCL hcl h;refine⟨λhk=>⟨(a1 hk).1,λH2=>?_⟩,a2⟩;simp only[opx,ht,oD,(a1 hk).2 H2]
theorem a7C {cl o}(h:∀ x∈o.op.operands,ev F' x=ev F x):opx P cl F' H o=opx P cl F H o:=by
 have hu:=a5Y (P:=P) (cl:=cl) (H:=H) h;have hm:∀ {xs:List Operand},(∀ x∈xs,x∈o.op.operands)->xs.map (ev F')=xs.map (ev F):=λhx=>List.map_congr_left λx hm=>h x (hx x hm)
 have both:typed P F' o=typed P F o/\top P F' H o=top P F H o:=by
  unfold typed top;cases hop:o.op
  case makeMap t r=>cases r <;> exact⟨rfl,rfl⟩
  case lookup t m x c =>
   have h1:=h m (by simp[hop,Op.operands]);have h2:=h x (by simp[hop,Op.operands]);cases c <;> simp only[h1,h2,and_self]
  case buildSlice t n parts =>
   have:=X7 (F:=F) (F':=F') (ps:=parts.toList) λp hpm=>h p.2 (by simp only[hop,Op.operands]; simp; exact⟨p.1,by simpa using hpm⟩)
   have had:∀ ty,aIQ F' ty n parts.toList=aIQ F ty n parts.toList:=λty=>by
    unfold aIQ;split
    ·grind
    ·rfl
   simp only[DQ,this,had,and_self]
  case slice t x lo hi mx =>
   have hx:=h x (by simp[hop,Op.operands]);have hlo:lo.map (ev F')=lo.map (ev F):=by
    cases lo with
    | none=>rfl
    | some y=>simp[h y (by simp[hop,Op.operands])]
   have hhi:hi.map (ev F')=hi.map (ev F):=by
    cases hi with
    | none=>rfl
    | some y=>simp[h y (by simp[hop,Op.operands])]
   cases mx with
   | none=>simp only[hx,hlo,hhi,and_self]
   | some y =>
    have hy:=h y (by simp[hop,Op.operands]);cases hi with
    | none=>exact⟨rfl,rfl⟩
    | some z =>
     simp only[Option.map_some,oJ]at hhi;simp only[hx,hlo,hhi,hy,and_self]
  case call c =>
   have hargs:=hm (xs:=c.args.toList) λx hx=>by simp[hop,Op.operands,Call.operands]; exact .inr (by simpa using hx)
   have h0:ev F' (c.args.getD 0 (.const undef))=ev F (c.args.getD 0 (.const undef)):=by
    by_cases h1:0<c.args.size
    ·refine h _ ?_;simp only[hop,Op.operands,Call.operands,Array.mem_append];right;simp[h1]
    ·have:c.args=#[]:=Array.eq_empty_of_size_eq_zero Z;rw[this]; rfl
   have h1:∀ s,c.args.toList=[s]->ev F' s=ev F s:=λs hc=>by
    have:=hargs;rw[hc]at this;simpa using this
   have h2:∀ s x,c.args.toList=[s,x]->ev F' s=ev F s/\ev F' x=ev F x:=λs x hc=>by
    have:=hargs;rw[hc]at this;simpa using this
   constructor
   ·simp only[h0];split
    ·rfl
    ·rfl
    ·rfl
    ·cases hl:c.args.toList with
     | nil=>rfl
     | cons s l =>
      cases l with
      | nil=>rfl
      | cons x l =>
       cases l with
       | nil=>(cases c.argTypes.toList <;> first|rfl|simp only[(h2 s x hl).1])
       | cons y l=>rfl
    ·rfl
   ·simp only;split
    ·cases hl:c.args.toList with
     | nil=>rfl
     | cons s l =>
      cases l with
      | nil=>simp only[h1 s hl]
      | cons x l=>rfl
    ·cases hl:c.args.toList with
     | nil=>rfl
     | cons s l =>
      cases l with
      | nil=>rfl
      | cons x l =>
       cases l with
       | nil=>simp only[(h2 s x hl).1,(h2 s x hl).2]
       | cons y l=>rfl
    ·cases hl:c.args.toList with
     | nil=>rfl
     | cons s l =>
      cases l with
      | nil=>simp only[h1 s hl]
      | cons x l=>rfl
    ·cases hl:c.args.toList with
     | nil=>rfl
     | cons s l =>
      cases l with
      | nil=>rfl
      | cons x l =>
       cases l with
       | nil=>simp only[(h2 s x hl).1,(h2 s x hl).2]
       | cons y l=>rfl
    ·rfl
  all_goals
   first
   | exact⟨rfl,rfl⟩
   | (simp only[hop,Op.operands]at h
      simp at h;simp[h])
 unfold opx;rw[both.1,both.2,hu]
end
variable {P:Program} {n0:Nat->Prop} {w:World} {G:Gd} {μ:Mp} {H:Heap}
def aLS(P:Program) (t:TypeId) (l c:PV):Option (List Bool×PV) :=
 match FN P t,l,c with
 | some (e,ty),.lit (.int _ l),.lit (.int _ c)=>match P.info? e with
  | some i=>match i.zero with
   | some z=>match dec ty (lits z.cells)with
    | some d=>bif Nat.ble i.bytes 65536&&Nat.beq z.cells.size i.size then
      some ([!ltI l 0,!ltI c l,!ltI 1048576 c],UK ty (List.replicate l.toNat d) (some c.toNat))
     else none
    | none=>none
   | none=>none
  | none=>none
 | _,_,_=>none
theorem aN9(hW:aR n0 G μ H w){t p q v x y cs}(hp:VR w G μ p x)(hq:VR w G μ q y)(h:aLS P t p q=some (cs,v))(hcs:B3 cs=true) :
  xE P n0 w G μ (Instr.makeSlice t x y) v H:=by
 unfold aLS at h;split at h
 next e ty kl l kc cc hel=>
  rw[VR]at hp hq;subst hp; subst hq;obtain⟨hu,hs⟩:=AY hel;split at h
  next i hi=>
   have hsz:=PI hs hi;split at h
   ·rename_i z hz;split at h
    ·rename_i d hd;cases hb:(Nat.ble i.bytes 65536&&Nat.beq z.cells.size i.size)with
     | false=>rw[hb]at h; cases h
     | true =>
      rw[hb]at h;simp only[oC,oJ,oP]at h;obtain⟨rfl,rfl⟩:=h;simp only[oA]at hb;have hb1:=oL hb.1;have hb2:=oE hb.2;obtain⟨c1,hcs⟩:=aN hcs;obtain⟨c2,hcs⟩:=aN hcs;obtain⟨c3,_⟩:=aN hcs;rw[aE,Bool.not_eq_true',decide_eq_false_iff_not]at c1 c2 c3;have hbytes:(i.bytes:Int)*cc<=281474976710656:=by
       have:(i.bytes:Int)*cc<=65536*1048576:=Int.mul_le_mul Z Z Z Z;omega
      have hr:=run_make (P:=P) w t e i z hu hi hz kl kc l cc Z Z hbytes Z;have hdz:VRs w G aJ (enc ty d) z.cells.toList:=AF ty aJ _ d _ hd (B6 _);have hrep:=BO hdz l.toNat;have hmade:(madeCells z.cells (cc.toNat*i.size)).toList=(List.replicate cc.toNat z.cells.toList).flatten:=by rw[<- hb2]; exact IN z.cells cc.toNat
      have hsplit:(List.replicate cc.toNat z.cells.toList).flatten=(List.replicate l.toNat z.cells.toList).flatten++(List.replicate (cc.toNat-l.toNat) z.cells.toList).flatten:=by
       rw[<- List.flatten_append,List.replicate_append_replicate]
       congr 2; omega
      obtain⟨e1,e2⟩:=aFG hW (.cells (madeCells z.cells (cc.toNat*i.size)) e);refine⟨_,_,_,_,hr,e1,e2,aA0 ?_⟩;rw[VR];refine⟨_,_,by rw[List.length_replicate],by rw[List.length_replicate]; omega,λk hk=>by cases hk; rfl,.inr ⟨w.heap.size,0,rfl,.inr rfl,?_⟩⟩;refine aM.mk λj p hp=>?_
      obtain⟨u,g1,g2⟩:=hrep.get hp;refine⟨u,?_,VR.mono e1.toMono.aJ p u g2⟩;rw[Nat.zero_add,World.cell?_alloc_new,<- Array.getElem?_toList,hmade,hsplit,List.getElem?_append_left (oO.1 g1).1];exact g1
    ·cases h
   ·cases h
  ·cases h
 ·cases h
def YS(P:Program) (H:Heap) (t:TypeId) (l c:PV):KT :=
 match FN P t,l,c with
 | some (e,ty),.lit (.int _ l),.lit (.int _ c)=>match P.info? e with
  | some i=>match i.zero with
   | some z=>match dec ty (lits z.cells)with
    | some d=>bif Nat.ble i.bytes 65536&&Nat.beq z.cells.size i.size then
      some ([!ltI l 0,!ltI c l,!ltI 1048576 c],.win H.length 0 l.toNat ty.size,H++[some ⟨aK ty (List.replicate c.toNat d),e,true,false,some ⟨ty,List.replicate c.toNat d⟩⟩],2)
     else none
    | none=>none
   | none=>none
  | none=>none
 | _,_,_=>none
theorem aRP(hW:aR n0 G μ H w){t p q v x y cs H' c}(hp:VR w G μ p x)(hq:VR w G μ q y)(h:YS P H t p q=some (cs,v,H',c))(hcs:B3 cs=true) :
  c=2/\xE P n0 w G μ (Instr.makeSlice t x y) v H':=by
 unfold YS at h;split at h
 next e ty kl l kc cc hel=>
  rw[VR]at hp hq;subst hp; subst hq;obtain⟨hu,hs⟩:=AY hel;split at h
  next i hi=>
   have hsz:=PI hs hi;split at h
   ·rename_i z hz;split at h
    ·rename_i d hd;cases hb:(Nat.ble i.bytes 65536&&Nat.beq z.cells.size i.size)with
     | false=>rw[hb]at h; cases h
     | true =>
      rw[hb]at h;simp only[oC,oJ,oP]at h;obtain⟨rfl,rfl,rfl,rfl⟩:=h;refine⟨rfl,?_⟩;simp only[oA]at hb;have hb1:=oL hb.1;have hb2:=oE hb.2;obtain⟨c1,hcs⟩:=aN hcs;obtain⟨c2,hcs⟩:=aN hcs;obtain⟨c3,_⟩:=aN hcs;rw[aE,Bool.not_eq_true',decide_eq_false_iff_not]at c1 c2 c3;have hbytes:(i.bytes:Int)*cc<=281474976710656:=by
       have:(i.bytes:Int)*cc<=65536*1048576:=Int.mul_le_mul Z Z Z Z;omega
      have hr:=run_make (P:=P) w t e i z hu hi hz kl kc l cc Z Z hbytes Z;have hdz:VRs w G aJ (enc ty d) z.cells.toList:=AF ty aJ _ d _ hd (B6 _);have hrep:=BO hdz cc.toNat;have hmade:(madeCells z.cells (cc.toNat*i.size)).toList=(List.replicate cc.toNat z.cells.toList).flatten:=by rw[<- hb2]; exact IN z.cells cc.toNat
      have hk:=HX (on:=some cc.toNat) hW (madeCells z.cells (cc.toNat*i.size)) ⟨aK ty (List.replicate cc.toNat d),e,true,false,some ⟨ty,List.replicate cc.toNat d⟩⟩ (λj p hp=>by
       obtain⟨u,g1,g2⟩:=hrep.get hp;refine⟨u,?_,g2.aW⟩;rw[<- Array.getElem?_toList,hmade];exact g1) (λh=>by cases h) rfl (λg hg=>by cases hg; exact⟨rfl,by simp⟩)
      refine⟨_,_,G,_,hr,FD hW _ _ _,hk,?_⟩;rw[VR,A8];simp only[Nat.zero_add];refine⟨w.heap.size,cc.toNat,cc.toNat,lE _ _ _ _,by rw[Nat.zero_mul],by omega,⟨madeCells z.cells (cc.toNat*i.size),e,(0,0),?_,?_⟩,qL _ _ _ _,by omega,by omega,trivial⟩
      ·show (w.heap.push _)[w.heap.size]?=_;simp
      ·simp[madeCells,hsz]
    ·cases h
   ·cases h
  ·cases h
 ·cases h
end Go.PM
namespace Go.PM
open Go Go.RowKit
def guardOf(F:Frm) (l:List Oper) (o:Oper):Option Bool :=
 match o.guard with
 | none=>some true
 | some (j,want)=>match l[j]? with
  | some p=>match p.dst with
   | some t=>match dX F t with
    | .lit (.bool b)=>some (bif b then want else !want)
    | .lit _=>some false
    | _=>none
   | none=>none
  | none=>none
def X3(nt:Nat)(F:Frm)(d:Option Tmp)(v:PV):Option Frm :=
 match d with
 | none=>some F
 | some t=>bif Nat.blt t nt then some ((t,v)::F) else none
def a77(l:List Oper):Option Tmp->Bool
 | none=>false
 | some t=>l.any λo=>match o.op with
  | .call c=>match c.callee with
   | .value _=>c.args.toList.any λx=>match x with
    | .tmp s=>Nat.beq s t
    | _=>false
   | _=>false
  | .buildSlice _ _ ps=>ps.toList.any λx=>match x.2 with
   | .tmp s=>Nat.beq s t
   | _=>false
  | .build _ ps=>ps.toList.any λx=>match x.2 with
   | .tmp s=>Nat.beq s t
   | _=>false
  | .store _ (.tmp a) (.tmp s)=>Nat.beq s t&&l.any λo=>match o.dst,o.op with
   | some b,.fieldAddr _ _ _=>Nat.beq a b
   | _,_=>false
  | _=>false
def aQJ(l:List Oper):Option Tmp->Bool
 | none=>false
 | some t=>l.any λo=>match o.op with
  | .call c=>match c.callee with
   | .builtin .append=>match c.args.toList with
    | .tmp s::_=>Nat.beq s t
    | _=>false
   | _=>false
  | _=>false
def opz(P:Program) (cl:Callee) (l:List Oper) (F:Frm) (H:Heap) (o:Oper):Option (PV×Heap×Nat):=match o.op with
 | .makeSlice t n c=>bif aQJ l o.dst then (match YS P H t (ev F n) (ev F c)with
   | some (cs,v,H',k)=>bif B3 cs then some (v,H',k) else none
   | none=>none) else opx P cl F H o
 | _=>opx P cl F H o
def mkData(P:Program) (F:Frm) (l:List Oper) (o:Oper):Option (Option (List Bool×PV)):=match o.op with
 | .makeSlice t n c=>bif a77 l o.dst then some (aLS P t (ev F n) (ev F c)) else none
 | _=>none
def BB(P:Program)(cl:Callee)(l:List Oper)(o:Oper)(F:Frm)(H:Heap):Option (PV×Heap×Nat) :=
 match guardOf F l o with
 | some true=>match mkData P F l o with
  | none=>opz P cl l F H o
  | some none=>none
  | some (some (cs,v))=>bif B3 cs then some (v,H,0) else none
 | some false=>some (.lit undef,H,0)
 | none=>none
def aBK(P:Program)(cl:Callee)(nt:Nat)(l:List Oper):List Oper->Frm->Heap->Option (Frm×Heap)
 | [],F,H=>some (F,H)
 | o::rest,F,H=>match BB P cl l o F H with
  | some (v,H',c)=>fPV v λv=>match X3 nt F o.dst v with
   | some F'=>bif Nat.beq c 2 then aI4 H' λH'=>aBK P cl nt l rest F' H' else aBK P cl nt l rest F' H'
   | none=>none
  | none=>none
section
variable {P:Program} {cl:Callee} {n0:Nat->Prop} {nt:Nat} {wi:World} {Gi:Gd} {μi:Mp} {w:World} {G:Gd} {μ:Mp} {F:Frm} {H:Heap} {a:Act}
theorem FF(hF:iV w G μ nt F a){ops o b}(h:guardOf F ops.toList o=some b):Region.wanted o (yielded ops a.tmps)=b:=by
 unfold guardOf at h;unfold Region.wanted;split at h
 next hg=>simp only[oJ]at h;rw[hg,<- h]
 next j want hg=>
  rw[hg];simp only;split at h
  next p hp=>
   have hp:ops[j]?=some p:=by simpa using hp
   split at h
   ·rename_i t ht;have hs:=hF.slot t;have hy:yielded ops a.tmps j=match a.tmps[t]? with|some (.bool b)=>some b|_=>none:=by
     unfold yielded;simp only[hp,Option.bind_some,ht];rfl
    rw[hy];split at h
    ·rename_i c hc;rw[hc,VR]at hs;simp only[oJ]at h;have:a.tmps[t]?=some (.bool c):=by
      rcases oG t a.tmps.size with hl|hl
      ·simp only[Array.getD,hl,dif_pos]at hs;rw[Array.getElem?_eq_getElem hl,<- hs]; rfl
      ·simp only[Array.getD,Nat.not_lt.2 hl,dif_neg,not_false_iff]at hs;cases hs
     rw[this,<- h];cases c <;> cases want <;> rfl
    ·rename_i u hno hc;rw[hc,VR]at hs;simp only[oJ]at h;rw[<- h];rcases oG t a.tmps.size with hl|hl
     ·have:a.tmps[t]?=some u:=by
       simp only[Array.getD,hl,dif_pos]at hs;rw[Array.getElem?_eq_getElem hl,<- hs]; rfl
      rw[this];cases u <;> first|rfl|exact absurd rfl (hno _)
     ·rw[Array.getElem?_eq_none hl]; rfl
    ·cases h
   ·cases h
  ·cases h
def I(n0:Nat->Prop) (wi:World) (Gi:Gd) (μi:Mp) (nt:Nat) (F:Frm) (H:Heap) (a:Act) (w:World):Prop :=
 ∃ G μ,Ext n0 wi Gi μi w G μ/\aR n0 G μ H w/\iV w G μ nt F a
theorem iV.aRX (h:iV w G μ nt F a){d p v F'}(hx:X3 nt F d p=some F')(hv:VR w G μ p v):iV w G μ nt F' (a.put d v):=by
 cases d with
 | none=>simp only[X3,oJ]at hx; subst hx; exact h
 | some t =>
  simp only[X3]at hx;cases hb:Nat.blt t nt with
  | false=>grind
  | true =>
   rw[hb]at hx;simp only[oC,oJ]at hx;subst hx;exact h.cons (by simp_all) hv
theorem aVQ(hW:aR n0 G μ H w)(hF:iV w G μ nt F a){l o cs v}(h:mkData P F l o=some (some (cs,v)))(hcs:B3 cs=true):N1 P n0 w G μ o a v H:=by
 unfold mkData at h;split at h
 next t x y ho=>
  cases hb:a77 l o.dst with
  | false=>grind
  | true =>
   rw[hb]at h;simp only[oC,oJ]at h;exact .value (by simp only[execOp,ho]) (aN9 hW (cO hF x) (cO hF y) h hcs)
 grind
theorem a5U(hcl:eO P cl)(hW:aR n0 G μ H w)(hF:iV w G μ nt F a){l o v H' k}(h:opz P cl l F H o=some (v,H',k)):N1 P n0 w G μ o a v H':=by
 unfold opz at h;split at h
 next t n c ho=>
  cases hb:aQJ l o.dst with
  | false=>rw[hb]at h; exact aS9 hcl hW hF h
  | true =>
   rw[hb]at h;split at h
   next cs v1 H1 k1 h1=>obtain⟨hcs,h⟩:=aI h;obtain⟨rfl,rfl,rfl⟩:=h;exact .value (by simp only[execOp,ho]) (aRP hW (cO hF n) (cO hF c) h1 hcs).2
   grind
 ·exact aS9 hcl hW hF h
theorem aXP {t p q}:T2 (YS P H t p q):=by
 unfold YS
 repeat' first
  | exact T2.no
  | exact T2.yes
  | apply T2.cond
  | split
theorem bC5(hcl:eO P cl){l o v H' k}(h:opz P cl l F H o=some (v,H',k)):aGR k H H' v (λH2=>opz P cl l F H2 o):=by
 unfold opz at h ⊢;split at h
 ·cases hb:aQJ l o.dst with
  | false =>
   rw[hb]at h;exact a41 hcl h
  | true =>
   rw[hb]at h;split at h
   next cs v1 H1 k1 h1=>obtain⟨hcs,h⟩:=aI h;obtain⟨rfl,rfl,rfl⟩:=h;have:=aXP _ _ _ _ h1;subst this;exact⟨λh=>Z,λh=>by cases h⟩
   grind
 ·exact a41 hcl h
theorem aAG(hcl:eO P cl){ops o v H' c}(h:BB P cl ops.toList o F H=some (v,H',c))(hW:aR n0 G μ H w)(hF:iV w G μ nt F a) :
  (Region.wanted o (yielded ops a.tmps)=true/\N1 P n0 w G μ o a v H')\/(Region.wanted o (yielded ops a.tmps)=false/\v=.lit undef/\H'=H):=by
 unfold BB at h;split at h
 next hg=>
  split at h
  ·exact .inl ⟨FF hF hg,a5U hcl hW hF h⟩
  ·grind
  next cs v' hm=>
   cases hb:B3 cs with
   | false=>grind
   | true =>
    rw[hb]at h;obtain⟨rfl,rfl,rfl⟩:=h;exact .inl ⟨FF hF hg,aVQ hW hF hm hb⟩
 next hg=>obtain⟨rfl,rfl,rfl⟩:=h;exact .inr ⟨FF hF hg,rfl,rfl⟩
 grind
theorem JS(hcl:eO P cl){ops Q F' H'}:∀ l F H a w,aBK P cl nt ops.toList l F H=some (F',H')->I n0 wi Gi μi nt F H a w ->
  (∀ a' w',I n0 wi Gi μi nt F' H' a' w'->Q .normal a' w')->wpList P ops Q l a w
 | [],F,H,a,w,h,hI,hQ=>by
  obtain⟨rfl,rfl⟩:=h;exact hQ a w hI
 | o::rest,F,H,a,w,h,hI,hQ=>by
  simp only[aBK]at h;split at h
  next v H1 c hs=>
   rw[aHK]at h;split at h
   ·rename_i F1 hp;rw[M9,Bool.cond_self]at h;obtain⟨G,μ,e,hW,hF⟩:=hI;unfold wpList;rcases aAG hcl hs hW hF with ⟨h1,h2⟩|⟨h1,rfl,rfl⟩
    ·rw[if_pos h1];refine .inl (h2 _ _ λv' w' G' μ' e' hW' hv=>?_);exact JS hcl rest F1 H1 _ _ h ⟨G',μ',e.trans e',hW',(hF.mono e'.toMono).aRX hp hv⟩ hQ
    ·rw[h1,if_neg O];exact JS hcl rest F1 H1 _ _ h ⟨G,μ,e,hW,hF.aRX hp (by rfl)⟩ hQ
   grind
  grind
end
structure bFO where
 slots:List Nat
 own:List (Nat×TypeId×Option Ty)
 base:Nat
def below(m:Nat):PV->Bool
 | .hptr r _=>Nat.blt r m
 | .hs r _ _ _ _=>Nat.blt r m
 | .own r _=>Nat.blt r m
 | .op r _ _ _=>Nat.blt r m
 | .win r _ _ _=>Nat.blt r m
 | .qs r _=>Nat.blt r m
 | .agg cs|.tuple cs=>belows m cs
 | .clo _ f c=>belows m f&&belows m c
 | _=>true
where belows m:List PV->Bool
 | []=>true
 | p::ps=>below m p&&belows m ps
def aVJ(s n:Nat):PV->PV
 | .win r lo m sz=>bif Nat.beq r s then .win n lo m sz else .win r lo m sz
 | p=>p
def aZP(s n:Nat):Frm->Frm
 | []=>[]
 | (t,p)::r=>(t,aVJ s n p)::aZP s n r
def aU1(t:Nat) (e:TypeId) (ty:Ty) (F:Frm) (H:Heap) (k:Frm->Heap->Option (Frm×Heap)) (s sz:Nat) (q:PV):Option (Frm×Heap):=match kK H s with
 | some kb=>match kb.tag with
  | some g=>match JW g.t ty g.l with
   | some l=>bif Nat.beq sz ty.size&&!kb.frozen&&Nat.beq kb.ty e&&kb.grown then k ((t,q)::aZP s H.length F) (H.set s none++[some ⟨aK ty l,e,true,false,some ⟨ty,l⟩⟩]) else none
   | none=>none
  | none=>none
 | none=>none
def aUY(t:Nat) (e:TypeId) (ty:Ty) (F:Frm) (H:Heap) (k:Frm->Heap->Option (Frm×Heap)):Option (Frm×Heap):=match dX F t with
 | .lit (.slice none m c)=>bif Nat.beq m 0&&Nat.beq c 0 then k ((t,.own H.length ty.size)::F) (H++[some ⟨aK ty [],e,true,false,some ⟨ty,[]⟩⟩]) else none
 | .tl _ [] (some 0) _=>k ((t,.own H.length ty.size)::F) (H++[some ⟨aK ty [],e,true,false,some ⟨ty,[]⟩⟩])
 | .own s sz=>aU1 t e ty F H k s sz (.own H.length sz)
 | .qs s sz=>aU1 t e ty F H k s sz (.qs H.length sz)
 | _=>none
def GU:List (Nat×TypeId×Option Ty)->Frm->Heap->Option (Frm×Heap)
 | [],F,H=>some (F,H)
 | (t,e,none)::r,F,H=>match dX F t with
  | .hptr s off=>match kK H s with
   | some k=>bif Nat.beq k.ty e&&!k.tag.isSome then GU r ((t,.hptr H.length off)::F) (H.set s none++[some k]) else none
   | none=>none
  | _=>none
 | (_,e,some (.rows _))::r,F,H=>match aFP 0 H with
  | some (s,k)=>match k.tag with
   | some ⟨.rows _,_⟩=>bif Nat.beq k.ty e&&!k.frozen then GU r F (H.set s none++[some k]) else none
   | _=>none
  | none=>none
 | (t,e,some ty)::r,F,H=>aUY t e ty F H (GU r)
def aO8(m d:Nat):PV->Option PV
 | .own r sz=>bif Nat.blt r m then some (.own r sz) else bif Nat.ble (m+d) r then some (.own (r-d) sz) else none
 | .qs r sz=>bif Nat.blt r m then some (.qs r sz) else bif Nat.ble (m+d) r then some (.qs (r-d) sz) else none
 | .hptr r off=>bif Nat.blt r m then some (.hptr r off) else bif Nat.ble (m+d) r then some (.hptr (r-d) off) else none
 | .win r lo n sz=>bif Nat.blt r m then some (.win r lo n sz) else bif Nat.ble (m+d) r then some (.win (r-d) lo n sz) else none
 | p=>bif below m p then some p else none
def aPZ(m d:Nat)(F:Frm):List Nat->Option Frm
 | []=>some []
 | t::r=>match aO8 m d (dX F t),aPZ m d F r with
  | some p,some F'=>some ((t,p)::F')
  | _,_=>none
def XM(m:Nat):List (Option Blk)->Bool
 | []=>true
 | none::r=>XM m r
 | some k::r=>(k.tag.isSome||below.belows m k.cells)&&XM m r
def aAK:List (Option Blk)->Bool
 | []=>true
 | none::r=>aAK r
 | some k::r=>(k.tag.isSome||eX.noRefs k.cells)&&aAK r
def tidy(pl:bFO)(F:Frm)(H:Heap):Option (Frm×Heap) :=
 bif Nat.ble pl.base H.length then match GU pl.own F H with
  | some (F1,H1)=>bif XM pl.base (H1.take pl.base)&&aAK (H1.drop (pl.base+(H.length-pl.base))) then match aPZ pl.base (H.length-pl.base) F1 pl.slots with
   | some F2=>some (F2,H1.take pl.base++H1.drop (pl.base+(H.length-pl.base)))
   | none=>none
   else none
  | none=>none
 else none
section
variable {P:Program} {n0:Nat->Prop} {w wi:World} {G Gi:Gd} {μ μi μ':Mp} {H:Heap} {F:Frm} {a:Act} {nt:Nat}
mutual
theorem Y5 {m:Nat} (h:∀ r,r<m->μ'.loc r=μ.loc r/\μ'.len r=μ.len r/\μ'.sh r=μ.sh r):∀ (p:PV) (v:Value),below m p=true->VR w G μ p v->VR w G μ' p v
 | .lit u,v,_,hv=>by rw[VR]at hv ⊢; exact hv
 | .vals ..,v,_,hv=>by rw[VR]at hv ⊢; exact hv
 | .iptr _,v,_,hv=>by rw[VR]at hv ⊢; exact hv
 | .tl ..,v,_,hv=>by rw[VR]at hv ⊢; exact hv
 | .tp ..,v,_,hv=>by rw[VR]at hv ⊢; exact hv
 | .row ..,v,_,hv=>by rw[VR]at hv ⊢; exact hv
 | .rp ..,v,_,hv=>by rw[VR]at hv ⊢; exact hv
 | .mp _,v,_,hv=>by rw[VR]at hv ⊢; exact hv
 | .tm _,v,_,hv=>by rw[VR]at hv ⊢; exact hv
 | .junk,v,_,hv=>by rw[VR]; trivial
 | .hptr r off,v,hb,hv=>by
  have:=h r (jN (by simpa only[below]using hb));rw[VR]at hv ⊢; rw[this.1,this.2.2]; exact hv
 | .hs r off l c s,v,hb,hv=>by
  have:=h r (jN (by simpa only[below]using hb));rw[VR]at hv ⊢; rw[this.1,this.2.2]; exact hv
 | .own r s,v,hb,hv=>by
  have:=h r (jN (by simpa only[below]using hb));rw[VR]at hv ⊢; rw[this.1,this.2.1,this.2.2]; exact hv
 | .op r i off s,v,hb,hv=>by
  have:=h r (jN (by simpa only[below]using hb));rw[VR]at hv ⊢; rw[this.1,this.2.2]; exact hv
 | .win r lo n s,v,hb,hv=>by
  have:=h r (jN (by simpa only[below]using hb));rw[VR]at hv ⊢; rw[this.1,this.2.1,this.2.2]; exact hv
 | .qs r s,v,hb,hv=>by
  have:=h r (jN (by simpa only[below]using hb));rw[VR]at hv ⊢; rw[this.1,this.2.1,this.2.2]; exact hv
 | .agg cs,v,hb,hv=>by
  rw[VR]at hv ⊢;obtain⟨vs,h1,h2⟩:=hv;exact⟨vs,h1,UF h cs _ (by simpa only[below]using hb) h2⟩
 | .tuple cs,v,hb,hv=>by
  rw[VR]at hv ⊢;obtain⟨vs,h1,h2⟩:=hv;exact⟨vs,h1,UF h cs _ (by simpa only[below]using hb) h2⟩
 | .clo fn f c,v,hb,hv=>by
  rw[VR]at hv ⊢;simp only[below,oA]at hb;obtain⟨fs,cs,h1,h2,h3⟩:=hv;exact⟨fs,cs,h1,UF h f _ hb.1 h2,UF h c _ hb.2 h3⟩
theorem UF {m:Nat} (h:∀ r,r<m->μ'.loc r=μ.loc r/\μ'.len r=μ.len r/\μ'.sh r=μ.sh r):∀ (ps:List PV) (vs:List Value),below.belows m ps=true->VRs w G μ ps vs->VRs w G μ' ps vs
 | [],vs,_,hv=>by rw[VRs]at hv ⊢; exact hv
 | p::ps,vs,hb,hv=>by
  rw[VRs]at hv ⊢;simp only[below.belows,oA]at hb;obtain⟨x,xs,h1,h2,h3⟩:=hv;exact⟨x,xs,h1,Y5 h p x hb.1 h2,UF h ps xs hb.2 h3⟩
end
theorem uQ {b off ps}(hn:eX.noRefs ps=true)(h:aM w G μ b off ps):aM w G μ' b off ps:=by
 obtain⟨vs,h1,h2⟩:=h.values;exact aM.qV (VRs.aW (dK ps vs hn h1)) h2
theorem aVP {m}(hm:∀ r,r<m->μ'.loc r=μ.loc r/\μ'.len r=μ.len r/\μ'.sh r=μ.sh r){b off ps}(hn:below.belows m ps=true)(h:aM w G μ b off ps):aM w G μ' b off ps:=by
 obtain⟨vs,h1,h2⟩:=h.values;exact aM.qV (UF hm ps vs hn h1) h2
theorem aFF {t e v}(h:VR w G μ (.tl t [] (some 0) e) v):∃ ao,v=.slice ao 0 0:=by
 obtain⟨h1,rfl⟩:=h;obtain⟨ao,c,rfl,_,h2,_⟩:=h1
 simp_all
theorem iV.named (h:iV w G μ nt F a){t p}(hv:VR w G μ p (a.tmps.getD t undef)):iV w G μ nt ((t,p)::F) a :=
 ⟨h.size,λs=>by
  rw[jF]
  by_cases hs:s=t
  ·grind
  ·rw[if_neg hs]; exact h.slot s,h.defers⟩
theorem aLK s n t:∀ F ,dX (aZP s n F) t=aVJ s n (dX F t)
 | []=>rfl
 | (u,p)::r=>by
  simp only[aZP];rw[jF,jF]
  by_cases h:t=u
  ·grind
  ·rw[if_neg h,if_neg h]; exact aLK s n t r
theorem a6W {s n}(e:Mono w G μ w G μ')(hl:μ'.loc n=μ.loc s)(hn:μ'.len n=μ.len s)(hs:∀ b,μ.loc s=some b->μ'.sh n=μ.sh s){p v}(h:VR w G μ p v):VR w G μ' (aVJ s n p) v:=by
 cases p with
 | win r lo m sz =>
  simp only[aVJ];cases hb:Nat.beq r s with
  | true =>
   have hb:=oE hb;simp only[oC];rw[VR];obtain⟨b,c,m',h1,h2,h3,h4,h5,h6⟩:=h
   simp_all
  | false=>exact VR.mono e _ _ h
 | _=>exact VR.mono e _ _ h
theorem iV.aZP (h:iV w G μ nt F a){s n}(e:Mono w G μ w G μ')(hl:μ'.loc n=μ.loc s)(hn:μ'.len n=μ.len s)(hs:∀ b,μ.loc s=some b->μ'.sh n=μ.sh s):iV w G μ' nt (PM.aZP s n F) a :=
 ⟨h.size,λt=>by rw[aLK]; exact a6W e hl hn hs (h.slot t),h.defers⟩
theorem aQQ {t e ty F H F' H' kk s sz q}
  (rec_:∀ F H F' H',kk F H=some (F',H')->I n0 wi Gi μi nt F H a w->I n0 wi Gi μi nt F' H' a w/\H.length<=H'.length/\∀ t,dX F t=.junk->dX F' t=.junk)
  (h:aU1 t e ty F H kk s sz q=some (F',H')) (hI:I n0 wi Gi μi nt F H a w) (ht:dX F t=.own s sz\/dX F t=.qs s sz) (hW:aR n0 G μ H w) (hF:iV w G μ nt F a) (e0:Ext n0 wi Gi μi w G μ) (hs:VR w G μ (.qs s sz) (a.tmps.getD t undef)) (hq:q=.qs H.length sz\/q=.own H.length sz/\VR w G μ (.own s sz) (a.tmps.getD t undef)) :
  I n0 wi Gi μi nt F' H' a w/\H.length<=H'.length/\∀ t,dX F t=.junk->dX F' t=.junk:=by
 unfold aU1 at h;split at h
 next k hk=>
  split at h
  next g hg=>
   split at h
   ·rename_i l' hc;obtain⟨hb,h⟩:=aI h;simp only[oA,Bool.not_eq_true']at hb;obtain⟨⟨⟨hb1,hb2⟩,hb3⟩,hb4⟩:=hb;have hb3:=oE hb3;obtain⟨ht1,ht2⟩:=hW.tags s k g (aG hk) hg;obtain⟨gt,gl⟩:=g;obtain⟨rfl,rfl⟩:=qQ hc;obtain⟨n,h1,h2⟩:=hs;rw[ht2]at h1;cases h1;have hkk:k=⟨aK gt gl,e,true,false,some ⟨gt,gl⟩⟩:=by
     obtain⟨k1,k2,k3,k4,k5⟩:=k;grind
    have junk:∀ x,dX F x=.junk->dX ((t,q)::aZP s H.length F) x=.junk:=λx hx=>by
     rw[jF,if_neg,aLK,hx]; rfl;grind
    have fin:∀ (ob:Option Nat) (o:Nat),μ.loc s=ob->(∀ b,μ.loc s=some b->o=μ.sh s)->Ext n0 w G μ w G (upd μ H.length ob (some gl.length) o)->aR n0 G (upd μ H.length ob (some gl.length) o) (H.set s none++[some ⟨aK gt gl,e,true,false,some ⟨gt,gl⟩⟩]) w ->
      VR w G (upd μ H.length ob (some gl.length) o) q (a.tmps.getD t undef)->I n0 wi Gi μi nt F' H' a w/\H.length<=H'.length/\∀ t,dX F t=.junk->dX F' t=.junk:=λob o hob ho e1 w1 v1=>by
     obtain⟨g1,g2,g3⟩:=rec_ _ _ F' H' h ⟨G,_,e0.trans e1,w1,iV.named (hF.aZP e1.toMono (by rw[lE,hob]) (by rw[qL,ht2]) (λb hb=>by rw[A8]; exact ho b hb)) v1⟩;grind
    cases hls:μ.loc s with
    | none =>
     rcases h2 with ⟨h2,ao,h3⟩|⟨b,c,h3,h4,h5,h6⟩
     ·have hk0:=tY hW s;obtain⟨e1,w1⟩:=sX hk0 ⟨aK gt gl,e,true,false,some ⟨gt,gl⟩⟩ (on:=some gl.length) (λg hg=>by cases hg; exact⟨rfl,rfl⟩);rw[List.length_set]at e1 w1;refine fin none 0 hls (λb hb=>by rw[hls]at hb; cases hb) e1 w1 ?_;rcases hq with rfl|⟨rfl,_⟩ <;> (rw[VR]; exact⟨_,qL ..,.inl ⟨h2,ao,h3⟩⟩)
     ·grind
    | some b =>
     rw[hkk]at hk;obtain⟨e1,w1⟩:=RV hW (aG hk) hls (on:=some gl.length) (λg hg=>by cases hg; exact⟨rfl,rfl⟩);refine fin (some b) _ hls (λ_ _=>rfl) e1 w1 ?_;rcases hq with rfl|⟨rfl,hq⟩
     ·rw[VR];rw[A8];refine⟨_,qL ..,?_⟩;rcases h2 with ⟨h2,ao,h3⟩|⟨b',c,h3,h4,h5,h6⟩
      ·grind
      ·rw[hls]at h3; cases h3;exact .inr ⟨b,c,lE ..,h4,h5,h6⟩
     ·rw[VR]at hq;rw[VR,A8];obtain⟨n,h1,h2⟩:=hq;rw[ht2]at h1;cases h1;refine⟨_,qL ..,?_⟩;rcases h2 with ⟨h2,ao,h3⟩|⟨b',c,h3,h4,h5,h6⟩
      ·exact .inl ⟨h2,ao,h3⟩
      ·rw[hls]at h3; cases h3;exact .inr ⟨b,c,lE ..,h4,h5,h6⟩
   ·cases h
  ·cases h
 ·cases h
theorem HN {t e ty F H F' H' kk}
  (rec_:∀ F H F' H',kk F H=some (F',H')->I n0 wi Gi μi nt F H a w->I n0 wi Gi μi nt F' H' a w/\H.length<=H'.length/\∀ t,dX F t=.junk->dX F' t=.junk)
  (h:aUY t e ty F H kk=some (F',H')) (hI:I n0 wi Gi μi nt F H a w):I n0 wi Gi μi nt F' H' a w/\H.length<=H'.length/\∀ t,dX F t=.junk->dX F' t=.junk:=by
 unfold aUY at h;obtain⟨G,μ,e0,hW,hF⟩:=hI;have hs:=hF.slot t;split at h
 next m c ht=>
  obtain⟨hb,h⟩:=aI h;simp only[oA]at hb;have h1:=oE hb.1;have h2:=oE hb.2;subst h1; subst h2;rw[ht,VR]at hs;obtain⟨e1,w1⟩:=sX hW ⟨aK ty [],e,true,false,some ⟨ty,[]⟩⟩ (on:=some 0) (λg hg=>by cases hg; exact⟨rfl,rfl⟩);have f1:iV w G (upd μ H.length none (some 0)) nt ((t,.own H.length ty.size)::F) a:=by
   refine iV.named (hF.mono e1.toMono) ?_;exact⟨0,qL ..,.inl ⟨rfl,none,hs⟩⟩
  obtain⟨g1,g2,g3⟩:=rec_ _ _ F' H' h ⟨G,_,e0.trans e1,w1,f1⟩;refine⟨g1,by simp only[oH]at g2; omega,λs hx=>g3 s ?_⟩;rw[jF,if_neg,hx];grind
 next t' e' ht=>
  rw[ht]at hs;obtain⟨ao,hs⟩:=aFF hs;obtain⟨e1,w1⟩:=sX hW ⟨aK ty [],e,true,false,some ⟨ty,[]⟩⟩ (on:=some 0) (λg hg=>by cases hg; exact⟨rfl,rfl⟩);have f1:iV w G (upd μ H.length none (some 0)) nt ((t,.own H.length ty.size)::F) a:=by
   refine iV.named (hF.mono e1.toMono) ?_;exact⟨0,qL ..,.inl ⟨rfl,ao,hs⟩⟩
  obtain⟨g1,g2,g3⟩:=rec_ _ _ F' H' h ⟨G,_,e0.trans e1,w1,f1⟩;refine⟨g1,by simp only[oH]at g2; omega,λs hx=>g3 s ?_⟩;rw[jF,if_neg,hx];grind
 next s sz ht=>rw[ht]at hs;exact aQQ rec_ h ⟨G,μ,e0,hW,hF⟩ (by rw[ht]; exact .inl rfl) hW hF e0 (a3C hs) (.inr ⟨rfl,hs⟩)
 next s sz ht=>rw[ht]at hs;exact aQQ rec_ h ⟨G,μ,e0,hW,hF⟩ (by rw[ht]; exact .inr rfl) hW hF e0 hs (.inl rfl)
 ·cases h
theorem sB:∀ l F H F' H',GU l F H=some (F',H')->I n0 wi Gi μi nt F H a w->I n0 wi Gi μi nt F' H' a w/\H.length<=H'.length/\∀ t,dX F t=.junk->dX F' t=.junk
 | [],F,H,F',H',h,hI=>by
  obtain⟨rfl,rfl⟩:=h;grind
 | (t,e,none)::l,F,H,F',H',h,hI=>by
  simp only[GU]at h;obtain⟨G,μ,e0,hW,hF⟩:=hI;have hs:=hF.slot t;split at h
  next s off ht=>
   split at h
   ·rename_i k hk;obtain⟨hb,h⟩:=aI h;rw[ht,VR]at hs;obtain⟨b,h1,h2⟩:=hs;obtain⟨e1,w1⟩:=RV hW (aG hk) h1 (on:=none) (λg hg=>by rw[hg]at hb; simp at hb);have f1:iV w G (upd μ H.length (some b) none (μ.sh s)) nt ((t,.hptr H.length off)::F) a:=by
     refine iV.named (hF.mono e1.toMono) ?_;rw[VR,A8];exact⟨b,lE ..,h2⟩
    obtain⟨g1,g2,g3⟩:=sB l _ _ F' H' h ⟨G,_,e0.trans e1,w1,f1⟩;refine⟨g1,by simp only[oH,List.length_set]at g2; omega,λx hx=>g3 x ?_⟩;rw[jF,if_neg,hx];grind
   ·cases h
  ·cases h
 | (t,e,some (.rows ty))::l,F,H,F',H',h,hI=>by
  simp only[GU]at h;obtain⟨G,μ,e0,hW,hF⟩:=hI;split at h
  next s k har=>
   split at h
   next t' l' ht=>obtain⟨hb,h⟩:=aI h;obtain⟨hs,hg⟩:=aEB har;obtain⟨e1,w1⟩:=a2V hW hs hg ht;obtain⟨g1,g2,g3⟩:=sB l _ _ F' H' h ⟨G,_,e0.trans e1,w1,hF.mono e1.toMono⟩;grind
   ·cases h
  ·cases h
 | (t,e,some (.int ik))::l,F,H,F',H',h,hI=>HN (ty:=.int ik) (λF H F' H'=>sB l F H F' H') (by simpa only[GU]using h) hI
 | (t,e,some .bool)::l,F,H,F',H',h,hI=>HN (ty:=.bool) (λF H F' H'=>sB l F H F' H') (by simpa only[GU]using h) hI
 | (t,e,some .str)::l,F,H,F',H',h,hI=>HN (ty:=.str) (λF H F' H'=>sB l F H F' H') (by simpa only[GU]using h) hI
 | (t,e,some (.list lt))::l,F,H,F',H',h,hI=>HN (ty:=.list lt) (λF H F' H'=>sB l F H F' H') (by simpa only[GU]using h) hI
 | (t,e,some (.prod pa pb))::l,F,H,F',H',h,hI=>HN (ty:=.prod pa pb) (λF H F' H'=>sB l F H F' H') (by simpa only[GU]using h) hI
 | (t,e,some (.hnd hs))::l,F,H,F',H',h,hI=>HN (ty:=.hnd hs) (λF H F' H'=>sB l F H F' H') (by simpa only[GU]using h) hI
 | (t,e,some .smap)::l,F,H,F',H',h,hI=>HN (ty:=.smap) (λF H F' H'=>sB l F H F' H') (by simpa only[GU]using h) hI
theorem aFC {m:Nat}:∀ {l:List (Option Blk)} {r:Nat} {k:Blk},XM m l=true->l[r]?=some (some k)->k.tag.isSome=true\/below.belows m k.cells=true
 | [],r,k,_,h=>by simp at h
 | none::l,0,k,_,h=>by simp at h
 | some k'::l,0,k,hp,h=>by
  simp only[List.getElem?_cons_zero,oJ]at h;subst h;simp only[XM,oA,Bool.or_eq_true]at hp;exact hp.1
 | none::l,r+1,k,hp,h=>aFC (l:=l) (r:=r) (by simpa only[XM]using hp) (by simpa using h)
 | some k'::l,r+1,k,hp,h=>by
  simp only[XM,oA]at hp;exact aFC (l:=l) (r:=r) hp.2 (by simpa using h)
theorem aA8:∀ {l:List (Option Blk)} {r:Nat} {k:Blk},aAK l=true->l[r]?=some (some k)->k.tag.isSome=true\/eX.noRefs k.cells=true
 | [],r,k,_,h=>by simp at h
 | none::l,0,k,_,h=>by simp at h
 | some k'::l,0,k,hp,h=>by
  simp only[List.getElem?_cons_zero,oJ]at h;subst h;simp only[aAK,oA,Bool.or_eq_true]at hp;exact hp.1
 | none::l,r+1,k,hp,h=>aA8 (l:=l) (r:=r) (by simpa only[aAK]using hp) (by simpa using h)
 | some k'::l,r+1,k,hp,h=>by
  simp only[aAK,oA]at hp;exact aA8 (l:=l) (r:=r) hp.2 (by simpa using h)
def OV(μ:Mp) (m d:Nat):Mp:=⟨λr=>if r<m then μ.loc r else μ.loc (r+d),λr=>if r<m then μ.len r else μ.len (r+d),λr=>if r<m then μ.sh r else μ.sh (r+d)⟩
theorem IK {m d r}(h:r<m):(OV μ m d).loc r=μ.loc r/\(OV μ m d).len r=μ.len r/\(OV μ m d).sh r=μ.sh r:=by simp[OV,h]
theorem aJG {m d r}(h:m+d<=r):(OV μ m d).loc (r-d)=μ.loc r/\(OV μ m d).len (r-d)=μ.len r/\(OV μ m d).sh (r-d)=μ.sh r:=by
 have h1:¬ r-d<m:=Z
 have h2:r-d+d=r:=Z
 simp[OV,h1,h2]
theorem a8F(hW:aR n0 G μ H w){m d}(hm:m+d<=H.length)(h1:XM m (H.take m)=true)(h2:aAK (H.drop (m+d))=true):aR n0 G (OV μ m d) (H.take m++H.drop (m+d)) w:=by
 have key:∀ (r:Nat) (k:Blk),(H.take m++H.drop (m+d))[r]?=some (some k)->∃ s,H[s]?=some (some k)/\(OV μ m d).loc r=μ.loc s/\((OV μ m d).len r=μ.len s/\(OV μ m d).sh r=μ.sh s)/\(k.tag.isSome=true\/below.belows m k.cells=true\/eX.noRefs k.cells=true)/\((r<m/\s=r)\/(m<=r/\s=r+d)):=by
  intro r k hr;rcases oG r m with hl|hl
  ·rw[List.getElem?_append_left (by simp; omega)]at hr;have hp:=aFC h1 hr;rw[List.getElem?_take,if_pos hl]at hr;exact⟨r,hr,(IK hl).1,(IK hl).2,hp.elim .inl λh=>.inr (.inl h),.inl ⟨hl,rfl⟩⟩
  ·rw[List.getElem?_append_right (by simp; omega)]at hr;have hp:=aA8 h2 hr;rw[List.getElem?_drop]at hr;have e:m+d+(r-(H.take m).length)=r+d:=by simp only[List.length_take]; omega
   rw[e]at hr;have hn:¬ r<m:=Z
   exact⟨r+d,hr,by simp[OV,hn],⟨by simp[OV,hn],by simp[OV,hn]⟩,hp.elim .inl λh=>.inr (.inr h),.inr ⟨hl,rfl⟩⟩
 refine⟨?_,?_,?_,hW.lt,?_,hW.base,hW.rows.bD7 (λr=>if r<m then r else r+d) (λr s h=>by
  by_cases h1:r<m <;> by_cases h2:s<m <;> simp only[h1,h2,if_true,if_false]at h <;> omega) (λr k hr=>by
  obtain⟨s,g1,g2,_,_,g5⟩:=key r k hr;rcases g5 with ⟨g5,g6⟩|⟨g5,g6⟩
  ·grind
  ·subst g6;simp only[if_neg (Nat.not_lt.2 g5)];exact⟨g1,g2⟩)⟩
 ·intro r k b hr hb;obtain⟨s,g1,g2,g3,g4,_⟩:=key r k hr;rw[g2]at hb;obtain⟨c,a1,a2,a3⟩:=hW.blk s k b g1 hb;rw[g3.2];refine⟨c,a1,?_,a3⟩;rcases g4 with g4|g4|g4
  ·obtain⟨g,hg⟩:=Option.isSome_iff_exists.1 g4;have:=(hW.tags s k g g1 hg).1;rw[this]at a2 ⊢;exact uQ (lL _ _) a2
  ·exact aVP (λr hr=>IK hr) g4 a2
  ·exact uQ g4 a2
 ·intro r k g hr hg;obtain⟨s,g1,g2,g3,_⟩:=key r k hr;rw[g3.1];exact hW.tags s k g g1 hg
 ·intro r1 r2 k1 k2 b e1 e2 f1 f2 m1 m2;obtain⟨s1,a1,a2,_,_,a5⟩:=key r1 k1 e1;obtain⟨s2,b1,b2,_,_,b5⟩:=key r2 k2 e2;rw[a2]at m1;rw[b2]at m2;have:=hW.inj s1 s2 k1 k2 b a1 b1 f1 f2 m1 m2;omega
 ·intro r hr;simp only[oH,List.length_take,List.length_drop]at hr;have hn:¬ r<m:=Z
  have:=hW.top (r+d) Z;simpa[OV,hn]using this
theorem a6O {m d p q v}(h:aO8 m d p=some q)(hv:VR w G μ p v):VR w G (OV μ m d) q v:=by
 unfold aO8 at h;split at h
 next r sz=>
  cases hb:Nat.blt r m with
  | true =>
   rw[hb]at h;simp only[oC,oJ]at h;subst h;exact Y5 (λr hr=>IK hr) _ v (by simpa only[below]using hb) hv
  | false =>
   rw[hb]at h;obtain⟨hc,h⟩:=aI h;simp only[oJ]at h;subst h;have:=aJG (μ:=μ) (oL hc);rw[VR]at hv ⊢;grind
 next r sz=>
  cases hb:Nat.blt r m with
  | true =>
   rw[hb]at h;simp only[oC,oJ]at h;subst h;exact Y5 (λr hr=>IK hr) _ v (by simpa only[below]using hb) hv
  | false =>
   rw[hb]at h;obtain⟨hc,h⟩:=aI h;simp only[oJ]at h;subst h;have:=aJG (μ:=μ) (oL hc);rw[VR]at hv ⊢;grind
 next r off=>
  cases hb:Nat.blt r m with
  | true =>
   rw[hb]at h;simp only[oC,oJ]at h;subst h;exact Y5 (λr hr=>IK hr) _ v (by simpa only[below]using hb) hv
  | false =>
   rw[hb]at h;obtain⟨hc,h⟩:=aI h;simp only[oJ]at h;subst h;have:=aJG (μ:=μ) (oL hc);rw[VR]at hv ⊢;grind
 next r lo n sz=>
  cases hb:Nat.blt r m with
  | true =>
   rw[hb]at h;simp only[oC,oJ]at h;subst h;exact Y5 (λr hr=>IK hr) _ v (by simpa only[below]using hb) hv
  | false =>
   rw[hb]at h;obtain⟨hc,h⟩:=aI h;simp only[oJ]at h;subst h;have:=aJG (μ:=μ) (oL hc);rw[VR]at hv ⊢
   simp_all
 ·obtain⟨hb,h⟩:=aI h;simp only[oJ]at h;subst h;exact Y5 (λr hr=>IK hr) _ v hb hv
theorem aP5 {m d}:∀ {l F'},aPZ m d F l=some F'->∀ t,dX F' t=.junk\/aO8 m d (dX F t)=some (dX F' t)
 | [],F',h,t=>by
  simp only[aPZ,oJ]at h;subst h;exact .inl rfl
 | s::l,F',h,t=>by
  simp only[aPZ]at h;split at h
  next p F1 hp hl=>
   simp only[oJ]at h;subst h;rw[jF]
   by_cases hs:t=s
   ·grind
   ·rw[if_neg hs]; exact aP5 hl t
  grind
theorem a3R {pl F' H'}(h:tidy pl F H=some (F',H'))(hfl:∀ r,pl.base<=r->μi.loc r=none/\μi.len r=none)(hI:I n0 wi Gi μi nt F H a w):I n0 wi Gi μi nt F' H' a w/\∀ t,dX F t=.junk->dX F' t=.junk:=by
 obtain⟨hb,h⟩:=aI h;have hb:=oL hb;split at h
 next F1 H1 h1=>
  obtain⟨hc,h⟩:=aI h;simp only[oA]at hc;split at h
  next F2 hF2=>
   obtain⟨rfl,rfl⟩:=h;obtain⟨⟨G,μ,e,hW,hF⟩,hlen,hj⟩:=sB pl.own F H F1 H1 h1 hI;have kK:=aP5 hF2;refine⟨⟨G,OV μ pl.base (H.length-pl.base),?_,a8F hW Z hc.1 hc.2,hF.size,λt=>?_,hF.defers⟩,λt ht=>?_⟩
   ·exact {
     good:=e.good
     map:=λr b hr=>by
      rcases oG r pl.base with hl|hl
      ·rw[(IK hl).1]; exact e.map r b hr
      ·grind
     len:=λr b hr=>by
      rcases oG r pl.base with hl|hl
      ·rw[(IK hl).2.1]; exact e.len r b hr
      ·grind
     sh:=λr b hr=>by
      rcases oG r pl.base with hl|hl
      ·rw[(IK hl).2.2]; exact e.sh r b hr
      ·grind
     room:=e.room
     row:=e.row
     os:=e.os
     tape:=e.tape
     output:=e.output
     size:=e.size
     old:=e.old
     new:=e.new }
   ·rcases kK t with h3|h3
    ·rw[h3,VR]; trivial
    ·exact a6O h3 (hF.slot t)
   ·rcases kK t with h3|h3
    ·exact h3
    ·rw[hj t ht]at h3;have e3:aO8 pl.base (H.length-pl.base) .junk=some .junk:=rfl;grind
  ·cases h
 ·cases h
end
def aJA(m:List Nat) (es:List Edge):Nat:=es.foldl (λs e=>bif Region.binds .any e then s ||| (2^e.on ||| m.getD e.on 0) else s) 0
def U6(m:List Nat):Nat->List Oper->Bool
 | _,[]=>true
 | j,o::l=>Nat.beq (m.getD j 0) (aJA m o.after.toList)&&o.after.toList.all (λe=>!Region.binds .any e||Nat.blt e.on j)&&U6 m (j+1) l
def aIN(ops:Array Oper)(m:List Nat)(j:Nat)(oj:Oper):Nat->List Oper->Bool
 | _,[]=>true
 | i,oi::l=>bif Nat.blt i j then ((m.getD j 0).testBit i||oi.apart ops oj)&&aIN ops m j oj (i+1) l else true
def aIO(ops:Array Oper)(m:List Nat):Nat->List Oper->Bool
 | _,[]=>true
 | j,oj::l=>aIN ops m j oj 0 ops.toList&&aIO ops m (j+1) l
def nI(ops:Array Oper):List Nat:=(Region.before ops).toList
def UO(ops:Array Oper):Bool:=U6 (nI ops) 0 ops.toList&&aIO ops (nI ops) 0 ops.toList
def aZI(F:Frm) (o:Oper):Option Nat:=match o.op with
 | .load _ a=>match ev F a with
  | .hptr r _=>some r
  | _=>none
 | .store _ a _=>match ev F a with
  | .hptr r _=>some r
  | _=>none
 | _=>none
def XV:Option Nat->Option Nat->Bool
 | some a,some b=>!Nat.beq a b
 | _,_=>false
abbrev a7K:=List (Nat×Nat×Option Nat)
def bEN:List Nat:=[]
def aK8:Op->Bool
 | .call c=>match c.callee with
  | .value (.func g)=>aDR bEN g
  | _=>false
 | _=>false
def isVar(o:Oper):Bool:=match o.guard,o.op,o.dst with
 | none,.alloc _,some _=>true
 | _,_,_=>false
def aMG(o:Oper):Bool:=match o.guard,o.dst with
 | none,some _=>aK8 o.op
 | _,_=>false
def aEZ(o:Oper):Bool:=isVar o||aMG o
def a99:List Oper->Nat
 | []=>0
 | o::r=>bif aMG o then a99 r+1 else a99 r
def aB2(X:Heap)(q:Nat):Bool:=match X[q]? with|some none=>true|_=>false
theorem aBN {X q}:aB2 X q=true↔X[q]?=some none:=by
 unfold aB2;grind
def aQG:Option Tg->Bool
 | some g=>g.t.plain
 | none=>false
def aT5(q:Nat) (v:PV) (X H:Heap):Option (PV×Heap×Nat):=match X with
 | []=>bif eX v&&iD v then some (v,H,0) else none
 | [some k]=>match v with
  | .own r sz=>bif Nat.beq r 0&&Nat.blt q H.length&&aB2 H q&&aQG k.tag then some (.own q sz,H.set q (some k),2) else none
  | _=>none
 | _=>none
def aV1:List Oper->Nat
 | []=>0
 | o::r=>bif aEZ o then aV1 r+1 else aV1 r
def Q8(m:Option Nat)(o:Oper)(k:Nat):Option Nat:=match m with
 | none=>none
 | some b=>bif aEZ o then some (b+k) else none
def stepT(r:Option Nat)(P:Program)(cl:Callee)(l:List Oper)(o:Oper)(F:Frm)(H:Heap):Option (PV×Heap×Nat):=match r with
 | none=>BB P cl l o F H
 | some q=>match o.op with
  | .alloc t=>match GQ P t with
   | some z=>bif Nat.blt q H.length then some (.hptr q 0,H.set q (some ⟨lits z.cells,t,false,false,none⟩),2) else none
   | none=>none
  | .call _=>bif eX.noRefs (o.op.operands.toList.map (ev F))&&iD.noRows (o.op.operands.toList.map (ev F)) then match BB P cl l o F []with
    | some (v,X,_)=>aT5 q v X H
    | none=>none
   else none
  | _=>none
def aKK(r:Option Nat)(F:Frm)(o:Oper):Option Nat:=match r with
 | none=>aZI F o
 | some q=>some q
def inP(p:Nat->Bool):PV->Bool
 | .hptr r _=>p r
 | .hs r _ _ _ _=>p r
 | .own r _=>p r
 | .op r _ _ _=>p r
 | .win r _ _ _=>p r
 | .qs r _=>p r
 | .agg cs|.tuple cs=>inPs p cs
 | .clo _ f c=>inPs p f&&inPs p c
 | _=>true
where inPs (p:Nat->Bool):List PV->Bool
 | []=>true
 | q::qs=>inP p q&&inPs p qs
def a3V(b m r:Nat):Bool:=Nat.blt r b||(Nat.ble b r&&Nat.testBit m (r-b))
def a5B(p:Nat->Bool):Option Blk->Bool
 | some k=>k.tag.isSome||inP.inPs p k.cells
 | none=>true
def aPX(p:Nat->Bool):Heap->Bool
 | []=>true
 | x::r=>a5B p x&&aPX p r
def bF0(p:Nat->Bool)(q:Option Nat)(c:Nat)(H:Heap):Bool:=bif Nat.blt 1 c then (match q with
 | some q=>a5B p (kK H q)
 | none=>aPX p H) else true
def okT(m:Option Nat)(mk k:Nat)(q:Option Nat)(c:Nat)(v:PV)(H:Heap):Bool:=match m with
 | none=>true
 | some b=>inP (a3V b (mk ||| 2^k)) v&&bF0 (a3V b (mk ||| 2^k)) q c H
def aS8(b:Nat):Frm->Bool
 | []=>true
 | (_,p)::r=>below b p&&aS8 b r
def a4M:List Oper->Bool
 | []=>false
 | o::r=>(match o.op with|.load ..=>true|_=>false)||a4M r
def bBB(l:List Oper):List Oper->Bool
 | []=>true
 | o::r=>(match o.op with
  | .makeSlice ..=>a77 l o.dst
  | .box ..|.buildSlice ..=>false
  | .call c=>(match c.callee with|.builtin .append|.builtin .copy|.builtin .clear=>false|_=>true)
  | _=>true)&&bBB l r
def bFC(l:List Oper):Bool:=Nat.blt 0 (aV1 l)&&a4M l&&bBB l l
def aHH(ops:Array Oper)(H:Heap):Option Nat:=bif Nat.blt 0 (a99 ops.toList)||Nat.blt 1 (aV1 ops.toList)||bFC ops.toList then some H.length else none
def bBL(m:Option Nat)(n:Nat)(H:Heap):Heap:=match m with
 | none=>H
 | some _=>H++List.replicate n none
def aXU(m:Option Nat)(F:Frm)(H:Heap):Bool:=match m with
 | none=>true
 | some b=>aS8 b F&&XM b H
def aFX(P:Program)(cl:Callee)(nt:Nat)(m:Option Nat)(ms:List Nat)(l:List Oper)(F:Frm)(H:Heap):Nat->Option (Frm×Heap×a7K)
 | 0=>some (F,H,[])
 | k+1=>match aFX P cl nt m ms l F H k with
  | some (F,H,hl)=>match l[k]? with
   | some o=>match stepT (Q8 m o k) P cl l o F H with
    | some (v,H',c)=>bif okT m (ms.getD k 0) k (aKK (Q8 m o k) F o) c v H' then (fPV v λv=>match X3 nt F o.dst v with
     | some F'=>bif Nat.beq c 0 then some (F',H',hl) else aI4 H' λH'=>some (F',H',(k,c,aKK (Q8 m o k) F o)::hl)
     | none=>none) else none
    | none=>none
   | none=>none
  | none=>none
def a5J(m:List Nat)(j:Nat)(d:Nat)(b:Option Nat):a7K->Bool
 | []=>true
 | (i,c,b')::r=>(!(Nat.blt 1 c||Nat.blt 1 d)||XV b b'||(m.getD j 0).testBit i)&&a5J m j d b r
def aHJ(m:List Nat):a7K->Bool
 | []=>true
 | (j,d,b)::r=>a5J m j d b r&&aHJ m r
def aFB(P:Program)(cl:Callee)(nt:Nat)(ops:Array Oper)(F:Frm)(H:Heap):Option (Frm×Heap) :=
 bif UO ops&&aXU (aHH ops H) F H then match aFX P cl nt (aHH ops H) (nI ops) ops.toList F (bBL (aHH ops H) ops.toList.length H) ops.toList.length with
  | some (F',H',hl)=>bif aHJ (nI ops) hl then some (F',H') else none
  | none=>none else none
theorem TR {m:List Nat}{b}:∀ (es:List Edge) s,(es.foldl (λs e=>bif Region.binds .any e then s ||| (2^e.on ||| m.getD e.on 0) else s) s).testBit b=true ->
  s.testBit b=true\/∃ e∈es,Region.binds .any e=true/\(b=e.on\/(m.getD e.on 0).testBit b=true)
 | [],s,h=>.inl h
 | e::es,s,h=>by
  rcases TR es _ h with h1|⟨e',h1,h2⟩
  ·grind
  grind
theorem aLT {m}:∀ {l j i o},U6 m j l=true->l[i]?=some o->m.getD (j+i) 0=aJA m o.after.toList/\∀ e∈o.after,Region.binds .any e=true->e.on<j+i
 | [],j,i,o,_,ho=>W
 | p::l,j,i,o,h,ho=>by
  simp only[U6,oA,List.all_eq_true]at h;obtain⟨⟨h1,h2⟩,h3⟩:=h;cases i with
  | zero =>
   simp only[List.getElem?_cons_zero,oJ]at ho;subst ho;refine⟨oE h1,λe he hb=>?_⟩;have:=h2 e (Array.mem_toList_iff.2 he)
   simp_all
  | succ i =>
   have:=aLT h3 (by simpa using ho);grind
theorem aQA {ops m j oj}:∀ {l k i oi},aIN ops m j oj k l=true->l[i]?=some oi->k+i<j->(m.getD j 0).testBit (k+i)=true\/oi.apart ops oj=true
 | [],k,i,oi,_,ho,_=>by simp at ho
 | p::l,k,i,oi,h,ho,hlt=>by
  simp only[aIN]at h;have hk:Nat.blt k j=true:=Nat.ble_eq_true_of_le Z;rw[hk]at h;simp only[oC,oA]at h;cases i with
  | zero =>
   grind
  | succ i =>
   have:=aQA (i:=i) h.2 (by simpa using ho) Z;grind
theorem aMR {ops m}:∀ {l k j oj},aIO ops m k l=true->l[j]?=some oj->aIN ops m (k+j) oj 0 ops.toList=true
 | [],k,j,oj,_,ho=>W
 | p::l,k,j,oj,h,ho=>by
  simp only[aIO,oA]at h;cases j with
  | zero =>
   grind
  | succ j =>
   have:=aMR h.2 (by simpa using ho);grind
section
variable {P:Program} {cl:Callee} {n0:Nat->Prop} {nt:Nat} {wi:World} {Gi:Gd} {μi:Mp} {ops:Array Oper} {F:Frm} {H:Heap}
structure Trace (P:Program) (cl:Callee) (nt:Nat) (ops:Array Oper) (F:Frm) (H:Heap) (F':Frm) (H':Heap) where
 Fs:Nat->Frm
 Hs:Nat->Heap
 vs:Nat->PV
 cs:Nat->Nat
 f0:Fs 0=F
 h0:Hs 0=H
 fn:Fs ops.size=F'
 hn:Hs ops.size=H'
 md:Option Nat
 step:∀ i o,ops[i]?=some o->stepT (Q8 md o i) P cl ops.toList o (Fs i) (Hs i)=some (vs i,Hs (i+1),cs i)/\X3 nt (Fs i) o.dst (vs i)=some (Fs (i+1))/\okT md ((nI ops).getD i 0) i (aKK (Q8 md o i) (Fs i) o) (cs i) (vs i) (Hs (i+1))=true
 bs:Nat->Option Nat
 hbs:∀ i o,ops[i]?=some o->bs i=aKK (Q8 md o i) (Fs i) o
 hits:∀ i j,i<j->j<ops.size->cs i≠0->cs j≠0->1<cs i\/1<cs j->XV (bs j) (bs i)=true\/((nI ops).getD j 0).testBit i=true
 loc:∀ i o q,ops[i]?=some o->bs i=some q->cs i≠0->∀ H2:Heap,H2[q]?=(Hs i)[q]?->∃ H3 c,stepT (Q8 md o i) P cl ops.toList o (Fs i) H2=some (vs i,H3,c)/\H3=if 1<cs i then H2.set q (((Hs (i+1))[q]?).getD none) else H2
theorem aZY {md ms l}:∀ {n k r},aFX P cl nt md ms l F H n=some r->k<=n->∃ s,aFX P cl nt md ms l F H k=some s
 | 0,k,r,h,hk=>W
 | n+1,k,r,h,hk=>by
  rcases oG k (n+1)with hl|hl
  ·simp only[aFX]at h;split at h
   next s hs=>exact aZY hs Z
   grind
  grind
theorem aTV {m j d b}:∀ {hl i c b'},a5J m j d b hl=true->(i,c,b')∈hl->1<c\/1<d->XV b b'=true\/(m.getD j 0).testBit i=true
 | [],i,c,_,_,h,_=>W
 | (i',c',b0)::r,i,c,b',h,hm,hc=>by
  simp only[a5J,oA,Bool.or_eq_true,Bool.not_eq_true',Bool.or_eq_false_iff]at h;rcases List.mem_cons.1 hm with he|hm
  ·rcases h.1 with (⟨h1,h2⟩|h1)|h1
   ·rcases hc with hc|hc
    ·have:Nat.blt 1 _=true:=Nat.ble_eq_true_of_le hc;grind
    ·have:Nat.blt 1 d=true:=Nat.ble_eq_true_of_le hc;grind
   ·grind
   grind
  ·exact aTV h.2 hm hc
theorem a2Q {H H2 q}(h:H2[q]?=H[q]?):kK H2 q=kK H q:=by unfold kK; grind
theorem a26 {l:List Oper} {o:Oper} {F:Frm} {H H':Heap} {v:PV} {c q:Nat} (h:BB P cl l o F H=some (v,H',c)) (hb:aZI F o=some q) (hc:c≠0) (H2:Heap) (hq:H2[q]?=H[q]?) :
  ∃ H3 c',BB P cl l o F H2=some (v,H3,c')/\H3=if 1<c then H2.set q ((H'[q]?).getD none) else H2:=by
 have hgq:=a2Q hq;unfold aZI at hb;split at hb
 next t a ho=>
  split at hb
  next r off hev=>
   obtain rfl:=oB hb;have hm:mkData P F l o=none:=by simp only[mkData,ho]
   have hz:∀ H,opz P cl l F H o=match aB8 P H t (.hptr r off)with|some (v,c)=>some (v,H,c)|none=>none:=λH=>by simp only[opz,ho,opx,typed,hev,aSR,oD,opu]; rfl
   unfold BB at h ⊢;rw[hm]at h ⊢;split at h
   ·simp only[hz]at h ⊢;have hx:aB8 P H2 t (.hptr r off)=aB8 P H t (.hptr r off):=by simp only[aB8,hgq]
    rw[hx];cases hl:aB8 P H t (.hptr r off)with
    | none=>rw[hl]at h; cases h
    | some p =>
     obtain⟨v1,c1⟩:=p;rw[hl]at h;simp only[oJ,oP]at h;obtain⟨rfl,rfl,rfl⟩:=h;have h1:c1=1:=by
      simp only[aB8]at hl;grind
     grind
   ·grind
   ·cases h
  ·cases hb
 next t a x ho=>
  split at hb
  next r off hev=>
   obtain rfl:=oB hb;have hm:mkData P F l o=none:=by simp only[mkData,ho]
   have hz:∀ H,opz P cl l F H o=match aLU P H t (.hptr r off) (ev F x)with|some H'=>some (.lit undef,H',2)|none=>none:=λH=>by simp only[opz,ho,opx,typed,hev,aSR,oD,opu]; rfl
   unfold BB at h ⊢;rw[hm]at h ⊢;split at h
   ·simp only[hz]at h ⊢;cases hl:aLU P H t (.hptr r off) (ev F x)with
    | none=>rw[hl]at h; cases h
    | some H1 =>
     rw[hl]at h;obtain⟨rfl,rfl,rfl⟩:=h;unfold aLU at hl ⊢;cases hcs:xS (ev F x)with
     | none=>rw[hcs]at hl; cases hl
     | some new =>
      cases hsz:vE P t with
      | none=>rw[hcs,hsz]at hl; cases hl
      | some n =>
       rw[hcs,hsz]at hl;simp only at hl ⊢;obtain⟨hb1,hl⟩:=aI hl;rw[hb1,oC];unfold aGY at hl ⊢;rw[hgq];cases hk:kK H r with
       | none=>rw[hk]at hl; cases hl
       | some k =>
        rw[hk]at hl;simp only at hl ⊢;obtain⟨hb2,hl⟩:=aI hl;rw[hb2,oC];obtain rfl:=oB hl;refine⟨_,_,rfl,?_⟩;have hlt:r<H.length:=by
         unfold PM.kK at hk;split at hk
         next k' hk'=> exact(oO.1 hk').1
         ·cases hk
        rw[List.getElem?_set_self hlt]; rfl
   ·simp only[oJ,oP]at h;exact absurd h.2.2.symm hc
   ·cases h
  ·cases hb
 ·cases hb
theorem VF {q v X H v' H' c}(h:aT5 q v X H=some (v',H',c)):(∃ sz k,v=.own 0 sz/\X=[some k]/\v'=.own q sz/\H'=H.set q (some k)/\c=2/\q<H.length/\H[q]?=some none/\aQG k.tag=true) \/
  (X=[]/\(eX v&&iD v)=true/\v'=v/\H'=H/\c=0):=by
 unfold aT5 at h;split at h
 ·grind
 next k=>
  split at h
  next r sz=>obtain⟨hb,h⟩:=aI h;simp only[oA]at hb;obtain⟨⟨⟨h1,h2⟩,h3⟩,h4⟩:=hb;have h1:=oE h1;obtain⟨rfl,rfl,rfl⟩:=h;exact .inl ⟨sz,k,by grind,rfl,rfl,rfl,rfl,jN h2,aBN.1 h3,h4⟩
  grind
 grind
theorem a6Q {r l o F H H' v c q}(h:stepT r P cl l o F H=some (v,H',c))(hb:aKK r F o=some q)(hc:c≠0) H2 (hq:H2[q]?=H[q]?) :
  ∃ H3 c',stepT r P cl l o F H2=some (v,H3,c')/\H3=if 1<c then H2.set q ((H'[q]?).getD none) else H2:=by
 cases r with
 | none=>exact a26 h hb hc H2 hq
 | some q' =>
  obtain rfl:=oB (show some q'=some q from hb);simp only[stepT]at h ⊢;split at h
  next t ho=>
   cases hz:GQ P t with
   | none=>rw[hz]at h; cases h
   | some z =>
    rw[hz]at h;simp only at h ⊢;obtain⟨hlt,h⟩:=aI h;obtain⟨rfl,rfl,rfl⟩:=h;have hlt:=jN hlt;have hlt2:q'<H2.length:=W
    rw[if_pos O,b9,oT hlt2,oC,List.getElem?_set_self hlt];grind
  ·obtain⟨hnr,h⟩:=aI h;rw[hnr,oC];split at h
   ·rename_i v1 X c1 hs;rcases VF h with ⟨sz,k,rfl,rfl,rfl,rfl,rfl,h1,h2,h3⟩|⟨_,_,_,_,h0⟩
    case inr=>exact absurd h0 hc
    have h4:q'<H2.length:=W
    rw[if_pos O,List.getElem?_set_self h1];refine⟨_,2,?_,rfl⟩;simp only[aT5,Nat.beq_refl,b9,oT h4,aBN.2 (hq.trans h2),h3,Bool.and_self,oC,Option.getD_some]
   ·cases h
  ·cases h
theorem a9W(hcl:eO P cl){md F' H' hl}(h:aFX P cl nt md (nI ops) ops.toList F H ops.toList.length=some (F',H',hl))(hh:aHJ (nI ops) hl=true):∃ T:Trace P cl nt ops F H F' H',T.md=md:=by
 have hlen:ops.toList.length=ops.size:=R
 let st:Nat->Frm×Heap×a7K:=λk=>(aFX P cl nt md (nI ops) ops.toList F H k).getD ([],[],[])
 have hst:∀ k,k<=ops.size->aFX P cl nt md (nI ops) ops.toList F H k=some (st k):=λk hk=>by
  obtain⟨s,hs⟩:=aZY h (k:=k) Z;grind
 let op:Nat->PV×Heap×Nat:=λi=>match ops[i]? with|some o=>(stepT (Q8 md o i) P cl ops.toList o (st i).1 (st i).2.1).getD (.junk,[],0)|none=>(.junk,[],0)
 have hop:∀ i o,ops[i]?=some o->stepT (Q8 md o i) P cl ops.toList o (st i).1 (st i).2.1=some (op i)/\(op i).2.1=(st (i+1)).2.1/\X3 nt (st i).1 o.dst (op i).1=some (st (i+1)).1/\(st (i+1)).2.2=(bif Nat.beq (op i).2.2 0 then (st i).2.2 else (i,(op i).2.2,aKK (Q8 md o i) (st i).1 o)::(st i).2.2)/\okT md ((nI ops).getD i 0) i (aKK (Q8 md o i) (st i).1 o) (op i).2.2 (op i).1 (op i).2.1=true:=by
  intro i o ho;have hi:i<ops.size:=(Array.getElem?_eq_some_iff.1 ho).1;have h1:=hst (i+1) Z;simp only[aFX,hst i Z]at h1;have ho':ops.toList[i]?=some o:=by simpa using ho
  rw[ho']at h1;simp only at h1;split at h1
  next v H1 c hs=>
   have he:op i=(v,H1,c):=by simp only[op,ho,hs,Option.getD_some]
   obtain⟨hok,h1⟩:=aI h1;rw[aHK]at h1;split at h1
   next F1 hp=>rw[M9]at h1;grind
   ·cases h1
  ·cases h1
 let bk:Nat->Option Nat:=λi=>match ops[i]? with|some o=>aKK (Q8 md o i) (st i).1 o|none=>none
 have hmem:∀ k,k<=ops.size->∀ i,i<k->(op i).2.2≠0->(i,(op i).2.2,bk i)∈(st k).2.2:=by
  intro k
  induction k with
  | zero=>intro _ i hi; omega
  | succ k ih =>
   intro hk i hi hc;obtain⟨o,ho⟩:∃ o,ops[k]?=some o:=⟨ops[k],Array.getElem?_eq_getElem Z⟩;rw[(hop k o ho).2.2.2.1];rcases oG i k with hl|hl
   ·have:=ih Z i hl hc;cases Nat.beq (op k).2.2 0 with
    | true=>exact this
    | false=>exact List.mem_cons_of_mem _ this
   ·have:i=k:=Z
    subst this;have:Nat.beq (op i).2.2 0=false:=aFE hc;rw[this];have hbk:bk i=aKK (Q8 md o i) (st i).1 o:=by simp only[bk,ho]
    rw[hbk];exact List.mem_cons_self
 have hlast:st ops.size=(F',H',hl):=by
  have:=hst ops.size (oM _);rw[<- hlen,h]at this;simpa using this.symm
 have hhits:∀ k,k<=ops.size->aHJ (nI ops) (st k).2.2=true:=by
  intro k hk;obtain⟨d,rfl⟩:∃ d,k=ops.size-d:=⟨ops.size-k,by omega⟩;clear hk
  induction d with
  | zero=>rw[Nat.sub_zero,hlast]; exact hh
  | succ d ih =>
   rcases Nat.eq_zero_or_pos (ops.size-d)with h0|h0
   ·have:ops.size-(d+1)=ops.size-d:=Z
    rw[this]; exact ih
   ·have e:ops.size-d=(ops.size-(d+1))+1:=Z
    obtain⟨o,ho⟩:∃ o,ops[ops.size-(d+1)]?=some o:=⟨_,Array.getElem?_eq_getElem Z⟩;have h4:=(hop _ o ho).2.2.2.1;rw[<- e]at h4;rw[h4]at ih;cases hb:Nat.beq (op (ops.size-(d+1))).2.2 0 with
    | true=>rw[hb]at ih; exact ih
    | false =>
     rw[hb]at ih;simp only[oD,aHJ,oA]at ih;exact ih.2
 refine⟨⟨λi=>(st i).1,λi=>(st i).2.1,λi=>(op i).1,λi=>(op i).2.2,?_,?_,by simp only[hlast],by simp only[hlast],md,?_,bk,?_,?_,?_⟩,rfl⟩
 ·have h0:=hst 0 (Nat.zero_le _);simp only[aFX,oJ]at h0;rw[<- h0]
 ·have h0:=hst 0 (Nat.zero_le _);simp only[aFX,oJ]at h0;rw[<- h0]
 ·intro i o ho;obtain⟨h1,h2,h3,_,h5⟩:=hop i o ho;exact⟨by rw[h1,<- h2],h3,by rw[<- h2]; exact h5⟩
 ·intro i o ho;simp only[bk,ho]
 ·intro i j hij hj hi hcj hc;obtain⟨o,ho⟩:∃ o,ops[j]?=some o:=⟨ops[j],Array.getElem?_eq_getElem hj⟩;have h1:=hhits (j+1) Z;rw[(hop j o ho).2.2.2.1,aFE hcj]at h1;simp only[oD,aHJ,oA]at h1;have hbk:bk j=aKK (Q8 md o j) (st j).1 o:=by simp only[bk,ho]
  rw[hbk];exact aTV h1.1 (hmem j Z i hij hi) hc
 ·intro i o q ho hq hc H2 h2;obtain⟨h1,h3,_,_,_⟩:=hop i o ho;have hbk:bk i=aKK (Q8 md o i) (st i).1 o:=by simp only[bk,ho]
  have h4:stepT (Q8 md o i) P cl ops.toList o (st i).1 (st i).2.1=some ((op i).1,(st (i+1)).2.1,(op i).2.2):=by rw[h1,<- h3]
  exact a6Q h4 (hbk ▸ hq) hc H2 h2
section
variable {F':Frm} {H':Heap}
def W5(ops:Array Oper)(i:Nat):Option Tmp:=(ops[i]?).bind (·.dst)
def xP(T:Trace P cl nt ops F H F' H')(S:Nat->Bool)(t:Nat):Nat->PV
 | 0=>dX F t
 | k+1=>if S k=true/\W5 ops k=some t then T.vs k else xP T S t k
def ZY(T:Trace P cl nt ops F H F' H')(k:Nat)(H2:Heap):Heap:=match T.bs k with
 | some q=>H2.set q (((T.Hs (k+1))[q]?).getD none)
 | none=>T.Hs (k+1)
def gH(T:Trace P cl nt ops F H F' H')(S:Nat->Bool):Nat->Heap
 | 0=>H
 | k+1=>if S k=true/\1<T.cs k then ZY T k (gH T S k) else gH T S k
variable (T:Trace P cl nt ops F H F' H')
theorem a0O {nt F F' d v}(h:X3 nt F d v=some F') t:dX F' t=if d=some t then v else dX F t:=by
 cases d with
 | none=>simp only[X3,oJ]at h; grind
 | some u =>
  simp only[X3]at h;cases hb:Nat.blt u nt with
  | false=>grind
  | true =>
   rw[hb]at h;simp only[oC,oJ]at h;subst h;rw[jF];grind
theorem aH6 t:∀ k,k<=ops.size->xP T (λ_=>true) t k=dX (T.Fs k) t
 | 0,_=>by rw[xP,T.f0]
 | k+1,hk=>by
  obtain⟨o,ho⟩:∃ o,ops[k]?=some o:=⟨ops[k],Array.getElem?_eq_getElem Z⟩;rw[xP,aH6 t k Z,a0O (T.step k o ho).2.1 t];simp only[W5,ho,Option.bind_some,true_and]
theorem T5 {S S'}{t:Nat}:∀ {k},(∀ j,j<k->W5 ops j=some t->S j=S' j)->xP T S t k=xP T S' t k
 | 0,_=>rfl
 | k+1,h=>by
  rw[xP,xP,T5 λj hj=>h j Z];grind
theorem XT {S}{t k:Nat}:∀ {n},k<=n->(∀ j,k<=j->j<n->W5 ops j=some t->S j=false)->xP T S t n=xP T S t k
 | 0,hk,_=>W
 | n+1,hk,h=>by
  rcases oG k (n+1)with hl|hl
  ·rw[xP,XT Z λj h1 h2=>h j h1 Z,if_neg];grind
  grind
theorem a05(hcl:eO P cl){l o F H H' v c}(h:BB P cl l o F H=some (v,H',c)):(c<=1->H'=H)/\(c=0->∀ H2,BB P cl l o F H2=some (v,H2,0)):=by
 unfold BB at h ⊢;split at h
 ·split at h
  ·obtain⟨h1,h2⟩:=bC5 hcl h;grind
  ·grind
  grind
 ·grind
 grind
theorem aKT(hcl:eO P cl){r l o F H H' v c}(h:stepT r P cl l o F H=some (v,H',c)):(c<=1->H'=H)/\(c=0->∀ H2,stepT r P cl l o F H2=some (v,H2,0)):=by
 cases r with
 | none=>exact a05 hcl h
 | some q =>
  simp only[stepT]at h;split at h
  ·grind
  next cc hcc=>
   obtain⟨hnr,h⟩:=aI h;split at h
   ·rename_i v1 X c1 hs;rcases VF h with ⟨_,_,_,_,_,_,rfl,_⟩|⟨rfl,h1,rfl,rfl,rfl⟩
    ·simp
    ·refine⟨λ_=>rfl,λ_ H2=>?_⟩;simp only[stepT,hcc];rw[<- hcc,hnr,oC,hs];simp only[aT5,h1,oC]
   grind
  grind
theorem Trace.bB3 {k q}(hk:k<ops.size)(hq:T.bs k=some q)(hc:T.cs k≠0):T.Hs (k+1)=if 1<T.cs k then (T.Hs k).set q (((T.Hs (k+1))[q]?).getD none) else T.Hs k:=by
 obtain⟨o,ho⟩:∃ o,ops[k]?=some o:=⟨ops[k],Array.getElem?_eq_getElem hk⟩;obtain⟨H3,c,h1,h2⟩:=T.loc k o q ho hq hc (T.Hs k) rfl;rw[(T.step k o ho).1]at h1;grind
theorem aAU(hcl:eO P cl):∀ k,k<=ops.size->gH T (λ_=>true) k=T.Hs k
 | 0,_=>by rw[gH,T.h0]
 | k+1,hk=>by
  obtain⟨o,ho⟩:∃ o,ops[k]?=some o:=⟨ops[k],Array.getElem?_eq_getElem Z⟩;rw[gH,aAU hcl k Z]
  by_cases hc:1<T.cs k
  ·rw[if_pos ⟨rfl,hc⟩];unfold ZY;cases hq:T.bs k with
   | none=>rfl
   | some q =>
    have:=T.bB3 Z hq Z;grind
  ·rw[if_neg (λh=>hc h.2)];exact((aKT hcl (T.step k o ho).1).1 Z).symm
theorem I4 {S S'}:∀ {k},(∀ j,j<k->1<T.cs j->S j=S' j)->gH T S k=gH T S' k
 | 0,_=>rfl
 | k+1,h=>by
  rw[gH,gH,I4 λj hj=>h j Z];grind
theorem XN {S k}:∀ {n},k<=n->(∀ j,k<=j->j<n->1<T.cs j->S j=false)->gH T S n=gH T S k
 | 0,hk,_=>W
 | n+1,hk,h=>by
  rcases oG k (n+1)with hl|hl
  ·rw[gH,XN Z λj h1 h2=>h j h1 Z,if_neg];grind
  grind
theorem aS3 {q:Nat} {S S':Nat->Bool}:∀ {n:Nat},(∀ j,j<n->1<T.cs j->T.bs j=none\/T.bs j=some q->S j=S' j)->(gH T S n).length=(gH T S' n).length/\(gH T S n)[q]?=(gH T S' n)[q]?
 | 0,_=>⟨rfl,rfl⟩
 | n+1,h=>by
  obtain⟨e1,e2⟩:=aS3 (q:=q) (S:=S) (S':=S') (n:=n) λj hj=>h j Z
  rw[gH,gH]
  by_cases hd:1<T.cs n
  ·cases hb:T.bs n with
   | none =>
    have:=h n Z hd (.inl hb);rw[this]
    by_cases hs:S' n=true
    ·rw[if_pos ⟨hs,hd⟩,if_pos ⟨hs,hd⟩];simp only[ZY,hb,and_self]
    ·grind
   | some p =>
    by_cases hpq:p=q
    ·subst hpq;have:=h n Z hd (.inr hb);rw[this]
     by_cases hs:S' n=true
     ·rw[if_pos ⟨hs,hd⟩,if_pos ⟨hs,hd⟩];simp only[ZY,hb,List.length_set];grind
     ·grind
    ·have key:∀ X:Heap,(ZY T n X).length=X.length/\(ZY T n X)[q]?=X[q]?:=λX=>by
      simp only[ZY,hb,List.length_set,true_and];grind
     grind
  ·grind
theorem aM7 {i:Nat} {S S':Nat->Bool} (hx:1<T.cs i) (hi:S i=false) (hi':S' i=true) (hne:∀ j,j≠i->S' j=S j) (hlate:∀ j,i<j->j<ops.size->1<T.cs j->S j=true->XV (T.bs j) (T.bs i)=true) :
  ∀ n,i<n->n<=ops.size->gH T S' n=ZY T i (gH T S n)
 | 0,h,_=>Z
 | n+1,h,hn=>by
  rcases oG i n with hl|hl
  ·rw[gH,aM7 hx hi hi' hne hlate n hl Z,gH,hne n Z]
   by_cases hc:S n=true/\1<T.cs n
   ·rw[if_pos hc,if_pos hc];have:=hlate n hl Z hc.2 hc.1;cases hb1:T.bs n with
    | none=>rw[hb1]at this; cases this
    | some p =>
     cases hb2:T.bs i with
     | none=>rw[hb1,hb2]at this; cases this
     | some q =>
      rw[hb1,hb2]at this;simp only[XV,Bool.not_eq_true']at this;have hne:p≠q:=λe=>by rw[e,Nat.beq_refl]at this; cases this
      simp only[ZY,hb1,hb2];exact List.set_comm _ _ (Ne.symm hne)
   ·grind
  ·have:i=n:=Z
   subst this;rw[gH,if_pos ⟨hi',hx⟩,gH,if_neg (λh=>by rw[hi]at h; cases h.1)]
   congr 1
   exact I4 T λj hj _=>hne j Z
theorem aYD S:∀ k,∃ F1,∀ t,dX F1 t=xP T S t k
 | 0=>⟨F,λt=>rfl⟩
 | k+1=>by
  obtain⟨F1,h1⟩:=aYD S k
  by_cases hS:S k=true
  ·cases hd:W5 ops k with
   | none=>exact⟨F1,λt=>by rw[h1,xP]; grind⟩
   | some d =>
    refine⟨a7B F1 d (T.vs k),λt=>?_⟩;rw[aMB,h1,xP];grind
  ·exact⟨F1,λt=>by rw[h1,xP]; grind⟩
theorem iV.congr {w G μ F F' a}(h:iV w G μ nt F a)(he:∀ t,dX F' t=dX F t):iV w G μ nt F' a:=⟨h.size,λt=>by rw[he]; exact h.slot t,h.defers⟩
theorem I.congr {F F' H a w}(h:I n0 wi Gi μi nt F H a w)(he:∀ t,dX F' t=dX F t):I n0 wi Gi μi nt F' H a w:=by
 obtain⟨G,μ,e,hW,hF⟩:=h;exact⟨G,μ,e,hW,hF.congr he⟩
theorem aJD {o:Oper}{F F' H}(h:∀ t∈o.looksAt ops,dX F' t=dX F t):BB P cl ops.toList o F' H=BB P cl ops.toList o F H:=by
 have hev:∀ x∈o.op.operands,ev F' x=ev F x:=λx hx=>by
  cases x with
  | tmp t=>exact h t (List.mem_append_left _ (List.mem_filterMap.2 ⟨.tmp t,by simpa using hx,rfl⟩))
  | _=>rfl
 have hg:guardOf F' ops.toList o=guardOf F ops.toList o:=by
  unfold guardOf;split
  ·rfl
  next j want hgu=>
   split
   ·rename_i p hp;split
    ·rename_i t ht;rw[h t (List.mem_append_right _ (by
      rw[hgu];have hp:ops[j]?=some p:=by simpa using hp
      simp[hp,ht]))]
    ·rfl
   ·rfl
 have hm:mkData P F' ops.toList o=mkData P F ops.toList o:=by
  unfold mkData;split
  next t x y ho=>rw[hev x (by rw[ho]; simp[Op.operands]),hev y (by rw[ho]; simp[Op.operands])]
  ·rfl
 have hz:opz P cl ops.toList F' H o=opz P cl ops.toList F H o:=by
  unfold opz;rw[a7C hev];split
  next t x y ho=>rw[hev x (by rw[ho]; simp[Op.operands]),hev y (by rw[ho]; simp[Op.operands])]
  ·rfl
 unfold BB;grind
def YP(m:List Nat) (S:Nat->Bool):Prop:=∀ j,S j=true->∀ i,(m.getD j 0).testBit i=true->S i=true
theorem aL8 {p p' i}(h1:p i=true)(h2:p' i=false)(h3:∀ j,j≠i->p' j=p j):∀ n,i<n->(List.range n).countP p'+1=(List.range n).countP p
 | 0,h=>Z
 | n+1,h=>by
  rw[List.range_succ,List.countP_append,List.countP_append];rcases oG i n with hl|hl
  ·have:=aL8 h1 h2 h3 n hl;grind
  ·have e:(List.range i).countP p'=(List.range i).countP p:=List.countP_congr λj hj=>by
    grind
   grind
theorem a8J {G:Gd} {μ:Mp} {H:Heap} {w:World} (hW:aR n0 G μ H w) {q:Nat} (hq:q<H.length) (hn:μ.loc q=none) (c:Array Value) (t:TypeId) :
  Ext n0 w G μ (w.alloc (.cells c t)) G ⟨λs=>if s=q then some w.heap.size else μ.loc s,μ.len,λs=>if s=q then 0 else μ.sh s⟩/\aR n0 G ⟨λs=>if s=q then some w.heap.size else μ.loc s,μ.len,λs=>if s=q then 0 else μ.sh s⟩ (H.set q (some ⟨lits c,t,false,false,none⟩)) (w.alloc (.cells c t)):=by
 have hnew:(w.alloc (.cells c t)).heap[w.heap.size]?=some (.cells c t (0,0)):=by
  show (w.heap.push _)[w.heap.size]?=_;simp
 have e0:=FD hW (.cells c t) none none;have e:Ext n0 w G μ (w.alloc (.cells c t)) G ⟨λs=>if s=q then some w.heap.size else μ.loc s,μ.len,λs=>if s=q then 0 else μ.sh s⟩:={ e0 with
  map:=λr b hb=>W
  len:=λr n h=>h
  sh:=λr b hb=>by
   show (if r=q then 0 else μ.sh r)=μ.sh r;rw[if_neg (by rintro rfl; rw[hn]at hb; cases hb)] }
 have key:∀ (s:Nat) (k1:Blk),(H.set q (some ⟨lits c,t,false,false,none⟩))[s]?=some (some k1)->(s=q/\k1=⟨lits c,t,false,false,none⟩)\/(s≠q/\H[s]?=some (some k1)):=W
 refine⟨e,?_,?_,?_,hW.lt.step e.good λb hb=>Nat.lt_of_lt_of_le (hW.lt b hb) e.size,?_,λb hb=>hW.base b (oR e.size hb),?_⟩
 case refine_5 =>
  refine hW.rows.step e.toMono.aJ e.size (λ_=>rfl) (λj b hj=>⟨Below.heap_alloc _ _ _ (hW.rows.sep j b hj).1,id,λs k1 hs hf1 hl=>?_⟩) (λs k1 t1 l1 hs hg1 ht1=>?_)
  ·rcases key s k1 hs with ⟨rfl,rfl⟩|⟨hne,hs'⟩
   ·simp only[if_true]at hl;cases hl;exact absurd (hW.rows.sep j _ hj).1 (Nat.lt_irrefl _)
   ·grind
  ·grind
 ·intro s k1 b hs hb;rcases key s k1 hs with ⟨rfl,rfl⟩|⟨hne,hs'⟩
  ·simp only[if_true]at hb;cases hb;refine⟨c,hnew,?_,λ_=>by simp[lits],λh=>(by cases h),λ_=>⟨hW.base _ (oM _),λhG=>Nat.lt_irrefl _ (hW.lt _ hG)⟩⟩;refine aM.mk λi p hp=>?_
   obtain⟨v,h1,h2⟩:=(B6 (w:=w.alloc (.cells c t)) (G:=G) (μ:=⟨λx=>if x=s then some w.heap.size else μ.loc x,μ.len,λx=>if x=s then 0 else μ.sh x⟩) c).get hp
   simp_all
  ·simp only[if_neg hne]at hb;obtain⟨c',h2,h3,h4⟩:=hW.blk s k1 b hs' hb;have e1:(w.alloc (.cells c t)).heap[b]?=w.heap[b]?:=Below.heap_alloc _ _ _ (nQ h2);simp only[if_neg hne];exact⟨c',e1.trans h2,aM.mono e.toMono e1 _ _ h3,h4⟩
 ·intro s k1 g hs hg;rcases key s k1 hs with ⟨rfl,rfl⟩|⟨hne,hs'⟩
  ·cases hg
  ·exact hW.tags s k1 g hs' hg
 ·intro s1 s2 k1 k2 b h1 h2 f1 f2 m1 m2;rcases key s1 k1 h1 with ⟨rfl,rfl⟩|⟨l1,h1'⟩ <;> rcases key s2 k2 h2 with ⟨e2,rfl⟩|⟨l2,h2'⟩
  ·grind
  ·simp only[if_true]at m1;simp only[if_neg l2]at m2;cases m1;exact absurd (hW.sY h2' m2) (Nat.lt_irrefl _)
  ·subst e2;simp only[if_true]at m2;simp only[if_neg l1]at m1;cases m2;exact absurd (hW.sY h1' m1) (Nat.lt_irrefl _)
  ·simp only[if_neg l1]at m1;simp only[if_neg l2]at m2;exact hW.inj s1 s2 k1 k2 b h1' h2' f1 f2 m1 m2
 ·intro r hr;rw[List.length_set]at hr;have:=hW.top r hr;exact⟨by show (if r=q then _ else _)=_; rw[if_neg Z]; exact this.1,this.2⟩
theorem aW7 {o}(h:aEZ o=true):o.guard=none/\(∃ d,o.dst=some d)/\((∃ t,o.op=.alloc t)\/∃ c,o.op=.call c):=by
 unfold aEZ at h;rw[Bool.or_eq_true]at h;rcases h with h|h
 ·unfold isVar at h;grind
 ·unfold aMG at h;split at h
  ·unfold aK8 at h;grind
  grind
theorem aLH {m o k q}(h:Q8 m o k=some q):∃ b,m=some b/\q=b+k/\aEZ o=true:=by
 unfold Q8 at h;grind
def aUX(T:Trace P cl nt ops F H F' H') (n0:Nat->Prop) (wi:World) (Gi:Gd) (μi:Mp):Prop :=
 ∀ (S:Nat->Bool) (F1:Frm) (w:World) (a:Act),YP (nI ops) S->(∀ t,dX F1 t=xP T S t ops.size)->I n0 wi Gi μi nt F1 (gH T S ops.size) a w->∀ i o q,ops[i]?=some o->S i=false->Q8 T.md o i=some q ->
  ∃ G μ,Ext n0 wi Gi μi w G μ/\aR n0 G μ (gH T S ops.size) w/\iV w G μ nt F1 a/\μ.loc q=none/\((gH T S ops.size)[q]?=some none->μ.len q=none)
theorem aTE {b}:∀ {F} t,aS8 b F=true->below b (dX F t)=true
 | [],t,_=>rfl
 | (u,p)::F,t,h=>by
  simp only[aS8,oA]at h;rw[jF];split
  ·grind
  ·exact aTE t h.2
mutual
theorem aZG {p p':Nat->Bool} (h:∀ r,p r=true->p' r=true):∀ v:PV,inP p v=true->inP p' v=true
 | .lit _,_|.vals ..,_|.iptr _,_|.tl ..,_|.tp ..,_|.junk,_|.row ..,_|.rp ..,_|.mp _,_|.tm _,_=>rfl
 | .own r _,hv=>h r hv
 | .op r _ _ _,hv=>h r hv
 | .win r _ _ _,hv=>h r hv
 | .qs r _,hv=>h r hv
 | .hptr r _,hv=>h r hv
 | .hs r _ _ _ _,hv=>h r hv
 | .agg cs,hv=>by simp only[inP]at hv ⊢; exact PF h cs hv
 | .tuple cs,hv=>by simp only[inP]at hv ⊢; exact PF h cs hv
 | .clo _ f c,hv=>by
  simp only[inP,oA]at hv ⊢;exact⟨PF h f hv.1,PF h c hv.2⟩
theorem PF {p p':Nat->Bool} (h:∀ r,p r=true->p' r=true):∀ l:List PV,inP.inPs p l=true->inP.inPs p' l=true
 | [],_=>rfl
 | q::l,hv=>by
  simp only[inP.inPs,oA]at hv ⊢;exact⟨aZG h q hv.1,PF h l hv.2⟩
end
mutual
theorem aUJ {m:Nat} {p:Nat->Bool} (h:∀ r,r<m->p r=true):∀ v:PV,below m v=true->inP p v=true
 | .lit _,_|.vals ..,_|.iptr _,_|.tl ..,_|.tp ..,_|.junk,_|.row ..,_|.rp ..,_|.mp _,_|.tm _,_=>rfl
 | .own r _,hv=>h r (jN (by simpa only[below]using hv))
 | .op r _ _ _,hv=>h r (jN (by simpa only[below]using hv))
 | .win r _ _ _,hv=>h r (jN (by simpa only[below]using hv))
 | .qs r _,hv=>h r (jN (by simpa only[below]using hv))
 | .hptr r _,hv=>h r (jN (by simpa only[below]using hv))
 | .hs r _ _ _ _,hv=>h r (jN (by simpa only[below]using hv))
 | .agg cs,hv=>by simp only[below]at hv; simp only[inP]; exact PS h cs hv
 | .tuple cs,hv=>by simp only[below]at hv; simp only[inP]; exact PS h cs hv
 | .clo _ f c,hv=>by
  simp only[below,oA]at hv;simp only[inP,oA];exact⟨PS h f hv.1,PS h c hv.2⟩
theorem PS {m:Nat} {p:Nat->Bool} (h:∀ r,r<m->p r=true):∀ l:List PV,below.belows m l=true->inP.inPs p l=true
 | [],_=>rfl
 | q::l,hv=>by
  simp only[below.belows,oA]at hv;simp only[inP.inPs,oA];exact⟨aUJ h q hv.1,PS h l hv.2⟩
end
mutual
theorem a8A {p:Nat->Bool} {w:World} {G:Gd} {μ μ':Mp} (h:∀ r,p r=true->μ'.loc r=μ.loc r/\μ'.len r=μ.len r/\μ'.sh r=μ.sh r):∀ (q:PV) (v:Value),inP p q=true->VR w G μ q v->VR w G μ' q v
 | .lit u,v,_,hv=>by rw[VR]at hv ⊢; exact hv
 | .vals ..,v,_,hv=>by rw[VR]at hv ⊢; exact hv
 | .iptr _,v,_,hv=>by rw[VR]at hv ⊢; exact hv
 | .tl ..,v,_,hv=>by rw[VR]at hv ⊢; exact hv
 | .tp ..,v,_,hv=>by rw[VR]at hv ⊢; exact hv
 | .row ..,v,_,hv=>by rw[VR]at hv ⊢; exact hv
 | .rp ..,v,_,hv=>by rw[VR]at hv ⊢; exact hv
 | .mp _,v,_,hv=>by rw[VR]at hv ⊢; exact hv
 | .tm _,v,_,hv=>by rw[VR]at hv ⊢; exact hv
 | .junk,v,_,hv=>by rw[VR]; trivial
 | .hptr r off,v,hb,hv=>by
  have:=h r hb;rw[VR]at hv ⊢; rw[this.1,this.2.2]; exact hv
 | .hs r off l c s,v,hb,hv=>by
  have:=h r hb;rw[VR]at hv ⊢; rw[this.1,this.2.2]; exact hv
 | .own r s,v,hb,hv=>by
  have:=h r hb;rw[VR]at hv ⊢; rw[this.1,this.2.1,this.2.2]; exact hv
 | .op r i off s,v,hb,hv=>by
  have:=h r hb;rw[VR]at hv ⊢; rw[this.1,this.2.2]; exact hv
 | .win r lo n s,v,hb,hv=>by
  have:=h r hb;rw[VR]at hv ⊢; rw[this.1,this.2.1,this.2.2]; exact hv
 | .qs r s,v,hb,hv=>by
  have:=h r hb;rw[VR]at hv ⊢; rw[this.1,this.2.1,this.2.2]; exact hv
 | .agg cs,v,hb,hv=>by
  rw[VR]at hv ⊢;obtain⟨vs,h1,h2⟩:=hv;exact⟨vs,h1,aFH h cs _ (by simpa only[inP]using hb) h2⟩
 | .tuple cs,v,hb,hv=>by
  rw[VR]at hv ⊢;obtain⟨vs,h1,h2⟩:=hv;exact⟨vs,h1,aFH h cs _ (by simpa only[inP]using hb) h2⟩
 | .clo fn f c,v,hb,hv=>by
  rw[VR]at hv ⊢;simp only[inP,oA]at hb;obtain⟨fs,cs,h1,h2,h3⟩:=hv;exact⟨fs,cs,h1,aFH h f _ hb.1 h2,aFH h c _ hb.2 h3⟩
theorem aFH {p:Nat->Bool} {w:World} {G:Gd} {μ μ':Mp} (h:∀ r,p r=true->μ'.loc r=μ.loc r/\μ'.len r=μ.len r/\μ'.sh r=μ.sh r):∀ (ps:List PV) (vs:List Value),inP.inPs p ps=true->VRs w G μ ps vs->VRs w G μ' ps vs
 | [],vs,_,hv=>by rw[VRs]at hv ⊢; exact hv
 | q::ps,vs,hb,hv=>by
  rw[VRs]at hv ⊢;simp only[inP.inPs,oA]at hb;obtain⟨x,xs,h1,h2,h3⟩:=hv;exact⟨x,xs,h1,a8A h q x hb.1 h2,aFH h ps xs hb.2 h3⟩
end
theorem a3P {p w G μ μ'}(h:∀ r,p r=true->μ'.loc r=μ.loc r/\μ'.len r=μ.len r/\μ'.sh r=μ.sh r){b off ps}(hn:inP.inPs p ps=true)(hc:aM w G μ b off ps):aM w G μ' b off ps:=by
 obtain⟨vs,h1,h2⟩:=hc.values;exact aM.qV (aFH h ps vs hn h1) h2
theorem aRN {p:Nat->Bool}:∀ {H:Heap} {r:Nat} {k:Blk},aPX p H=true->H[r]?=some (some k)->k.tag.isSome=true\/inP.inPs p k.cells=true
 | [],r,k,_,h=>by simp at h
 | x::H,0,k,hp,h=>by
  simp only[List.getElem?_cons_zero,oJ]at h;subst h;simp only[aPX,a5B,oA,Bool.or_eq_true]at hp;exact hp.1
 | x::H,r+1,k,hp,h=>by
  simp only[aPX,oA]at hp;exact aRN (H:=H) (r:=r) hp.2 (by simpa using h)
def aMP(b:Nat) (S:Nat->Bool) (r:Nat):Bool:=Nat.blt r b||S (r-b)
theorem aC9 {b k S}(hS:YP (nI ops) S)(hk:S k=true):∀ r,a3V b ((nI ops).getD k 0 ||| 2^k) r=true->aMP b S r=true:=by
 intro r h;unfold a3V at h;unfold aMP;rw[Bool.or_eq_true]at h ⊢;rcases h with h|h
 ·grind
 ·right;rw[oA,Nat.testBit_or,Bool.or_eq_true]at h;rcases h.2 with h1|h1
  ·exact hS k hk _ h1
  grind
theorem aTX {b}(hm:T.md=some b)(hF:aS8 b F=true){S}(hS:YP (nI ops) S) t:∀ k,k<=ops.size->inP (aMP b S) (xP T S t k)=true
 | 0,_=>aUJ (λr hr=>by unfold aMP; simp_all) _ (aTE t hF)
 | k+1,hk=>by
  obtain⟨o,ho⟩:∃ o,ops[k]?=some o:=⟨ops[k],Array.getElem?_eq_getElem Z⟩;rw[xP]
  by_cases hc:S k=true/\W5 ops k=some t
  ·rw[if_pos hc];have h3:=(T.step k o ho).2.2;rw[hm]at h3;simp only[okT,oA]at h3;exact aZG (aC9 hS hc.1) _ h3.1
  ·rw[if_neg hc];exact aTX hm hF hS t k Z
theorem aLV {b}(hm:T.md=some b)(hH:XM b H=true){S}(hS:YP (nI ops) S):∀ k,k<=ops.size->∀ (r:Nat) x,(gH T S k)[r]?=some (some x)->x.tag.isSome=true\/inP.inPs (aMP b S) x.cells=true
 | 0,_,r,x,h=>by
  rcases aFC hH h with h|h
  ·grind
  ·exact .inr (PS (λr hr=>by unfold aMP; rw[b9,oT hr]; rfl) _ h)
 | k+1,hk,r,x,h=>by
  obtain⟨o,ho⟩:∃ o,ops[k]?=some o:=⟨ops[k],Array.getElem?_eq_getElem Z⟩;rw[gH]at h
  by_cases hc:S k=true/\1<T.cs k
  ·rw[if_pos hc]at h;have h3:=(T.step k o ho).2.2;rw[<- T.hbs k o ho,hm]at h3;simp only[okT,oA,bF0]at h3;replace h3:=h3.2;rw[b9,oT hc.2,oC]at h3;unfold ZY at h;split at h
   ·rename_i q hq;rw[hq]at h3;simp only at h3;rw[List.getElem?_set]at h
    by_cases hqr:q=r
    ·rw[if_pos hqr]at h;split at h
     ·have h5:=oB h;cases h6:(T.Hs (k+1))[q]? with
      | none=>rw[h6]at h5; cases h5
      | some y =>
       rw[h6]at h5;subst h5;have h7:kK (T.Hs (k+1)) q=some x:=by unfold PM.kK; rw[h6]
       rw[h7]at h3;simp only[a5B,Bool.or_eq_true]at h3;rcases h3 with h3|h3
       ·grind
       ·exact .inr (PF (aC9 hS hc.1) _ h3)
     ·cases h
    ·rw[if_neg hqr]at h;exact aLV hm hH hS k Z r x h
   ·rename_i hq;rw[hq]at h3;rcases aRN h3 h with h3|h3
    ·grind
    ·exact .inr (PF (aC9 hS hc.1) _ h3)
  ·rw[if_neg hc]at h;exact aLV hm hH hS k Z r x h
def aVU(b:Nat)(S:Nat->Bool)(X:Heap)(μ:Mp):Mp:=⟨λr=>if b<=r/\S (r-b)=false then none else μ.loc r,λr=>if b<=r/\S (r-b)=false/\aB2 X r=true then none else μ.len r,μ.sh⟩
theorem aS5 {b S X μ}:∀ s,aMP b S s=true->(aVU b S X μ).loc s=μ.loc s/\(aVU b S X μ).len s=μ.len s/\(aVU b S X μ).sh s=μ.sh s:=λs hs=>by
 have h:¬ (b<=s/\S (s-b)=false):=λh=>by
  unfold aMP at hs;rw[Bool.or_eq_true]at hs;rcases hs with hs|hs
  ·have:=jN hs; omega
  grind
 refine⟨?_,?_,rfl⟩
 ·show (if b<=s/\S (s-b)=false then none else μ.loc s)=μ.loc s;grind
 ·show (if b<=s/\S (s-b)=false/\aB2 X s=true then none else μ.len s)=μ.len s;grind
theorem bBS(hmb:∀ b,T.md=some b->aS8 b F=true/\XM b H=true/\∀ r,b<=r->μi.loc r=none/\μi.len r=none):aUX T n0 wi Gi μi:=by
 intro S F1 w a hC hF1 hI i o q ho hS hr;obtain⟨b,hm,rfl,ha⟩:=aLH hr;obtain⟨hF,hH,hμ⟩:=hmb b hm;obtain⟨G,μ,e,hW,hFI⟩:=hI;refine⟨G,aVU b S (gH T S ops.size) μ,?_,?_,?_,?_,?_⟩
 ·exact { e with
   map:=λr x hx=>by
    show (if b<=r/\S (r-b)=false then none else μ.loc r)=some x;rw[if_neg (λh=>by rw[(hμ r h.1).1]at hx; cases hx)];exact e.map r x hx
   len:=λr x hx=>by
    show (if b<=r/\S (r-b)=false/\aB2 (gH T S ops.size) r=true then none else μ.len r)=some x;rw[if_neg (λh=>by rw[(hμ r h.1).2]at hx; cases hx)];exact e.len r x hx }
 ·refine⟨?_,?_,?_,hW.lt,?_,hW.base,hW.rows.bFN λr=>?_⟩
  case refine_5 =>
   show (if b<=r/\S (r-b)=false then none else μ.loc r)=none\/(if b<=r/\S (r-b)=false then none else μ.loc r)=μ.loc r;grind
  ·intro r k x hk hx;change (if b<=r/\S (r-b)=false then none else μ.loc r)=some x at hx;split at hx
   ·cases hx
   ·obtain⟨c,h1,h2,h3⟩:=hW.blk r k x hk hx;refine⟨c,h1,?_,h3⟩;rcases aLV T hm hH hC ops.size (oM _) r k hk with h4|h4
    ·obtain⟨g,hg⟩:=Option.isSome_iff_exists.1 h4;rw[(hW.tags r k g hk hg).1]at h2 ⊢;exact uQ (lL _ _) h2
    ·exact a3P aS5 h4 h2
  ·intro r k g hk hg;obtain⟨h1,h2⟩:=hW.tags r k g hk hg;refine⟨h1,?_⟩;show (if b<=r/\S (r-b)=false/\aB2 (gH T S ops.size) r=true then none else μ.len r)=_;rw[if_neg (λh=>by have h3:=aBN.1 h.2.2; rw[hk]at h3; cases h3)];exact h2
  ·intro r s k l x h1 h2 f1 f2 m1 m2;change (if b<=r/\S (r-b)=false then none else μ.loc r)=some x at m1;change (if b<=s/\S (s-b)=false then none else μ.loc s)=some x at m2;split at m1
   ·cases m1
   ·split at m2
    ·cases m2
    ·exact hW.inj r s k l x h1 h2 f1 f2 m1 m2
  ·intro r hr;have:=hW.top r hr;refine⟨?_,?_⟩
   ·show (if b<=r/\_ then _ else _)=_;grind
   ·show (if b<=r/\S (r-b)=false/\aB2 (gH T S ops.size) r=true then none else μ.len r)=_;grind
 ·refine⟨hFI.size,λt=>?_,hFI.defers⟩;have hv:=hFI.slot t;rw[hF1]at hv ⊢;exact a8A aS5 _ _ (aTX T hm hF hC t ops.size (oM _)) hv
 ·show (if b<=b+i/\S (b+i-b)=false then none else μ.loc (b+i))=none;rw[if_pos ⟨Nat.le_add_right _ _,by rw[Nat.add_sub_cancel_left]; exact hS⟩]
 ·intro hx;show (if b<=b+i/\S (b+i-b)=false/\aB2 (gH T S ops.size) (b+i)=true then none else μ.len (b+i))=none;rw[if_pos ⟨Nat.le_add_right _ _,by rw[Nat.add_sub_cancel_left]; exact hS,aBN.2 hx⟩]
theorem bCU {G:Gd} {μ:Mp} {H:Heap} {w:World} (hW:aR n0 G μ H w) {q:Nat} (hq:q<H.length) (hn:μ.loc q=none) (hl:μ.len q=none) {w':World} {G':Gd} {μ':Mp} {k:Blk} {sz:Nat} {v:Value}
  (e:Ext (DU w) w G.bare aJ w' G' μ') (hW':aR (DU w) G' μ' [some k] w') (hv:VR w' G' μ' (.own 0 sz) v) (ht:aQG k.tag=true) :
  ∃ μ2,Ext n0 w G μ w' (G'.with G) μ2/\aR n0 (G'.with G) μ2 (H.set q (some k)) w'/\VR w' (G'.with G) μ2 (.own q sz) v:=by
 have e2:Ext n0 w G μ w' (G'.with G) ⟨λs=>if s=q then μ'.loc 0 else μ.loc s,λs=>if s=q then μ'.len 0 else μ.len s,λs=>if s=q then μ'.sh 0 else μ.sh s⟩:={
  good:=e.good
  map:=λr b hb=>W
  len:=λr b hb=>W
  room:=e.room
  sh:=λr b hb=>W
  row:=λ_ _ h=>h
  os:=e.os
  tape:=e.tape
  output:=e.output
  size:=e.size
  old:=λb hb _=>e.old b hb (Nat.not_le.2 hb)
  new:=λb hb=>by
   rcases e.new b hb with h|h
   ·exact .inl h
   ·exact .inr (hW.base b h) }
 have hnew:∀ b,μ'.loc 0=some b->∃ c,w'.heap[b]?=some (.cells c k.ty (0,0))/\aM w' G' μ' b (μ'.sh 0) k.cells/\(k.grown=false->c.size=k.cells.length)/\(k.frozen=true->G' b)/\(k.frozen=false->DU w b/\¬ G' b):=λb hb=>hW'.blk 0 k b rfl hb
 obtain⟨g,hg,hgp⟩:∃ g,k.tag=some g/\g.t.plain=true:=by
  cases hk:k.tag with
  | none=>rw[hk]at ht; cases ht
  | some g=>rw[hk]at ht; exact⟨g,rfl,ht⟩
 obtain⟨hgc,hgl⟩:=hW'.tags 0 k g rfl hg;have key:∀ (s:Nat) (k1:Blk),(H.set q (some k))[s]?=some (some k1)->(s=q/\k1=k)\/(s≠q/\H[s]?=some (some k1)):=W
 refine⟨_,e2,⟨?_,?_,?_,hW'.lt,?_,λb hb=>hW.base b (oR e.size hb),?_⟩,?_⟩
 ·intro s k1 b hs hb;rcases key s k1 hs with ⟨rfl,rfl⟩|⟨hne,hs'⟩
  ·simp only[if_true]at hb;obtain⟨c,h1,h2,h3,h4,h5⟩:=hnew b hb;simp only[if_true];refine⟨c,h1,?_,h3,h4,λhf=>⟨hW.base b (h5 hf).1,(h5 hf).2⟩⟩;rw[hgc]at h2 ⊢;exact AU (G:=G') (G':=G'.with G) (λb h=>h) _ _ _ _ (EI _ hgp _) (uQ (lL _ _) h2)
  ·simp only[if_neg hne]at hb;obtain⟨c',h2,h3,h4,h5,h6⟩:=hW.blk s k1 b hs' hb;have hlt:=hW.sY hs' hb;have e1:w'.heap[b]?=w.heap[b]?:=e.old b hlt (Nat.not_le.2 hlt);simp only[if_neg hne];refine⟨c',e1.trans h2,aM.mono e2.toMono e1 _ _ h3,h4,λhf=>(e.good b (h5 hf)).1,λhf=>⟨(h6 hf).1,λhg=>?_⟩⟩;rcases e.new b hg with h|h
   ·exact(h6 hf).2 h
   ·grind
 ·intro s k1 g1 hs hg1;rcases key s k1 hs with ⟨rfl,rfl⟩|⟨hne,hs'⟩
  ·grind
  ·simp only[if_neg hne];exact hW.tags s k1 g1 hs' hg1
 ·intro s1 s2 k1 k2 b h1 h2 f1 f2 m1 m2;rcases key s1 k1 h1 with ⟨rfl,rfl⟩|⟨l1,h1'⟩ <;> rcases key s2 k2 h2 with ⟨e2,rfl⟩|⟨l2,h2'⟩
  ·grind
  ·simp only[if_true]at m1;simp only[if_neg l2]at m2;obtain⟨_,_,_,_,_,h5⟩:=hnew b m1;exact absurd (hW.sY h2' m2) (Nat.not_lt.2 (h5 f1).1)
  ·subst e2;simp only[if_true]at m2;simp only[if_neg l1]at m1;obtain⟨_,_,_,_,_,h5⟩:=hnew b m2;exact absurd (hW.sY h1' m1) (Nat.not_lt.2 (h5 f2).1)
  ·simp only[if_neg l1]at m1;simp only[if_neg l2]at m2;exact hW.inj s1 s2 k1 k2 b h1' h2' f1 f2 m1 m2
 ·intro r hr;rw[List.length_set]at hr;have:=hW.top r hr;exact⟨by show (if r=q then _ else _)=_; rw[if_neg Z]; exact this.1,by show (if r=q then _ else _)=_; rw[if_neg Z]; exact this.2⟩
 ·refine hW.rows.step e2.toMono.aJ e.size (λ_=>rfl) (λj b hj=>?_) (λs k1 t1 l1 hs hg1 ht1=>?_)
  ·have hlt:=(hW.rows.sep j b hj).1;refine⟨e.old b hlt (Nat.not_le.2 hlt),λhg=>?_,λs k1 hs hf1 hl=>?_⟩
   ·rcases e.new b hg with h|h
    ·exact h
    ·exact absurd hlt (Nat.not_lt.2 h)
   ·rcases key s k1 hs with ⟨rfl,rfl⟩|⟨hne,hs'⟩
    ·simp only[if_true]at hl;obtain⟨_,_,_,_,_,h5⟩:=hnew b hl;exact absurd hlt (Nat.not_lt.2 (h5 hf1).1)
    ·simp only[if_neg hne]at hl;exact⟨s,k1,hs',hf1,hl⟩
  ·rcases key s k1 hs with ⟨rfl,rfl⟩|⟨hne,hs'⟩
   ·rw[hg]at ht1;cases ht1;cases hgp
   ·exact⟨k1,hs',rfl,rfl,rfl,by simp only[if_neg hne]⟩
 ·rw[VR]at hv ⊢;simp only[if_true];exact hv
theorem bCG {G:Gd} {μ:Mp} {H:Heap} {w:World} (hW:aR n0 G μ H w) {w':World} {G':Gd} {μ':Mp} (e:Ext (DU w) w G.bare aJ w' G' μ') (hlt':∀ b,G' b->b<w'.heap.size):Ext n0 w G μ w' (G'.with G) μ/\aR n0 (G'.with G) μ H w':=by
 have e2:Ext n0 w G μ w' (G'.with G) μ:={
  good:=e.good
  map:=λ_ _ h=>h
  len:=λ_ _ h=>h
  room:=e.room
  row:=λ_ _ h=>h
  os:=e.os
  tape:=e.tape
  output:=e.output
  size:=e.size
  old:=λb hb _=>e.old b hb (Nat.not_le.2 hb)
  new:=λb hb=>by
   rcases e.new b hb with h|h
   ·exact .inl h
   ·exact .inr (hW.base b h) }
 have hback:∀ b,b<w.heap.size->G' b->G b:=λb hlt hg=>by
  rcases e.new b hg with h|h
  ·exact h
  ·grind
 refine⟨e2,hW.bZ e2 ⟨λ_=>rfl,λj b hj=>?_⟩ ?_ hlt'⟩
 ·have hlt:=(hW.rows.sep j b hj).1;exact⟨e.old b hlt (Nat.not_le.2 hlt),hback b hlt⟩
 ·intro r k b hr hb;have hlt:=hW.sY hr hb;exact⟨e.old b hlt (Nat.not_le.2 hlt),hback b hlt⟩
def bBF:Frm->Frm
 | []=>[]
 | (t,p)::r=>(t,bif eX p&&iD p then p else .junk)::bBF r
theorem aQ9 t:∀ F ,dX (bBF F) t=bif eX (dX F t)&&iD (dX F t) then dX F t else .junk
 | []=>rfl
 | (u,p)::F=>by
  rw[bBF,jF,jF]
  by_cases h:t=u
  ·grind
  ·rw[if_neg h,if_neg h]; exact aQ9 t F
theorem aQ5:∀ {l p},eX.noRefs l=true->p∈l->eX p=true
 | [],_,_,h=>W
 | q::l,p,h,hp=>by
  simp only[eX.noRefs,oA]at h;rcases List.mem_cons.1 hp with rfl|hp
  ·grind
  ·exact aQ5 h.2 hp
theorem aRV:∀ {l p},iD.noRows l=true->p∈l->iD p=true
 | [],_,_,h=>W
 | q::l,p,h,hp=>by
  simp only[iD.noRows,oA]at h;rcases List.mem_cons.1 hp with rfl|hp
  ·grind
  ·exact aRV h.2 hp
theorem bC7 {P:Program} {ops:Array Oper} (hmask:U6 (nI ops) 0 ops.toList=true) {Q:Exit->Act->World->Prop} {J:Array Bool->Act->World->Prop} (hend:∀ listed a w,(∀ i,i<ops.size->listed.getD i false=true)->J listed a w->Q .normal a w)
  (hstep:∀ (listed listed':Array Bool) (a:Act) (w:World) (i:Nat) (o:Oper),ops[i]?=some o->listed.size=ops.size->listed.getD i false=false->YP (nI ops) (λi=>listed.getD i false)->(∀ b,((nI ops).getD i 0).testBit b=true->listed.getD b false=true) ->
   listed'.getD i false=true->(∀ j,j≠i->listed'.getD j false=listed.getD j false)->J listed a w->∀ K:Act->World->Prop,(∀ a' w',J listed' a' w'->K a' w')->wpOp P ops Q i K a w) {a:Act} {w:World} (hJ:J (Array.replicate ops.size false) a w) :
  wpAny P .any ops Q ops.size (Array.replicate ops.size false) a w:=by
 have hm:∀ i o,ops[i]?=some o->(nI ops).getD i 0=aJA (nI ops) o.after.toList/\∀ e∈o.after,Region.binds .any e=true->e.on<i:=λi o ho=>by
  have:=aLT hmask (i:=i) (o:=o) (by simpa using ho);grind
 have hnone:∀ listed:Array Bool,listed.size=ops.size->Region.ready .any ops listed=[]->∀ i,i<ops.size->listed.getD i false=true:=by
  intro listed hsz hr i
  induction i using Nat.strongRecOn with
  | _ i ih =>
   intro hi;cases hli:listed.getD i false with
   | true=>rfl
   | false =>
    obtain⟨o,ho⟩:∃ o,ops[i]?=some o:=⟨ops[i],Array.getElem?_eq_getElem hi⟩;have:i∈Region.ready .any ops listed:=mem_ready.2 ⟨by
     have hlt:i<listed.size:=Z
     simpa[Array.getD,hlt]using hli,o,ho,λe he hb=>ih e.on ((hm i o ho).2 e he hb) (by have:=(hm i o ho).2 e he hb; omega)⟩
    grind
 have hfalse:∀ j,(Array.replicate ops.size false).getD j false=false:=λj=>by
  simp only[Array.getD]
  simp_all
 suffices key:∀ (fuel:Nat) (listed:Array Bool) (a:Act) (w:World),(List.range ops.size).countP (λi=>!listed.getD i false)=fuel->listed.size=ops.size->YP (nI ops) (λi=>listed.getD i false)->J listed a w->wpAny P .any ops Q fuel listed a w by
  refine key ops.size _ _ _ ?_ R ?_ hJ
  ·simp_all
  ·intro j hj;grind
 intro fuel
 induction fuel with
 | zero =>
  intro listed a w hc hsz hcs hI;have hall:∀ i,i<ops.size->listed.getD i false=true:=λi hi=>by
   rw[List.countP_eq_zero]at hc;have:=hc i (List.mem_range.2 hi);simpa using this
  refine⟨?_,hend listed a w hall hI⟩;cases hr:Region.ready .any ops listed with
  | nil=>rfl
  | cons i r =>
   have:i∈Region.ready .any ops listed:=by rw[hr]; exact List.mem_cons_self
   obtain⟨h1,o,ho,_⟩:=mem_ready.1 this;have hi:i<ops.size:=(Array.getElem?_eq_some_iff.1 ho).1;have h2:=hall i hi;have hlt:i<listed.size:=Z
   simp only[Array.getD,hlt,dif_pos]at h1 h2;rw[h1]at h2; cases h2
 | succ fuel ih =>
  intro listed a w hc hsz hcs hI;refine⟨λhr=>hend listed a w (hnone listed hsz hr) hI,λi hi=>?_⟩;obtain⟨h1,o,ho,hdeps⟩:=mem_ready.1 hi;have hlt:i<ops.size:=(Array.getElem?_eq_some_iff.1 ho).1;have hlt':i<listed.size:=Z
  have hun:listed.getD i false=false:=by
   simp only[Array.getD,hlt',dif_pos]at h1 ⊢;exact h1
  have hahead:∀ b,((nI ops).getD i 0).testBit b=true->listed.getD b false=true:=λb hb=>by
   rw[(hm i o ho).1]at hb;rcases TR _ _ hb with h0|⟨e,he,hbd,h2⟩
   ·simp at h0
   ·have he':=hdeps e (Array.mem_toList_iff.1 he) hbd;rcases h2 with rfl|h2
    ·exact he'
    ·exact hcs e.on he' b h2
  have hS':∀ j,j≠i->(listed.setIfInBounds i true).getD j false=listed.getD j false:=λj hj=>getD_set_ne false (λe=>hj e.symm)
  have hSi:(listed.setIfInBounds i true).getD i false=true:=by simp[Array.getD,hlt']
  refine hstep listed _ a w i o ho hsz hun hcs hahead hSi hS' hI _ λa' w' h=>ih _ a' w' ?_ (by simpa using hsz) ?_ h
  ·have:=aL8 (p:=λi=>!listed.getD i false) (p':=λj=>!(listed.setIfInBounds i true).getD j false) (i:=i) (by simp only[hun,Bool.not_false]) (by simp only[hSi,Bool.not_true]) (λj hj=>by simp only[hS' j hj]) ops.size hlt;omega
  ·intro j hj b hb
   by_cases hji:j=i
   ·subst hji
    by_cases hbj:b=j
    ·subst hbj; exact hSi
    ·show (listed.setIfInBounds j true).getD b false=true;rw[hS' b hbj]; exact hahead b hb
   ·have hj':listed.getD j false=true:=by rw[<- hS' j hji]; exact hj
    by_cases hbi:b=i
    ·subst hbi; exact hSi
    ·show (listed.setIfInBounds i true).getD b false=true;rw[hS' b hbi]; exact hcs j hj' b hb
theorem bFR(T:Trace P cl nt ops F H F' H') (hcl:eO P cl) (hst:UO ops=true) {S S':Nat->Bool} (hcs:YP (nI ops) S) {i:Nat} {o:Oper} (ho:ops[i]?=some o) (hun:S i=false)
  (hahead:∀ b,((nI ops).getD i 0).testBit b=true->S b=true) (hSi:S' i=true) (hS':∀ j,j≠i->S' j=S j) {F1:Frm} (hF1:∀ t,dX F1 t=xP T S t ops.size) :
  ∃ c1 F2,stepT (Q8 T.md o i) P cl ops.toList o F1 (gH T S ops.size)=some (T.vs i,gH T S' ops.size,c1)/\X3 nt F1 o.dst (T.vs i)=some F2/\∀ t,dX F2 t=xP T S' t ops.size:=by
 simp only[UO,oA]at hst;obtain⟨hmask,hpairs⟩:=hst;have hlt:i<ops.size:=(Array.getElem?_eq_some_iff.1 ho).1;have hap:∀ i j oi oj,ops[i]?=some oi->ops[j]?=some oj->i<j->((nI ops).getD j 0).testBit i=true\/oi.apart ops oj=true:=λi j oi oj hi hj hij=>by
  have:=aMR hpairs (j:=j) (oj:=oj) (by simpa using hj);rw[Nat.zero_add]at this;have:=aQA this (i:=i) (oi:=oi) (by simpa using hi) Z;grind
 have hbehind:∀ j,((nI ops).getD j 0).testBit i=true->S j=false:=λj hj=>by
  cases hlj:S j with
  | false=>rfl
  | true =>
   have h5:S i=true:=hcs j hlj i hj;grind
 have hwr:∀ t,(t∈o.looksAt ops\/o.dst=some t)->(∀ j,j<i->W5 ops j=some t->S j=true)/\(∀ j,i<j->j<ops.size->W5 ops j=some t->S j=false):=by
  intro t ht;refine⟨λj hj hd=>?_,λj hj hjs hd=>?_⟩
  ·cases hoj:ops[j]? with
   | none=>simp[W5,hoj]at hd
   | some oj =>
    simp only[W5,hoj,Option.bind_some]at hd;rcases hap j i oj o hoj ho hj with h3|h3
    ·grind
    ·obtain⟨a1,a2,a3⟩:=Oper.apart_spec h3;grind
  ·cases hoj:ops[j]? with
   | none=>simp[W5,hoj]at hd
   | some oj =>
    simp only[W5,hoj,Option.bind_some]at hd;rcases hap i j o oj ho hoj hj with h3|h3
    ·grind
    ·obtain⟨a1,a2,a3⟩:=Oper.apart_spec h3;grind
 have hslot:∀ t∈o.looksAt ops,xP T S t ops.size=dX (T.Fs i) t:=λt ht=>by
  obtain⟨w1,w2⟩:=hwr t (.inl ht);rw[XT T (k:=i) Z λj hj hjs hd=>by
   rcases oG i j with hl|hl
   ·grind
   ·have:j=i:=Z
    subst this; exact hun]
  rw[T5 T (S':=λ_=>true) λj hj hd=>w1 j hj hd,aH6 T t i Z]
 obtain⟨hstep,hput,-⟩:=T.step i o ho;have hord:∀ j,j<ops.size->1<T.cs j->T.cs i≠0->XV (T.bs j) (T.bs i)=false->S j=decide (j<i):=λj hjs hx hc0 hap'=>by
  rcases Nat.lt_trichotomy j i with hl|hl|hl
  ·rw[oT hl];rcases T.hits j i hl hlt Z hc0 (.inl hx)with h3|h3
   ·have:XV (T.bs j) (T.bs i)=true:=by
     revert h3
     cases T.bs j <;> cases T.bs i <;> simp only[XV,Bool.not_eq_true',imp_self,Bool.false_eq_true,false_implies]
     rename_i x y;intro h3;cases hxy:Nat.beq x y with
     | false=>rfl
     | true=>rw[oE hxy,Nat.beq_refl]at h3; cases h3
    rw[this]at hap'; cases hap'
   ·exact hahead j h3
  ·subst hl; rw[oF Z]; exact hun
  ·rw[oF Z];rcases T.hits i j hl hjs hc0 Z (.inr hx)with h3|h3
   ·rw[h3]at hap'; cases hap'
   ·exact hbehind j h3
 have hheap:T.cs i≠0->T.bs i=none->gH T S ops.size=T.Hs i:=λhc0 hb0=>by
  have ho':∀ j,j<ops.size->1<T.cs j->S j=decide (j<i):=λj hjs hx=>hord j hjs hx hc0 (by rw[hb0]; cases T.bs j <;> rfl)
  rw[XN T (k:=i) Z λj hj hjs hx=>by rw[ho' j hjs hx,oF Z]];rw[I4 T (S':=λ_=>true) λj hj hx=>by rw[ho' j Z hx,oT hj],aAU T hcl i Z]
 have hheapq:∀ q,T.cs i≠0->T.bs i=some q->(gH T S ops.size)[q]?=(T.Hs i)[q]?:=λq hc0 hb0=>by
  have ho':∀ j,j<ops.size->1<T.cs j->T.bs j=none\/T.bs j=some q->S j=decide (j<i):=λj hjs hx hbj=>hord j hjs hx hc0 (by
   rw[hb0];rcases hbj with h|h <;> rw[h]
   ·rfl
   ·simp[XV])
  have h1:=(aS3 T (q:=q) (S:=S) (S':=λj=>decide (j<i)) (n:=ops.size) ho').2;rw[h1,XN T (k:=i) Z λj hj hjs hx=>oF Z];rw[I4 T (S':=λ_=>true) λj hj hx=>oT hj,aAU T hcl i Z]
 have hnewheap:gH T S' ops.size=if 1<T.cs i then ZY T i (gH T S ops.size) else gH T S ops.size:=by
  by_cases hx:1<T.cs i
  ·rw[if_pos hx];refine aM7 T hx hun hSi hS' (λj hj hjs hxj hlj=>?_) ops.size hlt (oM _);cases hap':XV (T.bs j) (T.bs i)with
   | true=>rfl
   | false =>
    have:=hord j hjs hxj Z hap';rw[oF Z]at this;exact absurd hlj (by rw[this]; decide)
  ·rw[if_neg hx];refine I4 T λj hj hxj=>?_
   exact hS' j (λe=>hx (e ▸ hxj))
 have hcg:∀ H2,stepT (Q8 T.md o i) P cl ops.toList o F1 H2=stepT (Q8 T.md o i) P cl ops.toList o (T.Fs i) H2:=λH2=>by
  have h0:∀ H2,BB P cl ops.toList o F1 H2=BB P cl ops.toList o (T.Fs i) H2:=λH2=>aJD λt ht=>by rw[hF1,hslot t ht]
  cases Q8 T.md o i with
  | none=>exact h0 H2
  | some q =>
   have h5:∀ x∈o.op.operands,ev F1 x=ev (T.Fs i) x:=λx hx=>by
    cases x with
    | tmp t =>
     have h7:t∈o.looksAt ops:=List.mem_append_left _ (List.mem_filterMap.2 ⟨.tmp t,by simpa using hx,rfl⟩);show dX F1 t=dX (T.Fs i) t;rw[hF1,hslot t h7]
    | _=>rfl
   have h6:o.op.operands.toList.map (ev F1)=o.op.operands.toList.map (ev (T.Fs i)):=List.map_congr_left λx hx=>h5 x (by simpa using hx)
   simp only[stepT,h0,h6]
 have hop:∃ c1,stepT (Q8 T.md o i) P cl ops.toList o F1 (gH T S ops.size)=some (T.vs i,gH T S' ops.size,c1):=by
  rw[hcg,hnewheap]
  by_cases hc0:T.cs i=0
  ·rw[hc0]at hstep ⊢;refine⟨0,(((aKT hcl hstep).2 rfl _).trans ?_)⟩;simp
  ·cases hb0:T.bs i with
   | none =>
    rw[hheap hc0 hb0];refine⟨T.cs i,hstep.trans ?_⟩
    by_cases hx:1<T.cs i
    ·rw[if_pos hx]; simp only[ZY,hb0]
    ·rw[if_neg hx,(aKT hcl hstep).1 Z]
   | some q =>
    obtain⟨H3,c,h3,h4⟩:=T.loc i o q ho hb0 hc0 _ (hheapq q hc0 hb0);refine⟨c,h3.trans ?_⟩;rw[h4]; simp only[ZY,hb0]
 obtain⟨c1,hop⟩:=hop;have hputF1:∃ F2,X3 nt F1 o.dst (T.vs i)=some F2:=by
  cases hd:o.dst with
  | none=>exact⟨F1,rfl⟩
  | some d =>
   rw[hd]at hput;simp only[X3]at hput ⊢;cases hb:Nat.blt d nt with
   | true=>exact⟨_,rfl⟩
   | false=>rw[hb]at hput; cases hput
 obtain⟨F2,hF2⟩:=hputF1;refine⟨c1,F2,hop,hF2,λt=>?_⟩;rw[a0O hF2 t]
 by_cases hd:o.dst=some t
 ·rw[if_pos hd];symm;rw[XT T (k:=i+1) Z λj hj hjs hdj=>by
   rw[hS' j Z];exact(hwr t (.inr hd)).2 j Z hjs hdj]
  rw[xP,if_pos ⟨hSi,by simp[W5,ho,hd]⟩]
 ·rw[if_neg hd,hF1];symm;refine T5 T λj hj hdj=>hS' j ?_
  rintro rfl;simp only[W5,ho,Option.bind_some]at hdj;exact hd hdj
theorem a8E(hcl:eO P cl)(hst:UO ops=true)(hE:aUX T n0 wi Gi μi){Q}(hQ:∀ a' w',I n0 wi Gi μi nt F' H' a' w'->Q .normal a' w'){a w}(hI:I n0 wi Gi μi nt F H a w) :
  wpAny P .any ops Q ops.size (Array.replicate ops.size false) a w:=by
 have hst2:=hst;simp only[UO,oA]at hst2;refine bC7 hst2.1 (J:=λlisted a w=>∀ F1,(∀ t,dX F1 t=xP T (λi=>listed.getD i false) t ops.size)->I n0 wi Gi μi nt F1 (gH T (λi=>listed.getD i false) ops.size) a w) ?_ ?_ ?_
 ·intro listed a w hall hI;have h1:∀ t,dX F' t=xP T (λi=>listed.getD i false) t ops.size:=λt=>by rw[T5 T (S':=λ_=>true) λj hj _=>hall j hj,aH6 T t _ (oM _),T.fn]
  have h2:=hI F' h1;rw[I4 T (S':=λ_=>true) λj hj _=>hall j hj,aAU T hcl _ (oM _),T.hn]at h2;grind
 ·intro listed listed' a w i o ho hsz hun hcs hahead hSi hS' hI K hK;obtain⟨F1,hF1⟩:=aYD T (λi=>listed.getD i false) ops.size;have hI1:=hI F1 hF1;obtain⟨c1,F2,hop,hF2,hF3⟩:=bFR T hcl hst hcs ho hun hahead hSi hS' hF1;generalize hH1:gH T (λk=>listed'.getD k false) ops.size=H1 at hop;have hnext:∀ (a':Act) (w':World),(∃ F2,X3 nt F1 o.dst (T.vs i)=some F2/\I n0 wi Gi μi nt F2 H1 a' w')->K a' w':=by
   rintro a' w' ⟨F4,hF4,hI2⟩;obtain rfl:F2=F4:=oB (hF2.symm.trans hF4);refine hK a' w' λF5 hF5=>?_
   rw[hH1];exact hI2.congr λt=>by rw[hF5,hF3]
  cases hr:Q8 T.md o i with
  | some q =>
   obtain⟨G,μ,e,hW,hF,hnone,hlnone⟩:=hE (λi=>listed.getD i false) F1 w a hcs hF1 hI1 i o q ho hun hr;obtain⟨b,_,_,ha⟩:=aLH hr;obtain⟨hg,⟨d,hd⟩,hkind⟩:=aW7 ha;rw[hr]at hop;rcases hkind with ⟨t,hop'⟩|⟨cc,hop'⟩
   case inr =>
    simp only[stepT,hop']at hop;obtain⟨hnr,hop⟩:=aI hop;split at hop
    ·rename_i v1 X c2 hs;have hcut:BB P cl ops.toList o (bBF F1) []=some (v1,X,c2):=by
      rw[<- hs];refine aJD λt ht=>?_
      rw[aQ9];have h7:Operand.tmp t∈o.op.operands:=by
       unfold Oper.looksAt at ht;rw[hg]at ht;simp only[Option.toList,List.append_nil,List.mem_filterMap]at ht;obtain⟨x,h8,h9⟩:=ht;cases x with
       | tmp u=>simp only[oJ]at h9; subst h9; simpa using h8
       | _=>cases h9
      rw[oA]at hnr;have h8:eX (dX F1 t)=true:=aQ5 hnr.1 (List.mem_map.2 ⟨.tmp t,by rw[<- hop']; simpa using h7,rfl⟩);have h9:iD (dX F1 t)=true:=aRV hnr.2 (List.mem_map.2 ⟨.tmp t,by rw[<- hop']; simpa using h7,rfl⟩);rw[h8,h9]; rfl
     have hW0:aR (DU w) G.bare aJ [] w:=⟨λr k b h=>by simp at h,λr k g h=>by simp at h,λr s k l b h=>by simp at h,hW.lt,λ_ _=>⟨rfl,rfl⟩,λ_ h=>h,yC.none _ _ (λ_=>rfl) _ _ (λr k h=>by simp at h)⟩;have hF0:iV w G.bare aJ nt (bBF F1) a:=⟨hF.size,λt=>by
      rw[aQ9];cases hn:(eX (dX F1 t)&&iD (dX F1 t))with
      | true =>
       rw[oA]at hn;exact VX (G:=G) (G':=G.bare) (λb h=>h) _ _ _ hn.2 (C6 _ _ hn.1 (hF.slot t))
      | false=>rw[oD,VR]; trivial,hF.defers⟩
     unfold wpOp;rw[ho];simp only;rcases aAG hcl hcut hW0 hF0 with ⟨k1,k2⟩|⟨k1,k2,k3⟩
     ·rw[if_pos k1];refine .inl (k2 _ _ λv' w' G' μ' e' hW' hv'=>?_);rcases VF hop with ⟨sz,k,rfl,rfl,hv,hH,_,hq,hqn,htag⟩|⟨rfl,hn1,hv,hH,_⟩
      case inr =>
       obtain⟨m1,m2⟩:=bCG hW e' hW'.lt;rw[oA]at hn1;exact hnext _ _ ⟨F2,hF2,_,μ,e.trans m1,by rw[hH]; exact m2,(hF.mono m1.toMono).aRX hF2 (by rw[hv]; exact(VX (G:=G') (G':=G'.with G) (λb h=>h) _ _ _ hn1.2 (C6 _ _ hn1.1 hv')).aW)⟩
      obtain⟨μ2,m1,m2,m3⟩:=bCU hW hq hnone (hlnone hqn) e' hW' hv' htag;exact hnext _ _ ⟨F2,hF2,_,μ2,e.trans m1,by rw[hH]; exact m2,(hF.mono m1.toMono).aRX hF2 (by rw[hv]; exact m3)⟩
     ·rw[k1,if_neg O];subst k3;rcases VF hop with ⟨_,_,_,h9,_⟩|⟨_,_,hv,hH,_⟩
      ·cases h9
      ·exact hnext _ _ ⟨F2,hF2,G,μ,e,by rw[hH]; exact hW,hF.aRX hF2 (by rw[hv,k2,VR])⟩
    ·cases hop
   simp only[stepT,hop']at hop;cases hz:GQ P t with
   | none=>rw[hz]at hop; cases hop
   | some z =>
    rw[hz]at hop;simp only at hop;obtain⟨hq,hop⟩:=aI hop;simp only[oJ,oP]at hop;obtain⟨hv,hH,-⟩:=hop;obtain⟨e1,e2⟩:=a8J hW (jN hq) hnone z.cells t;unfold wpOp;rw[ho];simp only;rw[if_pos (FF hF (b:=true) (by simp only[guardOf,hg]))];refine .inl ?_;have hok:N1 P n0 w G μ o a (T.vs i) H1:=by
     refine .value (s:=Instr.alloc t true (.tuple #[])) (by simp only[execOp,hop']) ?_;refine⟨.pointer (some ⟨w.heap.size,0,none⟩),w.alloc (.cells z.cells t),G,_,?_,e1,by rw[<- hH]; exact e2,?_⟩
     ·have hzv:(zeroValue t).run P w=.ok z w:=by
       unfold GQ at hz;split at hz
       next i hi=>simp[zeroValue,FA hi,hz]
       ·cases hz
      simp only[Instr.alloc,Sem.run_bind,hzv,Result.andThen_ok,newVar];simp[newRow]
     ·rw[<- hv,VR];exact⟨w.heap.size,by show (if q=q then _ else _)=_; rw[if_pos rfl],by simp⟩
    exact hok _ _ λv' w' G' μ' e' hW' hv=>hnext _ _ ⟨F2,hF2,G',μ',e.trans e',hW',(hF.mono e'.toMono).aRX hF2 hv⟩
  | none =>
  rw[hr]at hop;replace hop:BB P cl ops.toList o F1 (gH T (λi=>listed.getD i false) ops.size)=some (T.vs i,H1,c1):=hop;obtain⟨G,μ,e,hW,hF⟩:=hI1;unfold wpOp;rw[ho];simp only;rcases aAG hcl hop hW hF with ⟨k1,k2⟩|⟨k1,k2,k3⟩
  ·rw[if_pos k1];exact .inl (k2 _ _ λv' w' G' μ' e' hW' hv=>hnext _ _ ⟨F2,hF2,G',μ',e.trans e',hW',(hF.mono e'.toMono).aRX hF2 hv⟩)
  ·rw[k1,if_neg O];exact hnext _ _ ⟨F2,hF2,G,μ,e,by rw[k3]; exact hW,hF.aRX hF2 (by rw[k2,VR])⟩
 ·intro F1 hF1;have hfalse:∀ j,(Array.replicate ops.size false).getD j false=false:=λj=>by
   simp only[Array.getD];split <;> simp
  rw[XN T (k:=0) (Nat.zero_le _) λj _ _ _=>hfalse j];exact hI.congr λt=>by rw[hF1,XT T (k:=0) (Nat.zero_le _) λj _ _ _=>hfalse j]; rfl
theorem a3G {G μ H w}(hW:aR n0 G μ H w) n:aR n0 G μ (H++List.replicate n none) w:=by
 have key:∀ (r:Nat) k,(H++List.replicate n none)[r]?=some (some k)->H[r]?=some (some k):=W
 exact⟨λr k b h=>hW.blk r k b (key r k h),λr k g h=>hW.tags r k g (key r k h),λr s k l b h1 h2=>hW.inj r s k l b (key r k h1) (key s l h2),hW.lt,λr hr=>hW.top r W,hW.base,hW.rows.bD7 id (λ_ _ h=>h) (λr k h=>⟨key r k h,rfl⟩)⟩
theorem aDZ {b n}:∀ {H:Heap},XM b H=true->XM b (H++List.replicate n none)=true
 | [],_=>by
  induction n with
  | zero=>rfl
  | succ n ih=>exact ih
 | none::H,h=>aDZ (H:=H) h
 | some k::H,h=>by
  simp only[XM,oA,List.cons_append]at h ⊢;exact⟨h.1,aDZ h.2⟩
theorem a6P {H0} (T:Trace P cl nt ops F H0 F' H') (hcl:eO P cl) (hst:UO ops=true) (hE:aUX T n0 wi Gi μi) {a w Q} (hI:I n0 wi Gi μi nt F H0 a w)
  (hQ:∀ a' w',I n0 wi Gi μi nt F' H' a' w'->Q .normal a' w'):wpAny P .any ops Q ops.size (Array.replicate ops.size false) a { w with drawn:=w.drawn+1 }:=by
 obtain⟨G,μ,e,hW,hF⟩:=hI;exact a8E T hcl hst hE hQ ⟨G,μ,e.trans (aRA (Nat.le_add_right _ _)),aK6 hW _,hF.mono (aE7 _)⟩
theorem aDK(hcl:eO P cl) {a w Q} (h:aFB P cl nt ops F H=some (F',H')) (hI:I n0 wi Gi μi nt F H a w)
  (hQ:∀ a' w',I n0 wi Gi μi nt F' H' a' w'->Q .normal a' w'):wpAny P .any ops Q ops.size (Array.replicate ops.size false) a { w with drawn:=w.drawn+1 }:=by
 obtain⟨hst,h⟩:=aI h;rw[oA]at hst;split at h
 next F2 H2 hl hs=>
  obtain⟨hh,h⟩:=aI h;obtain⟨rfl,rfl⟩:=h;obtain⟨T,hT⟩:=a9W hcl hs hh;have hI0:=hI;obtain⟨G,μ,e,hW,hF⟩:=hI;refine a6P T hcl hst.1 ?_ ?_ hQ
  ·refine bBS T λb hb=>?_
   rw[hT]at hb;have h2:=hst.2;rw[hb]at h2 ⊢;simp only[aXU,oA]at h2;refine⟨h2.1,aDZ h2.2,λr hr=>?_⟩;obtain⟨_,hb⟩:=aI hb;simp only[oJ]at hb;subst hb;refine⟨?_,?_⟩
   ·cases hx:μi.loc r with
    | none=>rfl
    | some x =>
     have:=e.map r x hx;rw[(hW.top r hr).1]at this;grind
   ·cases hx:μi.len r with
    | none=>rfl
    | some x =>
     have:=e.len r x hx;rw[(hW.top r hr).2]at this;grind
  ·cases aHH ops H with
   | none=>exact hI0
   | some b=>exact⟨G,μ,e,a3G hW _,hF⟩
 ·cases h
theorem aST(hcl:eO P cl) (hP:P.follows .mixedOrders=true) {id a w Q} (h:aFB P cl nt ops F H=some (F',H')) (hI:I n0 wi Gi μi nt F H a w)
  (hQ:∀ a' w',I n0 wi Gi μi nt F' H' a' w'->Q .normal a' w'):(Code.region id ops true).wp P Q a w:=wp_region_any hP (aDK hcl h hI hQ)
end
end
end Go.PM
