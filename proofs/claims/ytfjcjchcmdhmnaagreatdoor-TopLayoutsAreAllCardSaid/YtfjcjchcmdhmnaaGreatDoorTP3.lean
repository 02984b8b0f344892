/- Texts of one proof, joined (3). -/
import Derived.Laws.Strings
import Derived.MapKept
import Derived.RangeFuncRecord
import Derived.Lib.ConvBytes
import Derived.Laws.BytesString
import Derived.Lib.AppendZerosOnto
import Derived.Lib.SliceRun
import Derived.WalkSpells
import Derived.Test.YtfjcjchcmdhmnaaGreatDoorTP2
set_option linter.unusedSimpArgs false
set_option linter.unusedVariables false
noncomputable section
namespace Go.PM
open Go Go.RowKit
section
variable {P:Program} {n0:Nat->Prop} {w:World} {G:Gd} {μ:Mp} {H:Heap} {F:Frm} {a:Act} {nt:Nat}
theorem VK(hW:aM n0 G μ H w) r:∃ G',Ext n0 w G μ w G' μ/\aM n0 G' μ (vL H r) w:=by
 unfold vL;split
 ·rename_i k hk;cases hf:k.frozen with
  | true=>exact⟨G,Ext.refl _ _ _ _,hW⟩
  | false=>exact⟨_,qW hW (aE hk) hf⟩
 ·exact⟨G,Ext.refl _ _ _ _,hW⟩
theorem pJ:∀ rs H G,aM n0 G μ H w->∃ G',Ext n0 w G μ w G' μ/\aM n0 G' μ (o7 H rs) w
 | [],H,G,hW=>⟨G,Ext.refl _ _ _ _,hW⟩
 | r::rs,H,G,hW=>by
  obtain⟨G1,e1,h1⟩:=VK hW r;obtain⟨G2,e2,h2⟩:=pJ rs _ G1 h1;exact⟨G2,e1.trans e2,h2⟩
theorem rG(hW:aM n0 G μ H w) {r sz:Nat} {k:Blk} {g:Tg} {v:Value} (hv:VR w G μ (.own r sz) v) (hk:dY H r=some k) (hg:k.tag=some g) {G':Gd} (hG:∀ b,G b->G' b) (hB:∀ b,μ.loc r=some b->G' b) (hR:∀ j b,G.row j=some b->G'.row j=some b:=by exact λ_ _ h=>h):VR w G' aF (kD g.t g.l none) v:=by
 obtain⟨ht1,ht2⟩:=hW.tags r k g (aE hk) hg;have hm:Mono w G μ w G' μ:=⟨λb hb=>⟨hG b hb,rfl⟩,λ_ _ h=>h,λ_ _ h=>h,λ_ _ h=>h,hR,λ_ _ _=>rfl⟩;obtain⟨n,h1,h2⟩:=hv;rw[ht2]at h1;cases h1;refine E2 ?_;rcases h2 with ⟨h2,ao,rfl⟩|⟨b,c,h3,rfl,h5,h6⟩
 ·have hnil:g.l=[]:=List.eq_nil_of_length_eq_zero h2;exact⟨ao,0,by rw[hnil]; rfl,by omega,λk hk=>(by cases hk),.inl (by rw[hnil]; rfl)⟩
 ·obtain⟨c',g2,g3,_⟩:=hW.blk r k b (aE hk) h3;rw[ht1]at g3;refine⟨_,c,rfl,h5,λk hk=>(by cases hk),.inr ⟨b,μ.sh r,rfl,hB b h3,?_⟩⟩;obtain⟨vs,h7,h8⟩:=g3.values;exact aK.gD (bG _ _ (eA _ _) (VRs.mono hm _ _ h7)) h8
theorem aEO(hW:aM n0 G μ H w){r lo n sz:Nat}{k:Blk}{g:Tg}{v:Value}(hv:VR w G μ (.win r lo n sz) v)(hk:dY H r=some k)(hg:k.tag=some g)(hsz:sz=g.t.size){G':Gd}(hG:∀ b,G b->G' b)(hB:∀ b,μ.loc r=some b->G' b)(hR:∀ j b,G.row j=some b->G'.row j=some b:=by exact λ_ _ h=>h) :
  VR w G' aF (kD g.t ((g.l.drop lo).take n) none) v:=by
 subst hsz;obtain⟨ht1,ht2⟩:=hW.tags r k g (aE hk) hg;have hm:Mono w G μ w G' μ:=⟨λb hb=>⟨hG b hb,rfl⟩,λ_ _ h=>h,λ_ _ h=>h,λ_ _ h=>h,hR,λ_ _ _=>rfl⟩;obtain⟨b,c,m,h3,rfl,h5,h6,hm,hle,_⟩:=hv;rw[ht2]at hm;cases hm;refine E2 ?_;have hlen:((g.l.drop lo).take n).length=n:=by rw[List.length_take,List.length_drop]; omega
 rw[hlen];obtain⟨c',g2,g3,_⟩:=hW.blk r k b (aE hk) h3;rw[ht1]at g3;refine⟨_,c,rfl,h5,λk hk=>(by cases hk),.inr ⟨b,μ.sh r+lo*g.t.size,rfl,hB b h3,?_⟩⟩;have g4:=g3.sub (lo*g.t.size) (n*g.t.size);rw[jV,gV]at g4;obtain⟨vs,h7,h8⟩:=g4.values;exact aK.gD (bG _ _ (eA _ _) (VRs.mono hm _ _ h7)) h8
theorem aA6(hW:aM n0 G μ H w){p q v}(h:aFS H p=some q)(hv:VR w G μ p v):VR w G aF q v:=by
 unfold aFS at h;split at h
 ·rename_i r sz;split at h
  ·rename_i k hk;split at h
   ·rename_i g hg;cases hf:k.frozen with
    | false=>grind
    | true =>
     rw[hf]at h;simp only[oC,oJ]at h;subst h;exact rG hW hv hk hg (λb h=>h) (λb hb=>by
      obtain⟨_,_,_,_,h5,_⟩:=hW.blk r k b (aE hk) hb;grind)
   grind
  grind
 ·obtain⟨hn,h⟩:=fA h;cases h;exact nN p v hn hv
theorem Z5(hW:aM n0 G μ H w):∀ {ps qs vs},aDD H ps=some qs->VRs w G μ ps vs->VRs w G aF qs vs
 | [],qs,vs,h,hv=>by
  cases h;exact hv
 | p::ps,qs,vs,h,hv=>by
  unfold aDD at h;split at h
  ·rename_i q hq;split at h
   ·rename_i qs' hqs;cases h;obtain⟨x,xs,h1,h2,h3⟩:=hv;exact⟨x,xs,h1,aA6 hW hq h2,Z5 hW hqs h3⟩
   grind
  grind
theorem aRX(hW:aM n0 G μ H w){p q v}(h:uT.inlT H p=some q)(hv:VR w G μ p v):VR w G aF q v:=by
 unfold uT.inlT at h;split at h
 ·rename_i cs;cases hn:bU.noRefs cs with
  | true =>
   rw[hn]at h;cases h;exact nN _ v (by simpa only[bU]using hn) hv
  | false =>
   rw[hn,oD]at h;split at h
   ·rename_i qs hqs;cases h;obtain⟨vs,h1,h2⟩:=hv;exact⟨vs,h1,Z5 hW hqs h2⟩
   grind
 ·exact aA6 hW h hv
theorem WA(hW:aM n0 G μ H w){T p v u x y cs H' c}(hp:VR w G μ p x)(hv:VR w G μ v y)(h:R9 P H T p v=some (cs,u,H',c))(hcs:mT cs=true) :
  u=.lit undef/\c=2/\∃ w' G',(Instr.storeAt T x y).run P w=.ok () w'/\Ext n0 w G μ w' G' μ/\aM n0 G' μ H' w':=by
 unfold R9 at h;split at h
 ·rename_i r s;split at h
  ·rename_i q hq;obtain⟨G1,e1,hW1⟩:=pJ [r] H G hW;obtain⟨h1,h2,w',h3,h4,h5⟩:=M5 hW1 (VR.mono e1.toMono _ _ hp) (aA6 hW1 hq (VR.mono e1.toMono _ _ hv)).aP h hcs;exact⟨h1,h2,w',G1,h3,e1.trans h4,h5⟩
  grind
 ·obtain⟨h1,h2,w',h3,h4,h5⟩:=M5 hW hp hv h hcs;grind
def P2(w:World) (G:Gd) (μ:Mp):List (Nat×PV)->List (Nat×Value)->Prop
 | [],vs=>vs=[]
 | (i,p)::ps,vs=>∃ x xs,vs=(i,x)::xs/\VR w G μ p x/\P2 w G μ ps xs
theorem HI(hW:aM n0 G μ H w)(ρ:Operand->Value):∀ (ops:List (Nat×Operand)) qs,(∀ x,VR w G μ (ev F x) (ρ x))->uT H (ops.map λp=>(p.1,ev F p.2))=some qs->P2 w G aF qs (ops.map λp=>(p.1,ρ p.2))
 | [],qs,_,h=>by
  simp only[List.map_nil,uT,oJ]at h;subst h;rfl
 | (i,x)::ops,qs,hF,h=>by
  simp only[List.map_cons,uT]at h;split at h
  ·rename_i q hq;split at h
   ·rename_i qs' hqs;simp only[oJ]at h;subst h;exact⟨_,_,rfl,aRX hW hq (hF x),HI hW ρ ops qs' hF hqs⟩
   grind
  grind
theorem aB9 {H1}:∀ ps,aA0 ps=[]->aDD H1 ps=aDD [] ps
 | [],_=>rfl
 | p::ps,h=>by
  have hp:aA0 ps=[]/\aFS H1 p=aFS [] p:=by cases p <;> simp only[aA0]at h <;> first|exact⟨h,rfl⟩|grind
  simp only[aDD,hp.2,aB9 ps hp.1]
theorem SX {H1}:∀ ps,owns ps=[]->uT H1 ps=uT [] ps
 | [],_=>rfl
 | (i,p)::ps,h=>by
  have hp:owns ps=[]/\uT.inlT H1 p=uT.inlT [] p:=by cases p <;> simp only[owns]at h <;> first|exact⟨h,rfl⟩|grind|(obtain⟨h1,h2⟩:=List.append_eq_nil_iff.1 h; exact⟨h2,by simp only[uT.inlT,aB9 _ h1]⟩)
  simp only[uT,hp.2,SX ps hp.1]
theorem aN6 place:∀ ps vs cs out c,P2 w G μ ps vs->VRs w G μ cs c.toList->wL place cs ps=some out->∃ c',Instr.fill place c vs=some c'/\VRs w G μ out c'.toList
 | [],vs,cs,out,c,hp,hc,h=>by
  subst hp;simp only[wL,oJ]at h;exact⟨c,rfl,h ▸ hc⟩
 | (i,p)::ps,vs,cs,out,c,hp,hc,h=>by
  obtain⟨x,xs,rfl,hx,hps⟩:=hp;simp only[wL]at h;split at h
  ·rename_i off size new hpl hcp;cases hb:(Nat.beq new.length size&&Nat.ble (off+new.length) cs.length)with
   | false=>rw[hb]at h; cases h
   | true =>
    rw[hb]at h;simp only[oA]at hb;have h1:=oE hb.1;have h2:=oL hb.2;have hv:=vX hcp hx;have hl:new.length=x.cells.size:=by simpa using hv.length
    have hcl:cs.length=c.size:=by simpa using hc.length
    obtain⟨c',h3,h4⟩:=aN6 place ps xs _ out _ hps (U9 (off:=off) hc hv) h;refine⟨c',?_,h4⟩;simp only[Instr.fill,hpl];have hf:=E4 (off:=off) x.cells.toList 0 c (by grind);rw[<- Array.foldl_toList];grind
  ·cases h
theorem Q4 {t e ty} (hel:pX P t=some (e,ty)) {z} (hz:pL P e=some z) {len} (h1:len*ty.size<=16777216) {qs vs} (hp:P2 w G aF qs vs.toList) {cs}
  (hf:wL (λi=>some (i*ty.size,ty.size)) (sL z (len*ty.size)) qs=some cs) {l} (hd:mZ (dec ty) ty.size len cs=some l) :
  ∃ c' ,VRs w G aF (aD ty l) c'.toList/\l.length=len/\(Instr.buildSlice t len vs).run P w=.ok (.slice (some ⟨w.heap.size,0,none⟩) len len) (w.alloc (.cells c' e)):=by
 obtain⟨hu,hs⟩:=l5 hel;obtain⟨c',h3,h4⟩:=aN6 (w:=w) (G:=G) (μ:=aF) _ qs vs.toList _ cs _ hp (B5 z (len*ty.size)) hf;have hzero:∃ i,P.info? e=some i/\i.zero=some z:=by
  unfold pL at hz;grind
 obtain⟨i,hi,hz'⟩:=hzero;obtain⟨h5,h6⟩:=wQ (g:=enc ty) (λcs x vs h hv=>lR ty aF cs x vs h hv) hd h4;refine⟨c',h5,h6,?_⟩
 ·have hn:¬ (len*ty.size>2^24):=by omega
  have hrow:(Array.range (len*ty.size)).map (λx=>z.cells[x%z.cells.size]!)=madeCells z.cells (len*ty.size):=rfl;have h3':Instr.fill (λi=>some (i*ty.size,ty.size)) (Array.map (λx=>z.cells[x%z.cells.size]!) (Array.range (len*ty.size))) vs.toList=some c':=by rw[hrow]; exact h3
  by_cases h0:len*ty.size=0
  ·have h3'':Instr.fill (λi=>some (i*ty.size,ty.size)) (Array.map (λx=>(#[]:Array Value)[x%0]!) (Array.range (len*ty.size))) vs.toList=some c':=by
    grind
   rw[h0]at h3'';simp[Instr.buildSlice,run_underlying hu,run_sizeOf hs,h0,newRow]
   simp_all
  ·simp only[Instr.buildSlice,Sem.run_bind,run_underlying hu,Result.andThen_ok,run_sizeOf hs,if_neg hn,if_neg h0];simp only[Sem.run_pure,Result.andThen_ok,Sem.run_bind,zeroValue,pM hi,hz',h3'];simp[newRow]
theorem KI(hW:aM n0 G μ H w) {t e ty} (hel:pX P t=some (e,ty)) {z} (hz:pL P e=some z) {len} (h1:len*ty.size<=16777216) {qs vs} (hp:P2 w G aF qs vs.toList) {cs}
  (hf:wL (λi=>some (i*ty.size,ty.size)) (sL z (len*ty.size)) qs=some cs) {l} (hd:mZ (dec ty) ty.size len cs=some l):kK P n0 w G μ (Instr.buildSlice t len vs) (kD ty l (some len)) H:=by
 obtain⟨c',h5,h6,hr⟩:=Q4 hel hz h1 hp hf hd;obtain⟨e1,e2⟩:=JE hW (.cells c' e);refine⟨_,_,_,_,hr,e1,e2,E2 ?_⟩;refine⟨_,_,by rw[h6],by omega,λk hk=>(by grind),.inr ⟨w.heap.size,0,rfl,.inr rfl,aK.mk λj p hp=>?_⟩⟩;obtain⟨u,g1,g2⟩:=h5.get hp;refine⟨u,?_,VR.mono e1.toMono.aF p u g2⟩
 simp_all
theorem QJ(hW:aM n0 G μ H w) {t e ty} (hel:pX P t=some (e,ty)) {z} (hz:pL P e=some z) {len} (h1:len*ty.size<=16777216) {qs vs} (hp:P2 w G aF qs vs.toList) {cs}
  (hf:wL (λi=>some (i*ty.size,ty.size)) (sL z (len*ty.size)) qs=some cs) {l} (hd:mZ (dec ty) ty.size len cs=some l):kK P n0 w G μ (Instr.buildSlice t len vs) (.own H.length ty.size) (H++[some ⟨aD ty l,e,true,false,some ⟨ty,l⟩⟩]):=by
 obtain⟨c',h5,h6,hr⟩:=Q4 hel hz h1 hp hf hd;have hk:=qX (on:=some l.length) hW c' ⟨aD ty l,e,true,false,some ⟨ty,l⟩⟩ (λj p hp=>by
  obtain⟨u,g1,g2⟩:=h5.get hp;exact⟨u,by grind,g2.aP⟩) (λh=>by grind) rfl (λg hg=>by grind)
 have hl:=h5.length;rw[aS,h6]at hl;refine⟨_,_,G,_,hr,pN hW _ _ _,hk,?_⟩;rw[VR,mG];simp only ;refine⟨l.length,gC _ _ _ _,.inr ⟨w.heap.size,len,cW _ _ _ _,by grind,by omega,⟨c',e,(0,0),?_,by grind⟩,trivial⟩⟩;show (w.heap.push _)[w.heap.size]?=_;simp
theorem kK.trans {s v H' G1}(e:Ext n0 w G μ w G1 μ)(h:kK P n0 w G1 μ s v H'):kK P n0 w G μ s v H':=by
 obtain⟨v',w',G',μ',h1,h2,h3⟩:=h;exact⟨v',w',G',μ',h1,e.trans h2,h3⟩
theorem L8(hW:aM n0 G μ H w) {sz r:Nat} {q:PV} {H1:Heap} {v:Value} (h:aAJ H sz r=some (q,H1)) (hv:VR w G μ (.own r sz) v):∃ G' μ',Ext n0 w G μ w G' μ'/\aM n0 G' μ' H1 w/\VR w G' aF q v:=by
 unfold aAJ at h;split at h
 ·rename_i ra k har;split at h
  ·rename_i t l htag;split at h
   ·rename_i kb hkb;split at h
    ·rename_i g hg;split at h
     ·rename_i row hrow;obtain⟨hb,h⟩:=fA h;obtain⟨rfl,rfl⟩:=h;simp only[oA,Bool.not_eq_true']at hb;obtain⟨⟨⟨⟨hf,hgr⟩,hty⟩,hm⟩,hsz⟩:=hb;have hm:k.ty≠yH:=Nat.ne_of_beq_eq_false hm;have hty:=oE hty;obtain⟨gt,gl⟩:=g;obtain⟨rfl,rfl⟩:=fY hrow;obtain⟨hr,hkg⟩:=DV har;obtain⟨a1,a2,a3⟩:=hW.rows.arn ra k gt l hr hkg htag;obtain⟨ht1,ht2⟩:=hW.tags r kb _ (aE hkb) hg;simp only at ht1 ht2;obtain⟨G',hG'⟩:∃ G':Gd,G'=⟨G.ok,λj=>if j=l.length then μ.loc r else G.row j⟩:=⟨_,rfl⟩
      have hrow':∀ j b,G.row j=some b->G'.row j=some b:=λj b hj=>by
       rw[hG'];grind
      have hrow2:∀ j b,G'.row j=some b->(j=l.length/\μ.loc r=some b)\/(j≠l.length/\G.row j=some b):=λj b hj=>by
       rw[hG']at hj;grind
      have hok:∀ b,G'.ok b=G.ok b:=λb=>by rw[hG']
      have e:Ext n0 w G μ w G' (upd μ H.length none (some (l++[gl]).length)):={ rS hW none (some (l++[gl]).length)with
       bS:=λb hb=>⟨by rw[hok]; exact hb,rfl⟩
       row:=hrow'
       new:=λb hb=>.inl (by rw[<- hok]; exact hb) }
      have hnewblk:(H.set r none |>.set ra none).length=H.length:=by simp
      have key:∀ (s:Nat) (k1:Blk),(((H.set r none).set ra none)++[some ⟨aD (.rows gt) (l++[gl]),k.ty,false,k.frozen,some ⟨.rows gt,l++[gl]⟩⟩])[s]?=some (some k1) ->
        (s=H.length/\k1=⟨aD (.rows gt) (l++[gl]),k.ty,false,k.frozen,some ⟨.rows gt,l++[gl]⟩⟩)\/(s<H.length/\s≠r/\s≠ra/\H[s]?=some (some k1)):=by
       grind
      have hloc:∀ b,μ.loc r=some b->b<w.heap.size/\n0 b/\¬ G b:=λb hb=>by
       obtain⟨c,q1,_,_,_,q2⟩:=hW.blk r kb b (aE hkb) hb;grind
      refine⟨G',_,e,⟨?_,?_,?_,hW.lt.step (λb hb=>⟨by rw[hok]; exact hb,rfl⟩) λb hb=>hW.lt b (by rw[<- hok]; exact hb),?_,hW.base,?_,?_,?_,?_,?_⟩,?_⟩
      ·intro s k1 b hs hb;rcases key s k1 hs with ⟨rfl,rfl⟩|⟨h1,h2,h3,h4⟩
       ·rw[cW]at hb; cases hb
       ·rw[(kV (by omega)).1]at hb;obtain⟨c,q1,q2,q3,q4,q5⟩:=hW.blk s k1 b h4 hb;rw[JB (by omega)];exact⟨c,q1,aK.mono e.toMono rfl _ _ q2,q3,λhf=>by rw[hok]; exact q4 hf,λhf=>by rw[hok]; exact q5 hf⟩
      ·intro s k1 g1 hs hg1;rcases key s k1 hs with ⟨rfl,rfl⟩|⟨h1,h2,h3,h4⟩
       ·cases hg1;exact⟨rfl,gC _ _ _ _⟩
       ·rw[(kV (by omega)).2];exact hW.tags s k1 g1 h4 hg1
      ·intro x1 x2 k1 k2 b h1 h2 f1 f2 m1 m2;rcases key x1 k1 h1 with ⟨rfl,rfl⟩|⟨p1,p2,p3,p4⟩
       ·rw[cW]at m1; cases m1
       ·rcases key x2 k2 h2 with ⟨rfl,rfl⟩|⟨q1,q2,q3,q4⟩
        ·rw[cW]at m2; cases m2
        ·rw[(kV (by omega)).1]at m1 m2;exact hW.inj x1 x2 k1 k2 b p4 q4 f1 f2 m1 m2
      ·intro s hs;rw[oH,hnewblk]at hs;simp only[List.length_cons,List.length_nil]at hs;rw[(kV (by omega)).1,(kV (by omega)).2];exact hW.top s (by omega)
      ·intro i j b hi hj;rcases hrow2 i b hi with ⟨i1,i2⟩|⟨i1,i2⟩ <;> rcases hrow2 j b hj with ⟨j1,j2⟩|⟨j1,j2⟩
       ·rw[i1,j1]
       ·exact absurd i2 ((hW.rows.sep j b j2).2.2.2 r kb (aE hkb) hf)
       ·exact absurd j2 ((hW.rows.sep i b i2).2.2.2 r kb (aE hkb) hf)
       ·exact hW.rows.inj i j b i2 j2
      ·intro j b hj;have hsep:b<w.heap.size/\n0 b/\¬ G b/\∀ s k1,s≠r->H[s]?=some (some k1)->k1.frozen=false->μ.loc s≠some b:=by
        rcases hrow2 j b hj with ⟨j1,j2⟩|⟨j1,j2⟩
        ·obtain⟨b1,b2,b3⟩:=hloc b j2;exact⟨b1,b2,b3,λs k1 hs h1 h2 h3=>hs (hW.inj s r k1 kb b h1 (aE hkb) h2 hf h3 j2)⟩
        ·obtain⟨b1,b2,b3,b4⟩:=hW.rows.sep j b j2;exact⟨b1,b2,b3,λs k1 _ h1 h2=>b4 s k1 h1 h2⟩
       refine⟨hsep.1,hsep.2.1,by rw[hok]; exact hsep.2.2.1,λs k1 hs hf1 hl=>?_⟩;rcases key s k1 hs with ⟨rfl,rfl⟩|⟨h1,h2,h3,h4⟩
       ·rw[cW]at hl; cases hl
       ·rw[(kV (by omega)).1]at hl;exact hsep.2.2.2 s k1 h2 h4 hf1 hl
      ·intro j b hj;rcases hrow2 j b hj with ⟨j1,j2⟩|⟨j1,j2⟩
       ·obtain⟨c,q1,_⟩:=hW.blk r kb b (aE hkb) j2;exact .inl ⟨_,_,_,q1⟩
       ·exact hW.rows.cel j b j2
      ·intro s k1 t1 l1 hs hg1 ht1';rcases key s k1 hs with ⟨rfl,rfl⟩|⟨h1,h2,h3,h4⟩
       ·cases ht1';refine⟨cW _ _ _ _,λj hj=>?_,λj row hj=>?_⟩
        ·rw[oH]at hj;simp only[List.length_cons,List.length_nil]at hj;rw[hG'];show (if j=l.length then μ.loc r else G.row j)=none;rw[if_neg (by omega)];exact a2 j (by omega)
        ·rcases oG j l.length with hlt|hge
         ·rw[List.getElem?_append_left hlt]at hj;rcases a3 j row hj with h0|⟨b,q1,q2⟩
          ·exact .inl h0
          ·exact .inr ⟨b,hrow' j b q1,q2.mono e.toMono.aF rfl⟩
         ·have hjl:j=l.length:=by
           have:=(oO.1 hj).1;simp only[oH,List.length_cons,List.length_nil]at this;omega
          subst hjl;rw[List.getElem?_append_right (oM _),Nat.sub_self]at hj;simp only[List.getElem?_cons_zero,oJ]at hj;subst hj;rw[VR]at hv;obtain⟨n,n1,n2⟩:=hv;rw[ht2]at n1; cases n1;rcases n2 with ⟨n2,_⟩|⟨b,c,hl,_,_,_,n7⟩
          ·exact .inl ⟨List.eq_nil_of_length_eq_zero n2,hm⟩
          ·right;obtain⟨c,q1,q2,_⟩:=hW.blk r kb b (aE hkb) hl;rw[ht1,n7]at q2;refine⟨b,by rw[hG']; show (if l.length=l.length then μ.loc r else _)=some b; rw[if_pos rfl]; exact hl,.inl ⟨hm,c,by rw[hty]at q1; exact q1,?_⟩⟩;obtain⟨us,u1,u2⟩:=q2.values;exact aK.gD (bG _ _ (eA _ _) (VRs.mono e.toMono _ _ u1)) u2
       ·exact absurd (hW.rows.one s ra k1 k t1 l1 gt l h4 hg1 ht1' hr hkg htag) h3
      ·intro x1 x2 k1 k2 t1 l1 t2 l2 h1 g1 q1 h2 g2 q2;have old:∀ (s:Nat) (k1:Blk) (t1:Ty) (l1:List (List t1.den)),(((H.set r none).set ra none)++[some ⟨aD (.rows gt) (l++[gl]),k.ty,false,k.frozen,some ⟨.rows gt,l++[gl]⟩⟩])[s]?=some (some k1)->k1.grown=false->k1.tag=some ⟨.rows t1,l1⟩->s=H.length:=by
        intro s k1 t1 l1 h1 g1 q1;rcases key s k1 h1 with ⟨rfl,_⟩|⟨_,_,h3,h4⟩
        ·rfl
        ·exact absurd (hW.rows.one s ra k1 k t1 l1 gt l h4 g1 q1 hr hkg htag) h3
       rw[old x1 k1 t1 l1 h1 g1 q1,old x2 k2 t2 l2 h2 g2 q2]
      ·rw[VR]at hv;rw[VR.eq_def];simp only;obtain⟨n,n1,n2⟩:=hv;rw[ht2]at n1; cases n1;rcases n2 with ⟨n2,ao,rfl⟩|⟨b,c,n3,rfl,n5,n6⟩
       ·exact⟨ao,0,by rw[n2],by omega,.inl n2⟩
       ·refine⟨_,c,rfl,n5,.inr ⟨b,?_,by rw[n6.2,Nat.zero_mul],by rw[Nat.zero_add]; have:=n6.1; rwa[n6.2,Nat.zero_add]at this⟩⟩;rw[hG'];show (if l.length=l.length then μ.loc r else _)=some b;rw[if_pos rfl]; exact n3
     ·cases h
    ·cases h
   ·cases h
  ·cases h
 ·cases h
theorem aGE(hW:aM n0 G μ H w) {s:Nat} {k:Blk} {t:Ty} {l:List (List t.den)} (hs:H[s]?=some (some k)) (hg:k.grown=false) (ht:k.tag=some ⟨.rows t,l⟩) :
  Ext n0 w G μ w G (upd μ H.length none (some l.length))/\aM n0 G (upd μ H.length none (some l.length)) (H.set s none++[some k]) w:=by
 have hk:=jJ hW s;have hlen:(H.set s none).length=H.length:=by simp
 have e:=rS hW none (some l.length);have e2:Ext n0 w G μ w G (upd μ (H.set s none).length none (some l.length)):=by rw[hlen]; exact e
 refine⟨e,?_⟩;obtain⟨a1,_⟩:=hW.rows.arn s k t l hs hg ht;have:=tG hk e2 k (λ_ _ _ _ _=>rfl) (λb hb=>by cases hb) (λg hg'=>by rw[ht]at hg'; cases hg'; exact⟨(hW.tags s k _ hs ht).1,rfl⟩) (λr k' b _ _ _ hh=>by cases hh)
  (hW.rows.rel (λr r'=>(r=H.length/\r'=s)\/(r<H.length/\r≠s/\r'=r)) (λr r2 q h1 h2=>by
   rcases h1 with ⟨h1,h3⟩|⟨h1,h3,h4⟩ <;> rcases h2 with ⟨h2,h5⟩|⟨h2,h5,h6⟩
   ·grind
   ·grind
   ·grind
   ·exact h4.symm.trans h6) (λr k' hr=>by
   rcases IU r k' hr with ⟨h1,rfl⟩|⟨h1,h2⟩
   ·rw[hlen]at h1;exact⟨s,k',.inl ⟨h1,rfl⟩,hs,rfl,rfl,rfl,rfl,by rw[h1,<- hlen,cW,a1]⟩
   ·obtain⟨h3,h4⟩:=jU h2;rw[hlen]at h1;exact⟨r,k',.inr ⟨h1,h4,rfl⟩,h3,rfl,rfl,rfl,rfl,(kV (by rw[hlen]; omega)).1⟩))
 grind
theorem M7(hW:aM n0 G μ H w)(hF:cY w G μ nt F a){t len}{parts:Array (Nat×Operand)}{v cs H' c}(h:nV P F H t len parts.toList=some (cs,v,H',c)) :
  kK P n0 w G μ (Instr.buildSlice t len (parts.map λ(i,x)=>(i,a.eval x))) v H':=by
 unfold nV at h;split at h
 ·rename_i e ty hel;split at h
  ·rename_i z hz;cases hb:(Nat.ble (len*ty.size) 16777216&&Nat.ble 1 z.cells.size)with
   | false=>rw[hb]at h; cases h
   | true =>
    rw[hb]at h;simp only[oC]at h;simp only[oA]at hb;have hb1:=oL hb.1;split at h
    ·rename_i r sz had;split at h
     ·rename_i q H1 hq;split at h
      ·rename_i cs' hf;split at h
       ·rename_i l hd;obtain⟨rfl,rfl,rfl,rfl⟩:=h;obtain⟨x,hpl,hx⟩:∃ x,parts.toList=[(0,x)]/\ev F x=.own r sz:=by
         unfold L3 at had;split at had
         ·split at had
          ·rename_i x hpl;split at had
           ·rename_i r' s' hx;obtain⟨hc,had⟩:=fA had
            simp_all
           ·cases had
          ·cases had
         ·cases had
        have hv:=aZ hF x;rw[hx]at hv;obtain⟨G1,μ1,e1,hW1,hq1⟩:=L8 hW hq hv;obtain⟨v',w',G2,μ2,z1,z2,z3⟩:=KI hW1 hel hz hb1 (qs:=[(0,q)]) (vs:=parts.map λ(i,x)=>(i,a.eval x)) (by
         rw[Array.toList_map,hpl];exact⟨_,_,rfl,hq1,rfl⟩) hf hd
        exact⟨v',w',G2,μ2,z1,e1.trans z2,z3⟩
       ·cases h
      ·cases h
     ·cases h
    split at h
    ·rename_i how;split at h
     ·rename_i ps hps;split at h
      ·rename_i cs' hf;split at h
       ·rename_i l hd;rw[<- SX (H1:=H) _ how]at hps;cases hbl:HQ aNI t with
        | true =>
         rw[hbl]at h;obtain⟨rfl,rfl,rfl,rfl⟩:=h;exact QJ hW hel hz hb1 (by rw[xM]; exact HI hW a.eval _ _ (aZ hF) hps) hf hd
        | false =>
        rw[hbl]at h;obtain⟨rfl,rfl,rfl,rfl⟩:=h;exact KI hW hel hz hb1 (by rw[xM]; exact HI hW a.eval _ _ (aZ hF) hps) hf hd
       ·cases h
      ·cases h
     ·cases h
    ·rename_i r rs how;split at h
     ·rename_i ps hps;split at h
      ·rename_i cs' hf;split at h
       ·rename_i l hd;obtain⟨G1,e1,hW1⟩:=pJ (r::rs) H G hW;cases hbl:HQ aNI t with
        | true =>
         rw[hbl]at h;obtain⟨rfl,rfl,rfl,rfl⟩:=h;exact(QJ hW1 hel hz hb1 (by rw[xM]; exact HI hW1 a.eval _ _ (λx=>VR.mono e1.toMono _ _ (aZ hF x)) hps) hf hd).trans e1
        | false =>
        rw[hbl]at h;simp only[oD,oJ,oP]at h;obtain⟨rfl,rfl,rfl,rfl⟩:=h;exact(KI hW1 hel hz hb1 (by rw[xM]; exact HI hW1 a.eval _ _ (λx=>VR.mono e1.toMono _ _ (aZ hF x)) hps) hf hd).trans e1
       ·cases h
      ·cases h
     ·cases h
  ·cases h
 ·cases h
theorem rD z:∀ n ,(madeCells z (n*z.size)).toList=(List.replicate n z.toList).flatten
 | 0=>by simp[madeCells,Array.range_zero']
 | n+1=>by
  have ih:=rD z n;rw[List.replicate_succ',List.flatten_append,<- ih];apply List.ext_getElem
  ·simp[madeCells,Nat.add_mul]
  ·intro i h1 h2;simp only[madeCells,Array.toList_map,Array.toList_range,List.getElem_map,List.getElem_range];simp only[madeCells,Array.toList_map,Array.toList_range,List.length_map,List.length_range,Nat.add_mul,Nat.one_mul]at h1
   by_cases hi:i<n*z.size
   ·grind
   ·have hlt:i-n*z.size<z.size:=by omega
    have hmod:i%z.size=i-n*z.size:=by
     have:i=(i-n*z.size)+z.size*n:=by rw[Nat.mul_comm z.size n]; omega
     rw[this,Nat.add_mul_mod_self_left,Nat.mod_eq_of_lt hlt];grind
    grind
theorem mQ {ty d zs}(h:VRs w G aF (enc ty d) zs):∀ n ,VRs w G aF (aD ty (List.replicate n d)) (List.replicate n zs).flatten
 | 0=>by rfl
 | n+1=>by exact h.append (mQ h n)
theorem O2(hW:aM n0 G μ H w){t p q v x y cs H' c}(hp:VR w G μ p x)(hq:VR w G μ q y)(h:AU P H t p q=some (cs,v,H',c))(hcs:mT cs=true) :
  c=2/\kK P n0 w G μ (Instr.makeSlice t x y) v H':=by
 unfold AU at h;split at h
 ·rename_i e ty kl l kc cc hel;subst hp; subst hq;obtain⟨hu,hs⟩:=l5 hel;split at h
  ·rename_i i hi;have hsz:=vQ hs hi;split at h
   ·rename_i z hz;split at h
    ·rename_i d hd;cases hb:(Nat.ble i.bytes 65536&&Nat.beq z.cells.size i.size)with
     | false=>rw[hb]at h; cases h
     | true =>
      rw[hb]at h;obtain⟨rfl,rfl,rfl,rfl⟩:=h;refine⟨rfl,?_⟩;simp only[oA]at hb;have hb1:=oL hb.1;have hb2:=oE hb.2;obtain⟨c1,hcs⟩:=aJ hcs;obtain⟨c2,hcs⟩:=aJ hcs;obtain⟨c3,_⟩:=aJ hcs;rw[aI,Bool.not_eq_true',decide_eq_false_iff_not]at c1 c2 c3;have hbytes:(i.bytes:Int)*cc<=281474976710656:=by
       have:(i.bytes:Int)*cc<=65536*1048576:=Int.mul_le_mul (by omega) (by omega) (by omega) (by omega);omega
      have hr:=run_make (P:=P) w t e i z hu hi hz kl kc l cc (by omega) (by omega) hbytes (by omega);have hdz:VRs w G aF (enc ty d) z.cells.toList:=lR ty aF _ d _ hd (mW _);have hrep:=mQ hdz l.toNat;have hmade:(madeCells z.cells (cc.toNat*i.size)).toList=(List.replicate cc.toNat z.cells.toList).flatten:=by rw[<- hb2]; exact rD z.cells cc.toNat
      have hsplit:(List.replicate cc.toNat z.cells.toList).flatten=(List.replicate l.toNat z.cells.toList).flatten++(List.replicate (cc.toNat-l.toNat) z.cells.toList).flatten:=by
       rw[<- List.flatten_append,List.replicate_append_replicate];grind
      have hk:=qX (on:=some l.toNat) hW (madeCells z.cells (cc.toNat*i.size)) ⟨aD ty (List.replicate l.toNat d),e,true,false,some ⟨ty,List.replicate l.toNat d⟩⟩ (λj p hp=>by
       obtain⟨u,g1,g2⟩:=hrep.get hp;refine⟨u,?_,g2.aP⟩;rw[<- Array.getElem?_toList,hmade,hsplit,List.getElem?_append_left (oO.1 g1).1];exact g1) (λh=>by cases h) rfl (λg hg=>by cases hg; exact⟨rfl,by simp⟩)
      refine⟨_,_,G,_,hr,pN hW _ _ _,hk,?_⟩;rw[VR,mG];simp only[Nat.zero_add];refine⟨l.toNat,gC _ _ _ _,.inr ⟨w.heap.size,cc.toNat,cW _ _ _ _,rfl,by omega,⟨madeCells z.cells (cc.toNat*i.size),e,(0,0),?_,?_⟩,trivial⟩⟩
      ·show (w.heap.push _)[w.heap.size]?=_;simp
      ·simp[madeCells,hsz]
    ·cases h
   ·cases h
  ·cases h
 ·cases h
theorem aEU {e z}(hz:pL P e=some z) w:(zeroValue e).run P w=.ok z w:=by
 unfold pL at hz;split at hz
 ·rename_i i hi;simp[zeroValue,pM hi,hz]
 grind
theorem AA z n:(Builtin.zeroCells z n).toList=(List.replicate n z.toList).flatten:=rD z n
theorem Z1(hW:aM n0 G μ H w){tys ty p v x cs H' c}(hp:VR w G μ p x)(h:US P H tys p=some (cs,v,H',c))(hcs:mT cs=true):kK P n0 w G μ (Builtin.clear_ tys ty #[x]) v H':=by
 unfold US at h;split at h
 ·rename_i t ts ht;have ht':tys[0]?=some t:=by rw[<- Array.getElem?_toList,ht]; rfl
  split at h
  ·rename_i e ety hel;obtain⟨hu,hse⟩:=l5 hel;split at h
   ·rename_i z hz;split at h
    ·rename_i r lo n sz;split at h
     ·rename_i k hk;split at h
      ·rename_i g hg;split at h
       ·rename_i d hd;obtain⟨hb,h⟩:=fA h;obtain⟨rfl,rfl,rfl,rfl⟩:=h;simp only[oA,Bool.not_eq_true']at hb;obtain⟨⟨⟨b1,b2⟩,hf⟩,hok⟩:=hb;have b1:=oE b1;subst b1;have hle:=oL (aJ hcs).1;obtain⟨b,cc,_,hloc,rfl,h5,h6,_⟩:=hp;have htu:VR w G μ (.tuple []) (.tuple #[]):=by rw[VR]; exact⟨#[],rfl,by rw[VRs]⟩
        have q2:(#[Value.slice (some ⟨b,μ.sh r+lo*g.t.size,none⟩) n cc]:Array Value)[0]?=some (Value.slice (some ⟨b,μ.sh r+lo*g.t.size,none⟩) n cc):=rfl;have hdz:VRs w G aF (enc g.t d) z.cells.toList:=lR g.t aF _ d _ hd (mW _);have hrep:=mQ hdz n;have hone:∀ v∈(List.replicate n z.cells.toList).flatten,v.oneCell'=true:=by
         intro v hv;obtain⟨l,h1,h2⟩:=List.mem_flatten.1 hv;rw[List.mem_replicate]at h1;rw[h1.2]at h2;exact sY hok (mW (w:=w) (G:=G) (μ:=μ) _) v h2
        have hclr:clr g.l lo n d=spl g.l lo (List.replicate n d):=by simp only[clr,spl,List.length_replicate]
        obtain⟨w',h1,e1,e2⟩:=ZI (P:=P) (l:=g.l) (p:=lo) hW (VRs.aP hrep) hone (aE hk |> λ_=>hk) hf hg hloc (by rw[List.length_replicate]; exact hle);rw[<- hclr]at e2;cases n with
        | zero =>
         have hw:w'=w:=by
          have:(List.replicate 0 z.cells.toList).flatten=[]:=rfl;rw[this]at h1;simp only[storeCells,Sem.run_pure,Result.ok.injEq,true_and]at h1;grind
         subst hw;refine .put (v':=.tuple #[]) (w':=w') ?_ e1 e2 htu;unfold Builtin.clear_;simp only[ht',q2,Sem.run_bind,run_underlying hu,Result.andThen_ok,Sem.run_pure]
        | succ n =>
         refine .put (v':=.tuple #[]) (w':=w') ?_ e1 e2 (VR.mono e1.toMono _ _ htu);unfold Builtin.clear_;simp only[ht',q2,Sem.run_bind,run_underlying hu,Result.andThen_ok,aEU hz,AA,h1,Sem.run_pure]
       ·cases h
      ·cases h
     ·cases h
    ·cases h
   ·cases h
  ·cases h
 ·cases h
theorem aDL(hW:aM n0 G μ H w){tys ty p q v x y cs H' c}(hp:VR w G μ p x)(hq:VR w G μ q y)(h:aDT P H tys p q=some (cs,v,H',c))(hcs:mT cs=true):c=2/\kK P n0 w G μ (Builtin.copy_ tys ty #[x,y]) v H':=by
 unfold aDT at h;split at h
 ·rename_i t ts ht;have ht':tys[0]?=some t:=by rw[<- Array.getElem?_toList,ht]; rfl
  split at h
  ·rename_i e ety hel;obtain⟨hu,hse⟩:=l5 hel;split at h
   ·rename_i r lo n sz hdst;split at h
    ·rename_i k hk;split at h
     ·rename_i g hg;split at h
      ·rename_i l hl;split at h
       ·rename_i new hnew;obtain⟨hb,h⟩:=fA h;obtain⟨rfl,rfl,rfl,rfl⟩:=h;refine⟨rfl,?_⟩;simp only[oA,Bool.not_eq_true']at hb;obtain⟨⟨b1,hf⟩,b2⟩:=hb;have b1:=oE b1;subst b1;obtain⟨c1,hcs⟩:=aJ hcs;obtain⟨c2,hcs⟩:=aJ hcs;obtain⟨c3,_⟩:=aJ hcs;have c1:=cF c1;have c2:=oL c2;have c3:=oL c3;obtain⟨gt,gl⟩:=g;obtain⟨rfl,rfl⟩:=fY hl;obtain⟨ht1,ht2⟩:=hW.tags r k _ (aE hk) hg;obtain⟨b,cc,hloc,rfl⟩:∃ b cc,μ.loc r=some b/\x=.slice (some ⟨b,μ.sh r+lo*gt.size,none⟩) n cc:=by
         unfold aSN at hdst;split at hdst
         ·rename_i r' sz';split at hdst
          ·rename_i g' hg';obtain⟨rfl,rfl,rfl,rfl⟩:=hdst;obtain⟨kb,hk1,hk2⟩:=pQ hg';rw[hk]at hk1; cases hk1;rw[hg]at hk2; cases hk2;obtain⟨m,h1,h2⟩:=hp;grind
          ·grind
         ·simp only[oJ,oP]at hdst;obtain⟨rfl,rfl,rfl,rfl⟩:=hdst;obtain⟨b,c',m,h1,rfl,_⟩:=hp;grind
         ·grind
        have hrun:∀ {w':World} {vs:Array Value},(∃ m:Nat,(∀ w1:World,(Builtin.lenOf y).run P w1=.ok m w1)/\min m n=new.length/\(Builtin.firstCells gt.size new.length y).run P w=.ok vs w)->(storeCells ⟨b,μ.sh r+lo*gt.size,none⟩ vs.toList).run P w=.ok () w'->(Builtin.copy_ tys ty #[.slice (some ⟨b,μ.sh r+lo*gt.size,none⟩) n cc,y]).run P w=.ok (goInt new.length) w':=by
         rintro w' vs ⟨m,s1,s4,s3⟩ a1;have q2:(#[Value.slice (some ⟨b,μ.sh r+lo*gt.size,none⟩) n cc,y]:Array Value)[0]?=some (Value.slice (some ⟨b,μ.sh r+lo*gt.size,none⟩) n cc):=rfl;have q3:(#[Value.slice (some ⟨b,μ.sh r+lo*gt.size,none⟩) n cc,y]:Array Value)[1]?=some y:=rfl;have hm:Nat.min m n=new.length:=s4;unfold Builtin.copy_;simp only[ht',q2,q3,Sem.run_bind,run_underlying hu,Result.andThen_ok,s1,run_sizeOf hse,hm,s3,a1,Sem.run_pure]
        have key:∃ vs:Array Value,VRs w G μ (aD gt new) vs.toList/\∃ m:Nat,(∀ w1:World,(Builtin.lenOf y).run P w1=.ok m w1)/\min m n=new.length/\(Builtin.firstCells gt.size new.length y).run P w=.ok vs w:=by
         unfold aSL at hnew;split at hnew
         ·rename_i r2 lo2 m2 sz2;rw[VR]at hq;obtain⟨b2',c2',mm,u1,rfl,u2,u3,u4,u5,u6⟩:=hq;have hq':VR w G μ (.win r2 lo2 (min m2 n) sz2) (.slice (some ⟨b2',μ.sh r2+lo2*sz2,none⟩) (min m2 n) c2'):=by
           rw[VR];exact⟨b2',c2',mm,u1,rfl,by omega,u3,u4,by omega,u6⟩
          obtain⟨s1,vs,s2,s3⟩:=wC (P:=P) hW hq' (by rfl) hnew;have hl1:min m2 n=new.length:=by
           have:=s1 w;simp[Builtin.lenOf]at this;exact this
          exact⟨vs,s2,m2,λw1=>rfl,hl1,s3 w rfl⟩
         ·unfold I6 at hnew; cases hnew
         ·rename_i h1 h2;have hok:mT (VD H q)=true:=by
           unfold VD;split
           ·exact absurd rfl (h2 _ _ _ _)
           ·rfl
          obtain⟨s1,vs,s2,s3⟩:=wC (P:=P) hW hq hok hnew;exact⟨vs,s2,new.length,s1,by omega,s3 w rfl⟩
        obtain⟨vs,s2,key⟩:=key;obtain⟨w',h1,e1,e2⟩:=ZI (P:=P) (p:=lo) hW s2 (vR _ _ _ s2) hk hf hg hloc (by simp only at c2; omega);exact⟨_,w',G,μ,hrun key h1,e1,e2,by rw[VR]⟩
       ·cases h
      ·cases h
     ·cases h
    ·cases h
   ·cases h
  ·cases h
 ·cases h
theorem zG {r cs v H' c}(h:aEI H r=some (cs,v,H',c)):H'=H/\c=0/\∃ u,r=some (cs,u)/\v=.lit u:=by
 unfold aEI at h;grind
theorem aFQ {t p q x y cs u}(hp:VR w G μ p x)(hq:VR w G μ q y)(h:aTU P t p q=some (cs,u))(hcs:mT cs=true) w1:(Instr.index t x y).run P w1=.ok u w1:=by
 unfold aTU at h;split at h
 ·rename_i s k i hu;obtain⟨rfl,rfl⟩:=h;subst hp; subst hq;have h1:=(aJ hcs).1;replace h1:=lU h1;have h2 :=by omega
  simp[Instr.index,asIntOf,run_underlying hu,h2,VS]
 grind
theorem Z4 {F a nt}(hF:cY w G μ nt F a){t p x}{lo hi:Option Operand}{cs u}(hp:VR w G μ p x)(h:aGO P t p (lo.map (ev F)) (hi.map (ev F))=some (cs,u))(hcs:mT cs=true) w1 :
  (Instr.sliceAt t x (lo.map a.eval) (hi.map a.eval) none).run P w1=.ok u w1:=by
 unfold aGO at h;split at h
 ·rename_i s hu;split at h
  ·rename_i b1 i b2 j h1 h2;obtain⟨rfl,rfl⟩:=h;subst hp;obtain⟨c1,hcs⟩:=aJ hcs;obtain⟨c2,hcs⟩:=aJ hcs;obtain⟨c3,hcs⟩:=aJ hcs;obtain⟨c4,_⟩:=aJ hcs;have hr:=kG (P:=P) (isSlice:=false) (q9 hF (jY h1 c1)) (q9 hF (jY h2 c2)) (oL c3) (oL c4) w1;simp[Instr.sliceAt,Instr.slice,run_underlying hu,hr]
  grind
 grind
theorem aE8 {op t p q x y ox oy cs u}(hp:VR w G μ p x)(hq:VR w G μ q y)(h:aTQ op p q=some (cs,u))(hcs:mT cs=true) w1 :
  (do eqGuard op t ox oy x y; binOp op t x y:Sem Value).run P w1=.ok u w1:=by
 unfold aTQ at h;split at h
 ·rename_i a b;subst hp; subst hq;have hg:(eqGuard op t ox oy (.string a) (.string b)).run P w1=.ok () w1:=by cases op <;> simp[eqGuard]
  have hb:(binOp op t (.string a) (.string b)).run P w1=.ok u w1:=by
   unfold aWV at h;split at h
   ·simp only[oJ,oP]at h;obtain⟨rfl,rfl⟩:=h;have h1:=oL (aJ hcs).1;have h2:¬ ((a.size+b.size:Nat):Int)>IntKind.i64.max:=by
     show ¬ ((a.size+b.size:Nat):Int)>9223372036854775807;omega
    simp only[binOp,Op.stringOp,h2,if_false,Sem.run_pure]
   all_goals first
    | (obtain⟨rfl,rfl⟩:=h
       simp[binOp,Op.stringOp,eqS,ltS,ByteArray.toList_eq])
    | cases h
  simp_all
 ·cases h
end
variable {P:Program} {n0:Nat->Prop} {w:World} {G:Gd} {μ:Mp} {H:Heap}
theorem YB {α:Type}{b x}{y:α}(h:(bif b then x else none)=some y):b=true/\x=some y:=by grind
theorem aD1(hW:aM n0 G μ H w) (o:Obj):Ext n0 w G μ (w.alloc o) G μ/\aM n0 G μ H (w.alloc o):=by
 have e:Ext n0 w G μ (w.alloc o) G μ:={
  bS:=λb hb=>⟨hb,Below.heap_alloc _ _ _ (hW.lt b hb)⟩
  map:=λ_ _ h=>h
  len:=λ_ _ h=>h
  room:=λc n hc=>by
   obtain⟨cs,t,fr,h1,h2⟩:=hc;exact⟨cs,t,fr,by rw[Below.heap_alloc _ _ _ (eI h1)]; exact h1,h2⟩
  row:=λ_ _ h=>h
  os:=rfl
  tape:=rfl
  output:=rfl
  size:=by simp
  old:=λc hc _=>Below.heap_alloc _ _ _ hc
  new:=λc hc=>.inl hc }
 refine⟨e,⟨λr k b hr hb=>?_,hW.tags,hW.inj,hW.lt.step e.bS λb hb=>Nat.lt_of_lt_of_le (hW.lt b hb) e.size,hW.top,λb hb=>hW.base b (oR e.size hb),?_⟩⟩
 ·obtain⟨c,h1,h2,h3,h4⟩:=hW.blk r k b hr hb;have e1:(w.alloc o).heap[b]?=w.heap[b]?:=Below.heap_alloc _ _ _ (eI h1);exact⟨c,e1.trans h1,aK.mono e.toMono e1 _ _ h2,h3,h4⟩
 ·exact hW.rows.step e.toMono.aF e.size (λ_=>rfl) (λj b hj=>⟨Below.heap_alloc _ _ _ (hW.rows.sep j b hj).1,id,λr k h1 h2 h3=>⟨r,k,h1,h2,h3⟩⟩) (λr k _ _ h1 _ _=>⟨k,h1,rfl,rfl,rfl,rfl⟩)
theorem aQD(hW:aM n0 G μ H w) {ra:Nat} {k:Blk} {gt:Ty} {l:List (List gt.den)} (hr:H[ra]?=some (some k)) (hkg:k.grown=false) (htag:k.tag=some ⟨.rows gt,l⟩) {b0:Nat} {row0:List gt.den}
  (hlt:b0<w.heap.size) (hn:n0 b0) (hG:¬ G b0) (hloc:∀ s k1,H[s]?=some (some k1)->k1.frozen=false->μ.loc s≠some b0) (hfresh:∀ j,G.row j≠some b0)
  (hcel:(∃ c t fr,w.heap[b0]?=some (.cells c t fr))\/∃ es clk,w.heap[b0]?=some (.map es clk)) (hat:∀ G':Gd,QX w G' k.ty b0 (aD gt row0)) :
  ∃ G' μ',Ext n0 w G μ w G' μ'/\aM n0 G' μ' ((H.set ra none)++[some ⟨aD (.rows gt) (l++[row0]),k.ty,false,k.frozen,some ⟨.rows gt,l++[row0]⟩⟩]) w/\G'.row l.length=some b0:=by
 obtain⟨a1,a2,a3⟩:=hW.rows.arn ra k gt l hr hkg htag;obtain⟨G',hG'⟩:∃ G':Gd,G'=⟨G.ok,λj=>if j=l.length then some b0 else G.row j⟩:=⟨_,rfl⟩;have hrow':∀ j b,G.row j=some b->G'.row j=some b:=λj b hj=>by
  rw[hG'];grind
 have hrow2:∀ j b,G'.row j=some b->(j=l.length/\b=b0)\/(j≠l.length/\G.row j=some b):=λj b hj=>by
  rw[hG']at hj;grind
 have hok:∀ b,G'.ok b=G.ok b:=λb=>by rw[hG']
 have e:Ext n0 w G μ w G' (upd μ H.length none (some (l++[row0]).length)):={ rS hW none (some (l++[row0]).length)with
  bS:=λb hb=>⟨by rw[hok]; exact hb,rfl⟩
  row:=hrow'
  new:=λb hb=>.inl (by rw[<- hok]; exact hb) }
 have hnewblk:(H.set ra none).length=H.length:=by simp
 have key:∀ (s:Nat) (k1:Blk),((H.set ra none)++[some ⟨aD (.rows gt) (l++[row0]),k.ty,false,k.frozen,some ⟨.rows gt,l++[row0]⟩⟩])[s]?=some (some k1) ->
   (s=H.length/\k1=⟨aD (.rows gt) (l++[row0]),k.ty,false,k.frozen,some ⟨.rows gt,l++[row0]⟩⟩)\/(s<H.length/\s≠ra/\H[s]?=some (some k1)):=by
  grind
 refine⟨G',_,e,⟨?_,?_,?_,hW.lt.step (λb hb=>⟨by rw[hok]; exact hb,rfl⟩) λb hb=>hW.lt b (by rw[<- hok]; exact hb),?_,hW.base,?_,?_,?_,?_,?_⟩,by rw[hG']; exact if_pos rfl⟩
 ·intro s k1 b hs hb;rcases key s k1 hs with ⟨rfl,rfl⟩|⟨h1,h2,h4⟩
  ·rw[cW]at hb; cases hb
  ·rw[(kV (by omega)).1]at hb;obtain⟨c,q1,q2,q3,q4,q5⟩:=hW.blk s k1 b h4 hb;rw[JB (by omega)];exact⟨c,q1,aK.mono e.toMono rfl _ _ q2,q3,λhf=>by rw[hok]; exact q4 hf,λhf=>by rw[hok]; exact q5 hf⟩
 ·intro s k1 g1 hs hg1;rcases key s k1 hs with ⟨rfl,rfl⟩|⟨h1,h2,h4⟩
  ·cases hg1;exact⟨rfl,gC _ _ _ _⟩
  ·rw[(kV (by omega)).2];exact hW.tags s k1 g1 h4 hg1
 ·intro x1 x2 k1 k2 b h1 h2 f1 f2 m1 m2;rcases key x1 k1 h1 with ⟨rfl,rfl⟩|⟨p1,p2,p4⟩
  ·rw[cW]at m1; cases m1
  ·rcases key x2 k2 h2 with ⟨rfl,rfl⟩|⟨q1,q2,q4⟩
   ·rw[cW]at m2; cases m2
   ·rw[(kV (by omega)).1]at m1 m2;exact hW.inj x1 x2 k1 k2 b p4 q4 f1 f2 m1 m2
 ·intro s hs;rw[oH,hnewblk]at hs;simp only[List.length_cons,List.length_nil]at hs;rw[(kV (by omega)).1,(kV (by omega)).2];exact hW.top s (by omega)
 ·intro i j b hi hj;rcases hrow2 i b hi with ⟨i1,i2⟩|⟨i1,i2⟩ <;> rcases hrow2 j b hj with ⟨j1,j2⟩|⟨j1,j2⟩
  ·rw[i1,j1]
  ·subst i2; exact absurd j2 (hfresh j)
  ·subst j2; exact absurd i2 (hfresh i)
  ·exact hW.rows.inj i j b i2 j2
 ·intro j b hj;have hsep:b<w.heap.size/\n0 b/\¬ G b/\∀ s k1,H[s]?=some (some k1)->k1.frozen=false->μ.loc s≠some b:=by
   rcases hrow2 j b hj with ⟨j1,j2⟩|⟨j1,j2⟩
   ·subst j2; exact⟨hlt,hn,hG,hloc⟩
   ·exact hW.rows.sep j b j2
  refine⟨hsep.1,hsep.2.1,by rw[hok]; exact hsep.2.2.1,λs k1 hs hf1 hl=>?_⟩;rcases key s k1 hs with ⟨rfl,rfl⟩|⟨h1,h2,h4⟩
  ·rw[cW]at hl; cases hl
  ·rw[(kV (by omega)).1]at hl;exact hsep.2.2.2 s k1 h4 hf1 hl
 ·intro j b hj;rcases hrow2 j b hj with ⟨j1,j2⟩|⟨j1,j2⟩
  ·subst j2; exact hcel
  ·exact hW.rows.cel j b j2
 ·intro s k1 t1 l1 hs hg1 ht1';rcases key s k1 hs with ⟨rfl,rfl⟩|⟨h1,h3,h4⟩
  ·cases ht1';refine⟨cW _ _ _ _,λj hj=>?_,λj row hj=>?_⟩
   ·rw[oH]at hj;simp only[List.length_cons,List.length_nil]at hj;rw[hG'];show (if j=l.length then some b0 else G.row j)=none;rw[if_neg (by omega)];exact a2 j (by omega)
   ·rcases oG j l.length with hlt|hge
    ·rw[List.getElem?_append_left hlt]at hj;rcases a3 j row hj with h0|⟨b,q1,q2⟩
     ·exact .inl h0
     ·exact .inr ⟨b,hrow' j b q1,q2.mono e.toMono.aF rfl⟩
    ·have hjl:j=l.length:=by
      have:=(oO.1 hj).1;simp only[oH,List.length_cons,List.length_nil]at this;omega
     subst hjl;rw[List.getElem?_append_right (oM _),Nat.sub_self]at hj;simp only[List.getElem?_cons_zero,oJ]at hj;subst hj;exact .inr ⟨b0,by rw[hG']; exact if_pos rfl,hat _⟩
  ·exact absurd (hW.rows.one s ra k1 k t1 l1 gt l h4 hg1 ht1' hr hkg htag) h3
 ·intro x1 x2 k1 k2 t1 l1 t2 l2 h1 g1 q1 h2 g2 q2;have old:∀ (s:Nat) (k1:Blk) (t1:Ty) (l1:List (List t1.den)),((H.set ra none)++[some ⟨aD (.rows gt) (l++[row0]),k.ty,false,k.frozen,some ⟨.rows gt,l++[row0]⟩⟩])[s]?=some (some k1)->k1.grown=false->k1.tag=some ⟨.rows t1,l1⟩->s=H.length:=by
   intro s k1 t1 l1 h1 g1 q1;rcases key s k1 h1 with ⟨rfl,_⟩|⟨_,h3,h4⟩
   ·rfl
   ·exact absurd (hW.rows.one s ra k1 k t1 l1 gt l h4 g1 q1 hr hkg htag) h3
  rw[old x1 k1 t1 l1 h1 g1 q1,old x2 k2 t2 l2 h2 g2 q2]
theorem LJ {r k l}(h:XY H=some (r,k,l)):H[r]?=some (some k)/\k.grown=false/\k.tag=some ⟨.rows .str,l⟩/\k.ty=yH:=by
 unfold XY at h;split at h
 ·rename_i r' k' har;split at h
  ·obtain⟨hb,h⟩:=fA h;obtain⟨h1,h2⟩:=DV har
   simp_all
  grind
 grind
theorem U4 {t}(h:YF P t=true):∃ k e,P.underlying t=some (.map k e)/\P.underlying k=some .string/\pL P e=some (.bool false):=by
 unfold YF at h;grind
theorem TF(hW:aM n0 G μ H w){t v cs H' c}(h:HY P H t=some (cs,v,H',c)):c=2/\kK P n0 w G μ (Instr.makeMap t none) v H':=by
 unfold HY at h;split at h
 ·rename_i r k l har;obtain⟨_,h⟩:=fA h;obtain⟨rfl,rfl,rfl,rfl⟩:=h;refine⟨rfl,?_⟩;obtain⟨h1,h2,h3,h4⟩:=LJ har;obtain⟨e1,hW1⟩:=aD1 hW (.map #[] 0);have hnew:(w.alloc (.map #[] 0)).heap[w.heap.size]?=some (.map #[] 0):=(MapKept.heap_alloc w _).1;obtain⟨G',μ',e2,hW2,hrow⟩:=aQD hW1 h1 h2 h3 (row0:=[]) (by simp) (hW.base _ (oM _)) (λhg=>Nat.lt_irrefl _ (hW.lt _ hg))
   (λs k1 hs _ hl=>Nat.lt_irrefl _ (hW.hZ hs hl)) (λj hj=>Nat.lt_irrefl _ (hW.rows.sep j _ hj).1) (.inr ⟨_,_,hnew⟩) (λG'=>.inr ⟨h4,_,_,hnew,rfl,λe he=>by grind⟩)
  exact⟨.map (some w.heap.size),_,G',μ',by rfl,e1.trans e2,hW2,by rw[VR]; grind⟩
 grind
theorem aDS:∀ {es:List MapEntry} {row:List ByteArray},aD .str row=es.map (λe=>PV.lit e.key)->es.map (·.key)=row.map Value.string
 | [],[],_=>rfl
 | [],x::row,h=>by simp[aD,enc]at h
 | e::es,[],h=>by simp[aD,enc]at h
 | e::es,x::row,h=>by
  rw[fH]at h;simp only[enc,List.map_cons,List.cons_append,List.nil_append,List.cons.injEq,PV.lit.injEq]at h;rw[List.map_cons,List.map_cons,aDS h.2,h.1]
theorem SG {a b}:eqS a b=true↔a=b:=by
 unfold eqS;constructor
 ·cases a; simp_all
 grind
theorem TA {s}:∀ {row},K9 row s=true↔s∈row
 | []=>by simp[K9]
 | x::row=>by
  rw[K9];cases h:eqS x s with
  | true=>simp[(SG.1 h)]
  | false =>
   have:¬ x=s:=λe=>by rw[SG.2 e]at h; grind
   simp only[oD,TA];grind
theorem XB {es row}(h:es.map (·.key)=row.map Value.string) s :
  (K9 row s=false/\Instr.findNow .string (.string s) es 0=some none)\/∃ j e,K9 row s=true/\Instr.findNow .string (.string s) es 0=some (some (j,e.val))/\es[j]?=some e/\e.key=.string s:=by
 have hmem:∀ v:Value,v∈row.map Value.string↔∃ x∈row,Value.string x=v:=λv=>List.mem_map
 have hall:∀ x∈es,MapKept.IsKey .string x.key:=λx hx=>by
  have:x.key∈row.map Value.string:=by grind
  obtain⟨y,_,hy⟩:=(hmem _).1 this;rw[<- hy]; trivial
 rcases MapKept.findNow_spec (d:=.string) (k:=.string s) trivial es 0 hall with ⟨h1,h2⟩|⟨j,e,h1,h2,h3⟩
 ·left;refine⟨?_,h1⟩;cases hh:K9 row s with
  | false=>rfl
  | true =>
   have hs:=TA.1 hh;have:Value.string s∈es.map (·.key):=by grind
   grind
 ·right;rw[Nat.zero_add]at h1;refine⟨j,e,?_,h1,h2,h3⟩;have:Value.string s∈row.map Value.string:=by grind
  obtain⟨x,hx,hx2⟩:=(hmem _).1 this;cases hx2;exact TA.2 hx
theorem aO7(hW:aM n0 G μ H w) {r j:Nat} {k:Blk} {l:List (List ByteArray)} (har:XY H=some (r,k,l)) (hj:j<l.length) {x:Value} (hm:VR w G μ (.mp j) x) :
  ∃ b es clk,x=.map (some b)/\G.row j=some b/\w.heap[b]?=some (.map es clk)/\es.toList.map (·.key)=(l.getD j []).map Value.string/\(∀ e∈es.toList,e.val=.bool true)/\l[j]?=some (l.getD j []):=by
 obtain⟨h1,h2,h3,h4⟩:=LJ har;obtain⟨_,_,a3⟩:=hW.rows.arn r k .str l h1 h2 h3;have hg:l[j]?=some (l.getD j []):=by rw[oQ,List.getElem?_eq_getElem hj]; rfl
 obtain⟨b,m1,rfl⟩:=hm;rcases a3 j _ hg with ⟨_,h0⟩|⟨b',q1,q2⟩
 ·grind
 ·rw[m1]at q1; cases q1;rcases q2 with ⟨q3,_⟩|⟨_,es,clk,q3,q4,q5⟩
  ·grind
  ·exact⟨b,es,clk,rfl,m1,q3,aDS q4,q5,hg⟩
theorem VZ(hW:aM n0 G μ H w){t m k v x y cs H' c}(hm:VR w G μ m x)(hk:VR w G μ k y)(h:R4 P H t m k=some (cs,v,H',c))(hcs:mT cs=true) :
  H'=H/\c=1/\∃ v',(Instr.lookup t x y false).run P w=.ok v' w/\VR w G μ v v':=by
 unfold R4 at h;split at h
 ·rename_i j s;split at h
  ·rename_i r b l har;obtain⟨hok,h⟩:=fA h;obtain⟨rfl,rfl,rfl,rfl⟩:=h;refine⟨rfl,rfl,?_⟩;obtain⟨kt,et,u1,u2,u3⟩:=U4 hok;have hlt:=cF (aJ hcs).1;obtain⟨b,es,clk,rfl,_,g2,g3,g4,_⟩:=aO7 hW har hlt hm;subst hk;have hc:∀ em,(Instr.checkKey em 10000 kt (.string s)).run P w=.ok () w:=λem=>MapKept.run_checkKey (k:=.string s) u2 trivial em 9999
   refine⟨.bool (K9 (l.getD j []) s),?_,by rw[VR]⟩;rcases XB g3 s with ⟨f1,f2⟩|⟨i,e,f1,f2,f3,f4⟩
   ·rw[f1];simp[Instr.lookup,run_underlying u1,MapKept.run_getObj_map g2,hc,MapKept.run_findKey u2 f2,OQ u3]
   ·have hv:=g4 e (List.mem_of_getElem? f3);rw[f1];simp[Instr.lookup,run_underlying u1,MapKept.run_getObj_map g2,hc,MapKept.run_findKey u2 f2,Result.andThen,hv]
  ·cases h
 ·cases h
theorem aD3 {t}(h:aGM P t=true):∃ k e,P.underlying t=some (.map k e)/\P.underlying k=some .string/\pL P e=some (.int .i64 0):=by
 unfold aGM at h;split at h
 ·split at h
  ·split at h
   ·rw[dE]at h;grind
   grind
  grind
 grind
theorem XM {s:ByteArray}:∀ {es:List MapEntry} {l:List (ByteArray×Int)} (i:Nat),es.map (λe=>(e.key,e.val))=l.map (λp=>(Value.string p.1,Value.int .i64 p.2)) ->
  (aKA l s=false/\getM l s=0/\Instr.findNow .string (.string s) es i=some none)\/∃ j,aKA l s=true/\Instr.findNow .string (.string s) es i=some (some (j,.int .i64 (getM l s)))
 | [],[],i,_=>.inl ⟨rfl,rfl,rfl⟩
 | [],_::_,i,h=>by simp at h
 | _::_,[],i,h=>by simp at h
 | e::es,x::l,i,h=>by
  simp only[List.map_cons,List.cons.injEq,oP]at h;obtain⟨⟨h1,h2⟩,h3⟩:=h;obtain⟨r,hr,hiff⟩:=MapKept.sameNow_of_keys (d:=.string) (a:=.string s) (b:=.string x.1) trivial trivial;rw[aKA,getM,Instr.findNow,h1,hr];cases hs:eqS x.1 s with
  | true =>
   have:=SG.1 hs
   simp_all
  | false =>
   have hn:r=false:=by
    cases r with
    | false=>rfl
    | true =>
     have:=hiff.1 rfl;simp only[Value.string.injEq]at this;rw[SG.2 this.symm]at hs; cases hs
   rw[hn];exact XM (i+1) h3
theorem UT {t m k v x y cs H' c}(hm:VR w G μ m x)(hk:VR w G μ k y)(h:A7 P H t m k=some (cs,v,H',c)) :
  H'=H/\c=0/\(∀ H2,A7 P H2 t m k=some (cs,v,H2,c))/\∃ v',(Instr.lookup t x y true).run P w=.ok v' w/\VR w G μ v v':=by
 unfold A7 at h;split at h
 ·rename_i l s;obtain⟨hok,h⟩:=fA h;obtain⟨rfl,rfl,rfl,rfl⟩:=h;refine⟨rfl,rfl,λH2=>by unfold A7; rw[hok]; rfl,?_⟩;obtain⟨kt,et,u1,u2,u3⟩:=aD3 hok;obtain⟨b,es,clk,rfl,_,g2,g3⟩:=hm;subst hk;have hc:∀ em,(Instr.checkKey em 10000 kt (.string s)).run P w=.ok () w:=λem=>MapKept.run_checkKey (k:=.string s) u2 trivial em 9999
  refine⟨.tuple #[.int .i64 (getM l s),.bool (aKA l s)],?_,?_⟩
  ·rcases XM (s:=s) 0 g3 with ⟨f0,f1,f2⟩|⟨i,f1,f2⟩
   ·rw[f0,f1];simp[Instr.lookup,run_underlying u1,MapKept.run_getObj_map g2,hc,MapKept.run_findKey u2 f2,OQ u3,Result.andThen]
   ·rw[f1];simp[Instr.lookup,run_underlying u1,MapKept.run_getObj_map g2,hc,MapKept.run_findKey u2 f2,Result.andThen]
  ·rw[VR];refine⟨_,rfl,?_⟩;exact⟨_,_,rfl,rfl,_,_,rfl,rfl,rfl⟩
 ·cases h
theorem aN8(hW:aM n0 G μ H w) {r:Nat} {k:Blk} {t:Ty} {l l':List (List t.den)} (hr:H[r]?=some (some k)) (hg:k.grown=false) (ht:k.tag=some ⟨.rows t,l⟩) {j b:Nat} (hb:G.row j=some b) {es es':Array MapEntry} {clk clk':Nat} (hc:w.heap[b]?=some (.map es clk))
  (hl:l'.length=l.length) (hne:∀ i,i≠j->l'[i]?=l[i]?) {row:List t.den} (hj:l'[j]?=some row) (hk:QX (w.putObj b (.map es' clk')) G k.ty b (aD t row)) :
  Ext n0 w G μ (w.putObj b (.map es' clk')) G μ/\aM n0 G μ (H.set r (some { k with cells:=aD (.rows t) l',tag:=some ⟨.rows t,l'⟩ })) (w.putObj b (.map es' clk')):=by
 obtain⟨s1,s2,s3,s4⟩:=hW.rows.sep j b hb;obtain⟨a1,a2,a3⟩:=hW.rows.arn r k t l hr hg ht;have oth:∀ x,x≠b->(w.putObj b (.map es' clk')).heap[x]?=w.heap[x]?:=λx hx=>World.putObj_heap_other hx
 have at_:(w.putObj b (.map es' clk')).heap[b]?=some (.map es' clk'):=by simp[World.putObj,Array.getElem?_setIfInBounds,s1]
 have e:Ext n0 w G μ (w.putObj b (.map es' clk')) G μ:={
  bS:=λx hx=>⟨hx,oth x (by rintro rfl; exact s3 hx)⟩
  map:=λ_ _ h=>h
  len:=λ_ _ h=>h
  room:=λx n hx=>by
   obtain⟨cs,t',fr,g1,g2⟩:=hx
   by_cases hxb:x=b
   ·grind
   ·exact⟨cs,t',fr,by rw[oth x hxb]; exact g1,g2⟩
  row:=λ_ _ h=>h
  os:=rfl
  tape:=rfl
  output:=rfl
  size:=by rw[World.putObj_size]; exact oM _
  old:=λx _ hx=>oth x (by rintro rfl; exact hx s2)
  new:=λ_ h=>.inl h }
 refine⟨e,?_⟩;have hrl:r<H.length:=(oO.1 hr).1;have hkey:∀ (s:Nat) (k1:Blk),(H.set r (some { k with cells:=aD (.rows t) l',tag:=some ⟨.rows t,l'⟩ }))[s]?=some (some k1)->(s=r/\k1={ k with cells:=aD (.rows t) l',tag:=some ⟨.rows t,l'⟩ })\/(s≠r/\H[s]?=some (some k1)):=by grind
 have notb:∀ (s:Nat) (k1:Blk) (x:Nat),H[s]?=some (some k1)->μ.loc s=some x->x≠b:=by
  intro s k1 x hs hx hxb;subst hxb;obtain⟨c,h1,_⟩:=hW.blk s k1 x hs hx;grind
 refine⟨?_,?_,?_,?_,?_,λb hb=>hW.base b (oR e.size hb),?_,?_,?_,?_,?_⟩
 ·intro s k2 b2 hs2 hb2;rcases hkey s k2 hs2 with ⟨rfl,rfl⟩|⟨_,hs'⟩
  ·grind
  ·obtain⟨c2,g2,g3,g4⟩:=hW.blk s k2 b2 hs' hb2;have hne:=notb s k2 b2 hs' hb2;exact⟨c2,(oth b2 hne).trans g2,aK.mono e.toMono (oth b2 hne) _ _ g3,g4⟩
 ·intro s k2 g hs2 hg2;rcases hkey s k2 hs2 with ⟨rfl,rfl⟩|⟨_,hs'⟩
  ·cases hg2;exact⟨rfl,by rw[(hW.tags s k _ hr ht).2]; exact oZ some hl.symm⟩
  ·exact hW.tags s k2 g hs' hg2
 ·intro x1 x2 k1 k2 b2 e1 e2 f1 f2 m1 m2;have old:∀ (s:Nat) (k1:Blk),(H.set r (some { k with cells:=aD (.rows t) l',tag:=some ⟨.rows t,l'⟩ }))[s]?=some (some k1)->k1.frozen=false->∃ k0,H[s]?=some (some k0)/\k0.frozen=false:=by grind
  obtain⟨k3,e3,f3⟩:=old x1 k1 e1 f1;obtain⟨k4,e4,f4⟩:=old x2 k2 e2 f2;exact hW.inj x1 x2 k3 k4 b2 e3 e4 f3 f4 m1 m2
 ·refine hW.lt.step e.bS λb hb=>?_
  rw[World.putObj_size]; exact hW.lt b hb
 ·intro s hs2;rw[List.length_set]at hs2;exact hW.top s hs2
 ·exact hW.rows.inj
 ·intro j1 b1 h1;obtain⟨q1,q2,q3,q4⟩:=hW.rows.sep j1 b1 h1;refine⟨by rw[World.putObj_size]; exact q1,q2,q3,λs k1 hs1 hf1 hl1=>?_⟩;rcases hkey s k1 hs1 with ⟨rfl,rfl⟩|⟨_,hs'⟩
  ·rw[a1]at hl1; cases hl1
  ·exact q4 s k1 hs' hf1 hl1
 ·intro j1 b1 h1
  by_cases hb1:b1=b
  ·subst hb1; exact .inr ⟨_,_,at_⟩
  ·rw[oth b1 hb1]; exact hW.rows.cel j1 b1 h1
 ·intro s k1 t1 l1 hs1 hg1 ht1;rcases hkey s k1 hs1 with ⟨rfl,rfl⟩|⟨hne1,hs'⟩
  ·cases ht1;refine⟨a1,λi hi=>a2 i (by omega),λi row1 hi=>?_⟩
   by_cases hij:i=j
   ·subst hij;rw[hj]at hi; cases hi;exact .inr ⟨b,hb,hk⟩
   ·rw[hne i hij]at hi;rcases a3 i row1 hi with h0|⟨b1,q1,q2⟩
    ·exact .inl h0
    ·have hbb:b1≠b:=by rintro rfl; exact hij (hW.rows.inj i j b1 q1 hb)
     exact .inr ⟨b1,q1,q2.mono e.toMono.aF (oth b1 hbb)⟩
  ·exact absurd (hW.rows.one s r k1 k t1 l1 t l hs' hg1 ht1 hr hg ht) hne1
 ·intro x1 x2 k1 k2 t1 l1 t2 l2 h1 g1 t1' h2 g2 t2';have old:∀ (s:Nat) (k1:Blk) t1 l1,(H.set r (some { k with cells:=aD (.rows t) l',tag:=some ⟨.rows t,l'⟩ }))[s]?=some (some k1)->k1.grown=false->k1.tag=some ⟨.rows t1,l1⟩->s=r:=by
   intro s k1 t1 l1 h1 g1 q1;rcases hkey s k1 h1 with ⟨rfl,rfl⟩|⟨_,hs'⟩
   ·rfl
   ·exact hW.rows.one s r k1 k t1 l1 t l hs' g1 q1 hr hg ht
  rw[old x1 k1 t1 l1 h1 g1 t1',old x2 k2 t2 l2 h2 g2 t2']
theorem XV:∀ {es:List MapEntry} {row:List ByteArray},es.map (·.key)=row.map Value.string->aD .str row=es.map (λe=>PV.lit e.key)
 | [],[],_=>rfl
 | [],x::row,h=>by grind
 | e::es,[],h=>by grind
 | e::es,x::row,h=>by
  simp only[List.map_cons,List.cons.injEq]at h;rw[fH,XV h.2,List.map_cons,h.1];rfl
theorem aF7 {t kt et:TypeId} {b clk:Nat} {es:Array MapEntry} {row:List ByteArray} (u1:P.underlying t=some (.map kt et)) (u2:P.underlying kt=some .string) (hb:w.heap[b]?=some (.map es clk))
  (hk:es.toList.map (·.key)=row.map Value.string) (hv:∀ e∈es.toList,e.val=.bool true) (s:ByteArray) :
  ∃ es' clk',(Instr.mapUpdate t (.map (some b)) (.string s) (.bool true)).run P w=.ok () (w.putObj b (.map es' clk'))/\es'.toList.map (·.key)=(aET row s).map Value.string/\∀ e∈es'.toList,e.val=.bool true:=by
 have hc:(Instr.checkKey false 10000 kt (.string s)).run P w=.ok () w:=MapKept.run_checkKey (k:=.string s) u2 trivial false 9999;rcases XB hk s with ⟨f1,f2⟩|⟨i,e,f1,f2,f3,f4⟩
 ·refine⟨es.push { key:=.string s,val:=.bool true,born:=clk },clk+1,?_,?_,?_⟩
  ·simp[Instr.mapUpdate,run_underlying u1,MapKept.run_getObj_map hb,hc,MapKept.run_findKey u2 f2,MapKept.run_setObj_map _ hb,Result.andThen,World.putObj]
  ·rw[Array.toList_push,List.map_append,hk];unfold aET;grind
  ·grind
 ·have hi:es[i]?=some e:=by rw[<- Array.getElem?_toList]; exact f3
  have hkey:(((es[i]?).map (·.key)).getD (.string s))=.string s:=by rw[hi]; exact f4
  have hkt:(Instr.keyThatStays (.string s) (.string s)).run P w=.ok (.string s) w:=by
   have hsb:Instr.sameBits 10000 (.string s) (.string s)=true:=MapKept.sameBits_self (d:=.string) (k:=.string s) trivial 10000;simp[Instr.keyThatStays,hsb]
  refine⟨es.modify i λe=>{ e with key:=.string s,val:=.bool true },clk,?_,?_,?_⟩
  ·simp only[Instr.mapUpdate,Sem.run_bind,run_underlying u1,MapKept.run_getObj_map hb,hc,MapKept.run_findKey u2 f2,Result.andThen,hkey,hkt,MapKept.run_setObj_map _ hb];rfl
  ·rw[MapKept.modify_keys i _ (λe' he'=>by rw[hi]at he'; cases he'; exact f4.symm),hk];unfold aET;grind
  ·intro e' he';obtain⟨n,hn,rfl⟩:=List.getElem_of_mem he';grind
theorem VX(hW:aM n0 G μ H w){t m k v u x y z cs H' c}(hm:VR w G μ m x)(hk:VR w G μ k y)(hz:VR w G μ v z)(h:NU P H t m k v=some (cs,u,H',c))(hcs:mT cs=true) :
  u=.lit undef/\c=2/\∃ w',(Instr.mapUpdate t x y z).run P w=.ok () w'/\Ext n0 w G μ w' G μ/\aM n0 G μ H' w':=by
 unfold NU at h;split at h
 ·rename_i j s;split at h
  ·rename_i r b l har;obtain⟨hok,h⟩:=fA h;obtain⟨rfl,rfl,rfl,rfl⟩:=h;obtain⟨kt,et,u1,u2,u3⟩:=U4 hok;have hlt:=cF (aJ hcs).1;obtain⟨bb,es,clk,rfl,g1,g2,g3,g4,g5⟩:=aO7 hW har hlt hm;obtain⟨h1,h2,h3,h4⟩:=LJ har;subst hk; subst hz;obtain⟨es',clk',p1,p2,p3⟩:=aF7 u1 u2 g2 g3 g4 s;have hbl:=(hW.rows.sep j bb g1).1;have:=aN8 (t:=.str) hW h1 h2 h3 g1 (es':=es') (clk':=clk') g2 (l':=aEV l j s) (by unfold aEV; rw[List.length_set]) (λi hi=>by unfold aEV; grind) (row:=aET (l.getD j []) s) (by unfold aEV; rw[List.getElem?_set_self hlt]) (.inr ⟨h4,es',clk',by simp[World.putObj,Array.getElem?_setIfInBounds,hbl],XV p2,p3⟩)
   grind
  ·cases h
 ·cases h
theorem ZN(hW:aM n0 G μ H w) {w'} (hold:∀ j,j<w.heap.size->w'.heap[j]?=w.heap[j]?) (hsz:w'.heap.size=w.heap.size+1) (h1:w'.os=w.os) (h2:w'.tape=w.tape) (h3:w'.output=w.output) :
  Ext n0 w G μ w' (G.or λx=>x=w.heap.size) μ/\aM n0 (G.or λx=>x=w.heap.size) μ H w':=by
 have e:Ext n0 w G μ w' (G.or λx=>x=w.heap.size) μ:={
  bS:=λb hb=>⟨.inl hb,hold b (hW.lt b hb)⟩
  map:=λ_ _ h=>h
  len:=λ_ _ h=>h
  room:=λb n hc=>by
   obtain⟨cs,t,fr,h1,h2⟩:=hc;exact⟨cs,t,fr,by grind,h2⟩
  row:=λ_ _ h=>h
  os:=h1
  tape:=h2
  output:=h3
  size:=by omega
  old:=λb hb _=>hold b hb
  new:=λb hb=>by
   rcases hb with hb|rfl
   ·grind
   ·exact .inr (hW.base _ (oM _)) }
 refine⟨e,hW.aU e ⟨λ_=>rfl,λj b hj=>⟨hold _ (hW.rows.sep j b hj).1,?_⟩⟩ ?_ ?_⟩
 ·rintro(h|rfl)
  ·exact h
  ·exact absurd (hW.rows.sep j _ hj).1 (Nat.lt_irrefl _)
 ·intro r k b hr hb;have hlt:=hW.hZ hr hb;refine⟨hold _ hlt,?_⟩;rintro(h|rfl)
  ·exact h
  ·omega
 ·rintro b (hb|rfl)
  ·have:=hW.lt b hb; omega
  grind
theorem aJS {e}(h:aTD P e=true):P.underlying e=some (.int .u8):=by
 unfold aTD at h;grind
theorem XZ {t}(h:aM8 P t=true):∃ e,P.underlying t=some (.slice e)/\P.underlying e=some (.int .u8):=by
 unfold aM8 at h;split at h
 ·rename_i e he;exact⟨e,he,aJS h⟩
 grind
theorem WZ {t}(h:aR8 P t=true):P.underlying t=some .string:=by
 unfold aR8 at h;grind
theorem X1(l:List Int):aD (.int .u8) l=l.map λn=>PV.lit (.int .u8 n):=by
 induction l with
 | nil=>rfl
 | cons x l ih=>rw[fH,ih]; rfl
theorem aD4(hW:aM n0 G μ H w){s d p v x cs H' c}(hp:VR w G μ p x)(h:aC2 P H s d p=some (cs,v,H',c)):H'=H/\kK P n0 w G μ (convert s d x) v H:=by
 unfold aC2 at h;split at h
 ·rename_i b;obtain⟨hc,h⟩:=YB h;obtain⟨rfl,rfl,rfl,rfl⟩:=h;rw[oA]at hc;subst hp;obtain⟨e,hd,he⟩:=XZ hc.2;have hr:=Lib.run_convert_string_bytes (P:=P) w s d e b (WZ hc.1) hd he;obtain⟨e1,e2⟩:=ZN hW (w':=Lib.bytesWorld w e b) (λj hj=>Lib.bytesWorld_at_old w e b j hj) (Lib.bytesWorld_size w e b) rfl rfl rfl;refine⟨rfl,_,_,_,_,hr,e1,e2,E2 ?_⟩;have hlen:(aAA b).length=b.size:=by simp[aAA]
  refine⟨_,_,by rw[hlen],by rw[hlen]; exact grownCap_ge _ _ _ _,λk hk=>(by cases hk),.inr ⟨w.heap.size,0,rfl,.inr rfl,?_⟩⟩;rw[X1];refine aK.mk λj q hq=>?_
  rw[List.getElem?_map]at hq;unfold aAA at hq;rw[List.getElem?_map]at hq;cases hb:b.data.toList[j]? with
  | none=>rw[hb]at hq; cases hq
  | some u =>
   rw[hb]at hq;cases hq;have hj:j<b.size:=by
    have:=(oO.1 hb).1
    simp_all
   refine⟨_,by rw[Nat.zero_add]; exact Lib.bytesWorld_cell w e b j hj,?_⟩;rw[VR,oQ,hb];rfl
 ·rename_i r sz;obtain⟨hc,h⟩:=YB h;split at h
  ·rename_i g hg;split at h
   ·rename_i l hl;obtain⟨rfl,rfl,rfl,rfl⟩:=h;rw[oA]at hc;obtain⟨e,hs,he⟩:=XZ hc.1;have hd:=WZ hc.2;obtain⟨kb,hk1,hk2⟩:=pQ hg;obtain⟨ht1,ht2⟩:=hW.tags r kb g (aE hk1) hk2;obtain⟨hty,hl⟩:=fY hl;obtain⟨gt,gl⟩:=g;dsimp only at hty hl ht1 ht2;subst hty;subst hl;refine⟨rfl,.same hW (v':=.string (aMR gl)) ?_ (by rw[VR])⟩;obtain⟨m,h1,h2⟩:=hp;rw[ht2]at h1;cases h1;rcases h2 with ⟨h2,ao,rfl⟩|⟨b,c',h3,rfl,h5,h6⟩
    ·have hnil:gl=[]:=List.eq_nil_of_length_eq_zero h2;subst hnil;rw[run_convert_bytes_string w s d e _ _ _ hs he hd];cases ao with
     | none=>rfl
     | some a=>exact run_bytesToString w a 0 _ [] (by simp[loadCells,loadCellsFrom,Sem.run_pure])
    ·rw[run_convert_bytes_string w s d e _ _ _ hs he hd];obtain⟨c'',g2,g3,_⟩:=hW.blk r kb b (aE hk1) h3;rw[ht1,X1]at g3;refine run_bytesToString w _ _ _ gl ?_;have:=run_loadCells (P:=P) (w:=w) (b:=b) (off:=μ.sh r) (vs:=gl.map (Value.int .u8)) λj hj=>by
      rw[List.length_map]at hj;obtain⟨u,q1,q2⟩:=g3.get (i:=j) (p:=PV.lit (.int .u8 gl[j])) (by simp[hj]);rw[q1,q2];simp
     grind
   ·cases h
  ·cases h
 ·cases h
section
variable {t u e:TypeId} {i:TypeInfo} {z:Value} {ku:IntKind} (ht:P.underlying t=some (.slice e)) (hu:P.underlying u=some (.int ku)) (hi:P.info? e=some i) (hz:i.zero=some z)
include ht hu hi hz
theorem DM(hzs:z.cells.size=i.size) (hb1:i.bytes<=65536) {k l c:Nat} {kq:IntKind} {ty:TypeId} {ao:Option Addr} (hn:k<=1048576) (hfit:l+k<=c) {w':World}
  (hst:match ao with|some a=>(storeCells (a.add (l*i.size)) (Builtin.zeroCells z.cells k).toList).run P w=.ok () w'|none=>w'=w) :
  (Builtin.append_ #[t,u] ty #[.slice ao l c,.int kq (k:Int)]).run P w=.ok (.slice ao (l+k) c) w':=by
 have hw:IntKind.i64.wrap (k:Int)=k:=by rw[IntKind.wrap_i64]; omega
 have hneg:¬ ((k:Int)<0):=by omega
 have h48:¬ (281474976710656<(k:Int)*(i.bytes:Int)):=by
  have:k*i.bytes<=1048576*65536:=Nat.mul_le_mul hn hb1;rw[<- Int.natCast_mul]; omega
 by_cases hz0:k*i.size=0
 ·have hvs:Builtin.zeroCells z.cells k=#[]:=by
   apply Array.eq_empty_of_size_eq_zero;rw[gE,hzs]; exact hz0
  rw[hvs]at hst;cases ao with
  | none=>simp only at hst; subst hst; simp[Builtin.append_,run_underlying ht,run_underlying hu,sizeOf,typeInfo,zeroValue,hi,hz,asInt,asIntOf,hw,hneg,h48,hfit,hz0]
  | some a=>simp only at hst; simp[Builtin.append_,run_underlying ht,run_underlying hu,sizeOf,typeInfo,zeroValue,hi,hz,asInt,asIntOf,hw,hneg,h48,hfit,hz0,show (storeCells (a.add (l*i.size)) []).run P w=.ok () w' by simpa using hst]
 ·cases ao with
  | none=>simp only at hst; subst hst; simp[Builtin.append_,run_underlying ht,run_underlying hu,sizeOf,typeInfo,zeroValue,hi,hz,asInt,asIntOf,hw,hneg,h48,hfit,hz0]
  | some a=>simp only at hst; simp[Builtin.append_,run_underlying ht,run_underlying hu,sizeOf,typeInfo,zeroValue,hi,hz,asInt,asIntOf,hw,hneg,h48,hfit,hz0,hst]
theorem DQ(hzs:z.cells.size=i.size) (hpos:0<i.size) (hb1:i.bytes<=65536) {k l c kq ty ao} (hb2:k<=1048576) (hb3:l<=1048576) (hfit:¬ l+k<=c)
  {os} (ho:∀ w1 ,w1.heap=w.heap->(Builtin.firstCells i.size l (.slice ao l c)).run P w1=.ok os w1) (hlc:l<=c) :
  ∃ c',l+k<=c'/\(Builtin.append_ #[t,u] ty #[.slice ao l c,.int kq k]).run P w=.ok (.slice (some ⟨w.heap.size,0,none⟩) (l+k) c') (w.drew.alloc (.cells (os++Builtin.zeroCells z.cells k++Builtin.zeroCells z.cells (c'-(l+k))) e)):=by
 have hcap:Builtin.nextslicecap (l+k) c*i.bytes<=281474976710656:=by
  have h1:=nextslicecap_le (need:=l+k) (old:=c) (by omega);have h2 :=Nat.mul_le_mul (by omega) hb1;omega
 have h48:k*i.bytes<=281474976710656:=by
  have :=Nat.mul_le_mul hb2 hb1;omega
 refine⟨grownCap w (l+k) c e,grownCap_ge _ _ _ _,?_⟩;have h:=Lib.run_append_grow_zeros w t u ty e i z kq ku ht hu hi hz ao l c os.toList (ho w.drew rfl) k (by omega) hpos (by omega) (by omega) h48 hcap;omega
theorem HE(hW:aM n0 G μ H w){ty}(hsz:i.size=ty.size)(hb1:i.bytes<=65536)(hzs:z.cells.size=i.size)(hpos:0<i.size){kq}{k0:Nat}{d0}(hdz:VRs w G aF (enc ty d0) z.cells.toList){tt ao}(hn:k0<=1048576) :
  kK P n0 w G μ (Builtin.append_ #[t,u] tt #[.slice ao 0 0,.int kq k0]) (.own H.length ty.size) (H++[some ⟨aD ty (List.replicate k0 d0),e,true,false,some ⟨ty,List.replicate k0 d0⟩⟩]):=by
 have s2:VRs w G μ (aD ty (List.replicate k0 d0)) (Builtin.zeroCells z.cells k0).toList:=by rw[AA]; exact(mQ hdz k0).aP
 by_cases h0:k0=0
 ·subst h0;have:=DM (w:=w) (w':=w) (ty:=tt) (kq:=kq) (ao:=ao) (l:=0) (c:=0) (k:=0) ht hu hi hz hzs hb1 (by omega) (by omega) (by cases ao <;> simp[Builtin.zeroCells,storeCells]);exact XH hW (by simp) this
 ·obtain⟨c',q1,q2⟩:=DQ (w:=w) (ty:=tt) (kq:=kq) (ao:=ao) (l:=0) (c:=0) (k:=k0) ht hu hi hz hzs hpos hb1 hn (by omega) (by omega) (os:=#[]) (λw1 _=>by
   cases ao with
   | none=>rfl
   | some a=>simp[Builtin.firstCells,loadCells,loadCellsFrom]) (oM _)
  rw[Nat.zero_add]at q1 q2;have hll:(List.replicate k0 d0).length=k0:=List.length_replicate;exact DS hW (os:=#[]) (by simpa using s2) (by rw[hll]; exact q1) (by rw[gE,hzs,hsz,hll]) (by grind)
theorem WI(hW:aM n0 G μ H w) {ty} (hsz:i.size=ty.size) (hb1:i.bytes<=65536) (hzs:z.cells.size=i.size) {kq} {k0:Nat} {d0} (hdz:VRs w G aF (enc ty d0) z.cells.toList) {l tt} (hn:k0<=1048576) (hl:l.length<=1048576)
  {r k} (hk:dY H r=some k) (hf:k.frozen=false) (hg:k.grown=true) (hte:k.ty=e) (htag:k.tag=some ⟨ty,l⟩) {b c} (hb:μ.loc r=some b) (hlc:l.length<=c) (hroom:Room w b (μ.sh r+c*ty.size)) (hs0:μ.sh r=0) (hpos:0<i.size) :
  kK P n0 w G μ (Builtin.append_ #[t,u] tt #[.slice (some ⟨b,μ.sh r,none⟩) l.length c,.int kq k0]) (.own H.length ty.size) (H.set r none++[some ⟨aD ty (l++List.replicate k0 d0),e,true,false,some ⟨ty,l++List.replicate k0 d0⟩⟩]):=by
 obtain⟨new,hnew⟩:∃ new,new=List.replicate k0 d0:=⟨_,rfl⟩;rw[<- hnew];have hnl:new.length=k0:=by rw[hnew,List.length_replicate]
 obtain⟨vs,hvs⟩:∃ vs,vs=Builtin.zeroCells z.cells k0:=⟨_,rfl⟩;have s2:VRs w G μ (aD ty new) vs.toList:=by rw[hvs,hnew,AA]; exact(mQ hdz k0).aP
 obtain⟨cs,g2,g3,g4,g5,g6⟩:=hW.blk r k b (aE hk) hb;obtain⟨ht1,ht2⟩:=hW.tags r k _ (aE hk) htag;simp only at ht1 ht2;rw[ht1]at g3;have hvl:new.length*ty.size=vs.size:=by have:=s2.length; rw[aS]at this; simpa using this
 obtain⟨i1,i2⟩:=rJ g2 g3;have hel:=aS ty l;rw[hel]at i1 i2
 by_cases hfit:l.length+new.length<=c
 ·obtain⟨c2,t2,fr2,r1,r2⟩:=hroom;rw[g2]at r1; cases r1;have hmul:(l.length+new.length)*ty.size<=c*ty.size:=Nat.mul_le_mul_right _ hfit;rw[Nat.add_mul]at hmul;have hfs:Fits cs (μ.sh r+l.length*ty.size) vs.toList:=.inr (by simp only[Array.length_toList]; omega);obtain⟨w',h1,h2⟩:=jW (P:=P) (off:=μ.sh r+l.length*ty.size) vs.toList 0 w cs (vR _ _ _ s2) g2 hfs;rw[Nat.add_zero]at h2;have hszV:(iK cs (μ.sh r+l.length*ty.size) vs.toList).size=cs.size:=o8 hfs
  have e1:=o6 hW (aE hk) hf hb g2 h2 hszV;have hW':=qQ (k':=⟨aD ty (l++new),e,true,false,none⟩) hW (aE hk) hf hb g2 (hte ▸ h2) hszV rfl (by
   refine lD (n:=l.length*ty.size+vs.size) h2.at_ (VRs.mono e1.toMono _ _ ?_);have h3:=i1.append s2;rw[<- iI]at h3;rw[rN (by simp only[Array.length_toList]; omega) (by omega),List.take_take,Nat.min_eq_left (by omega),@List.drop_eq_nil_of_le _ ((cs.toList.drop (μ.sh r)).take (l.length*ty.size+vs.size)) _ (by simp only[List.length_take,Array.length_toList]; omega),List.append_nil];exact h3) (λh=>by cases h) (λg hg=>by cases hg)
  have hrl:r<H.length:=(oO.1 (aE hk)).1;obtain⟨e3,hW''⟩:=xO (r:=r) (on:=some (l++new).length) hW' (List.getElem?_set_self hrl) hb (λg hg=>by cases hg);simp only[List.length_set,List.set_set]at e3 hW'';have hW3:aM n0 G (upd μ H.length (some b) (some (l++new).length) (μ.sh r)) (H.set r none++[some ⟨aD ty (l++new),e,true,false,some ⟨ty,l++new⟩⟩]) w':=by
   have hkill:=jJ hW' r;simp only[List.set_set]at hkill;have hlen:(H.set r none).length=H.length:=by simp
   have e4:Ext n0 w' G μ w' G (upd μ (H.set r none).length (some b) (some (l++new).length) (μ.sh r)):=by rw[hlen]; exact e3
   have:=tG hkill e4 ⟨aD ty (l++new),e,true,false,some ⟨ty,l++new⟩⟩ (λ_ _ _ _ _=>rfl) (by
    rintro b' hb';cases hb';obtain⟨c9,k2,k3,k4,k5,k6⟩:=hW'.blk r _ b (List.getElem?_set_self hrl) hb;exact⟨c9,k2,aK.mono e4.toMono rfl _ _ k3,λh=>(by cases h),λh=>(by cases h),k6⟩) (λg hg=>by cases hg; exact⟨rfl,rfl⟩) (by
    intro s k' b' hs hf' hb' hh;cases hh;obtain⟨hs1,hs2⟩:=jU hs;exact hs2 (hW.inj s r k' k b hs1 (aE hk) hf' hf hb' hb))
    (vJ hkill e4 (λt l h1 h2=>by cases h1) (λ_ _ _=>rfl) (λj b1 hj _ hh=>by cases hh; exact(hW'.rows.sep j b hj).2.2.2 r _ (List.getElem?_set_self hrl) rfl hb))
   rwa[hlen]at this
  have hrun:=DM (w:=w) (w':=w') (ty:=tt) (kq:=kq) (k:=k0) (ao:=some ⟨b,μ.sh r,none⟩) ht hu hi hz hzs hb1 hn (by rw[<- hnl]; exact hfit) (by simp only[Addr.add_lit,hsz,<- hvs]; exact h1);rw[<- hnl]at hrun ⊢;refine⟨_,w',G,_,hrun,e1.trans e3,hW3,?_⟩;rw[VR,mG];exact⟨_,gC _ _ _ _,.inr ⟨b,c,cW _ _ _ _,by rw[oH],by rw[oH]; exact hfit,⟨_,_,_,h2.at_,by rw[hszV]; exact r2⟩,hs0⟩⟩
 ·obtain⟨os,o1,o2⟩:=(nK (P:=P) (c:=c) g3 (aS _ _):Source P w G μ ty.size (.slice (some ⟨b,μ.sh r,none⟩) l.length c) _ l.length).2.2 l.length (oM _);rw[List.take_of_length_le (by rw[hel]; exact oM _)]at o1;rw[<- hsz]at o2;obtain⟨c',q1,q2⟩:=DQ (w:=w) (ty:=tt) (kq:=kq) (k:=k0) (ao:=some ⟨b,μ.sh r,none⟩) ht hu hi hz hzs hpos hb1 hn hl (by rw[<- hnl]; exact hfit) o2 hlc;rw[<- hvs,<- hnl]at q2;rw[<- hnl]at q1 ⊢
  have hlen:(H.set r none).length=H.length:=by simp
  have:=DS (jJ hW r) (e:=e) (ty:=ty) (l:=l++new) (c':=c') (os:=os) (vs:=vs) (rest:=Builtin.zeroCells z.cells (c'-(l.length+new.length))) (by rw[iI,Array.toList_append]; exact o1.append s2) (by rw[oH]; exact q1) (by rw[gE,hzs,hsz,oH]) (s:=Builtin.append_ #[t,u] tt #[.slice (some ⟨b,μ.sh r,none⟩) l.length c,.int kq (new.length:Int)]) (by rw[oH]; exact q2);rwa[hlen]at this
end
theorem aG0 {t u}(h:isLen P #[t,u]=true):∃ k,P.underlying u=some (.int k):=by
 change (match P.underlying u with
  | some (.int _)=>true
  | _=>false)=true at h
 grind
theorem TZ(hW:aM n0 G μ H w){tys tt p q v s x cs H' c}(hlen:isLen P tys=true)(hp:VR w G μ p s)(hq:VR w G μ q x)(h:HK P H tys p q=some (cs,v,H',c))(hcs:mT cs=true) :
  c=2/\kK P n0 w G μ (Builtin.append_ tys tt #[s,x]) v H':=by
 unfold HK at h;split at h
 ·rename_i t u kq n htys;have htys:tys=#[t,u]:=by apply Array.ext'; simpa using htys
  subst htys;obtain⟨ku,hu⟩:=aG0 hlen;subst hq;split at h
  ·rename_i e ty hel;obtain⟨ht,hsz0⟩:=l5 hel;split at h
   ·rename_i i hi;have hsz:=vQ hsz0 hi;split at h
    ·rename_i z hz;split at h
     ·rename_i d hd;cases hb:(Nat.ble i.bytes 65536&&Nat.beq z.cells.size i.size&&Nat.ble 1 i.size)with
      | false=>rw[hb]at h; cases h
      | true =>
       rw[hb]at h;simp only[oA]at hb;have hb1:=oL hb.1.1;have hzs:=oE hb.1.2;have hpos:=oL hb.2;have hdz:VRs w G aF (enc ty d) z.cells.toList:=lR ty aF _ d _ hd (mW _);split at h
       ·rename_i r sz;split at h
        ·rename_i k hk;split at h
         ·rename_i g hg;obtain⟨gt,gl⟩:=g;split at h
          ·rename_i l hl;obtain⟨rfl,rfl⟩:=fY hl;cases hm:(Nat.beq sz gt.size&&!k.frozen&&Nat.beq k.ty e&&k.grown)with
           | false=>rw[hm]at h; cases h
           | true =>
            rw[hm]at h;simp only[oA,Bool.not_eq_true']at hm;obtain⟨⟨⟨m1,m2⟩,m3⟩,m4⟩:=hm;have m1:=oE m1;have m3:=oE m3;subst m1;obtain⟨rfl,rfl,rfl,rfl⟩:=vI h;refine⟨rfl,?_⟩;obtain⟨c1,hcs⟩:=aJ hcs;obtain⟨c2,hcs⟩:=aJ hcs;obtain⟨c3,_⟩:=aJ hcs;rw[aI,Bool.not_eq_true',decide_eq_false_iff_not]at c1 c2;obtain⟨k0,rfl⟩:∃ k0:Nat,n=k0:=⟨n.toNat,by omega⟩;obtain⟨ht1,ht2⟩:=hW.tags r k _ (aE hk) hg;have hlenset:(H.set r none).length=H.length:=by simp
            rw[VR]at hp;obtain⟨n,h1,h2⟩:=hp;simp only at ht2;rw[ht2]at h1;cases h1;rcases h2 with ⟨h2,ao,rfl⟩|⟨b,cc,h3,rfl,h5,h6⟩
            ·have hnil:gl=[]:=List.eq_nil_of_length_eq_zero h2;subst hnil;have:=HE (tt:=tt) (kq:=kq) (ao:=ao) (e:=e) ht hu hi hz (jJ hW r) hsz hb1 hzs hpos hdz (k0:=k0) (by omega);simpa using this
            ·rw[hlenset];have:=WI (tt:=tt) (kq:=kq) ht hu hi hz hW hsz hb1 hzs hdz (by omega) (oL c3) hk m2 m4 m3 hg h3 h5 h6.1 h6.2 hpos (k0:=k0);exact this
          ·cases h
         ·cases h
        ·cases h
       ·rename_i m c0;cases hm:(Nat.beq m 0&&Nat.beq c0 0)with
        | false=>rw[hm]at h; cases h
        | true =>
         rw[hm]at h;simp only[oC]at h;simp only[oA]at hm;have e1:=oE hm.1;have e2:=oE hm.2;subst e1; subst e2;obtain⟨rfl,rfl,rfl,rfl⟩:=vI h;refine⟨rfl,?_⟩;obtain⟨c1,hcs⟩:=aJ hcs;obtain⟨c2,_⟩:=aJ hcs;rw[aI,Bool.not_eq_true',decide_eq_false_iff_not]at c1 c2;obtain⟨k0,rfl⟩:∃ k0:Nat,n=k0:=⟨n.toNat,by omega⟩;rw[oN];rw[VR]at hp;subst hp;exact HE (tt:=tt) (kq:=kq) (ao:=none) (e:=e) ht hu hi hz hW hsz hb1 hzs hpos hdz (k0:=k0) (by omega)
       ·cases h
     ·cases h
    ·cases h
   ·cases h
  ·cases h
 ·cases h
end Go.PM
namespace Go.PM
open Go Go.RowKit
section
variable {P:Program} {n0:Nat->Prop} {w:World} {G:Gd} {μ:Mp} {H:Heap} {F F':Frm} {a:Act} {nt:Nat}
theorem aSQ {xs}{x:Operand}(h:xs.toList=[x]):xs=#[x]:=by grind
theorem aWS {xs}{x y:Operand}(h:xs.toList=[x,y]):xs=#[x,y]:=by grind
theorem aFL {t op x y p v u qx qy cs H' k}(hx:VR w G μ x v)(hy:VR w G μ y u)(h:V3 P H t op x y=some (cs,p,H',k))(hcs:mT cs=true) :
  H'=H/\∃ v',(∀ w1 ,(do eqGuard op t qx qy v u; binOp op t v u:Sem Value).run P w1=.ok v' w1)/\VR w G μ p v':=by
 unfold V3 at h;split at h
 ·rename_i e hu;split at h
  ·rename_i m c;split at h
   ·rename_i ty l cap e';have h1:=B7 hx;obtain⟨ao,c',rfl,_,_,h2⟩:=h1;subst hy;have key:Nat.blt 0 l.length=true->ao.isNone=false:=by
     intro hb;rcases h2 with h2|⟨b,off,rfl,_⟩
     ·exfalso;have h3:0<l.length:=cF hb;cases l with
      | nil=>simp at h3
      | cons a l =>
       have h4:=oZ List.length h2;have h5:=fX ty a;have h6:=ty.size_pos;simp only[aD,List.flatMap_cons,oH,List.length_nil]at h4;omega
     ·rfl
    split at h
    ·simp only[oJ,oP]at h;obtain⟨rfl,rfl,rfl,rfl⟩:=h;have hcs:Nat.blt 0 l.length=true:=by
      cases hb:Nat.blt 0 l.length with
      | true=>rfl
      | false=>simp only[mT,hb]at hcs; cases hcs
     refine⟨rfl,.bool false,λw1=>?_,by rw[VR]⟩;have:=Lib.run_eql_slice_nil w1 t e ao l.length c' m c hu;rw[key hcs]at this;simp[eqGuard,this]
    ·simp only[oJ,oP]at h;obtain⟨rfl,rfl,rfl,rfl⟩:=h;have hcs:Nat.blt 0 l.length=true:=by
      cases hb:Nat.blt 0 l.length with
      | true=>rfl
      | false=>simp only[mT,hb]at hcs; cases hcs
     refine⟨rfl,.bool true,λw1=>?_,by rw[VR]⟩;have:=run_neq_slice_nil_any w1 t e ao l.length c' m c hu;rw[key hcs]at this;simp[eqGuard,this]
    ·cases h
   ·rename_i r lo nn sz;subst hy;obtain⟨b,c',mm,_,rfl,_⟩:=hx;split at h
    ·simp only[oJ,oP]at h;obtain⟨rfl,rfl,rfl,rfl⟩:=h;refine⟨rfl,.bool false,λw1=>?_,by rw[VR]⟩;have:=Lib.run_eql_slice_nil w1 t e (some ⟨b,μ.sh r+lo*sz,none⟩) nn c' m c hu;simp[eqGuard,this]
    ·simp only[oJ,oP]at h;obtain⟨rfl,rfl,rfl,rfl⟩:=h;refine⟨rfl,.bool true,λw1=>?_,by rw[VR]⟩;have:=run_neq_slice_nil_any w1 t e (some ⟨b,μ.sh r+lo*sz,none⟩) nn c' m c hu;simp[eqGuard,this]
    ·cases h
   ·cases h
  ·cases h
 ·cases h
theorem aLR {t op x y p cs H' c}(h:V3 P H t op x y=some (cs,p,H',c)):H'=H/\c=0/\∀ H2,V3 P H2 t op x y=some (cs,p,H2,0):=by
 unfold V3 at h;split at h
 ·rename_i e hu;split at h
  ·split at h
   ·split at h
    ·simp only[oJ]at h;obtain⟨rfl,rfl,rfl,rfl⟩:=h;exact⟨rfl,rfl,λH2=>by simp only[V3,hu]⟩
    ·simp only[oJ,oP]at h;obtain⟨rfl,rfl,rfl,rfl⟩:=h;exact⟨rfl,rfl,λH2=>by simp only[V3,hu]⟩
    ·cases h
   ·split at h
    ·obtain⟨rfl,rfl,rfl,rfl⟩:=h;exact⟨rfl,rfl,λH2=>by simp only[V3,hu]⟩
    ·obtain⟨rfl,rfl,rfl,rfl⟩:=h;exact⟨rfl,rfl,λH2=>by simp only[V3,hu]⟩
    ·cases h
   ·cases h
  ·cases h
 ·cases h
set_option maxHeartbeats 1000000 in
theorem aJE(hW:aM n0 G μ H w) (hF:cY w G μ nt F a) {o:Oper} {v:PV} {cs:List Bool} {H':Heap} {k:Nat} (ht:typed P F o=true) (h:top P F H o=some (cs,v,H',k)) (hcs:mT cs=true):uN P n0 w G μ o a v H':=by
 unfold top at h;split at h
 ·rename_i t x i ho;split at h
  ·rename_i k1 i1 hi;obtain⟨rfl,v',h1,h2⟩:=O1 (k:=k1) hW (aZ hF x) h hcs;have h3:=aZ hF i;rw[hi,VR]at h3;exact .value (s:=Instr.indexAt t (a.eval x) (a.eval i)) (by simp only[execOp,ho]) (.same hW (by rw[h3]; exact h1) h2)
  ·cases h
 ·rename_i s x f ho;obtain⟨rfl,rfl,v',h1,h2⟩:=PX (aZ hF x) h;exact .value (by simp only[execOp,ho]) (.same hW h1 h2)
 ·rename_i t x ho;obtain⟨rfl,v',h1,h2⟩:=aCV hW (aZ hF x) h hcs;exact .value (by simp only[execOp,ho]) (.same hW h1 h2)
 ·rename_i t x y ho;obtain⟨rfl,rfl,w',G',h1,h2,h3⟩:=WA hW (aZ hF x) (aZ hF y) h hcs;intro K Q hK;unfold Oper.wp;have hx:(execOp a.eval o).run P w=.ok .skip w':=by simp[execOp,ho,h1]
  rw[hx];exact hK undef w' G' μ h2 h3 (by rw[VR])
 ·rename_i x ho;simp only[oJ,oP]at h;obtain⟨rfl,rfl,rfl,rfl⟩:=h;have h1:=aZ hF x;simp only[typed,ho]at ht;obtain⟨b,hb⟩:∃ b,a.eval x=.pointer (some b):=by
   cases hx:ev F x <;> rw[hx]at ht h1 <;> simp only[WB]at ht <;> try (cases ht; done)
   ·rw[VR]at h1;obtain⟨h2,rfl,_⟩:=h1;rw[VR]at h2;obtain⟨b,off,h3,_⟩:=h2;exact⟨_,h3⟩
   ·rw[VR]at h1;obtain⟨b,_,h3⟩:=h1;exact⟨_,h3⟩
   ·rw[VR]at h1;obtain⟨b,_,h3⟩:=h1;exact⟨_,h3⟩
  exact .pure hW (v':=a.eval x) (by simp[execOp,ho,hb]) h1
 ·rename_i t x lo hi ho;cases hs:isS (ev F x)with
  | true =>
   rw[hs]at h;obtain⟨rfl,rfl,u,h1,rfl⟩:=zG h;exact .value (by simp only[execOp,ho]; rfl) (.same hW (Z4 hF (aZ hF x) h1 hcs w) (by rw[VR]))
  | false =>
  rw[hs,oD]at h;cases hq:isQ (ev F x)with
  | true =>
   rw[hq]at h;exact .value (by simp only[execOp,ho]; rfl) (V2 hW hF (aZ hF x) h hcs).2
  | false =>
  rw[hq]at h;obtain⟨rfl,v',h1,h2⟩:=Y4 hW hF (aZ hF x) h hcs w;exact .value (by simp only[execOp,ho]; rfl) (.same hW h1 h2)
 ·rename_i t x lo hi mx ho;obtain⟨rfl,v',h1,h2⟩:=WK hF (aZ hF x) h hcs w;exact .value (by simp only[execOp,ho]; rfl) (.same hW h1 h2)
 ·rename_i t x i ho;obtain⟨rfl,rfl,u,h1,rfl⟩:=zG h;exact .value (by simp only[execOp,ho]) (.same hW (aFQ (aZ hF x) (aZ hF i) h1 hcs w) (by rw[VR]))
 ·rename_i t ho;exact .value (by simp only[execOp,ho]; rfl) (TF hW h).2
 ·rename_i t m x ho;obtain⟨rfl,rfl,v',h1,h2⟩:=VZ hW (aZ hF m) (aZ hF x) h hcs;exact .value (by simp only[execOp,ho]) (.same hW h1 h2)
 ·rename_i t m x ho;obtain⟨rfl,rfl,_,v',h1,h2⟩:=UT (aZ hF m) (aZ hF x) h;exact .value (by simp only[execOp,ho]) (.same hW h1 h2)
 ·rename_i t m x y ho;obtain⟨rfl,rfl,w',h1,h2,h3⟩:=VX hW (aZ hF m) (aZ hF x) (aZ hF y) h hcs;intro K Q hK;unfold Oper.wp;have hx:(execOp a.eval o).run P w=.ok .skip w':=by simp[execOp,ho,h1]
  rw[hx];exact hK undef w' G μ h2 h3 (by rw[VR])
 ·rename_i t n parts ho;exact .value (by simp only[execOp,ho]) (M7 hW hF h)
 ·rename_i t l c ho;exact .value (by simp only[execOp,ho]) (O2 hW (aZ hF l) (aZ hF c) h hcs).2
 ·rename_i s d x ho;obtain⟨rfl,h1⟩:=aD4 hW (aZ hF x) h;exact .value (by simp only[execOp,ho]) h1
 ·rename_i op t x y ty ho;cases hs:isS (ev F x)with
  | true =>
   rw[hs]at h;obtain⟨rfl,rfl,u,h1,rfl⟩:=zG h;exact .value (by simp only[execOp,ho]) (.same hW (aE8 (ox:=x) (oy:=y) (t:=t) (aZ hF x) (aZ hF y) h1 hcs w) (by rw[VR]))
  | false =>
  rw[hs]at h;obtain⟨rfl,v',h1,h2⟩:=aFL (qx:=x) (qy:=y) (aZ hF x) (aZ hF y) h hcs;exact .value (by simp only[execOp,ho]) (.same hW (h1 w) h2)
 ·rename_i c ho;split at h
  ·rename_i hc;split at h
   ·rename_i x hx;have hx:=aSQ hx;obtain⟨rfl,v',h1,h2⟩:=aG4 (ty:=o.type) hW (aZ hF x) h;refine .value (s:=Builtin.len_ c.argTypes o.type #[a.eval x]) ?_ (.same hW h1 h2);simp[execOp,ho,resolve,hc,hx,invoke,builtin]
   ·cases h
  ·rename_i hc;split at h
   ·rename_i s x hx;have hx:=aWS hx;refine .value (s:=Builtin.append_ c.argTypes o.type #[a.eval s,a.eval x]) ?_ ?_
    rotate_left
    ·cases hl:isLen P c.argTypes with
     | true=>rw[hl]at h; exact(TZ hW hl (aZ hF s) (aZ hF x) h hcs).2
     | false =>
      rw[hl,oD]at h;obtain⟨c0,h1,rfl⟩:=XS h;obtain⟨k1,k2⟩:=SN hcs;cases hq:isQ (ev F s)with
      | true=>rw[hq]at h1; exact(TH hW (aZ hF s) (aZ hF x) k1 h1 k2).2
      | false=>rw[hq]at h1; exact(V7 hW (aZ hF s) (aZ hF x) k1 h1 k2).2
    simp[execOp,ho,resolve,hc,hx,invoke,builtin]
   ·cases h
  ·rename_i hc;split at h
   ·rename_i x hx;have hx:=aSQ hx;refine .value (s:=Builtin.clear_ c.argTypes o.type #[a.eval x]) ?_ (Z1 hW (aZ hF x) h hcs);simp[execOp,ho,resolve,hc,hx,invoke,builtin]
   ·cases h
  ·rename_i hc;split at h
   ·rename_i x y hx;have hx:c.args=#[x,y]:=by apply Array.ext'; simpa using hx
    refine .value (s:=Builtin.copy_ c.argTypes o.type #[a.eval x,a.eval y]) ?_ (aDL hW (aZ hF x) (aZ hF y) h hcs).2;simp[execOp,ho,resolve,hc,hx,invoke,builtin]
   ·cases h
  ·cases h
 ·cases h
theorem aEC {cl o v H' k}(h:opx P cl F H o=some (v,H',k)):(typed P F o=true/\∃ cs,top P F H o=some (cs,v,H',k)/\mT cs=true)\/(typed P F o=false/\opu P cl F H o=some (v,H',k)):=by
 unfold opx at h;grind
theorem WX {cl}(hcl:bN P cl)(hW:aM n0 G μ H w)(hF:cY w G μ nt F a){o v H' k}(h:opx P cl F H o=some (v,H',k)):uN P n0 w G μ o a v H':=by
 rcases aEC h with ⟨ht,cs,h1,h2⟩|⟨_,h⟩
 ·exact aJE hW hF ht h1 h2
 ·exact aJY hcl hW hF h
def OX(c:Nat) (cs:List Bool) (v:PV) (H H':Heap) (f:Heap->sB):Prop:=(c=0->H'=H/\∀ H2,f H2=some (cs,v,H2,0))/\(c=1->H'=H)
def T2(x:sB):Prop:=∀ cs v H' c,x=some (cs,v,H',c)->c=2
theorem T2.no:T2 none:=λ_ _ _ _ h=>by cases h
theorem T2.cond {b x y}(hx:T2 x)(hy:T2 y):T2 (bif b then x else y):=by grind
theorem T2.grow {H1 e ty l cs}:T2 (NR H1 e ty l cs):=λ_ _ _ _ h=>(vI h).2.2.2
theorem T2.yes {cs v H1}:T2 (some (cs,v,H1,2)):=λ_ _ _ _ h=>by grind
theorem T2.cls {x}(hx:T2 x){cs v H' c f}(h:x=some (cs,v,H',c)):OX c cs v H H' f:=by
 have:=hx _ _ _ _ h;subst this;exact⟨λh=>(by omega),λh=>by omega⟩
theorem OX.zero {cs cs' v v' H' c}{f:Heap->sB}(h:some (cs',v',H,0)=some (cs,v,H',c))(hf:∀ H2,f H2=some (cs',v',H2,0)):OX c cs v H H' f:=by
 obtain⟨rfl,rfl,rfl,rfl⟩:=h;exact⟨λ_=>⟨rfl,hf⟩,λ_=>rfl⟩
theorem OX.one {cs cs' v v' H' c f}(h:some (cs',v',H,1)=some (cs,v,H',c)):OX c cs v H H' f:=by
 obtain⟨rfl,rfl,rfl,rfl⟩:=h;exact⟨λh=>(by grind),λ_=>rfl⟩
theorem aO2 {b r}(hr:T2 r):T2 (aPT b r):=λ_ _ _ _ h=>by
 obtain⟨_,h1,_⟩:=XS h;exact hr _ _ _ _ h1
theorem aBT {tys p q}:T2 (MN P H tys p q):=by
 unfold MN
 repeat' first
  | exact T2.no
  | rfl
  | exact T2.yes
  | apply T2.cond
  | split
theorem ZO {tys p q}:T2 (HU P H tys p q):=by
 unfold HU
 repeat' first
  | exact T2.no
  | rfl
  | exact T2.yes
  | apply T2.cond
  | split
theorem aC8 {t p lo hi}:T2 (L9 P H t p lo hi):=by
 unfold L9
 repeat' first
  | exact T2.no
  | exact T2.yes
  | apply T2.cond
  | split
theorem Y9 {tys p q}:T2 (HK P H tys p q):=by
 unfold HK
 repeat' (first|exact T2.no|rfl|exact T2.yes|refine T2.cond ?_ ?_|split)
theorem UQ {t p q}:T2 (AU P H t p q):=by
 unfold AU
 repeat' first
  | exact T2.no
  | exact T2.yes
  | apply T2.cond
  | split
theorem YW {t}:T2 (HY P H t):=by
 unfold HY;split
 ·exact .cond .yes .no
 ·exact .no
theorem aDR {t m x y}:T2 (NU P H t m x y):=by
 unfold NU;split
 ·split
  ·exact .cond .yes .no
  ·exact .no
 ·exact .no
theorem TY {t p q}:T2 (PD P H t p q):=by
 unfold PD
 repeat' first
  | exact T2.no
  | exact T2.yes
  | apply T2.cond
  | split
theorem aFE {tys p}:T2 (US P H tys p):=by
 unfold US
 repeat' first
  | exact T2.no
  | exact T2.yes
  | apply T2.cond
  | split
theorem aJR {tys p q}:T2 (aDT P H tys p q):=by
 unfold aDT
 repeat' first
  | exact T2.no
  | exact T2.yes
  | apply T2.cond
  | split
theorem aG {α:Type}{b x}{y:α}(h:(bif b then x else none)=some y):b=true/\x=some y:=by grind
theorem UE {t p v i cs H' c}(h:k8 P H t p i=some (cs,v,H',c)):OX c cs v H H' λH2=>k8 P H2 t p i:=by
 unfold k8 at h;split at h
 ·rename_i e hu;split at h
  ·rename_i n hs;split at h
   ·obtain⟨hb,h⟩:=aG h;exact .zero h λH2=>by simp only[k8,hu,hs,hb,oC]
   ·split at h
    ·obtain⟨_,h⟩:=aG h;exact .one h
    ·cases h
   ·split at h
    ·obtain⟨_,h⟩:=aG h;exact .one h
    ·cases h
   ·obtain⟨hb,h⟩:=aG h;exact .zero h λH2=>by simp only[k8,hu,hs,hb,oC]
   ·obtain⟨hb,h⟩:=aG h;exact .zero h λH2=>by simp only[k8,hu,hs,hb,oC]
   ·cases h
  ·cases h
 ·rename_i n e hu;split at h
  ·rename_i sz hs;split at h
   ·exact .zero h λH2=>by simp only[k8,hu,hs]
   ·cases h
  ·cases h
 ·cases h
theorem U5 {t f p v cs H' c}(h:qP P H t f p=some (cs,v,H',c)):OX c cs v H H' λH2=>qP P H2 t f p:=by
 unfold qP at h;split at h
 ·rename_i fd hf;split at h
  ·rename_i n hs;split at h
   ·exact .zero h λH2=>by simp only[qP,hf,hs]
   ·exact .zero h λH2=>by simp only[qP,hf,hs]
   grind
  grind
 grind
theorem aJO {t p v cs H' c}(h:TB P H t p=some (cs,v,H',c)):OX c cs v H H' λH2=>TB P H2 t p:=by
 unfold TB at h;split at h
 ·split at h
  ·rename_i u hu;exact .zero h λH2=>by simp only[TB,hu]
  grind
 ·split at h
  ·obtain⟨_,h⟩:=aG h;split at h
   ·exact .one h
   grind
  ·cases h
 ·split at h
  ·split at h
   ·obtain⟨_,h⟩:=aG h;split at h
    ·exact .one h
    grind
   ·cases h
  ·cases h
 ·cases h
theorem aLW {tys p v cs H' c}(h:Y1 P H tys p=some (cs,v,H',c)):OX c cs v H H' λH2=>Y1 P H2 tys p:=by
 unfold Y1 at h;split at h
 ·rename_i t ts ht;split at h
  ·rename_i e hu;split at h
   ·exact .zero h λH2=>by simp only[Y1,ht,hu]
   ·split at h
    ·exact .one h
    grind
   ·split at h
    ·exact .one h
    simp_all
   ·exact .zero h λH2=>by simp only[Y1,ht,hu]
   ·exact .zero h λH2=>by simp only[Y1,ht,hu]
   grind
  grind
 grind
theorem aE5 {t p v lo hi cs H' c}(h:C1 P H t p lo hi=some (cs,v,H',c)):OX c cs v H H' λH2=>C1 P H2 t p lo hi:=by
 unfold C1 at h;split at h
 ·rename_i e hu;split at h
  ·rename_i n hs;split at h
   ·obtain⟨hb,h⟩:=aG h;split at h
    ·rename_i b1 i b2 j h1 h2;exact .zero h λH2=>by simp only[C1,hu,hs,hb,oC,h1,h2]
    ·cases h
   ·split at h
    ·rename_i g hg;obtain⟨hb,h⟩:=aG h;unfold R2 at h;split at h
     ·
      cases hz:(T0 g.t&&Nat.beq g.l.length 0)with
      | true=>rw[hz]at h; exact .one h
      | false=>rw[hz]at h; exact .one h
     ·cases h
    ·cases h
   ·obtain⟨hb,h⟩:=aG h;split at h
    ·rename_i b1 i b2 j h1 h2;exact .zero h λH2=>by simp only[C1,hu,hs,hb,oC,h1,h2]
    ·cases h
   ·obtain⟨hb,h⟩:=aG h;split at h
    ·rename_i b1 i b2 j h1 h2;exact .zero h λH2=>by simp only[C1,hu,hs,hb,oC,h1,h2]
    ·cases h
   ·cases h
  ·cases h
 ·cases h
theorem aB0 {t p v hi mx lo cs H' c}(h:EI P H t p lo hi mx=some (cs,v,H',c)):OX c cs v H H' λH2=>EI P H2 t p lo hi mx:=by
 unfold EI at h;split at h
 ·rename_i e hu;split at h
  ·rename_i n hs;split at h
   ·obtain⟨hb,h⟩:=aG h;split at h
    ·rename_i h1 h2 h3;exact .zero h λH2=>by simp only[EI,hu,hs,hb,oC,h1,h2,h3]
    grind
   grind
  grind
 grind
theorem RT {t n parts v cs H' c}(h:nV P F H t n parts=some (cs,v,H',c)):OX c cs v H H' λH2=>nV P F H2 t n parts:=by
 unfold nV at h;split at h
 ·rename_i e ty hel;split at h
  ·rename_i z hz;obtain⟨hb,h⟩:=aG h;split at h
   ·refine T2.cls ?_ h
    repeat' first
     | exact T2.no
     | exact T2.yes
     | apply T2.cond
     | split
   rename_i had;split at h
   ·rename_i ho;split at h
    ·rename_i ps hps;split at h
     ·rename_i cc hcc;split at h
      ·rename_i l hl;cases hbl:HQ aNI t with
       | true=>rw[hbl]at h; exact T2.grow.cls h
       | false =>
       rw[hbl]at h;exact .zero h λH2=>by simp only[nV,hel,hz,hb,oC,had,ho,hps,hcc,hl,hbl,oD]
      ·cases h
     ·cases h
    ·cases h
   ·dsimp only at h;refine T2.cls ?_ h
    repeat' first
     | exact T2.no
     | exact T2.grow
     | exact T2.yes
     | apply T2.cond
     | split
  ·cases h
 ·cases h
theorem aSD {o v cs H' k}(h:top P F H o=some (cs,v,H',k)):OX k cs v H H' λH2=>top P F H2 o:=by
 unfold top at h;split at h
 ·rename_i t x i ho;split at h
  ·rename_i k1 i1 hi;have:=UE h;simpa only[top,ho,hi]using this
  ·cases h
 ·rename_i s x f ho;have:=U5 h;simpa only[top,ho]using this
 ·rename_i t x ho;have:=aJO h;simpa only[top,ho]using this
 ·refine T2.cls ?_ h;unfold R9;split
  ·split
   ·exact TY
   ·exact T2.no
  ·exact TY
 ·rename_i x ho;exact .zero h λH2=>by simp only[top,ho]
 ·rename_i t x lo hi ho;cases hs:isS (ev F x)with
  | true =>
   rw[hs]at h;obtain⟨rfl,rfl,u,h1,rfl⟩:=zG h;exact⟨λ_=>⟨rfl,λH2=>by simp only[top,ho,hs,oC,h1,aEI]⟩,λ_=>rfl⟩
  | false =>
  rw[hs,oD]at h;cases hq:isQ (ev F x)with
  | true =>
   rw[hq]at h;exact aC8.cls h
  | false =>
  rw[hq]at h;have:=aE5 h;simpa only[top,ho,hs,hq,oD]using this
 ·rename_i t x lo hi mx ho;have:=aB0 h;simpa only[top,ho]using this
 ·rename_i t x i ho;obtain⟨rfl,rfl,u,h1,rfl⟩:=zG h;exact⟨λ_=>⟨rfl,λH2=>by simp only[top,ho,h1,aEI]⟩,λ_=>rfl⟩
 ·exact YW.cls h
 ·rename_i t m x ho;unfold R4 at h;split at h
  ·split at h
   ·obtain⟨_,h⟩:=aG h;exact .one h
   ·cases h
  ·cases h
 ·rename_i t m x ho;unfold A7 at h;split at h
  ·obtain⟨hk,h⟩:=aG h;exact .zero h λH2=>by simp only[top,ho]; unfold A7; simp_all
  ·cases h
 ·exact aDR.cls h
 ·rename_i t n parts ho;have:=RT h;simpa only[top,ho]using this
 ·exact UQ.cls h
 ·rename_i s d x ho;unfold aC2 at h;split at h
  ·rename_i b hb;obtain⟨hc,h⟩:=aG h;exact .zero h λH2=>by simp only[top,ho,aC2,hb,hc,oC]
  ·obtain⟨hc,h⟩:=aG h;split at h
   ·split at h
    ·exact .one h
    ·cases h
   ·cases h
  ·cases h
 ·rename_i op t x y ty ho;cases hs:isS (ev F x)with
  | true =>
   rw[hs]at h;obtain⟨rfl,rfl,u,h1,rfl⟩:=zG h;exact⟨λ_=>⟨rfl,λH2=>by simp only[top,ho,hs,oC,h1,aEI]⟩,λ_=>rfl⟩
  | false =>
  rw[hs]at h;obtain⟨rfl,rfl,h3⟩:=aLR h;exact⟨λ_=>⟨rfl,λH2=>by simpa only[top,ho,hs,oD]using h3 H2⟩,λ_=>rfl⟩
 ·rename_i c ho;split at h
  ·rename_i hc;split at h
   ·rename_i x hx;have:=aLW h;simpa only[top,ho,hc,hx]using this
   ·cases h
  ·split at h
   ·exact(T2.cond Y9 (aO2 (T2.cond ZO aBT))).cls h
   ·cases h
  ·split at h
   ·exact aFE.cls h
   ·cases h
  ·split at h
   ·exact aJR.cls h
   ·cases h
  ·cases h
 ·cases h
theorem aID {cl}(hcl:bN P cl){o v H' k}(h:opx P cl F H o=some (v,H',k)):J5 k H H' v (λH2=>opx P cl F H2 o):=by
 rcases aEC h with ⟨ht,cs,h1,h2⟩|⟨ht,h⟩
 ·obtain⟨a1,a2⟩:=aSD h1;refine⟨λhk=>⟨(a1 hk).1,λH2=>?_⟩,a2⟩;simp only[opx,ht,oC,(a1 hk).2 H2,h2]
 ·obtain⟨a1,a2⟩:=aQZ hcl h;refine⟨λhk=>⟨(a1 hk).1,λH2=>?_⟩,a2⟩;simp only[opx,ht,oD,(a1 hk).2 H2]
theorem aKW {cl o}(h:∀ x∈o.op.operands,ev F' x=ev F x):opx P cl F' H o=opx P cl F H o:=by
 have hu:=aJC (P:=P) (cl:=cl) (H:=H) h;have hm:∀ {xs:List Operand},(∀ x∈xs,x∈o.op.operands)->xs.map (ev F')=xs.map (ev F):=λhx=>List.map_congr_left λx hm=>h x (hx x hm)
 have both:typed P F' o=typed P F o/\top P F' H o=top P F H o:=by
  unfold typed top;cases hop:o.op
  case makeMap t r=>cases r <;> exact⟨rfl,rfl⟩
  case lookup t m x c =>
   have h1:=h m (by simp[hop,Op.operands]);have h2:=h x (by simp[hop,Op.operands]);cases c <;> simp only[h1,h2,and_self]
  case buildSlice t n parts =>
   have:=CQ (F:=F) (F':=F') (ps:=parts.toList) λp hpm=>h p.2 (by simp only[hop,Op.operands]; simp; exact⟨p.1,by simpa using hpm⟩)
   have had:∀ ty,L3 F' ty n parts.toList=L3 F ty n parts.toList:=λty=>by
    unfold L3;split
    ·grind
    ·rfl
   simp only[nV,this,had,and_self]
  case slice t x lo hi mx =>
   have hx:=h x (by simp[hop,Op.operands]);have hlo:lo.map (ev F')=lo.map (ev F):=by
    cases lo with
    | none=>rfl
    | some y=>simp[h y (by simp[hop,Op.operands])]
   have hhi:hi.map (ev F')=hi.map (ev F):=by
    cases hi with
    | none=>rfl
    | some y=>simp[h y (by simp[hop,Op.operands])]
   cases mx with
   | none=>simp only[hx,hlo,hhi,and_self]
   | some y =>
    have hy:=h y (by simp[hop,Op.operands]);cases hi with
    | none=>exact⟨rfl,rfl⟩
    | some z =>
     simp only[Option.map_some,oJ]at hhi;simp only[hx,hlo,hhi,hy,and_self]
  case call c =>
   have hargs:=hm (xs:=c.args.toList) λx hx=>by simp[hop,Op.operands,Call.operands]; exact .inr (by simpa using hx)
   have h0:ev F' (c.args.getD 0 (.const undef))=ev F (c.args.getD 0 (.const undef)):=by
    by_cases h1:0<c.args.size
    ·refine h _ ?_;simp only[hop,Op.operands,Call.operands,Array.mem_append];right;simp[h1]
    ·have:c.args=#[]:=Array.eq_empty_of_size_eq_zero (by omega);rw[this]; rfl
   have h1:∀ s,c.args.toList=[s]->ev F' s=ev F s:=λs hc=>by
    have:=hargs;rw[hc]at this;simpa using this
   have h2:∀ s x,c.args.toList=[s,x]->ev F' s=ev F s/\ev F' x=ev F x:=λs x hc=>by
    have:=hargs;rw[hc]at this;simpa using this
   constructor
   ·simp only[h0];split
    ·rfl
    ·rfl
    ·rfl
    ·cases hl:c.args.toList with
     | nil=>rfl
     | cons s l =>
      cases l with
      | nil=>rfl
      | cons x l =>
       cases l with
       | nil=>(cases c.argTypes.toList <;> first|rfl|simp only[(h2 s x hl).1])
       | cons y l=>rfl
    ·rfl
   ·simp only;split
    ·cases hl:c.args.toList with
     | nil=>rfl
     | cons s l =>
      cases l with
      | nil=>simp only[h1 s hl]
      | cons x l=>rfl
    ·cases hl:c.args.toList with
     | nil=>rfl
     | cons s l =>
      cases l with
      | nil=>rfl
      | cons x l =>
       cases l with
       | nil=>simp only[(h2 s x hl).1,(h2 s x hl).2]
       | cons y l=>rfl
    ·cases hl:c.args.toList with
     | nil=>rfl
     | cons s l =>
      cases l with
      | nil=>simp only[h1 s hl]
      | cons x l=>rfl
    ·cases hl:c.args.toList with
     | nil=>rfl
     | cons s l =>
      cases l with
      | nil=>rfl
      | cons x l =>
       cases l with
       | nil=>simp only[(h2 s x hl).1,(h2 s x hl).2]
       | cons y l=>rfl
    ·rfl
  all_goals
   first
   | exact⟨rfl,rfl⟩
   | (simp only[hop,Op.operands]at h
      simp at h;simp[h])
 unfold opx;rw[both.1,both.2,hu]
end
variable {P:Program} {n0:Nat->Prop} {w:World} {G:Gd} {μ:Mp} {H:Heap}
def PG(P:Program) (t:TypeId) (l c:PV):Option (List Bool×PV) :=
 match pX P t,l,c with
 | some (e,ty),.lit (.int _ l),.lit (.int _ c)=>match P.info? e with
  | some i=>match i.zero with
   | some z=>match dec ty (lits z.cells)with
    | some d=>bif Nat.ble i.bytes 65536&&Nat.beq z.cells.size i.size then
      some ([!ltI l 0,!ltI c l,!ltI 1048576 c],kD ty (List.replicate l.toNat d) (some c.toNat))
     else none
    | none=>none
   | none=>none
  | none=>none
 | _,_,_=>none
theorem RV(hW:aM n0 G μ H w){t p q v x y cs}(hp:VR w G μ p x)(hq:VR w G μ q y)(h:PG P t p q=some (cs,v))(hcs:mT cs=true) :
  kK P n0 w G μ (Instr.makeSlice t x y) v H:=by
 unfold PG at h;split at h
 ·rename_i e ty kl l kc cc hel;rw[VR]at hp hq;subst hp; subst hq;obtain⟨hu,hs⟩:=l5 hel;split at h
  ·rename_i i hi;have hsz:=vQ hs hi;split at h
   ·rename_i z hz;split at h
    ·rename_i d hd;cases hb:(Nat.ble i.bytes 65536&&Nat.beq z.cells.size i.size)with
     | false=>rw[hb]at h; cases h
     | true =>
      rw[hb]at h;simp only[oC,oJ,oP]at h;obtain⟨rfl,rfl⟩:=h;simp only[oA]at hb;have hb1:=oL hb.1;have hb2:=oE hb.2;obtain⟨c1,hcs⟩:=aJ hcs;obtain⟨c2,hcs⟩:=aJ hcs;obtain⟨c3,_⟩:=aJ hcs;rw[aI,Bool.not_eq_true',decide_eq_false_iff_not]at c1 c2 c3;have hbytes:(i.bytes:Int)*cc<=281474976710656:=by
       have:(i.bytes:Int)*cc<=65536*1048576:=Int.mul_le_mul (by omega) (by omega) (by omega) (by omega);omega
      have hr:=run_make (P:=P) w t e i z hu hi hz kl kc l cc (by omega) (by omega) hbytes (by omega);have hdz:VRs w G aF (enc ty d) z.cells.toList:=lR ty aF _ d _ hd (mW _);have hrep:=mQ hdz l.toNat;have hmade:(madeCells z.cells (cc.toNat*i.size)).toList=(List.replicate cc.toNat z.cells.toList).flatten:=by rw[<- hb2]; exact rD z.cells cc.toNat
      have hsplit:(List.replicate cc.toNat z.cells.toList).flatten=(List.replicate l.toNat z.cells.toList).flatten++(List.replicate (cc.toNat-l.toNat) z.cells.toList).flatten:=by
       rw[<- List.flatten_append,List.replicate_append_replicate]
       congr 2; omega
      obtain⟨e1,e2⟩:=JE hW (.cells (madeCells z.cells (cc.toNat*i.size)) e);refine⟨_,_,_,_,hr,e1,e2,E2 ?_⟩;rw[VR];refine⟨_,_,by rw[List.length_replicate],by rw[List.length_replicate]; omega,λk hk=>by cases hk; rfl,.inr ⟨w.heap.size,0,rfl,.inr rfl,?_⟩⟩;refine aK.mk λj p hp=>?_
      obtain⟨u,g1,g2⟩:=hrep.get hp;refine⟨u,?_,VR.mono e1.toMono.aF p u g2⟩;rw[Nat.zero_add,World.cell?_alloc_new,<- Array.getElem?_toList,hmade,hsplit,List.getElem?_append_left (oO.1 g1).1];exact g1
    ·cases h
   ·cases h
  ·cases h
 ·cases h
def C5(P:Program) (H:Heap) (t:TypeId) (l c:PV):sB :=
 match pX P t,l,c with
 | some (e,ty),.lit (.int _ l),.lit (.int _ c)=>match P.info? e with
  | some i=>match i.zero with
   | some z=>match dec ty (lits z.cells)with
    | some d=>bif Nat.ble i.bytes 65536&&Nat.beq z.cells.size i.size then
      some ([!ltI l 0,!ltI c l,!ltI 1048576 c],.win H.length 0 l.toNat ty.size,H++[some ⟨aD ty (List.replicate c.toNat d),e,true,false,some ⟨ty,List.replicate c.toNat d⟩⟩],2)
     else none
    | none=>none
   | none=>none
  | none=>none
 | _,_,_=>none
theorem VE(hW:aM n0 G μ H w){t p q v x y cs H' c}(hp:VR w G μ p x)(hq:VR w G μ q y)(h:C5 P H t p q=some (cs,v,H',c))(hcs:mT cs=true) :
  c=2/\kK P n0 w G μ (Instr.makeSlice t x y) v H':=by
 unfold C5 at h;split at h
 ·rename_i e ty kl l kc cc hel;rw[VR]at hp hq;subst hp; subst hq;obtain⟨hu,hs⟩:=l5 hel;split at h
  ·rename_i i hi;have hsz:=vQ hs hi;split at h
   ·rename_i z hz;split at h
    ·rename_i d hd;cases hb:(Nat.ble i.bytes 65536&&Nat.beq z.cells.size i.size)with
     | false=>rw[hb]at h; cases h
     | true =>
      rw[hb]at h;simp only[oC,oJ,oP]at h;obtain⟨rfl,rfl,rfl,rfl⟩:=h;refine⟨rfl,?_⟩;simp only[oA]at hb;have hb1:=oL hb.1;have hb2:=oE hb.2;obtain⟨c1,hcs⟩:=aJ hcs;obtain⟨c2,hcs⟩:=aJ hcs;obtain⟨c3,_⟩:=aJ hcs;rw[aI,Bool.not_eq_true',decide_eq_false_iff_not]at c1 c2 c3;have hbytes:(i.bytes:Int)*cc<=281474976710656:=by
       have:(i.bytes:Int)*cc<=65536*1048576:=Int.mul_le_mul (by omega) (by omega) (by omega) (by omega);omega
      have hr:=run_make (P:=P) w t e i z hu hi hz kl kc l cc (by omega) (by omega) hbytes (by omega);have hdz:VRs w G aF (enc ty d) z.cells.toList:=lR ty aF _ d _ hd (mW _);have hrep:=mQ hdz cc.toNat;have hmade:(madeCells z.cells (cc.toNat*i.size)).toList=(List.replicate cc.toNat z.cells.toList).flatten:=by rw[<- hb2]; exact rD z.cells cc.toNat
      have hk:=qX (on:=some cc.toNat) hW (madeCells z.cells (cc.toNat*i.size)) ⟨aD ty (List.replicate cc.toNat d),e,true,false,some ⟨ty,List.replicate cc.toNat d⟩⟩ (λj p hp=>by
       obtain⟨u,g1,g2⟩:=hrep.get hp;refine⟨u,?_,g2.aP⟩;rw[<- Array.getElem?_toList,hmade];exact g1) (λh=>by cases h) rfl (λg hg=>by cases hg; exact⟨rfl,by simp⟩)
      refine⟨_,_,G,_,hr,pN hW _ _ _,hk,?_⟩;rw[VR,mG];simp only[Nat.zero_add];refine⟨w.heap.size,cc.toNat,cc.toNat,cW _ _ _ _,by rw[Nat.zero_mul],by omega,⟨madeCells z.cells (cc.toNat*i.size),e,(0,0),?_,?_⟩,gC _ _ _ _,by omega,by omega,trivial⟩
      ·show (w.heap.push _)[w.heap.size]?=_;simp
      ·simp[madeCells,hsz]
    ·cases h
   ·cases h
  ·cases h
 ·cases h
end Go.PM
namespace Go.PM
open Go Go.RowKit
def guardOf(F:Frm) (l:List Oper) (o:Oper):Option Bool :=
 match o.guard with
 | none=>some true
 | some (j,want)=>match l[j]? with
  | some p=>match p.dst with
   | some t=>match bB F t with
    | .lit (.bool b)=>some (bif b then want else !want)
    | .lit _=>some false
    | _=>none
   | none=>none
  | none=>none
def CN(nt:Nat)(F:Frm)(d:Option Tmp)(v:PV):Option Frm :=
 match d with
 | none=>some F
 | some t=>bif Nat.blt t nt then some ((t,v)::F) else none
def aLS(l:List Oper):Option Tmp->Bool
 | none=>false
 | some t=>l.any λo=>match o.op with
  | .call c=>match c.callee with
   | .value _=>c.args.toList.any λx=>match x with
    | .tmp s=>Nat.beq s t
    | _=>false
   | _=>false
  | .buildSlice _ _ ps=>ps.toList.any λx=>match x.2 with
   | .tmp s=>Nat.beq s t
   | _=>false
  | .build _ ps=>ps.toList.any λx=>match x.2 with
   | .tmp s=>Nat.beq s t
   | _=>false
  | .store _ (.tmp a) (.tmp s)=>Nat.beq s t&&l.any λo=>match o.dst,o.op with
   | some b,.fieldAddr _ _ _=>Nat.beq a b
   | _,_=>false
  | _=>false
def T8(l:List Oper):Option Tmp->Bool
 | none=>false
 | some t=>l.any λo=>match o.op with
  | .call c=>match c.callee with
   | .builtin .append=>match c.args.toList with
    | .tmp s::_=>Nat.beq s t
    | _=>false
   | _=>false
  | _=>false
def opz(P:Program) (cl:Callee) (l:List Oper) (F:Frm) (H:Heap) (o:Oper):Option (PV×Heap×Nat):=match o.op with
 | .makeSlice t n c=>bif T8 l o.dst then (match C5 P H t (ev F n) (ev F c)with
   | some (cs,v,H',k)=>bif mT cs then some (v,H',k) else none
   | none=>none) else opx P cl F H o
 | _=>opx P cl F H o
def mkData(P:Program) (F:Frm) (l:List Oper) (o:Oper):Option (Option (List Bool×PV)):=match o.op with
 | .makeSlice t n c=>bif aLS l o.dst then some (PG P t (ev F n) (ev F c)) else none
 | _=>none
def mH(P:Program)(cl:Callee)(l:List Oper)(o:Oper)(F:Frm)(H:Heap):Option (PV×Heap×Nat) :=
 match guardOf F l o with
 | some true=>match mkData P F l o with
  | none=>opz P cl l F H o
  | some none=>none
  | some (some (cs,v))=>bif mT cs then some (v,H,0) else none
 | some false=>some (.lit undef,H,0)
 | none=>none
def yB(P:Program)(cl:Callee)(nt:Nat)(l:List Oper):List Oper->Frm->Heap->Option (Frm×Heap)
 | [],F,H=>some (F,H)
 | o::rest,F,H=>match mH P cl l o F H with
  | some (v,H',c)=>fPV v λv=>match CN nt F o.dst v with
   | some F'=>bif Nat.beq c 2 then MJ H' λH'=>yB P cl nt l rest F' H' else yB P cl nt l rest F' H'
   | none=>none
  | none=>none
section
variable {P:Program} {cl:Callee} {n0:Nat->Prop} {nt:Nat} {wi:World} {Gi:Gd} {μi:Mp} {w:World} {G:Gd} {μ:Mp} {F:Frm} {H:Heap} {a:Act}
theorem pR(hF:cY w G μ nt F a){ops o b}(h:guardOf F ops.toList o=some b):Region.wanted o (yielded ops a.tmps)=b:=by
 unfold guardOf at h;unfold Region.wanted;split at h
 ·rename_i hg;simp only[oJ]at h;rw[hg,<- h]
 ·rename_i j want hg;rw[hg];simp only;split at h
  ·rename_i p hp;have hp:ops[j]?=some p:=by simpa using hp
   split at h
   ·rename_i t ht;have hs:=hF.slot t;have hy:yielded ops a.tmps j=match a.tmps[t]? with|some (.bool b)=>some b|_=>none:=by
     unfold yielded;simp only[hp,Option.bind_some,ht];rfl
    rw[hy];split at h
    ·rename_i c hc;rw[hc,VR]at hs;simp only[oJ]at h;have:a.tmps[t]?=some (.bool c):=by
      rcases oG t a.tmps.size with hl|hl
      ·simp only[Array.getD,hl,dif_pos]at hs;rw[Array.getElem?_eq_getElem hl,<- hs]; rfl
      ·simp only[Array.getD,Nat.not_lt.2 hl,dif_neg,not_false_iff]at hs;cases hs
     rw[this,<- h];cases c <;> cases want <;> rfl
    ·rename_i u hno hc;rw[hc,VR]at hs;simp only[oJ]at h;rw[<- h];rcases oG t a.tmps.size with hl|hl
     ·have:a.tmps[t]?=some u:=by
       simp only[Array.getD,hl,dif_pos]at hs;rw[Array.getElem?_eq_getElem hl,<- hs]; rfl
      rw[this];cases u <;> first|rfl|exact absurd rfl (hno _)
     ·rw[Array.getElem?_eq_none hl]; rfl
    ·cases h
   ·cases h
  ·cases h
def I(n0:Nat->Prop) (wi:World) (Gi:Gd) (μi:Mp) (nt:Nat) (F:Frm) (H:Heap) (a:Act) (w:World):Prop :=
 ∃ G μ,Ext n0 wi Gi μi w G μ/\aM n0 G μ H w/\cY w G μ nt F a
theorem cY.N4 (h:cY w G μ nt F a){d p v F'}(hx:CN nt F d p=some F')(hv:VR w G μ p v):cY w G μ nt F' (a.put d v):=by
 cases d with
 | none=>simp only[CN,oJ]at hx; subst hx; exact h
 | some t =>
  simp only[CN]at hx;cases hb:Nat.blt t nt with
  | false=>grind
  | true =>
   rw[hb]at hx;simp only[oC,oJ]at hx;subst hx;exact h.cons (by simp_all) hv
theorem ZD(hW:aM n0 G μ H w)(hF:cY w G μ nt F a){l o cs v}(h:mkData P F l o=some (some (cs,v)))(hcs:mT cs=true):uN P n0 w G μ o a v H:=by
 unfold mkData at h;split at h
 ·rename_i t x y ho;cases hb:aLS l o.dst with
  | false=>grind
  | true =>
   rw[hb]at h;simp only[oC,oJ]at h;exact .value (by simp only[execOp,ho]) (RV hW (aZ hF x) (aZ hF y) h hcs)
 grind
theorem aI0(hcl:bN P cl)(hW:aM n0 G μ H w)(hF:cY w G μ nt F a){l o v H' k}(h:opz P cl l F H o=some (v,H',k)):uN P n0 w G μ o a v H':=by
 unfold opz at h;split at h
 ·rename_i t n c ho;cases hb:T8 l o.dst with
  | false=>rw[hb]at h; exact WX hcl hW hF h
  | true =>
   rw[hb]at h;split at h
   ·rename_i cs v1 H1 k1 h1;obtain⟨hcs,h⟩:=aG h;obtain⟨rfl,rfl,rfl⟩:=h;exact .value (by simp only[execOp,ho]) (VE hW (aZ hF n) (aZ hF c) h1 hcs).2
   grind
 ·exact WX hcl hW hF h
theorem aBE {t p q}:T2 (C5 P H t p q):=by
 unfold C5
 repeat' first
  | exact T2.no
  | exact T2.yes
  | apply T2.cond
  | split
theorem aRQ(hcl:bN P cl){l o v H' k}(h:opz P cl l F H o=some (v,H',k)):J5 k H H' v (λH2=>opz P cl l F H2 o):=by
 unfold opz at h ⊢;split at h
 ·cases hb:T8 l o.dst with
  | false =>
   rw[hb]at h;exact aID hcl h
  | true =>
   rw[hb]at h;split at h
   ·rename_i cs v1 H1 k1 h1;obtain⟨hcs,h⟩:=aG h;obtain⟨rfl,rfl,rfl⟩:=h;have:=aBE _ _ _ _ h1;subst this;exact⟨λh=>(by omega),λh=>by cases h⟩
   grind
 ·exact aID hcl h
theorem yK(hcl:bN P cl){ops o v H' c}(h:mH P cl ops.toList o F H=some (v,H',c))(hW:aM n0 G μ H w)(hF:cY w G μ nt F a) :
  (Region.wanted o (yielded ops a.tmps)=true/\uN P n0 w G μ o a v H')\/(Region.wanted o (yielded ops a.tmps)=false/\v=.lit undef/\H'=H):=by
 unfold mH at h;split at h
 ·rename_i hg;split at h
  ·exact .inl ⟨pR hF hg,aI0 hcl hW hF h⟩
  ·grind
  ·rename_i cs v' hm;cases hb:mT cs with
   | false=>grind
   | true =>
    rw[hb]at h;obtain⟨rfl,rfl,rfl⟩:=h;exact .inl ⟨pR hF hg,ZD hW hF hm hb⟩
 ·rename_i hg;obtain⟨rfl,rfl,rfl⟩:=h;exact .inr ⟨pR hF hg,rfl,rfl⟩
 grind
theorem rU(hcl:bN P cl){ops Q F' H'}:∀ l F H a w,yB P cl nt ops.toList l F H=some (F',H')->I n0 wi Gi μi nt F H a w ->
  (∀ a' w',I n0 wi Gi μi nt F' H' a' w'->Q .normal a' w')->wpList P ops Q l a w
 | [],F,H,a,w,h,hI,hQ=>by
  obtain⟨rfl,rfl⟩:=h;exact hQ a w hI
 | o::rest,F,H,a,w,h,hI,hQ=>by
  simp only[yB]at h;split at h
  ·rename_i v H1 c hs;rw[HR]at h;split at h
   ·rename_i F1 hp;rw[sG,Bool.cond_self]at h;obtain⟨G,μ,e,hW,hF⟩:=hI;unfold wpList;rcases yK hcl hs hW hF with ⟨h1,h2⟩|⟨h1,rfl,rfl⟩
    ·rw[if_pos h1];refine .inl (h2 _ _ λv' w' G' μ' e' hW' hv=>?_);exact rU hcl rest F1 H1 _ _ h ⟨G',μ',e.trans e',hW',(hF.mono e'.toMono).N4 hp hv⟩ hQ
    ·rw[h1,if_neg (by decide)];exact rU hcl rest F1 H1 _ _ h ⟨G,μ,e,hW,hF.N4 hp (by rfl)⟩ hQ
   grind
  grind
end
structure aVG where
 wP:List Nat
 own:List (Nat×TypeId×Option Ty)
 base:Nat
def below(m:Nat):PV->Bool
 | .hptr r _=>Nat.blt r m
 | .hs r _ _ _ _=>Nat.blt r m
 | .own r _=>Nat.blt r m
 | .op r _ _ _=>Nat.blt r m
 | .win r _ _ _=>Nat.blt r m
 | .qs r _=>Nat.blt r m
 | .agg cs|.tuple cs=>belows m cs
 | .clo _ f c=>belows m f&&belows m c
 | _=>true
where belows m:List PV->Bool
 | []=>true
 | p::ps=>below m p&&belows m ps
def Y7(s n:Nat):PV->PV
 | .win r lo m sz=>bif Nat.beq r s then .win n lo m sz else .win r lo m sz
 | p=>p
def aDG(s n:Nat):Frm->Frm
 | []=>[]
 | (t,p)::r=>(t,Y7 s n p)::aDG s n r
def YQ(t:Nat) (e:TypeId) (ty:Ty) (F:Frm) (H:Heap) (k:Frm->Heap->Option (Frm×Heap)) (s sz:Nat) (q:PV):Option (Frm×Heap):=match dY H s with
 | some kb=>match kb.tag with
  | some g=>match qM g.t ty g.l with
   | some l=>bif Nat.beq sz ty.size&&!kb.frozen&&Nat.beq kb.ty e&&kb.grown then k ((t,q)::aDG s H.length F) (H.set s none++[some ⟨aD ty l,e,true,false,some ⟨ty,l⟩⟩]) else none
   | none=>none
  | none=>none
 | none=>none
def YM(t:Nat) (e:TypeId) (ty:Ty) (F:Frm) (H:Heap) (k:Frm->Heap->Option (Frm×Heap)):Option (Frm×Heap):=match bB F t with
 | .lit (.slice none m c)=>bif Nat.beq m 0&&Nat.beq c 0 then k ((t,.own H.length ty.size)::F) (H++[some ⟨aD ty [],e,true,false,some ⟨ty,[]⟩⟩]) else none
 | .tl _ [] (some 0) _=>k ((t,.own H.length ty.size)::F) (H++[some ⟨aD ty [],e,true,false,some ⟨ty,[]⟩⟩])
 | .own s sz=>YQ t e ty F H k s sz (.own H.length sz)
 | .qs s sz=>YQ t e ty F H k s sz (.qs H.length sz)
 | _=>none
def qG:List (Nat×TypeId×Option Ty)->Frm->Heap->Option (Frm×Heap)
 | [],F,H=>some (F,H)
 | (t,e,none)::r,F,H=>match bB F t with
  | .hptr s off=>match dY H s with
   | some k=>bif Nat.beq k.ty e&&!k.tag.isSome then qG r ((t,.hptr H.length off)::F) (H.set s none++[some k]) else none
   | none=>none
  | _=>none
 | (_,e,some (.rows _))::r,F,H=>match JJ 0 H with
  | some (s,k)=>match k.tag with
   | some ⟨.rows _,_⟩=>bif Nat.beq k.ty e&&!k.frozen then qG r F (H.set s none++[some k]) else none
   | _=>none
  | none=>none
 | (t,e,some ty)::r,F,H=>YM t e ty F H (qG r)
def SQ(m d:Nat):PV->Option PV
 | .own r sz=>bif Nat.blt r m then some (.own r sz) else bif Nat.ble (m+d) r then some (.own (r-d) sz) else none
 | .qs r sz=>bif Nat.blt r m then some (.qs r sz) else bif Nat.ble (m+d) r then some (.qs (r-d) sz) else none
 | .hptr r off=>bif Nat.blt r m then some (.hptr r off) else bif Nat.ble (m+d) r then some (.hptr (r-d) off) else none
 | .win r lo n sz=>bif Nat.blt r m then some (.win r lo n sz) else bif Nat.ble (m+d) r then some (.win (r-d) lo n sz) else none
 | p=>bif below m p then some p else none
def TL(m d:Nat)(F:Frm):List Nat->Option Frm
 | []=>some []
 | t::r=>match SQ m d (bB F t),TL m d F r with
  | some p,some F'=>some ((t,p)::F')
  | _,_=>none
def B3(m:Nat):List (Option Blk)->Bool
 | []=>true
 | none::r=>B3 m r
 | some k::r=>(k.tag.isSome||below.belows m k.cells)&&B3 m r
def EJ:List (Option Blk)->Bool
 | []=>true
 | none::r=>EJ r
 | some k::r=>(k.tag.isSome||bU.noRefs k.cells)&&EJ r
def tidy(pl:aVG)(F:Frm)(H:Heap):Option (Frm×Heap) :=
 bif Nat.ble pl.base H.length then match qG pl.own F H with
  | some (F1,H1)=>bif B3 pl.base (H1.take pl.base)&&EJ (H1.drop (pl.base+(H.length-pl.base))) then match TL pl.base (H.length-pl.base) F1 pl.wP with
   | some F2=>some (F2,H1.take pl.base++H1.drop (pl.base+(H.length-pl.base)))
   | none=>none
   else none
  | none=>none
 else none
section
variable {P:Program} {n0:Nat->Prop} {w wi:World} {G Gi:Gd} {μ μi μ':Mp} {H:Heap} {F:Frm} {a:Act} {nt:Nat}
mutual
theorem DE {m:Nat} (h:∀ r,r<m->μ'.loc r=μ.loc r/\μ'.len r=μ.len r/\μ'.sh r=μ.sh r):∀ (p:PV) (v:Value),below m p=true->VR w G μ p v->VR w G μ' p v
 | .lit u,v,_,hv=>by rw[VR]at hv ⊢; exact hv
 | .vals ..,v,_,hv=>by rw[VR]at hv ⊢; exact hv
 | .iptr _,v,_,hv=>by rw[VR]at hv ⊢; exact hv
 | .tl ..,v,_,hv=>by rw[VR]at hv ⊢; exact hv
 | .tp ..,v,_,hv=>by rw[VR]at hv ⊢; exact hv
 | .row ..,v,_,hv=>by rw[VR]at hv ⊢; exact hv
 | .rp ..,v,_,hv=>by rw[VR]at hv ⊢; exact hv
 | .mp _,v,_,hv=>by rw[VR]at hv ⊢; exact hv
 | .tm _,v,_,hv=>by rw[VR]at hv ⊢; exact hv
 | .junk,v,_,hv=>by rw[VR]; trivial
 | .hptr r off,v,hb,hv=>by
  have:=h r (cF (by simpa only[below]using hb));rw[VR]at hv ⊢; rw[this.1,this.2.2]; exact hv
 | .hs r off l c s,v,hb,hv=>by
  have:=h r (cF (by simpa only[below]using hb));rw[VR]at hv ⊢; rw[this.1,this.2.2]; exact hv
 | .own r s,v,hb,hv=>by
  have:=h r (cF (by simpa only[below]using hb));rw[VR]at hv ⊢; rw[this.1,this.2.1,this.2.2]; exact hv
 | .op r i off s,v,hb,hv=>by
  have:=h r (cF (by simpa only[below]using hb));rw[VR]at hv ⊢; rw[this.1,this.2.2]; exact hv
 | .win r lo n s,v,hb,hv=>by
  have:=h r (cF (by simpa only[below]using hb));rw[VR]at hv ⊢; rw[this.1,this.2.1,this.2.2]; exact hv
 | .qs r s,v,hb,hv=>by
  have:=h r (cF (by simpa only[below]using hb));rw[VR]at hv ⊢; rw[this.1,this.2.1,this.2.2]; exact hv
 | .agg cs,v,hb,hv=>by
  rw[VR]at hv ⊢;obtain⟨vs,h1,h2⟩:=hv;exact⟨vs,h1,zK h cs _ (by simpa only[below]using hb) h2⟩
 | .tuple cs,v,hb,hv=>by
  rw[VR]at hv ⊢;obtain⟨vs,h1,h2⟩:=hv;exact⟨vs,h1,zK h cs _ (by simpa only[below]using hb) h2⟩
 | .clo fn f c,v,hb,hv=>by
  rw[VR]at hv ⊢;simp only[below,oA]at hb;obtain⟨fs,cs,h1,h2,h3⟩:=hv;exact⟨fs,cs,h1,zK h f _ hb.1 h2,zK h c _ hb.2 h3⟩
theorem zK {m:Nat} (h:∀ r,r<m->μ'.loc r=μ.loc r/\μ'.len r=μ.len r/\μ'.sh r=μ.sh r):∀ (ps:List PV) (vs:List Value),below.belows m ps=true->VRs w G μ ps vs->VRs w G μ' ps vs
 | [],vs,_,hv=>by rw[VRs]at hv ⊢; exact hv
 | p::ps,vs,hb,hv=>by
  rw[VRs]at hv ⊢;simp only[below.belows,oA]at hb;obtain⟨x,xs,h1,h2,h3⟩:=hv;exact⟨x,xs,h1,DE h p x hb.1 h2,zK h ps xs hb.2 h3⟩
end
theorem iQ {b off ps}(hn:bU.noRefs ps=true)(h:aK w G μ b off ps):aK w G μ' b off ps:=by
 obtain⟨vs,h1,h2⟩:=h.values;exact aK.gD (VRs.aP (bG ps vs hn h1)) h2
theorem ZC {m}(hm:∀ r,r<m->μ'.loc r=μ.loc r/\μ'.len r=μ.len r/\μ'.sh r=μ.sh r){b off ps}(hn:below.belows m ps=true)(h:aK w G μ b off ps):aK w G μ' b off ps:=by
 obtain⟨vs,h1,h2⟩:=h.values;exact aK.gD (zK hm ps vs hn h1) h2
theorem EB {t e v}(h:VR w G μ (.tl t [] (some 0) e) v):∃ ao,v=.slice ao 0 0:=by
 obtain⟨h1,rfl⟩:=h;obtain⟨ao,c,rfl,_,h2,_⟩:=h1
 simp_all
theorem cY.named (h:cY w G μ nt F a){t p}(hv:VR w G μ p (a.tmps.getD t undef)):cY w G μ nt ((t,p)::F) a :=
 ⟨h.size,λs=>by
  rw[cS]
  by_cases hs:s=t
  ·grind
  ·rw[if_neg hs]; exact h.slot s,h.defers⟩
theorem O6 s n t:∀ F ,bB (aDG s n F) t=Y7 s n (bB F t)
 | []=>rfl
 | (u,p)::r=>by
  simp only[aDG];rw[cS,cS]
  by_cases h:t=u
  ·grind
  ·rw[if_neg h,if_neg h]; exact O6 s n t r
theorem aKF {s n}(e:Mono w G μ w G μ')(hl:μ'.loc n=μ.loc s)(hn:μ'.len n=μ.len s)(hs:∀ b,μ.loc s=some b->μ'.sh n=μ.sh s){p v}(h:VR w G μ p v):VR w G μ' (Y7 s n p) v:=by
 cases p with
 | win r lo m sz =>
  simp only[Y7];cases hb:Nat.beq r s with
  | true =>
   have hb:=oE hb;simp only[oC];rw[VR];obtain⟨b,c,m',h1,h2,h3,h4,h5,h6⟩:=h
   simp_all
  | false=>exact VR.mono e _ _ h
 | _=>exact VR.mono e _ _ h
theorem cY.aDG (h:cY w G μ nt F a){s n}(e:Mono w G μ w G μ')(hl:μ'.loc n=μ.loc s)(hn:μ'.len n=μ.len s)(hs:∀ b,μ.loc s=some b->μ'.sh n=μ.sh s):cY w G μ' nt (PM.aDG s n F) a :=
 ⟨h.size,λt=>by rw[O6]; exact aKF e hl hn hs (h.slot t),h.defers⟩
theorem UG {t e ty F H F' H' kk s sz q}
  (rec_:∀ F H F' H',kk F H=some (F',H')->I n0 wi Gi μi nt F H a w->I n0 wi Gi μi nt F' H' a w/\H.length<=H'.length/\∀ t,bB F t=.junk->bB F' t=.junk)
  (h:YQ t e ty F H kk s sz q=some (F',H')) (hI:I n0 wi Gi μi nt F H a w) (ht:bB F t=.own s sz\/bB F t=.qs s sz) (hW:aM n0 G μ H w) (hF:cY w G μ nt F a) (e0:Ext n0 wi Gi μi w G μ) (hs:VR w G μ (.qs s sz) (a.tmps.getD t undef)) (hq:q=.qs H.length sz\/q=.own H.length sz/\VR w G μ (.own s sz) (a.tmps.getD t undef)) :
  I n0 wi Gi μi nt F' H' a w/\H.length<=H'.length/\∀ t,bB F t=.junk->bB F' t=.junk:=by
 unfold YQ at h;split at h
 ·rename_i k hk;split at h
  ·rename_i g hg;split at h
   ·rename_i l' hc;obtain⟨hb,h⟩:=aG h;simp only[oA,Bool.not_eq_true']at hb;obtain⟨⟨⟨hb1,hb2⟩,hb3⟩,hb4⟩:=hb;have hb3:=oE hb3;obtain⟨ht1,ht2⟩:=hW.tags s k g (aE hk) hg;obtain⟨gt,gl⟩:=g;obtain⟨rfl,rfl⟩:=fY hc;obtain⟨n,h1,h2⟩:=hs;rw[ht2]at h1;cases h1;have hkk:k=⟨aD gt gl,e,true,false,some ⟨gt,gl⟩⟩:=by
     obtain⟨k1,k2,k3,k4,k5⟩:=k;grind
    have junk:∀ x,bB F x=.junk->bB ((t,q)::aDG s H.length F) x=.junk:=λx hx=>by
     rw[cS,if_neg,O6,hx]; rfl;grind
    have fin:∀ (ob:Option Nat) (o:Nat),μ.loc s=ob->(∀ b,μ.loc s=some b->o=μ.sh s)->Ext n0 w G μ w G (upd μ H.length ob (some gl.length) o)->aM n0 G (upd μ H.length ob (some gl.length) o) (H.set s none++[some ⟨aD gt gl,e,true,false,some ⟨gt,gl⟩⟩]) w ->
      VR w G (upd μ H.length ob (some gl.length) o) q (a.tmps.getD t undef)->I n0 wi Gi μi nt F' H' a w/\H.length<=H'.length/\∀ t,bB F t=.junk->bB F' t=.junk:=λob o hob ho e1 w1 v1=>by
     obtain⟨g1,g2,g3⟩:=rec_ _ _ F' H' h ⟨G,_,e0.trans e1,w1,cY.named (hF.aDG e1.toMono (by rw[cW,hob]) (by rw[gC,ht2]) (λb hb=>by rw[mG]; exact ho b hb)) v1⟩;grind
    cases hls:μ.loc s with
    | none =>
     rcases h2 with ⟨h2,ao,h3⟩|⟨b,c,h3,h4,h5,h6⟩
     ·have hk0:=jJ hW s;obtain⟨e1,w1⟩:=iX hk0 ⟨aD gt gl,e,true,false,some ⟨gt,gl⟩⟩ (on:=some gl.length) (λg hg=>by cases hg; exact⟨rfl,rfl⟩);rw[List.length_set]at e1 w1;refine fin none 0 hls (λb hb=>by rw[hls]at hb; cases hb) e1 w1 ?_;rcases hq with rfl|⟨rfl,_⟩ <;> (rw[VR]; exact⟨_,gC ..,.inl ⟨h2,ao,h3⟩⟩)
     ·grind
    | some b =>
     rw[hkk]at hk;obtain⟨e1,w1⟩:=xO hW (aE hk) hls (on:=some gl.length) (λg hg=>by cases hg; exact⟨rfl,rfl⟩);refine fin (some b) _ hls (λ_ _=>rfl) e1 w1 ?_;rcases hq with rfl|⟨rfl,hq⟩
     ·rw[VR];rw[mG];refine⟨_,gC ..,?_⟩;rcases h2 with ⟨h2,ao,h3⟩|⟨b',c,h3,h4,h5,h6⟩
      ·grind
      ·rw[hls]at h3; cases h3;exact .inr ⟨b,c,cW ..,h4,h5,h6⟩
     ·rw[VR]at hq;rw[VR,mG];obtain⟨n,h1,h2⟩:=hq;rw[ht2]at h1;cases h1;refine⟨_,gC ..,?_⟩;rcases h2 with ⟨h2,ao,h3⟩|⟨b',c,h3,h4,h5,h6⟩
      ·exact .inl ⟨h2,ao,h3⟩
      ·rw[hls]at h3; cases h3;exact .inr ⟨b,c,cW ..,h4,h5,h6⟩
   ·cases h
  ·cases h
 ·cases h
theorem qO {t e ty F H F' H' kk}
  (rec_:∀ F H F' H',kk F H=some (F',H')->I n0 wi Gi μi nt F H a w->I n0 wi Gi μi nt F' H' a w/\H.length<=H'.length/\∀ t,bB F t=.junk->bB F' t=.junk)
  (h:YM t e ty F H kk=some (F',H')) (hI:I n0 wi Gi μi nt F H a w):I n0 wi Gi μi nt F' H' a w/\H.length<=H'.length/\∀ t,bB F t=.junk->bB F' t=.junk:=by
 unfold YM at h;obtain⟨G,μ,e0,hW,hF⟩:=hI;have hs:=hF.slot t;split at h
 ·rename_i m c ht;obtain⟨hb,h⟩:=aG h;simp only[oA]at hb;have h1:=oE hb.1;have h2:=oE hb.2;subst h1; subst h2;rw[ht,VR]at hs;obtain⟨e1,w1⟩:=iX hW ⟨aD ty [],e,true,false,some ⟨ty,[]⟩⟩ (on:=some 0) (λg hg=>by cases hg; exact⟨rfl,rfl⟩);have f1:cY w G (upd μ H.length none (some 0)) nt ((t,.own H.length ty.size)::F) a:=by
   refine cY.named (hF.mono e1.toMono) ?_;exact⟨0,gC ..,.inl ⟨rfl,none,hs⟩⟩
  obtain⟨g1,g2,g3⟩:=rec_ _ _ F' H' h ⟨G,_,e0.trans e1,w1,f1⟩;refine⟨g1,by simp only[oH]at g2; omega,λs hx=>g3 s ?_⟩;rw[cS,if_neg,hx];grind
 ·rename_i t' e' ht;rw[ht]at hs;obtain⟨ao,hs⟩:=EB hs;obtain⟨e1,w1⟩:=iX hW ⟨aD ty [],e,true,false,some ⟨ty,[]⟩⟩ (on:=some 0) (λg hg=>by cases hg; exact⟨rfl,rfl⟩);have f1:cY w G (upd μ H.length none (some 0)) nt ((t,.own H.length ty.size)::F) a:=by
   refine cY.named (hF.mono e1.toMono) ?_;exact⟨0,gC ..,.inl ⟨rfl,ao,hs⟩⟩
  obtain⟨g1,g2,g3⟩:=rec_ _ _ F' H' h ⟨G,_,e0.trans e1,w1,f1⟩;refine⟨g1,by simp only[oH]at g2; omega,λs hx=>g3 s ?_⟩;rw[cS,if_neg,hx];grind
 ·rename_i s sz ht;rw[ht]at hs;exact UG rec_ h ⟨G,μ,e0,hW,hF⟩ (by rw[ht]; exact .inl rfl) hW hF e0 (aGN hs) (.inr ⟨rfl,hs⟩)
 ·rename_i s sz ht;rw[ht]at hs;exact UG rec_ h ⟨G,μ,e0,hW,hF⟩ (by rw[ht]; exact .inr rfl) hW hF e0 hs (.inl rfl)
 ·cases h
theorem iJ:∀ l F H F' H',qG l F H=some (F',H')->I n0 wi Gi μi nt F H a w->I n0 wi Gi μi nt F' H' a w/\H.length<=H'.length/\∀ t,bB F t=.junk->bB F' t=.junk
 | [],F,H,F',H',h,hI=>by
  obtain⟨rfl,rfl⟩:=h;grind
 | (t,e,none)::l,F,H,F',H',h,hI=>by
  simp only[qG]at h;obtain⟨G,μ,e0,hW,hF⟩:=hI;have hs:=hF.slot t;split at h
  ·rename_i s off ht;split at h
   ·rename_i k hk;obtain⟨hb,h⟩:=aG h;rw[ht,VR]at hs;obtain⟨b,h1,h2⟩:=hs;obtain⟨e1,w1⟩:=xO hW (aE hk) h1 (on:=none) (λg hg=>by rw[hg]at hb; simp at hb);have f1:cY w G (upd μ H.length (some b) none (μ.sh s)) nt ((t,.hptr H.length off)::F) a:=by
     refine cY.named (hF.mono e1.toMono) ?_;rw[VR,mG];exact⟨b,cW ..,h2⟩
    obtain⟨g1,g2,g3⟩:=iJ l _ _ F' H' h ⟨G,_,e0.trans e1,w1,f1⟩;refine⟨g1,by simp only[oH,List.length_set]at g2; omega,λx hx=>g3 x ?_⟩;rw[cS,if_neg,hx];grind
   ·cases h
  ·cases h
 | (t,e,some (.rows ty))::l,F,H,F',H',h,hI=>by
  simp only[qG]at h;obtain⟨G,μ,e0,hW,hF⟩:=hI;split at h
  ·rename_i s k har;split at h
   ·rename_i t' l' ht;obtain⟨hb,h⟩:=aG h;obtain⟨hs,hg⟩:=DV har;obtain⟨e1,w1⟩:=aGE hW hs hg ht;obtain⟨g1,g2,g3⟩:=iJ l _ _ F' H' h ⟨G,_,e0.trans e1,w1,hF.mono e1.toMono⟩;grind
   ·cases h
  ·cases h
 | (t,e,some (.int ik))::l,F,H,F',H',h,hI=>qO (ty:=.int ik) (λF H F' H'=>iJ l F H F' H') (by simpa only[qG]using h) hI
 | (t,e,some .bool)::l,F,H,F',H',h,hI=>qO (ty:=.bool) (λF H F' H'=>iJ l F H F' H') (by simpa only[qG]using h) hI
 | (t,e,some .str)::l,F,H,F',H',h,hI=>qO (ty:=.str) (λF H F' H'=>iJ l F H F' H') (by simpa only[qG]using h) hI
 | (t,e,some (.list lt))::l,F,H,F',H',h,hI=>qO (ty:=.list lt) (λF H F' H'=>iJ l F H F' H') (by simpa only[qG]using h) hI
 | (t,e,some (.prod pa pb))::l,F,H,F',H',h,hI=>qO (ty:=.prod pa pb) (λF H F' H'=>iJ l F H F' H') (by simpa only[qG]using h) hI
 | (t,e,some (.hnd hs))::l,F,H,F',H',h,hI=>qO (ty:=.hnd hs) (λF H F' H'=>iJ l F H F' H') (by simpa only[qG]using h) hI
 | (t,e,some .smap)::l,F,H,F',H',h,hI=>qO (ty:=.smap) (λF H F' H'=>iJ l F H F' H') (by simpa only[qG]using h) hI
theorem JA {m:Nat}:∀ {l:List (Option Blk)} {r:Nat} {k:Blk},B3 m l=true->l[r]?=some (some k)->k.tag.isSome=true\/below.belows m k.cells=true
 | [],r,k,_,h=>by simp at h
 | none::l,0,k,_,h=>by simp at h
 | some k'::l,0,k,hp,h=>by
  simp only[List.getElem?_cons_zero,oJ]at h;subst h;simp only[B3,oA,Bool.or_eq_true]at hp;exact hp.1
 | none::l,r+1,k,hp,h=>JA (l:=l) (r:=r) (by simpa only[B3]using hp) (by simpa using h)
 | some k'::l,r+1,k,hp,h=>by
  simp only[B3,oA]at hp;exact JA (l:=l) (r:=r) hp.2 (by simpa using h)
theorem E9:∀ {l:List (Option Blk)} {r:Nat} {k:Blk},EJ l=true->l[r]?=some (some k)->k.tag.isSome=true\/bU.noRefs k.cells=true
 | [],r,k,_,h=>by simp at h
 | none::l,0,k,_,h=>by simp at h
 | some k'::l,0,k,hp,h=>by
  simp only[List.getElem?_cons_zero,oJ]at h;subst h;simp only[EJ,oA,Bool.or_eq_true]at hp;exact hp.1
 | none::l,r+1,k,hp,h=>E9 (l:=l) (r:=r) (by simpa only[EJ]using hp) (by simpa using h)
 | some k'::l,r+1,k,hp,h=>by
  simp only[EJ,oA]at hp;exact E9 (l:=l) (r:=r) hp.2 (by simpa using h)
def vA(μ:Mp) (m d:Nat):Mp:=⟨λr=>if r<m then μ.loc r else μ.loc (r+d),λr=>if r<m then μ.len r else μ.len (r+d),λr=>if r<m then μ.sh r else μ.sh (r+d)⟩
theorem rC {m d r}(h:r<m):(vA μ m d).loc r=μ.loc r/\(vA μ m d).len r=μ.len r/\(vA μ m d).sh r=μ.sh r:=by simp[vA,h]
theorem MY {m d r}(h:m+d<=r):(vA μ m d).loc (r-d)=μ.loc r/\(vA μ m d).len (r-d)=μ.len r/\(vA μ m d).sh (r-d)=μ.sh r:=by
 have h1:¬ r-d<m:=by omega
 have h2:r-d+d=r:=by omega
 simp[vA,h1,h2]
theorem aL7(hW:aM n0 G μ H w){m d}(hm:m+d<=H.length)(h1:B3 m (H.take m)=true)(h2:EJ (H.drop (m+d))=true):aM n0 G (vA μ m d) (H.take m++H.drop (m+d)) w:=by
 have key:∀ (r:Nat) (k:Blk),(H.take m++H.drop (m+d))[r]?=some (some k)->∃ s,H[s]?=some (some k)/\(vA μ m d).loc r=μ.loc s/\((vA μ m d).len r=μ.len s/\(vA μ m d).sh r=μ.sh s)/\(k.tag.isSome=true\/below.belows m k.cells=true\/bU.noRefs k.cells=true)/\((r<m/\s=r)\/(m<=r/\s=r+d)):=by
  intro r k hr;rcases oG r m with hl|hl
  ·rw[List.getElem?_append_left (by simp; omega)]at hr;have hp:=JA h1 hr;rw[List.getElem?_take,if_pos hl]at hr;exact⟨r,hr,(rC hl).1,(rC hl).2,hp.elim .inl λh=>.inr (.inl h),.inl ⟨hl,rfl⟩⟩
  ·rw[List.getElem?_append_right (by simp; omega)]at hr;have hp:=E9 h2 hr;rw[List.getElem?_drop]at hr;have e:m+d+(r-(H.take m).length)=r+d:=by simp only[List.length_take]; omega
   rw[e]at hr;have hn:¬ r<m:=by omega
   exact⟨r+d,hr,by simp[vA,hn],⟨by simp[vA,hn],by simp[vA,hn]⟩,hp.elim .inl λh=>.inr (.inr h),.inr ⟨hl,rfl⟩⟩
 refine⟨?_,?_,?_,hW.lt,?_,hW.base,hW.rows.aSS (λr=>if r<m then r else r+d) (λr s h=>by
  by_cases h1:r<m <;> by_cases h2:s<m <;> simp only[h1,h2,if_true,if_false]at h <;> omega) (λr k hr=>by
  obtain⟨s,g1,g2,_,_,g5⟩:=key r k hr;rcases g5 with ⟨g5,g6⟩|⟨g5,g6⟩
  ·grind
  ·subst g6;simp only[if_neg (Nat.not_lt.2 g5)];exact⟨g1,g2⟩)⟩
 ·intro r k b hr hb;obtain⟨s,g1,g2,g3,g4,_⟩:=key r k hr;rw[g2]at hb;obtain⟨c,a1,a2,a3⟩:=hW.blk s k b g1 hb;rw[g3.2];refine⟨c,a1,?_,a3⟩;rcases g4 with g4|g4|g4
  ·obtain⟨g,hg⟩:=Option.isSome_iff_exists.1 g4;have:=(hW.tags s k g g1 hg).1;rw[this]at a2 ⊢;exact iQ (eA _ _) a2
  ·exact ZC (λr hr=>rC hr) g4 a2
  ·exact iQ g4 a2
 ·intro r k g hr hg;obtain⟨s,g1,g2,g3,_⟩:=key r k hr;rw[g3.1];exact hW.tags s k g g1 hg
 ·intro r1 r2 k1 k2 b e1 e2 f1 f2 m1 m2;obtain⟨s1,a1,a2,_,_,a5⟩:=key r1 k1 e1;obtain⟨s2,b1,b2,_,_,b5⟩:=key r2 k2 e2;rw[a2]at m1;rw[b2]at m2;have:=hW.inj s1 s2 k1 k2 b a1 b1 f1 f2 m1 m2;omega
 ·intro r hr;simp only[oH,List.length_take,List.length_drop]at hr;have hn:¬ r<m:=by omega
  have:=hW.top (r+d) (by omega);simpa[vA,hn]using this
theorem aJ4 {m d p q v}(h:SQ m d p=some q)(hv:VR w G μ p v):VR w G (vA μ m d) q v:=by
 unfold SQ at h;split at h
 ·rename_i r sz;cases hb:Nat.blt r m with
  | true =>
   rw[hb]at h;simp only[oC,oJ]at h;subst h;exact DE (λr hr=>rC hr) _ v (by simpa only[below]using hb) hv
  | false =>
   rw[hb]at h;obtain⟨hc,h⟩:=aG h;simp only[oJ]at h;subst h;have:=MY (μ:=μ) (oL hc);rw[VR]at hv ⊢;grind
 ·rename_i r sz;cases hb:Nat.blt r m with
  | true =>
   rw[hb]at h;simp only[oC,oJ]at h;subst h;exact DE (λr hr=>rC hr) _ v (by simpa only[below]using hb) hv
  | false =>
   rw[hb]at h;obtain⟨hc,h⟩:=aG h;simp only[oJ]at h;subst h;have:=MY (μ:=μ) (oL hc);rw[VR]at hv ⊢;grind
 ·rename_i r off;cases hb:Nat.blt r m with
  | true =>
   rw[hb]at h;simp only[oC,oJ]at h;subst h;exact DE (λr hr=>rC hr) _ v (by simpa only[below]using hb) hv
  | false =>
   rw[hb]at h;obtain⟨hc,h⟩:=aG h;simp only[oJ]at h;subst h;have:=MY (μ:=μ) (oL hc);rw[VR]at hv ⊢;grind
 ·rename_i r lo n sz;cases hb:Nat.blt r m with
  | true =>
   rw[hb]at h;simp only[oC,oJ]at h;subst h;exact DE (λr hr=>rC hr) _ v (by simpa only[below]using hb) hv
  | false =>
   rw[hb]at h;obtain⟨hc,h⟩:=aG h;simp only[oJ]at h;subst h;have:=MY (μ:=μ) (oL hc);rw[VR]at hv ⊢
   simp_all
 ·obtain⟨hb,h⟩:=aG h;simp only[oJ]at h;subst h;exact DE (λr hr=>rC hr) _ v hb hv
theorem TS {m d}:∀ {l F'},TL m d F l=some F'->∀ t,bB F' t=.junk\/SQ m d (bB F t)=some (bB F' t)
 | [],F',h,t=>by
  simp only[TL,oJ]at h;subst h;exact .inl rfl
 | s::l,F',h,t=>by
  simp only[TL]at h;split at h
  ·rename_i p F1 hp hl;simp only[oJ]at h;subst h;rw[cS]
   by_cases hs:t=s
   ·grind
   ·rw[if_neg hs]; exact TS hl t
  grind
theorem aG9 {pl F' H'}(h:tidy pl F H=some (F',H'))(hfl:∀ r,pl.base<=r->μi.loc r=none/\μi.len r=none)(hI:I n0 wi Gi μi nt F H a w):I n0 wi Gi μi nt F' H' a w/\∀ t,bB F t=.junk->bB F' t=.junk:=by
 obtain⟨hb,h⟩:=aG h;have hb:=oL hb;split at h
 ·rename_i F1 H1 h1;obtain⟨hc,h⟩:=aG h;simp only[oA]at hc;split at h
  ·rename_i F2 hF2;obtain⟨rfl,rfl⟩:=h;obtain⟨⟨G,μ,e,hW,hF⟩,hlen,hj⟩:=iJ pl.own F H F1 H1 h1 hI;have dY:=TS hF2;refine⟨⟨G,vA μ pl.base (H.length-pl.base),?_,aL7 hW (by omega) hc.1 hc.2,hF.size,λt=>?_,hF.defers⟩,λt ht=>?_⟩
   ·exact {
     bS:=e.bS
     map:=λr b hr=>by
      rcases oG r pl.base with hl|hl
      ·rw[(rC hl).1]; exact e.map r b hr
      ·grind
     len:=λr b hr=>by
      rcases oG r pl.base with hl|hl
      ·rw[(rC hl).2.1]; exact e.len r b hr
      ·grind
     sh:=λr b hr=>by
      rcases oG r pl.base with hl|hl
      ·rw[(rC hl).2.2]; exact e.sh r b hr
      ·grind
     room:=e.room
     row:=e.row
     os:=e.os
     tape:=e.tape
     output:=e.output
     size:=e.size
     old:=e.old
     new:=e.new }
   ·rcases dY t with h3|h3
    ·rw[h3,VR]; trivial
    ·exact aJ4 h3 (hF.slot t)
   ·rcases dY t with h3|h3
    ·exact h3
    ·rw[hj t ht]at h3;have e3:SQ pl.base (H.length-pl.base) .junk=some .junk:=rfl;grind
  ·cases h
 ·cases h
end
end Go.PM
