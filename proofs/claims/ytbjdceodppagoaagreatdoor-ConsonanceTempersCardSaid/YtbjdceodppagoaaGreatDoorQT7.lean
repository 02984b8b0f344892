/- Texts of one proof, joined (7). -/
import Derived.Lib.AtoiTie
import Derived.Lib.ParseIntBTie
import Derived.Test.YtbjdceodppagoaaGreatDoorQT6
set_option linter.unusedSimpArgs false
set_option linter.unusedVariables false
set_option maxRecDepth 100000
noncomputable section
namespace Go.PM
open Go Go.RowKit
section
variable {P:Program} {n0:Nat->Prop} {w w':World} {G G':Gd} {μ μ1:Mp} {H H1:Heap}
theorem aYF(hW:eA n0 G μ H w) {r:Nat} (hr:H[r]?=some none) (k:Blk) (hf:k.frozen=false) (hg:k.grown=true)
  (hblk:∀ b,μ.loc r=some b->(∃ c,w.heap[b]?=some (.cells c k.ty (0,0))/\aK w G μ b (μ.sh r) k.cells)/\n0 b/\¬ G b/\(∀ s k1,H[s]?=some (some k1)->k1.frozen=false->μ.loc s≠some b)/\∀ j,G.row j≠some b)
  (htag:∀ g,k.tag=some g->k.cells=aP g.t g.l/\μ.len r=some g.l.length):eA n0 G μ (H.set r (some k)) w:=by
 have hlt:r<H.length:=(oO.1 hr).1;have key:∀ s k1,(H.set r (some k))[s]?=some (some k1)->(s=r/\k1=k)\/(s≠r/\H[s]?=some (some k1)):=by
  intro s k1 hs
  by_cases e:r=s
  ·subst e;rw[List.getElem?_set_self hlt]at hs;exact .inl ⟨rfl,(oB (oB hs)).symm⟩
  ·rw[List.getElem?_set_ne e]at hs;exact .inr ⟨Ne.symm e,hs⟩
 refine⟨?_,?_,?_,hW.lt,λs hs=>hW.top s (by simpa using hs),hW.base,?_⟩
 ·intro s k1 b hs hb;rcases key s k1 hs with ⟨rfl,rfl⟩|⟨_,hs⟩
  ·obtain⟨⟨c,h1,h2⟩,h3,h4,_⟩:=hblk b hb;exact⟨c,h1,h2,λh=>(by rw[hg]at h; cases h),λh=>(by rw[hf]at h; cases h),λ_=>⟨h3,h4⟩⟩
  ·exact hW.blk s k1 b hs hb
 ·intro s k1 g hs h1;rcases key s k1 hs with ⟨rfl,rfl⟩|⟨_,hs⟩
  ·exact htag g h1
  ·exact hW.tags s k1 g hs h1
 ·intro s1 s2 k1 k2 b h1 h2 f1 f2 m1 m2;rcases key s1 k1 h1 with ⟨rfl,rfl⟩|⟨_,h3⟩
  ·rcases key s2 k2 h2 with ⟨rfl,rfl⟩|⟨_,h4⟩
   ·rfl
   ·exact absurd m2 ((hblk b m1).2.2.2.1 s2 k2 h4 f2)
  ·rcases key s2 k2 h2 with ⟨rfl,rfl⟩|⟨_,h4⟩
   ·exact absurd m1 ((hblk b m2).2.2.2.1 s1 k1 h3 f1)
   ·exact hW.inj s1 s2 k1 k2 b h3 h4 f1 f2 m1 m2
 ·refine⟨hW.rows.inj,?_,hW.rows.cel,?_,?_⟩
  ·intro j b hj;obtain⟨a1,a2,a3,a4⟩:=hW.rows.sep j b hj;refine⟨a1,a2,a3,λs k1 hs f1 m1=>?_⟩;rcases key s k1 hs with ⟨rfl,rfl⟩|⟨_,hs⟩
   ·exact(hblk b m1).2.2.2.2 j hj
   ·exact a4 s k1 hs f1 m1
  ·intro s k1 t l hs h1 h2;rcases key s k1 hs with ⟨rfl,rfl⟩|⟨_,hs⟩
   ·rw[hg]at h1; cases h1
   ·exact hW.rows.arn s k1 t l hs h1 h2
  ·intro s1 s2 k1 k2 t l t' l' h1 g1 t1 h2 g2 t2;rcases key s1 k1 h1 with ⟨rfl,rfl⟩|⟨_,h1⟩
   ·rw[hg]at g1; cases g1
   ·rcases key s2 k2 h2 with ⟨rfl,rfl⟩|⟨_,h2⟩
    ·rw[hg]at g2; cases g2
    ·exact hW.rows.one s1 s2 k1 k2 t l t' l' h1 g1 t1 h2 g2 t2
def a0T(P:Program) (g:FuncId) (e:TypeId) (t:Ty) (args:List Kd) (f:List t.den->aL args->Option (List t.den)):Prop :=
 ∀ l x l',f l x=some l'->∀ {n0 G μ H w us r},eA n0 G μ H w->H[r]?=some (some (owB e t l))->VRs w G μ (.own r t.size::MU args x) us->iM.noRows (MU args x)=true->vQ P n0 w G μ g us.toArray (.tuple []) (H.set r (some (owB e t l')))
def CF {t:Ty} {args:List Kd} (f:Unit->aL (.hnd t.size::args)->List (List t.den)->Option (aL []×List (List t.den))) (l:List t.den) (x:aL args):Option (List t.den):=match f () ((0,0,l.length),x) [l]with
 | some ((),[l'])=>bif Nat.beq l'.length l.length then some l' else none
 | _=>none
def aZ7(P:Program) (g:FuncId) (e:TypeId) (t:Ty) (args rets:List Kd) (f:List t.den->aL args->Option (aL rets×List t.den)):Prop :=
 ∀ l x y l',f l x=some (y,l')->∀ {n0 G μ H w us r},eA n0 G μ H w->H[r]?=some (some (owB e t l))->VRs w G μ (.own r t.size::MU args x) us->iM.noRows (MU args x)=true->vQ P n0 w G μ g us.toArray (RP rets y) (H.set r (some (owB e t l')))
def EW {t:Ty} {args rets:List Kd} (f:Unit->aL (.hnd t.size::args)->List (List t.den)->Option (aL rets×List (List t.den))) (l:List t.den) (x:aL args):Option (aL rets×List t.den):=match f () ((0,0,l.length),x) [l]with
 | some (y,[l'])=>bif Nat.beq l'.length l.length then some (y,l') else none
 | _=>none
def a3E:List Kd->Bool
 | []=>true
 | [.bool]=>true
 | [.int _]=>true
 | _=>false
theorem a2U {rets}(h:a3E rets=true) y {w G G' μ μ' v}(hv:VR w G μ (RP rets y) v):VR w G' μ' (RP rets y) v:=by
 unfold a3E at h;split at h
 ·change VR w G μ (.tuple []) v at hv;change VR w G' μ' (.tuple []) v;obtain⟨vs,h1,h2⟩:=hv;exact⟨vs,h1,h2⟩
 ·obtain⟨b,⟨⟩⟩:=y;change VR w G μ (.lit (.bool b)) v at hv;change VR w G' μ' (.lit (.bool b)) v;exact hv
 ·rename_i k;obtain⟨b,⟨⟩⟩:=y;change VR w G μ (.lit (.int k b)) v at hv;change VR w G' μ' (.lit (.int k b)) v;exact hv
 grind
theorem aS1 {g:FuncId} {e:TypeId} {t:Ty} {args rets:List Kd} {f:Unit->aL (.hnd t.size::args)->List (List t.den)->Option (aL rets×List (List t.den))} (hf:aFF P g e t .none (.hnd t.size::args) (.data rets) f) (hd:aN3 args=true) (hpl:t.plain=true) (hlr:a3E rets=true) (he:e≠yK:=by decide):aZ7 P g e t args rets (EW f):=by
 intro l x yy l' hy n0 G μ H w us r hW hk hv hnr;unfold EW at hy;split at hy
 ·rename_i y1 l1 hfl;obtain⟨hlen,hy⟩:=cC hy;obtain⟨rfl,rfl⟩:=Prod.mk.inj (oB hy);have hlen:=oE hlen;have ht2:=(hW.tags r _ _ hk rfl).2;have hlt:r<H.length:=(oO.1 hk).1;obtain⟨rb,hrb⟩:∃ rb:Option Nat,rb=if l=[] then none else μ.loc r:=⟨_,rfl⟩
  have hrbl:∀ b,rb=some b->μ.loc r=some b/\l≠[]:=λb hb=>by
   rw[hrb]at hb;split at hb
   ·cases hb
   ·rename_i hne; exact⟨hb,hne⟩
  have hmine:∀ b,μ.loc r=some b->n0 b/\¬ G b:=λb hb=>by
   obtain⟨_,_,_,_,_,h6⟩:=hW.blk r _ b hk hb;exact h6 rfl
  have hrow:∀ j b,G.row j=some b->μ.loc r≠some b:=λj b hj=>(hW.rows.sep j b hj).2.2.2 r _ hk rfl
  obtain⟨u,us',rfl,q1,q2⟩:∃ u us',us=u::us'/\VR w G μ (.own r t.size) u/\VRs w G μ (MU args x) us':=by rw[VRs]at hv; exact hv
  have at0:∀ (s:Nat) (k1:Blk),([some (arB e t [l])]:Heap)[s]?=some (some k1)->s=0/\k1=arB e t [l]:=by
   intro s k1 hs;cases s with
   | zero=>simp only[List.getElem?_cons_zero,oJ]at hs; exact⟨rfl,hs.symm⟩
   | succ s=>simp at hs
  have hG0:∃ G0:Gd,G0=⟨G.ok,λj=>if j=0 then rb else none⟩:=⟨_,rfl⟩;obtain⟨G0,hG0⟩:=hG0;have hok:G0.ok=G.ok:=by rw[hG0]
  have hr0:∀ j b,G0.row j=some b->j=0/\rb=some b:=λj b hj=>by
   rw[hG0]at hj;dsimp only at hj;split at hj
   ·exact⟨‹_›,hj⟩
   ·cases hj
  have hW1:eA (λb=>w.heap.size<=b\/rb=some b) G0 ⟨λ_=>none,λs=>if s=0 then some 1 else none,λ_=>0⟩ [some (arB e t [l])] w:=by
   refine⟨λs k1 b hs hb=>(by cases hb),?_,λs1 s2 k1 k2 b _ _ _ _ m=>(by cases m),by rw[hok]; exact hW.lt,?_,λb hb=>.inl hb,?_⟩
   ·intro s k1 gg hs hg;obtain⟨rfl,rfl⟩:=at0 s k1 hs;cases hg;exact⟨rfl,rfl⟩
   ·intro s hs;have:s≠0:=by rintro rfl; simp at hs
    exact⟨rfl,by simp[this]⟩
   ·refine⟨λi j b h1 h2=>(hr0 i b h1).1.trans (hr0 j b h2).1.symm,λj b hj=>?_,λj b hj=>?_,λs k1 t1 l1 hs h1 h2=>?_,λs1 s2 k1 k2 t1 l1 t2 l2 h1 _ _ h2 _ _=>((at0 s1 k1 h1).1.trans (at0 s2 k2 h2).1.symm)⟩
    ·obtain⟨_,h2⟩:=hr0 j b hj;exact⟨hW.GQ hk (hrbl b h2).1,.inr h2,by rw[hok]; exact(hmine b (hrbl b h2).1).2,λ_ _ _ _ h=>by cases h⟩
    ·obtain⟨_,h2⟩:=hr0 j b hj;obtain⟨c,h3,_⟩:=hW.blk r _ b hk (hrbl b h2).1;exact .inl ⟨c,_,_,h3⟩
    ·obtain⟨rfl,rfl⟩:=at0 s k1 hs;cases h2;refine⟨rfl,λj hj=>?_,λj row hj=>?_⟩
     ·rw[hG0];have:j≠0:=by rintro rfl; simp at hj
      simp[this]
     ·cases j with
      | zero =>
       simp only[List.getElem?_cons_zero,oJ]at hj;subst hj
       by_cases hl:l=[]
       ·exact .inl ⟨hl,he⟩
       ·right;rw[VR]at q1;obtain⟨n,z1,z2⟩:=q1;rw[ht2]at z1;obtain rfl:=oB z1;rcases z2 with ⟨z2,_⟩|⟨b,c,z2,_,_,_,z5⟩
        ·exact absurd (List.eq_nil_of_length_eq_zero z2) hl
        ·obtain⟨cc,a1,a2,_⟩:=hW.blk r _ b hk z2;rw[z5]at a2;refine⟨b,by rw[hG0,hrb]; simp[hl,z2],.inl ⟨he,cc,a1,?_⟩⟩;exact rP (G:=G) (G':=G0) (λb h=>by rw[hok]; exact h) _ _ _ _ (uZ t hpl l) (EA (nN _ _) a2)
      | succ j=>simp at hj
  have hsh:l≠[]->μ.sh r=0:=λhl=>by
   rw[VR]at q1;obtain⟨n,z1,z2⟩:=q1;rw[ht2]at z1;obtain rfl:=oB z1;rcases z2 with ⟨z2,_⟩|⟨_,_,_,_,_,_,z5⟩
   ·exact absurd (List.eq_nil_of_length_eq_zero z2) hl
   ·exact z5
  have hv1:VRs w G0 ⟨λ_=>none,λs=>if s=0 then some 1 else none,λ_=>0⟩ (Tk.none.pv 0++MU (.hnd t.size::args) ((0,0,l.length),x)) (u::us'):=by
   change VRs w G0 _ (.row 0 0 l.length t.size::MU args x) (u::us');rw[VRs];refine⟨u,us',rfl,?_,VRs.fK (pO (G:=G) (G':=G0) (λb h=>by rw[hok]; exact h) _ _ _ hnr (eF _ _ (aF4 args x hd) q2))⟩;rw[VR]at q1;rw[VR];obtain⟨n,z1,z2⟩:=q1;rw[ht2]at z1;obtain rfl:=oB z1;rcases z2 with ⟨z2,ao,rfl⟩|⟨b,c,z2,rfl,z3,z4⟩
   ·exact⟨ao,0,by rw[show l.length=0 from z2],by rw[show l.length=0 from z2]; exact oM _,.inl z2⟩
   ·obtain⟨z4,z5⟩:=z4;rw[z5];rw[z5]at z4;refine⟨_,c,rfl,z3,?_⟩
    by_cases hl:l=[]
    ·exact .inl (by rw[hl]; rfl)
    ·exact .inr ⟨b,by rw[hG0,hrb]; simp[hl,z2],by simp,by simpa using z4⟩
  obtain⟨c1,c2⟩:=hf () ((0,0,l.length),x) [l] y1 [l1] hfl (ra:=0) (r:=0) hW1 rfl ⟨λ_ _ h=>by cases h⟩ hv1;refine⟨c1,c2.mono ?_⟩;rintro e' w' ⟨v',G1,μ1,rfl,ee,hW',hvv⟩;have hb1:∀ b,rb=some b->G1.row 0=some b:=λb hb=>ee.row 0 b (by rw[hG0]; simp[hb])
  have hH1:(((aH6 (Tk.none.ow () 0) [some (arB e t [l])]).set 0 none)++(some (arB e t [l1])::(An.data rets).hp y1):Heap)[1]?=some (some (arB e t [l1])):=rfl;have hn0:∀ b,b<w.heap.size->¬ n0 b->w'.heap[b]?=w.heap[b]?:=λb hb hn=>ee.old b hb (by
   rintro(h|h)
   ·exact Nat.not_le.2 hb h
   ·exact hn (hmine b (hrbl b h).1).1)
  have hgg:∀ b,G b->G0 b:=λb hb=>by rw[hok]; exact hb
  have e2:Ext n0 w G μ w' (G1.with G) μ:={
   good:=λb hb=>⟨(ee.good b (hgg b hb)).1,(ee.good b (hgg b hb)).2⟩
   map:=λ_ _ h=>h
   len:=λ_ _ h=>h
   room:=ee.room
   row:=λ_ _ h=>h
   os:=ee.os
   tape:=ee.tape
   output:=ee.output
   size:=ee.size
   old:=hn0
   new:=λb hb=>by
    rcases ee.new b hb with h|h|h
    ·rw[hok]at h; exact .inl h
    ·exact .inr (hW.base b h)
    ·exact .inr (hmine b (hrbl b h).1).1 }
  have hold:∀ b,b<w.heap.size->rb≠some b->w'.heap[b]?=w.heap[b]?/\(G1 b->G b):=λb hb hne =>
   ⟨ee.old b hb (by rintro(h|h); exact Nat.not_le.2 hb h; exact hne h),λhg=>by
    rcases ee.new b hg with h|h|h
    ·rw[hok]at h; exact h
    ·exact absurd hb (Nat.not_lt.2 h)
    ·exact absurd h hne⟩
  have hk2:eA n0 (G1.with G) μ (H.set r none) w':=by
   refine(J8 hW r).keep e2 ⟨λ_=>rfl,λj b hj=>hold b (hW.rows.sep j b hj).1 λh=>hrow j b hj (hrbl b h).1⟩ ?_ (λb hb=>hW'.lt b hb);intro s k1 b hs hb;obtain⟨hs,hsr⟩:=sU hs;refine hold b (hW.GQ hs hb) λh=>?_
   have hrb:=(hrbl b h).1;cases hf:k1.frozen with
   | false=>exact hsr (hW.inj s r k1 _ b hs hk hf rfl hb hrb)
   | true =>
    obtain⟨_,_,_,_,h5,_⟩:=hW.blk s k1 b hs hb;exact(hmine b hrb).2 (h5 hf)
  have hfin:eA n0 (G1.with G) μ (H.set r (some (owB e t l1))) w':=by
   have:=aYF hk2 (r:=r) (List.getElem?_set_self hlt) (owB e t l1) rfl rfl ?_ ?_
   ·rwa[List.set_set]at this
   ·intro b hb;have hcells:(∃ c,w'.heap[b]?=some (.cells c e (0,0))/\aK w' (G1.with G) μ b (μ.sh r) (aP t l1))/\¬ G1 b:=by
     by_cases hl:l=[]
     ·have hl1:l1=[]:=List.eq_nil_of_length_eq_zero (by rw[hlen,hl]; rfl);have hne:rb≠some b:=λh=>(hrbl b h).2 hl
      obtain⟨o1,o2⟩:=hold b (hW.GQ hk hb) hne;obtain⟨c,h3,_⟩:=hW.blk r _ b hk hb;refine⟨⟨c,o1.trans h3,?_⟩,λh=>(hmine b hb).2 (o2 h)⟩;rw[hl1]; simp[aP,aK]
     ·have hbb:rb=some b:=by rw[hrb,if_neg hl]; exact hb
      have hrow1:=hb1 b hbb;obtain⟨_,_,a3⟩:=hW'.rows.arn 1 _ t [l1] hH1 rfl rfl;rcases a3 0 l1 rfl with h|⟨b',z1,z2⟩
      ·exact absurd (List.eq_nil_of_length_eq_zero (by rw[<- hlen,h.1]; rfl)) hl
      ·rw[hrow1]at z1;obtain rfl:=oB z1;obtain⟨c0,y1,_⟩:=hW.blk r _ b hk hb;obtain⟨c,z2,z3⟩:=z2.cells (.inr (e2.room b 0 ⟨c0,_,_,y1,Nat.zero_le _⟩));refine⟨⟨c,z2,?_⟩,(hW'.rows.sep 0 b hrow1).2.2.1⟩;rw[hsh hl];exact rP (G:=G1) (G':=G1.with G) (λb h=>h) _ _ _ _ (uZ t hpl l1) (EA (nN _ _) z3)
    refine⟨hcells.1,(hmine b hb).1,hcells.2,λs k1 hs hf hsb=>?_,λj hj=>hrow j b hj hb⟩;obtain⟨hs,hsr⟩:=sU hs;exact hsr (hW.inj s r k1 _ b hs hk hf rfl hsb hb)
   ·intro g hg;cases hg;exact⟨rfl,by rw[ht2,hlen]⟩
  refine⟨v',G1.with G,μ,rfl,e2,hfin,?_⟩;exact a2U hlr y1 hvv
 ·cases hy
theorem aVW {g:FuncId}{e:TypeId}{t:Ty}{args:List Kd}{f:Unit->aL (.hnd t.size::args)->List (List t.den)->Option (aL []×List (List t.den))}(hf:aFF P g e t .none (.hnd t.size::args) (.data []) f)(hd:aN3 args=true)(hpl:t.plain=true)(he:e≠yK:=by decide):a0T P g e t args (CF f):=by
 intro l x l' hy n0 G μ H w us r hW hk hv hnr;refine aS1 hf hd hpl rfl he l x () l' ?_ hW hk hv hnr;unfold CF at hy;unfold EW;split at hy
 ·rename_i l1 hfl;obtain⟨hlen,hy⟩:=cC hy;obtain rfl:=oB hy;rw[hfl];show (bif Nat.beq l1.length l.length then some ((),l1) else none)=_;rw[hlen];rfl
 ·cases hy
def a0S(e:TypeId) (t:Ty) (args rets:List Kd) (f:List t.den->aL args->Option (aL rets×List t.den)) (qs:List PV) (H:Heap):Option Q7:=match PZ e t H qs with
 | some (l,r,ps)=>match aUV args ps with
  | some x=>bif iU.noRefs ps&&iM.noRows (MU args x) then some ⟨aL rets×List t.den,f l x,λz=>(RP rets z.1,H.set r (some (owB e t z.2)))⟩ else none
  | none=>none
 | none=>none
theorem a3B {g e t args rets f}(hf:aZ7 P g e t args rets f):UA P (g,a0S e t args rets f):=by
 intro qs H rh h y hy n0 G μ w vs hW hv;change a0S e t args rets f qs H=some rh at h;unfold a0S at h;split at h
 ·rename_i l r ps hl;split at h
  ·rename_i x hx;obtain⟨hb,h⟩:=aC3 h;simp only[oJ]at h;subst h;simp only[oA]at hb;obtain⟨h0,rfl⟩:=aL1 hW hl;obtain⟨u,us,rfl,q1,q2⟩:=hv;exact hf l x y.1 y.2 hy hW h0 (⟨u,us,rfl,q1,(aB7 args hx (eF _ _ hb.1 q2)).fK⟩) hb.2
  grind
 grind
def a3M(e:TypeId) (t:Ty) (args:List Kd) (f:List t.den->aL args->Option (List t.den)) (qs:List PV) (H:Heap):Option Q7:=match PZ e t H qs with
 | some (l,r,ps)=>match aUV args ps with
  | some x=>bif iU.noRefs ps&&iM.noRows (MU args x) then some ⟨List t.den,f l x,λl'=>(.tuple [],H.set r (some (owB e t l')))⟩ else none
  | none=>none
 | none=>none
theorem a0H {g e t args f}(hf:a0T P g e t args f):UA P (g,a3M e t args f):=by
 intro qs H rh h y hy n0 G μ w vs hW hv;change a3M e t args f qs H=some rh at h;unfold a3M at h;split at h
 ·rename_i l r ps hl;split at h
  ·rename_i x hx;obtain⟨hb,h⟩:=aC3 h;simp only[oJ]at h;subst h;simp only[oA]at hb;obtain⟨h0,rfl⟩:=aL1 hW hl;obtain⟨u,us,rfl,q1,q2⟩:=hv;exact hf l x y hy hW h0 (⟨u,us,rfl,q1,(aB7 args hx (eF _ _ hb.1 q2)).fK⟩) hb.2
  grind
 grind
end
def a0B(P:Program)(E:Env)(fn:Func)(keep:Nat)(lt rt:Nat->Option C8)(c:Code)(ae:TypeId)(t:Ty)(tk:Tk) args (an:An)(l:tk.den)(x:aL args)(A:List (List t.den)):Option (an.den×List (List t.den)) :=
 bif Nat.ble (tk.pv 0++MU args x).length fn.ntmps then aBT P E fn.ntmps keep lt rt false [] c (start keep 0 (tk.pv 0++MU args x)) (aEI (tk.ow l 0)++[some (arB ae t A)]) (a5K P fn.results.toList ae t an) else none
section
variable {P:Program} {n0:Nat->Prop} {w w':World} {G G1 G2:Gd} {μ μ2:Mp} {H H':Heap} {ae:TypeId} {t:Ty} {A B:List (List t.den)}
theorem a57 {E:Env} (hP:aEU P) (hE:OK P E) {g:Nat} {fn:Func} (hg:P.funcs[g]?=some fn) {c:Code} (hc:fn.body=some c) {keep:Nat} {lt rt:Nat->Option C8} {ae:TypeId} {t:Ty} {tk:Tk} {args:List Kd} {an:An} {f:tk.den->aL args->List (List t.den)->Option (an.den×List (List t.den))}
  (hd:aN3 args=true) (hl:∀ a∈TY c,aJ5 P fn.ntmps lt rt false [] a) (hb:∀ l x A,a0B P E fn keep lt rt c ae t tk args an l x A=f l x A):aFF P g ae t tk args an f:=by
 intro l x A y B hy n0 G μ H w us ra r hW har ho hv;rw[<- hb]at hy;unfold a0B at hy;obtain⟨hlen,hy⟩:=cC hy;obtain⟨⟨ex,F',H'⟩,h1,h2⟩:=TW hE.callee hP.mixed c _ _ _ _ hl hy;obtain⟨vs,B',hex,hvs,hB,hq,rfl⟩:∃ vs B',(ex=.normal\/ex=.ret)/\U9 P F' H' fn.results.toList=some vs/\a1W ae t H'=some B'/\aZ5 an (HP vs) H'=some y/\B'.2=B:=by
  unfold a5K at h1;split at h1
  ·cases h1
  ·rename_i hne;split at h1
   ·rename_i vs hvs;split at h1
    ·rename_i B' hB;split at h1
     ·rename_i y' hy';simp only[oJ,oP]at h1;obtain⟨rfl,h1⟩:=h1;refine⟨vs,B',?_,hvs,hB,hy',h1⟩;cases ex with
      | normal=>exact .inl rfl
      | ret=>exact .inr rfl
      | exit i=>exact absurd rfl (hne i)
     ·cases h1
    ·cases h1
   ·cases h1
 have hargs:VRs w G (mpA μ (tk.ow l r) A.length) (tk.pv 0++MU args x) us:=by
  have hn:=aF4 args x hd;cases tk with
  | none=>exact VRs.fK (eF _ _ hn hv)
  | own e u =>
   change VRs w G μ (.own r u.size::MU args x) us at hv;change VRs w G _ (.own 0 u.size::MU args x) us;rw[VRs]at hv ⊢;obtain⟨v,us',rfl,q1,q2⟩:=hv;refine⟨v,us',rfl,?_,VRs.fK (eF _ _ hn q2)⟩;rw[VR]at q1 ⊢;exact q1
 have howb:aEI (tk.ow l 0)=aEI (tk.ow l r):=by cases tk <;> rfl
 have hW1:=aPE hW ho har;rw[<- howb]at hW1;have e0:Ext (wrA w G μ (tk.ow l r)) w G aZ w G (mpA μ (tk.ow l r) A.length) :=
  ⟨⟨λb hb=>⟨hb,rfl⟩,λ_ _ h=>(by cases h),λ_ _ h=>(by cases h),λ_ _ h=>h,λ_ _ h=>h,λ_ _ h=>(by cases h)⟩,rfl,rfl,rfl,oM _,λ_ _ _=>rfl,λ_ h=>.inl h⟩
 refine⟨enters hg (hP.names g fn hg) (by rw[hc]; rfl) _ _,(callsIn_wide (n:=0)).1 (callsIn_of_wp_marks hg hc trivial ?_)⟩;have hI:I (wrA w G μ (tk.ow l r)) w G aZ fn.ntmps (start keep 0 (tk.pv 0++MU args x)) (aEI (tk.ow l 0)++[some (arB ae t A)]) ⟨us.toArray++Array.replicate (fn.ntmps-us.toArray.size) undef,[]⟩ w :=
  ⟨G,_,e0,hW1,U3 (by simpa using hargs) (oL hlen)⟩
 refine wpIn_mono (h2 none 0 _ w G aZ _ w (λ_=>rfl) (λr _=>⟨rfl,rfl⟩) hI.a63) ?_;rintro e1 ⟨tm,ds⟩ w' ⟨rfl,hI',_⟩;have hend:∀ w',IM (wrA w G μ (tk.ow l r)) w G aZ fn.ntmps F' H' { tmps:=tm,defers:=[] } w'->LeavesIn Fence.wide 0 P fn tm (λen w'=>∃ v' G'' μ'',en=.returned v'/\Ext n0 w G μ w' G'' μ''/\eA n0 G'' μ'' (((aH6 (tk.ow l r) H).set ra none)++(some (arB ae t B'.2)::an.hp y)) w'/\VR w' G'' μ'' (an.pv y (H.length+1)) v') [] .returning w':=by
  rintro w' ⟨G1,μ1,ee,hW',hF',_⟩;obtain⟨ws,h3,h4⟩:=UF (P:=P) hW' hF' hvs;have hres:(results fn tm).run P w'=.ok (if hh:ws.toArray.size=1 then ws.toArray[0] else .tuple ws.toArray) w':=by
   rw[ZT,Array.mapM_eq_mapM_toList];simp only[Sem.run_bind,Sem.run_map,h3,Result.andThen_ok,Sem.run_pure]
  have hrb:=aO4 hW' hB;obtain⟨G2,μ3,b1,b2,b3⟩:∃ G2 μ3,Ext n0 w G μ w' G2 μ3/\eA n0 G2 μ3 (((aH6 (tk.ow l r) H).set ra none)++(some (arB ae t B'.2)::an.hp y)) w'/\VR w' G2 μ3 (an.pv y (H.length+1)) (if hh:ws.toArray.size=1 then ws.toArray[0] else .tuple ws.toArray):=by
   have hvr:=VJ h4;cases an with
   | data rets =>
    simp only[aZ5]at hq;split at hq
    ·rename_i q hq';have hb:=aSP (G2:=⟨λb=>G1 b\/∃ s k,H'[s]?=some (some k)/\k.frozen=false/\μ1.loc s=some b,G1.row⟩) hW ho har ee hW' hrb (os:=none) ⟨λ_ _ _ h=>by cases h⟩ (λ_=>rfl) (λb hb=>.inl hb) (λb hb=>by
      rcases hb with h|⟨s,k,z1,z2,z3⟩
      ·exact .inl h
      ·exact .inr ⟨s,k,z1,z2,z3,λ_ _ _ h=>by cases h⟩)
     refine⟨_,_,hb.1,hb.2,?_⟩;have:=CW (G':=⟨λb=>G1 b\/∃ s k,H'[s]?=some (some k)/\k.frozen=false/\μ1.loc s=some b,G1.row⟩) hW' (λ_ _ h=>h) (λb hb=>.inl hb) (λs k1 b hs _ hb=>by
      obtain⟨_,_,_,_,g5,_⟩:=hW'.blk s k1 b hs hb;cases hf:k1.frozen with
      | true=>exact .inl (g5 hf)
      | false=>exact .inr ⟨s,k1,hs,hf,hb⟩) depth _ q _ hq' hvr
     exact(aM8 hq this).fK
    ·cases hq
   | own e u =>
    simp only[aZ5]at hq;obtain⟨r1,l0,hos,hvv⟩:=aUE hW' hq hvr;have hb:=aSP (G2:=G1) hW ho har ee hW' hrb hos (λ_=>rfl) (λb hb=>hb) (λb hb=>.inl hb);refine⟨_,_,hb.1,hb.2,hvv _ _ _ ?_ ?_ ?_⟩
    ·have h1:¬ H.length+1<H.length:=by omega
     simp[UM,h1,a4N]
    ·have h1:¬ H.length+1<H.length:=by omega
     simp[UM,h1,a4C]
    ·have h1:¬ H.length+1<H.length:=by omega
     simp[UM,h1,shS]
  exact⟨_,hres,_,G2,μ3,rfl,b1,b2,b3⟩
 rcases hex with rfl|rfl
 ·exact aB2 (λb hb=>(aPE hW ho har).base b hb) hend ds w' hI'
 ·exact aB2 (λb hb=>(aPE hW ho har).base b hb) hend ds w' hI'
end
open Go Go.RowKit Go.Proofs Tryz
set_option maxHeartbeats 4000000
def bF(x:aL [.str]):oK [.bool,.str]:=match x with
 | (v0,()) =>
  bif ltI 0 (v0.size:Int) then
   bif aF 0 v0.size then bif eqI (DJ v0 0) 45 then
    bif Nat.ble 1 v0.size then bif Nat.ble v0.size v0.size then some (true,(v0.extract 1 v0.size),()) else none else none
   else some (false,v0,()) else none
  else some (false,v0,())
abbrev aWX:Ent:=⟨99,_,_,bF⟩
theorem WE:Ent.OK tP aWX:=oI (RU oW) func99 (by kernel_rfl) (by rintro⟨v0,⟨⟩⟩; kernel_rfl)
def aA(x:aL [.bool,.str]):oK [.str]:=match x with
 | (v0,v1,()) =>
  bif v0 then
   bif !(eqS v1 (ByteArray.mk #[48])) then
    bif Nat.ble ((ByteArray.mk #[45]).size+v1.size) 9223372036854775807 then some (((ByteArray.mk #[45])++v1),()) else none
   else some (v1,())
  else some (v1,())
abbrev aY6:Ent:=⟨100,_,_,aA⟩
theorem aCF:Ent.OK tP aY6:=oI (RU oW) func100 (by kernel_rfl) (by rintro⟨v0,v1,⟨⟩⟩; kernel_rfl)
def iA(x:aL [.str,.int .i64]):oK [.int .i64,.bool]:=match x with
 | (v0,v1,()) =>
  bif ltI v1 (v0.size:Int) then
   some (0,false,())
  else aC (xG (v0,())) λy1 =>
  some (y1.1,true,())
abbrev aU1:Ent:=⟨98,_,_,iA⟩
theorem aC0:Ent.OK tP aU1:=oI (RU (oV aQ7 oW)) func98 (by kernel_rfl) (by rintro⟨v0,v1,⟨⟩⟩; kernel_rfl)
def dM(x:aL [.int .i64]):oK [.str]:=match x with
 | (v0,()) =>
  aC (xC (v0,())) λy1 =>
  some (y1.1,())
abbrev aQZ:Ent:=⟨69,_,_,dM⟩
theorem aBW:Ent.OK tP aQZ:=oI (RU (oV aRB oW)) func69 (by kernel_rfl) (by rintro⟨v0,⟨⟩⟩; kernel_rfl)
def pW(x:aL [.str]):oK [.int .i64]:=match x with
 | (v0,()) =>
  bif eqS v0 (ByteArray.mk #[48]) then
   some (0,())
  else bif aF 0 v0.size then bif eqI (DJ v0 0) 45 then
   some ((-1),())
  else some (1,()) else none
abbrev aR2:Ent:=⟨121,_,_,pW⟩
theorem aMU:Ent.OK tP aR2:=oI (RU oW) func121 (by kernel_rfl) (by rintro⟨v0,⟨⟩⟩; kernel_rfl)
def jV(x:aL [.int .u64]):oK [.str]:=match x with
 | (v0,()) =>
  aC (sG (v0,10,())) λy1 =>
  some (y1.1,())
abbrev aD5:Ent:=⟨135,_,_,jV⟩
theorem aBY:Ent.OK tP aD5:=oI (RU (oV aK1 oW)) func135 (by kernel_rfl) (by rintro⟨v0,⟨⟩⟩; kernel_rfl)
def qP(x:aL [.str]):oK [.int .u64,.bool]:=match x with
 | (v0,()) =>
  aC (tA (v0,10,64,())) λy1 =>
  some (y1.1,true,())
abbrev aTW:Ent:=⟨163,_,_,qP⟩
theorem aPX:Ent.OK tP aTW:=oI (RU (oV aLI oW)) func163 (by kernel_rfl) (by rintro⟨v0,⟨⟩⟩; kernel_rfl)
def iD(x:aL [.str,.str]):oK [.int .u64,.int .u64,.bool]:=match x with
 | (v0,v1,()) =>
  bif ltI 18 (v0.size:Int) then
   some (0,0,false,())
  else bif ltI 18 (v1.size:Int) then
   some (0,0,false,())
  else aC (qP (v0,())) λy1 =>
  aC (qP (v1,())) λy2 =>
  some (y1.1,y2.1,true,())
abbrev aAU:Ent:=⟨134,_,_,iD⟩
theorem Z2:Ent.OK tP aAU:=oI (RU (oV aPX oW)) func134 (by kernel_rfl) (by rintro⟨v0,v1,⟨⟩⟩; kernel_rfl)
def cR(x:aL [.str,.str]):oK [.int .i64]:=match x with
 | (v0,v1,()) =>
  bif !(eqI (v0.size:Int) (v1.size:Int)) then
   some ((if (if (-1)<(aB .i64 ((v0.size:Int)-(v1.size:Int))) then (aB .i64 ((v0.size:Int)-(v1.size:Int))) else (-1))<1 then (if (-1)<(aB .i64 ((v0.size:Int)-(v1.size:Int))) then (aB .i64 ((v0.size:Int)-(v1.size:Int))) else (-1)) else 1),())
  else bif ltS v0 v1 then
   some ((-1),())
  else bif !(ltS v0 v1||eqS v0 v1) then
   some (1,())
  else some (0,())
abbrev aJL:Ent:=⟨102,_,_,cR⟩
theorem aAJ:Ent.OK tP aJL:=oI (RU oW) func102 (by kernel_rfl) (by rintro⟨v0,v1,⟨⟩⟩; kernel_rfl)
def sS(x:aL [.str,.str]):oK [.int .i64]:=match x with
 | (v0,v1,()) =>
  aC (pW (v0,())) λy1 =>
  aC (pW (v1,())) λy2 =>
  bif !(eqI y1.1 y2.1) then
   bif ltI y1.1 y2.1 then
    some ((-1),())
   else some (1,())
  else aC (bF (v0,())) λy3 =>
  aC (bF (v1,())) λy4 =>
  bif y3.1 then
   aC (cR (y4.2.1,y3.2.1,())) λy5 =>
   some (y5.1,())
  else aC (cR (y3.2.1,y4.2.1,())) λy6 =>
  some (y6.1,())
abbrev aMB:Ent:=⟨117,_,_,sS⟩
theorem aQB:Ent.OK tP aMB:=oI (RU (oV aAJ (oV aMU (oV WE oW)))) func117 (by kernel_rfl) (by rintro⟨v0,v1,⟨⟩⟩; kernel_rfl)
def uQ(x:aL [.str]):oK [.str]:=match x with
 | (v0,()) =>
  aC (bF (v0,())) λy1 =>
  bif y1.1 then
   aC (aA (false,y1.2.1,())) λy2 =>
   some (y2.1,())
  else aC (aA (true,y1.2.1,())) λy3 =>
  some (y3.1,())
abbrev aTI:Ent:=⟨156,_,_,uQ⟩
theorem aN9:Ent.OK tP aTI:=oI (RU (oV aCF (oV WE oW))) func156 (by kernel_rfl) (by rintro⟨v0,⟨⟩⟩; kernel_rfl)
def vC(x:aL [.str]):oK [.str]:=match x with
 | (v0,()) =>
  aC (bF (v0,())) λy1 =>
  some (y1.2.1,())
abbrev aTF:Ent:=⟨118,_,_,vC⟩
theorem aUL:Ent.OK tP aTF:=oI (RU (oV WE oW)) func118 (by kernel_rfl) (by rintro⟨v0,⟨⟩⟩; kernel_rfl)
abbrev fP:List (Nat×Kd):=[(0,.hnd 1),(2,.int .i64),(3,.int .i64),(100000,.ar 5 (.int .u8))]
abbrev kC:List (Ex×List (Nat×Kd)):=[(.exit 0,[(100000,.ar 5 (.int .u8))])]
def dH(x:Shape.den fP):oS fP kC:=match x with
 | (v0,v2,v3,u00,()) =>
  bif ltI v2 v3 then
   bif aF v3 v0.2.2 then bif Nat.blt ((v0.2.1+v3.toNat)*1) (bP u00 v0.1) then bif aF v2 v0.2.2 then bif Nat.blt ((v0.2.1+v2.toNat)*1) (bP u00 v0.1) then bif aF v2 v0.2.2 then bif Nat.blt ((v0.2.1+v2.toNat)*1) (bP u00 v0.1) then bif aF v3 v0.2.2 then bif Nat.blt ((v0.2.1+v3.toNat)*1) (bP (lL u00 v0.1 ((v0.2.1+v2.toNat)*1) (bR u00 v0.1 ((v0.2.1+v3.toNat)*1) 0)) v0.1) then some (.inl ((v0.1,v0.2.1,v0.2.2),(aB .i64 (v2+1)),(aB .i64 (v3-1)),(lL (lL u00 v0.1 ((v0.2.1+v2.toNat)*1) (bR u00 v0.1 ((v0.2.1+v3.toNat)*1) 0)) v0.1 ((v0.2.1+v3.toNat)*1) (bR u00 v0.1 ((v0.2.1+v2.toNat)*1) 0)),())) else none else none else none else none else none else none else none else none
  else some (.inr ((u00,())))
def jN(x:Shape.den fP):oX kC:=aO dH (2^64) x
def hX(u0:Unit)(x:aL [.hnd 1])(A:List (List Int)):Option ((aL [])×List (List Int)):=match x with
 | (v0,()) =>
  aC (jN ((v0.1,v0.2.1,v0.2.2),0,(aB .i64 (((v0.2.2:Nat):Int)-1)),A,())) λz1 =>
  some ((()),z1.1)
def TK:Code:=R5 f165
abbrev VI:Env:=aCN []
theorem XF:OK tP VI:=RU trivial
def UQ:Code:=S2 TK 0
def U6(id:Nat):Option C8:=bif Nat.beq id 1 then some ⟨fP,kC,jN⟩ else none
theorem aBO:∀ x,S9 tP VI 28 (RV f165) U6 UQ fP kC x=dH x:=by
 rintro⟨v0,v2,v3,u00,⟨⟩⟩
 kernel_rfl
theorem aB5:SF tP 28 UQ ⟨fP,kC,jN⟩:=SO XF.callee RZ.mixed _ (RW (l:=[]) (by kernel_rfl) trivial) aBO
theorem aCH:RY TK=[UQ]:=by kernel_rfl
theorem aC6:∀ l x A,aBF tP VI f165 (RV f165) U6 TK 5 (.int .u8) .none [.hnd 1] (.data []) l x A=hX l x A:=by
 rintro u0 ⟨v0,⟨⟩⟩ A
 kernel_rfl
theorem aFG:aFF tP 165 5 (.int .u8) .none [.hnd 1] (.data []) hX:=X2 RZ XF func165 (c:=TK) (by kernel_rfl) (keep:=RV f165) (lt:=U6) (by rfl) (RW aCH ⟨SM (i:=1) (by kernel_rfl) rfl aB5,trivial⟩) aC6
theorem aDX:a0T tP 165 5 (.int .u8) [] (CF hX):=aVW aFG (by rfl) (by rfl)
abbrev YN:Shr:=(165,aIH 1 (a3M 5 (.int .u8) [] (CF hX)))
theorem aCJ:UA tP YN:=UU (a0H aDX)
abbrev j6:List (Nat×Kd):=[(0,.list (.int .u64))]
abbrev nQ:List (Ex×List (Nat×Kd)):=[(.exit 0,[(0,.list (.int .u64))])]
def iQ(x:Shape.den j6):oS j6 nQ:=match x with
 | (v0,()) =>
  bif ltI 0 (v0.length:Int) then
   bif aF (aB .i64 ((v0.length:Int)-1)) v0.length then bif eqI (v0.getD ((aB .i64 ((v0.length:Int)-1)).toNat) 0) 0 then
    bif !(ltI (aB .i64 ((v0.length:Int)-1)) 0) then bif Nat.ble 0 ((aB .i64 ((v0.length:Int)-1)).toNat) then bif Nat.ble ((aB .i64 ((v0.length:Int)-1)).toNat) v0.length then some (.inl (((v0.drop 0).take ((aB .i64 ((v0.length:Int)-1)).toNat-0)),())) else none else none else none
   else some (.inr ((v0,()))) else none
  else some (.inr ((v0,())))
def tI(x:Shape.den j6):oX nQ:=aO iQ (2^64) x
def lQ(x:aL [.list (.int .u64)]):oK [.list (.int .u64)]:=match x with
 | (v0,()) =>
  aC (tI (v0,())) λz1 =>
  some (z1.1,())
abbrev aCQ:Ent:=⟨138,_,_,lQ⟩
theorem aIX:Ent.OK tP aCQ:=oU (RU oW) func138 1 (lp:=tI) rfl (by kernel_rfl) (by rintro⟨v0,⟨⟩⟩; kernel_rfl) (by rintro⟨v0,⟨⟩⟩; kernel_rfl)
abbrev gS:List (Nat×Kd):=[(0,.own 172 (.int .u64)),(100000,.ar 172 (.int .u64))]
abbrev l7:List (Ex×List (Nat×Kd)):=[(.exit 0,[(0,.own 172 (.int .u64)),(100000,.ar 172 (.int .u64))])]
def dU(x:Shape.den gS):oS gS l7:=match x with
 | (v0,u00,()) =>
  bif ltI 0 (v0.length:Int) then
   bif aF (aB .i64 ((v0.length:Int)-1)) v0.length then bif Nat.blt ((aB .i64 ((v0.length:Int)-1)).toNat) v0.length then bif eqI (v0.getD ((aB .i64 ((v0.length:Int)-1)).toNat) 0) 0 then
    bif !(ltI (aB .i64 ((v0.length:Int)-1)) 0) then bif Nat.ble 0 ((aB .i64 ((v0.length:Int)-1)).toNat) then bif Nat.ble ((aB .i64 ((v0.length:Int)-1)).toNat) v0.length then bif Nat.blt 0 v0.length then some (.inl ((v0.take ((aB .i64 ((v0.length:Int)-1)).toNat-0)),u00,())) else none else none else none else none
   else some (.inr ((v0,u00,()))) else none else none
  else some (.inr ((v0,u00,())))
def rY(x:Shape.den gS):oX l7:=aO dU (2^64) x
def bD(v0:List Int)(x:aL [])(A:List (List Int)):Option ((List Int)×List (List Int)):=match x with
 | (()) =>
  aC (rY (v0,A,())) λz1 =>
  some (z1.1,z1.2.1)
def UH:Code:=R5 f138
abbrev WO:Env:=aCN []
theorem Y5:OK tP WO:=RU trivial
def VU:Code:=S2 UH 0
def V8(id:Nat):Option C8:=bif Nat.beq id 1 then some ⟨gS,l7,rY⟩ else none
theorem aDO:∀ x,S9 tP WO 21 (RV f138) V8 VU gS l7 x=dU x:=by
 rintro⟨v0,u00,⟨⟩⟩
 kernel_rfl
theorem aDW:SF tP 21 VU ⟨gS,l7,rY⟩:=SO Y5.callee RZ.mixed _ (RW (l:=[]) (by kernel_rfl) trivial) aDO
theorem aEY:RY UH=[VU]:=by kernel_rfl
theorem aF9:∀ l x A,aBF tP WO f138 (RV f138) V8 UH 172 (.int .u64) (.own 172 (.int .u64)) [] (.own 172 (.int .u64)) l x A=bD l x A:=by
 rintro u0 ⟨⟨⟩⟩ A
 kernel_rfl
theorem aHK:aFF tP 138 172 (.int .u64) (.own 172 (.int .u64)) [] (.own 172 (.int .u64)) bD:=X2 RZ Y5 func138 (c:=UH) (by kernel_rfl) (keep:=RV f138) (lt:=V8) (by rfl) (RW aEY ⟨SM (i:=1) (by kernel_rfl) rfl aDW,trivial⟩) aF9
abbrev SJ:Shr:=(138,aIH 1 (arH 172 (.int .u64) (.own 172 (.int .u64)) [] (.own 172 (.int .u64)) bD))
theorem SL:UA tP SJ:=UU (g:=138) (f:=arH 172 (.int .u64) (.own 172 (.int .u64)) [] (.own 172 (.int .u64)) bD) (ZD aHK)
abbrev pD:List (Nat×Kd):=[(0,.str),(3,.own 172 (.int .u64)),(4,.int .i64),(5,.int .u64),(25,.list (.int .u8)),(26,.int .i64),(27,.int .i64),(100000,.ar 172 (.int .u64))]
abbrev tC:List (Ex×List (Nat×Kd)):=[(.exit 2,[(0,.str),(3,.own 172 (.int .u64)),(4,.int .i64),(5,.int .u64),(100000,.ar 172 (.int .u64))])]
def jO(x:Shape.den pD):oS pD tC:=match x with
 | (v0,v3,v4,v5,v25,v26,v27,u00,()) =>
  bif ltI v27 v26 then
   bif aF v27 v25.length then some (.inl (v0,v3,v4,(aB .u64 ((aB .u64 (10*v5))+(IntKind.wrap .u64 (aB .u8 ((v25.getD v27.toNat 0)-48))))),v25,v26,(aB .i64 (v27+1)),u00,())) else none
  else some (.inr ((v0,v3,v4,v5,u00,())))
def rR(x:Shape.den pD):oX tC:=aO jO (2^64) x
abbrev pA:List (Nat×Kd):=[(0,.str),(3,.own 172 (.int .u64)),(4,.int .i64),(100000,.ar 172 (.int .u64))]
abbrev sW:List (Ex×List (Nat×Kd)):=[(.exit 0,[(3,.own 172 (.int .u64)),(100000,.ar 172 (.int .u64))])]
def jX(x:Shape.den pA):oS pA sW:=match x with
 | (v0,v3,v4,u00,()) =>
  bif ltI 0 v4 then
   bif !(ltI (if 0<(aB .i64 (v4-9)) then (aB .i64 (v4-9)) else 0) 0) then bif !(ltI v4 0) then bif Nat.ble ((if 0<(aB .i64 (v4-9)) then (aB .i64 (v4-9)) else 0).toNat) v4.toNat then bif Nat.ble v4.toNat v0.size then aC (rR (v0,v3,v4,0,(xP (v0.extract ((if 0<(aB .i64 (v4-9)) then (aB .i64 (v4-9)) else 0).toNat) v4.toNat)),((xP (v0.extract ((if 0<(aB .i64 (v4-9)) then (aB .i64 (v4-9)) else 0).toNat) v4.toNat)).length:Int),0,u00,())) λz2 =>
   bif Nat.ble [z2.2.2.2.1].length 1048576 then bif Nat.ble z2.2.1.length 1048576 then some (.inl (z2.1,(z2.2.1++[z2.2.2.2.1]),(aB .i64 (z2.2.2.1-9)),z2.2.2.2.2.1,())) else none else none else none else none else none else none
  else some (.inr ((v3,u00,())))
def rV(x:Shape.den pA):oX sW:=aO jX (2^64) x
def c8(u0:Unit)(x:aL [.str])(A:List (List Int)):Option ((List Int)×List (List Int)):=match x with
 | (v0,()) =>
  bif !(ltI (aB .i64 ((aB .i64 ((v0.size:Int).tdiv 9))+1)) 0) then bif !(ltI 1048576 (aB .i64 ((aB .i64 ((v0.size:Int).tdiv 9))+1))) then aC (rV (v0,(List.replicate 0 (0:Ty.den (.int .u64))),(v0.size:Int),A,())) λz3 =>
  aC (bD z3.1 (()) z3.2.1) λy4 =>
  some y4 else none else none
def aA2:Code:=R5 f136
abbrev aA3:Env:=aG6 [] [SJ]
theorem aA5:OK tP aA3:=T0 trivial ⟨SL,trivial⟩
def WI:Code:=S2 aA2 0
def aCB:Code:=S2 WI 0
def Z4(id:Nat):Option C8:=bif Nat.beq id 7 then some ⟨pD,tC,rR⟩ else bif Nat.beq id 3 then some ⟨pA,sW,rV⟩ else none
theorem aLH:∀ x,S9 tP aA3 44 (RV f136) Z4 aCB pD tC x=jO x:=by
 rintro⟨v0,v3,v4,v5,v25,v26,v27,u00,⟨⟩⟩
 kernel_rfl
theorem aM1:SF tP 44 aCB ⟨pD,tC,rR⟩:=SO aA5.callee RZ.mixed _ (RW (l:=[]) (by kernel_rfl) trivial) aLH
theorem aLZ:∀ x,S9 tP aA3 44 (RV f136) Z4 WI pA sW x=jX x:=by
 rintro⟨v0,v3,v4,u00,⟨⟩⟩
 kernel_rfl
theorem aOZ:RY WI=[aCB]:=by kernel_rfl
theorem aMD:SF tP 44 WI ⟨pA,sW,rV⟩:=SO aA5.callee RZ.mixed _ (RW aOZ ⟨SM (i:=7) (by kernel_rfl) rfl aM1,trivial⟩) aLZ
theorem aNN:RY aA2=[WI]:=by kernel_rfl
theorem aO9:∀ l x A,aBF tP aA3 f136 (RV f136) Z4 aA2 172 (.int .u64) .none [.str] (.own 172 (.int .u64)) l x A=c8 l x A:=by
 rintro u0 ⟨v0,⟨⟩⟩ A
 kernel_rfl
theorem aQ6:aFF tP 136 172 (.int .u64) .none [.str] (.own 172 (.int .u64)) c8:=X2 RZ aA5 func136 (c:=aA2) (by kernel_rfl) (keep:=RV f136) (lt:=Z4) (by rfl) (RW aNN ⟨SM (i:=3) (by kernel_rfl) rfl aMD,trivial⟩) aO9
abbrev YK:Shr:=(136,aIH 0 (arH 172 (.int .u64) .none [.str] (.own 172 (.int .u64)) c8))
theorem X4:UA tP YK:=UU (g:=136) (f:=arH 172 (.int .u64) .none [.str] (.own 172 (.int .u64)) c8) (ZD aQ6)
abbrev iN:List (Nat×Kd):=[(0,.list (.int .u64)),(1,.list (.int .u64)),(5,.int .i64)]
abbrev mL:List (Ex×List (Nat×Kd)):=[(.ret,[(4,.int .i64)]),(.exit 0,[])]
def eD(x:Shape.den iN):oS iN mL:=match x with
 | (v0,v1,v5,()) =>
  bif !(ltI v5 0) then
   bif aF v5 v0.length then bif aF v5 v1.length then bif ltI (v0.getD v5.toNat 0) (v1.getD v5.toNat 0) then
    some (.inr (.inl ((-1),())))
   else bif aF v5 v0.length then bif aF v5 v1.length then bif ltI (v1.getD v5.toNat 0) (v0.getD v5.toNat 0) then
    some (.inr (.inl (1,())))
   else some (.inl (v0,v1,(aB .i64 (v5-1)),())) else none else none else none else none
  else some (.inr (.inr ((()))))
def r9(x:Shape.den iN):oX mL:=aO eD (2^64) x
def kD(x:aL [.list (.int .u64),.list (.int .u64)]):oK [.int .i64]:=match x with
 | (v0,v1,()) =>
  bif !(eqI (v0.length:Int) (v1.length:Int)) then
   some ((if (if (-1)<(aB .i64 ((v0.length:Int)-(v1.length:Int))) then (aB .i64 ((v0.length:Int)-(v1.length:Int))) else (-1))<1 then (if (-1)<(aB .i64 ((v0.length:Int)-(v1.length:Int))) then (aB .i64 ((v0.length:Int)-(v1.length:Int))) else (-1)) else 1),())
  else aC (r9 (v0,v1,(aB .i64 ((v0.length:Int)-1)),())) λz1 =>
  iB z1 (λa2=>some (a2.1,())) λb3 =>
  some (0,())
abbrev aBC:Ent:=⟨175,_,_,kD⟩
theorem aGO:Ent.OK tP aBC:=oU (RU oW) func175 4 (lp:=r9) rfl (by kernel_rfl) (by rintro⟨v0,v1,v5,⟨⟩⟩; kernel_rfl) (by rintro⟨v0,v1,⟨⟩⟩; kernel_rfl)
abbrev gU:List (Nat×Kd):=[(1,.list (.int .u64)),(5,.own 172 (.int .u64)),(6,.int .i64),(7,.int .u64),(8,.int .u64),(17,.list (.int .u64)),(18,.int .i64),(19,.int .i64),(24,.list (.int .u64)),(25,.int .i64),(26,.int .i64),(100000,.ar 172 (.int .u64))]
abbrev lR:List (Ex×List (Nat×Kd)):=[(.exit 2,[(1,.list (.int .u64)),(5,.own 172 (.int .u64)),(6,.int .i64),(8,.int .u64),(17,.list (.int .u64)),(18,.int .i64),(19,.int .i64),(100000,.ar 172 (.int .u64))])]
def dS(x:Shape.den gU):oS gU lR:=match x with
 | (v1,v5,v6,v7,v8,v17,v18,v19,v24,v25,v26,u00,()) =>
  bif ltI v26 v25 then
   bif aF v26 v24.length then bif aF (aB .i64 (v6+v26)) v5.length then bif Nat.blt ((aB .i64 (v6+v26)).toNat) v5.length then bif aF (aB .i64 (v6+v26)) v5.length then bif Nat.blt ((aB .i64 (v6+v26)).toNat) v5.length then some (.inl (v1,(v5.set ((aB .i64 (v6+v26)).toNat) ((aB .u64 (v8+(aB .u64 ((v5.getD ((aB .i64 (v6+v26)).toNat) 0)+(aB .u64 (v7*(v24.getD v26.toNat 0))))))).tmod 1000000000)),v6,v7,(aB .u64 ((aB .u64 (v8+(aB .u64 ((v5.getD ((aB .i64 (v6+v26)).toNat) 0)+(aB .u64 (v7*(v24.getD v26.toNat 0))))))).tdiv 1000000000)),v17,v18,v19,v24,v25,(aB .i64 (v26+1)),u00,())) else none else none else none else none else none
  else some (.inr ((v1,v5,v6,v8,v17,v18,v19,u00,())))
def kU(x:Shape.den gU):oX lR:=aO dS (2^64) x
abbrev hU:List (Nat×Kd):=[(1,.list (.int .u64)),(5,.own 172 (.int .u64)),(17,.list (.int .u64)),(18,.int .i64),(19,.int .i64),(100000,.ar 172 (.int .u64))]
abbrev l5:List (Ex×List (Nat×Kd)):=[(.exit 0,[(5,.own 172 (.int .u64)),(100000,.ar 172 (.int .u64))])]
def dV(x:Shape.den hU):oS hU l5:=match x with
 | (v1,v5,v17,v18,v19,u00,()) =>
  bif ltI v19 v18 then
   bif aF v19 v17.length then aC (kU (v1,v5,v19,(v17.getD v19.toNat 0),0,v17,v18,v19,v1,(v1.length:Int),0,u00,())) λz2 =>
   bif aF (aB .i64 (z2.2.2.1+(z2.1.length:Int))) z2.2.1.length then bif Nat.blt ((aB .i64 (z2.2.2.1+(z2.1.length:Int))).toNat) z2.2.1.length then some (.inl (z2.1,(z2.2.1.set ((aB .i64 (z2.2.2.1+(z2.1.length:Int))).toNat) z2.2.2.2.1),z2.2.2.2.2.1,z2.2.2.2.2.2.1,(aB .i64 (z2.2.2.2.2.2.2.1+1)),z2.2.2.2.2.2.2.2.1,())) else none else none else none
  else some (.inr ((v5,u00,())))
def kS(x:Shape.den hU):oX l5:=aO dV (2^64) x
def fV(u0:Unit)(x:aL [.list (.int .u64),.list (.int .u64)])(A:List (List Int)):Option ((List Int)×List (List Int)):=match x with
 | (v0,v1,()) =>
  bif !(ltI (aB .i64 ((v0.length:Int)+(v1.length:Int))) 0) then bif !(ltI (aB .i64 ((v0.length:Int)+(v1.length:Int))) (aB .i64 ((v0.length:Int)+(v1.length:Int)))) then bif !(ltI 1048576 (aB .i64 ((v0.length:Int)+(v1.length:Int)))) then aC (kS (v1,(List.replicate ((aB .i64 ((v0.length:Int)+(v1.length:Int))).toNat) (0:Ty.den (.int .u64))),v0,(v0.length:Int),0,A,())) λz3 =>
  aC (bD z3.1 (()) z3.2.1) λy4 =>
  some y4 else none else none else none
def UE:Code:=R5 f141
abbrev UG:Env:=aG6 [] [SJ]
theorem VH:OK tP UG:=T0 trivial ⟨SL,trivial⟩
def S5:Code:=S2 UE 0
def VN:Code:=S2 S5 0
def TZ(id:Nat):Option C8:=bif Nat.beq id 7 then some ⟨gU,lR,kU⟩ else bif Nat.beq id 3 then some ⟨hU,l5,kS⟩ else none
theorem aDA:∀ x,S9 tP UG 63 (RV f141) TZ VN gU lR x=dS x:=by
 rintro⟨v1,v5,v6,v7,v8,v17,v18,v19,v24,v25,v26,u00,⟨⟩⟩
 kernel_rfl
theorem aDU:SF tP 63 VN ⟨gU,lR,kU⟩:=SO VH.callee RZ.mixed _ (RW (l:=[]) (by kernel_rfl) trivial) aDA
theorem aDF:∀ x,S9 tP UG 63 (RV f141) TZ S5 hU l5 x=dV x:=by
 rintro⟨v1,v5,v17,v18,v19,u00,⟨⟩⟩
 kernel_rfl
theorem aGD:RY S5=[VN]:=by kernel_rfl
theorem aEP:SF tP 63 S5 ⟨hU,l5,kS⟩:=SO VH.callee RZ.mixed _ (RW aGD ⟨SM (i:=7) (by kernel_rfl) rfl aDU,trivial⟩) aDF
theorem aE4:RY UE=[S5]:=by kernel_rfl
theorem aF7:∀ l x A,aBF tP UG f141 (RV f141) TZ UE 172 (.int .u64) .none [.list (.int .u64),.list (.int .u64)] (.own 172 (.int .u64)) l x A=fV l x A:=by
 rintro u0 ⟨v0,v1,⟨⟩⟩ A
 kernel_rfl
theorem aHQ:aFF tP 141 172 (.int .u64) .none [.list (.int .u64),.list (.int .u64)] (.own 172 (.int .u64)) fV:=X2 RZ VH func141 (c:=UE) (by kernel_rfl) (keep:=RV f141) (lt:=TZ) (by rfl) (RW aE4 ⟨SM (i:=3) (by kernel_rfl) rfl aEP,trivial⟩) aF7
abbrev W8:Shr:=(141,aIH 0 (arH 172 (.int .u64) .none [.list (.int .u64),.list (.int .u64)] (.own 172 (.int .u64)) fV))
theorem Y6:UA tP W8:=UU (g:=141) (f:=arH 172 (.int .u64) .none [.list (.int .u64),.list (.int .u64)] (.own 172 (.int .u64)) fV) (ZD aHQ)
def jF(u0:Unit) (x:aL [.list (.int .u64),.int .u64]) (A:List (List Int)):Option ((List Int)×List (List Int)):=match x with
 | (v0,v1,()) =>
  aC (lQ ([v1],())) λy1 =>
  aC (fV () (v0,y1.1,()) A) λy2 =>
  some y2
def V7:Code:=R5 f185
abbrev aAC:Env:=aG6 [aCQ] [W8]
theorem aFE:OK tP aAC:=T0 ⟨aIX,trivial⟩ ⟨Y6,trivial⟩
def ZK(id:Nat):Option C8:=none
theorem aDV:RY V7=[]:=by kernel_rfl
theorem aEW:∀ l x A,aBF tP aAC f185 (RV f185) ZK V7 172 (.int .u64) .none [.list (.int .u64),.int .u64] (.own 172 (.int .u64)) l x A=jF l x A:=by
 rintro u0 ⟨v0,v1,⟨⟩⟩ A
 kernel_rfl
theorem aGR:aFF tP 185 172 (.int .u64) .none [.list (.int .u64),.int .u64] (.own 172 (.int .u64)) jF:=X2 RZ aFE func185 (c:=V7) (by kernel_rfl) (keep:=RV f185) (lt:=ZK) (by rfl) (RW aDV trivial) aEW
abbrev Z8:Shr:=(185,aIH 0 (arH 172 (.int .u64) .none [.list (.int .u64),.int .u64] (.own 172 (.int .u64)) jF))
theorem aER:UA tP Z8:=UU (g:=185) (f:=arH 172 (.int .u64) .none [.list (.int .u64),.int .u64] (.own 172 (.int .u64)) jF) (ZD aGR)
abbrev iH:List (Nat×Kd):=[(0,.list (.int .u64)),(1,.int .u64),(6,.own 172 (.int .u64)),(7,.int .u64),(8,.int .i64),(100000,.ar 172 (.int .u64))]
abbrev mG:List (Ex×List (Nat×Kd)):=[(.exit 0,[(6,.own 172 (.int .u64)),(7,.int .u64),(100000,.ar 172 (.int .u64))])]
def eC(x:Shape.den iH):oS iH mG:=match x with
 | (v0,v1,v6,v7,v8,u00,()) =>
  bif !(ltI v8 0) then
   bif aF v8 v0.length then bif eqI v1 0 then none else bif aF v8 v6.length then bif Nat.blt v8.toNat v6.length then bif eqI v1 0 then none else some (.inl (v0,v1,(v6.set v8.toNat (aB .u64 ((aB .u64 ((aB .u64 (v7*1000000000))+(v0.getD v8.toNat 0))).tdiv v1))),((aB .u64 ((aB .u64 (v7*1000000000))+(v0.getD v8.toNat 0))).tmod v1),(aB .i64 (v8-1)),u00,())) else none else none else none
  else some (.inr ((v6,v7,u00,())))
def lG(x:Shape.den iH):oX mG:=aO eC (2^64) x
def gK(u0:Unit)(x:aL [.list (.int .u64),.int .u64])(A:List (List Int)):Option ((aL [.list (.int .u64),.int .u64])×List (List Int)):=match x with
 | (v0,v1,()) =>
  bif !(ltI (v0.length:Int) 0) then bif !(ltI (v0.length:Int) (v0.length:Int)) then bif !(ltI 1048576 (v0.length:Int)) then aC (lG (v0,v1,(List.replicate ((v0.length:Int).toNat) (0:Ty.den (.int .u64))),0,(aB .i64 ((v0.length:Int)-1)),A,())) λz1 =>
  aC (bD z1.1 (()) z1.2.2.1) λy2 =>
  some ((y2.1,z1.2.1,()),y2.2) else none else none else none
def U2:Code:=R5 f176
abbrev XU:Env:=aG6 [] [SJ]
theorem ZA:OK tP XU:=T0 trivial ⟨SL,trivial⟩
def V1:Code:=S2 U2 0
def WQ(id:Nat):Option C8:=bif Nat.beq id 4 then some ⟨iH,mG,lG⟩ else none
theorem aEH:∀ x,S9 tP XU 38 (RV f176) WQ V1 iH mG x=eC x:=by
 rintro⟨v0,v1,v6,v7,v8,u00,⟨⟩⟩
 kernel_rfl
theorem aE9:SF tP 38 V1 ⟨iH,mG,lG⟩:=SO ZA.callee RZ.mixed _ (RW (l:=[]) (by kernel_rfl) trivial) aEH
theorem aFX:RY U2=[V1]:=by kernel_rfl
theorem aGV:∀ l x A,aBF tP XU f176 (RV f176) WQ U2 172 (.int .u64) .none [.list (.int .u64),.int .u64] (.data [.list (.int .u64),.int .u64]) l x A=gK l x A:=by
 rintro u0 ⟨v0,v1,⟨⟩⟩ A
 kernel_rfl
theorem aIS:aFF tP 176 172 (.int .u64) .none [.list (.int .u64),.int .u64] (.data [.list (.int .u64),.int .u64]) gK:=X2 RZ ZA func176 (c:=U2) (by kernel_rfl) (keep:=RV f176) (lt:=WQ) (by rfl) (RW aFX ⟨SM (i:=4) (by kernel_rfl) rfl aE9,trivial⟩) aGV
abbrev XO:Shr:=(176,aIH 0 (arH 172 (.int .u64) .none [.list (.int .u64),.int .u64] (.data [.list (.int .u64),.int .u64]) gK))
theorem ZP:UA tP XO:=UU (g:=176) (f:=arH 172 (.int .u64) .none [.list (.int .u64),.int .u64] (.data [.list (.int .u64),.int .u64]) gK) (ZD aIS)
abbrev fG:List (Nat×Kd):=[(0,.hnd 1),(1,.list (.int .u64)),(2,.int .u64),(3,.int .i64),(9,.int .i64),(10,.int .u64),(11,.int .i64),(100000,.ar 172 (.int .u64))]
abbrev jD:List (Ex×List (Nat×Kd)):=[(.exit 0,[(9,.int .i64),(100000,.ar 172 (.int .u64))])]
def cL(x:Shape.den fG):oS fG jD:=match x with
 | (v0,v1,v2,v3,v9,v10,v11,u00,()) =>
  bif !(ltI (v1.length:Int) v11) then
   bif ltI v11 (v1.length:Int) then
    bif aF v11 v1.length then bif aF (aB .i64 (v3+v11)) v0.2.2 then bif Nat.blt ((v0.2.1+(aB .i64 (v3+v11)).toNat)*1) (bP u00 v0.1) then bif ltI (aB .i64 ((aB .i64 ((IntKind.wrap .i64 (bR u00 v0.1 ((v0.2.1+(aB .i64 (v3+v11)).toNat)*1) 0))-(IntKind.wrap .i64 ((aB .u64 (v10+(aB .u64 (v2*(v1.getD v11.toNat 0))))).tmod 1000000000))))-v9)) 0 then
     bif aF (aB .i64 (v3+v11)) v0.2.2 then bif Nat.blt ((v0.2.1+(aB .i64 (v3+v11)).toNat)*1) (bP u00 v0.1) then some (.inl ((v0.1,v0.2.1,v0.2.2),v1,v2,v3,1,(aB .u64 ((aB .u64 (v10+(aB .u64 (v2*(v1.getD v11.toNat 0))))).tdiv 1000000000)),(aB .i64 (v11+1)),(lL u00 v0.1 ((v0.2.1+(aB .i64 (v3+v11)).toNat)*1) (IntKind.wrap .u64 (aB .i64 ((aB .i64 ((aB .i64 ((IntKind.wrap .i64 (bR u00 v0.1 ((v0.2.1+(aB .i64 (v3+v11)).toNat)*1) 0))-(IntKind.wrap .i64 ((aB .u64 (v10+(aB .u64 (v2*(v1.getD v11.toNat 0))))).tmod 1000000000))))-v9))+1000000000)))),())) else none else none
    else bif aF (aB .i64 (v3+v11)) v0.2.2 then bif Nat.blt ((v0.2.1+(aB .i64 (v3+v11)).toNat)*1) (bP u00 v0.1) then some (.inl ((v0.1,v0.2.1,v0.2.2),v1,v2,v3,0,(aB .u64 ((aB .u64 (v10+(aB .u64 (v2*(v1.getD v11.toNat 0))))).tdiv 1000000000)),(aB .i64 (v11+1)),(lL u00 v0.1 ((v0.2.1+(aB .i64 (v3+v11)).toNat)*1) (IntKind.wrap .u64 (aB .i64 ((aB .i64 ((IntKind.wrap .i64 (bR u00 v0.1 ((v0.2.1+(aB .i64 (v3+v11)).toNat)*1) 0))-(IntKind.wrap .i64 ((aB .u64 (v10+(aB .u64 (v2*(v1.getD v11.toNat 0))))).tmod 1000000000))))-v9)))),())) else none else none else none else none else none
   else bif aF (aB .i64 (v3+v11)) v0.2.2 then bif Nat.blt ((v0.2.1+(aB .i64 (v3+v11)).toNat)*1) (bP u00 v0.1) then bif ltI (aB .i64 ((aB .i64 ((IntKind.wrap .i64 (bR u00 v0.1 ((v0.2.1+(aB .i64 (v3+v11)).toNat)*1) 0))-(IntKind.wrap .i64 (v10.tmod 1000000000))))-v9)) 0 then
    bif aF (aB .i64 (v3+v11)) v0.2.2 then bif Nat.blt ((v0.2.1+(aB .i64 (v3+v11)).toNat)*1) (bP u00 v0.1) then some (.inl ((v0.1,v0.2.1,v0.2.2),v1,v2,v3,1,(aB .u64 (v10.tdiv 1000000000)),(aB .i64 (v11+1)),(lL u00 v0.1 ((v0.2.1+(aB .i64 (v3+v11)).toNat)*1) (IntKind.wrap .u64 (aB .i64 ((aB .i64 ((aB .i64 ((IntKind.wrap .i64 (bR u00 v0.1 ((v0.2.1+(aB .i64 (v3+v11)).toNat)*1) 0))-(IntKind.wrap .i64 (v10.tmod 1000000000))))-v9))+1000000000)))),())) else none else none
   else bif aF (aB .i64 (v3+v11)) v0.2.2 then bif Nat.blt ((v0.2.1+(aB .i64 (v3+v11)).toNat)*1) (bP u00 v0.1) then some (.inl ((v0.1,v0.2.1,v0.2.2),v1,v2,v3,0,(aB .u64 (v10.tdiv 1000000000)),(aB .i64 (v11+1)),(lL u00 v0.1 ((v0.2.1+(aB .i64 (v3+v11)).toNat)*1) (IntKind.wrap .u64 (aB .i64 ((aB .i64 ((IntKind.wrap .i64 (bR u00 v0.1 ((v0.2.1+(aB .i64 (v3+v11)).toNat)*1) 0))-(IntKind.wrap .i64 (v10.tmod 1000000000))))-v9)))),())) else none else none else none else none
  else some (.inr ((v9,u00,())))
def lU(x:Shape.den fG):oX jD:=aO cL (2^64) x
def fB(u0:Unit)(x:aL [.hnd 1,.list (.int .u64),.int .u64,.int .i64])(A:List (List Int)):Option ((aL [.bool])×List (List Int)):=match x with
 | (v0,v1,v2,v3,()) =>
  aC (lU ((v0.1,v0.2.1,v0.2.2),v1,v2,v3,0,0,0,A,())) λz1 =>
  some ((ltI 0 z1.1,()),z1.2.1)
def VG:Code:=R5 f140
abbrev X7:Env:=aCN []
theorem aAD:OK tP X7:=RU trivial
def WN:Code:=S2 VG 0
def XW(id:Nat):Option C8:=bif Nat.beq id 4 then some ⟨fG,jD,lU⟩ else none
theorem aE1:∀ x,S9 tP X7 59 (RV f140) XW WN fG jD x=cL x:=by
 rintro⟨v0,v1,v2,v3,v9,v10,v11,u00,⟨⟩⟩
 kernel_rfl
theorem aF2:SF tP 59 WN ⟨fG,jD,lU⟩:=SO aAD.callee RZ.mixed _ (RW (l:=[]) (by kernel_rfl) trivial) aE1
theorem aG1:RY VG=[WN]:=by kernel_rfl
theorem aHN:∀ l x A,aBF tP X7 f140 (RV f140) XW VG 172 (.int .u64) .none [.hnd 1,.list (.int .u64),.int .u64,.int .i64] (.data [.bool]) l x A=fB l x A:=by
 rintro u0 ⟨v0,v1,v2,v3,⟨⟩⟩ A
 kernel_rfl
theorem aI3:aFF tP 140 172 (.int .u64) .none [.hnd 1,.list (.int .u64),.int .u64,.int .i64] (.data [.bool]) fB:=X2 RZ aAD func140 (c:=VG) (by kernel_rfl) (keep:=RV f140) (lt:=XW) (by rfl) (RW aG1 ⟨SM (i:=4) (by kernel_rfl) rfl aF2,trivial⟩) aHN
theorem aIW:aZ7 tP 140 172 (.int .u64) [.list (.int .u64),.int .u64,.int .i64] [.bool] (EW fB):=aS1 aI3 (by rfl) (by rfl) (by rfl)
abbrev XV:Shr:=(140,aIH 1 (a0S 172 (.int .u64) [.list (.int .u64),.int .u64,.int .i64] [.bool] (EW fB)))
theorem ZW:UA tP XV:=UU (a3B aIW)
abbrev jK:List (Nat×Kd):=[(0,.hnd 1),(1,.list (.int .u64)),(2,.int .i64),(6,.int .u64),(7,.int .i64),(100000,.ar 172 (.int .u64))]
abbrev nH:List (Ex×List (Nat×Kd)):=[(.exit 0,[(100000,.ar 172 (.int .u64))])]
def cK(x:Shape.den jK):oS jK nH:=match x with
 | (v0,v1,v2,v6,v7,u00,()) =>
  bif !(ltI (v1.length:Int) v7) then
   bif aF (aB .i64 (v2+v7)) v0.2.2 then bif Nat.blt ((v0.2.1+(aB .i64 (v2+v7)).toNat)*1) (bP u00 v0.1) then bif ltI v7 (v1.length:Int) then
    bif aF v7 v1.length then bif aF (aB .i64 (v2+v7)) v0.2.2 then bif Nat.blt ((v0.2.1+(aB .i64 (v2+v7)).toNat)*1) (bP u00 v0.1) then some (.inl ((v0.1,v0.2.1,v0.2.2),v1,v2,(aB .u64 ((aB .u64 ((aB .u64 (v6+(bR u00 v0.1 ((v0.2.1+(aB .i64 (v2+v7)).toNat)*1) 0)))+(v1.getD v7.toNat 0))).tdiv 1000000000)),(aB .i64 (v7+1)),(lL u00 v0.1 ((v0.2.1+(aB .i64 (v2+v7)).toNat)*1) ((aB .u64 ((aB .u64 (v6+(bR u00 v0.1 ((v0.2.1+(aB .i64 (v2+v7)).toNat)*1) 0)))+(v1.getD v7.toNat 0))).tmod 1000000000)),())) else none else none else none
   else bif aF (aB .i64 (v2+v7)) v0.2.2 then bif Nat.blt ((v0.2.1+(aB .i64 (v2+v7)).toNat)*1) (bP u00 v0.1) then some (.inl ((v0.1,v0.2.1,v0.2.2),v1,v2,(aB .u64 ((aB .u64 (v6+(bR u00 v0.1 ((v0.2.1+(aB .i64 (v2+v7)).toNat)*1) 0))).tdiv 1000000000)),(aB .i64 (v7+1)),(lL u00 v0.1 ((v0.2.1+(aB .i64 (v2+v7)).toNat)*1) ((aB .u64 (v6+(bR u00 v0.1 ((v0.2.1+(aB .i64 (v2+v7)).toNat)*1) 0))).tmod 1000000000)),())) else none else none else none else none
  else some (.inr ((u00,())))
def lT(x:Shape.den jK):oX nH:=aO cK (2^64) x
def cZ(u0:Unit)(x:aL [.hnd 1,.list (.int .u64),.int .i64])(A:List (List Int)):Option ((aL [])×List (List Int)):=match x with
 | (v0,v1,v2,()) =>
  aC (lT ((v0.1,v0.2.1,v0.2.2),v1,v2,0,0,A,())) λz1 =>
  some ((()),z1.1)
def VD:Code:=R5 f137
abbrev X3:Env:=aCN []
theorem aAA:OK tP X3:=RU trivial
def WU:Code:=S2 VD 0
def XT(id:Nat):Option C8:=bif Nat.beq id 2 then some ⟨jK,nH,lT⟩ else none
theorem aE3:∀ x,S9 tP X3 41 (RV f137) XT WU jK nH x=cK x:=by
 rintro⟨v0,v1,v2,v6,v7,u00,⟨⟩⟩
 kernel_rfl
theorem aGF:SF tP 41 WU ⟨jK,nH,lT⟩:=SO aAA.callee RZ.mixed _ (RW (l:=[]) (by kernel_rfl) trivial) aE3
theorem aG7:RY VD=[WU]:=by kernel_rfl
theorem aHI:∀ l x A,aBF tP X3 f137 (RV f137) XT VD 172 (.int .u64) .none [.hnd 1,.list (.int .u64),.int .i64] (.data []) l x A=cZ l x A:=by
 rintro u0 ⟨v0,v1,v2,⟨⟩⟩ A
 kernel_rfl
theorem aI4:aFF tP 137 172 (.int .u64) .none [.hnd 1,.list (.int .u64),.int .i64] (.data []) cZ:=X2 RZ aAA func137 (c:=VD) (by kernel_rfl) (keep:=RV f137) (lt:=XT) (by rfl) (RW aG7 ⟨SM (i:=2) (by kernel_rfl) rfl aGF,trivial⟩) aHI
theorem aIR:a0T tP 137 172 (.int .u64) [.list (.int .u64),.int .i64] (CF cZ):=aVW aI4 (by rfl) (by rfl)
abbrev XR:Shr:=(137,aIH 1 (a3M 172 (.int .u64) [.list (.int .u64),.int .i64] (CF cZ)))
theorem ZH:UA tP XR:=UU (a0H aIR)
abbrev kH:List (Nat×Kd):=[(0,.list (.int .u64)),(3,.own 5 (.int .u8)),(4,.int .i64),(5,.int .u64),(6,.int .i64),(14,.list (.int .u64)),(15,.int .i64),(16,.int .i64)]
abbrev pV:List (Ex×List (Nat×Kd)):=[(.exit 2,[(0,.list (.int .u64)),(3,.own 5 (.int .u8)),(14,.list (.int .u64)),(15,.int .i64),(16,.int .i64)])]
def cD(x:Shape.den kH):oS kH pV:=match x with
 | (v0,v3,v4,v5,v6,v14,v15,v16,()) =>
  bif ltI v6 9 then
   bif ltI (aB .i64 (v4+1)) (v0.length:Int) then
    bif Nat.ble [(IntKind.wrap .u8 (aB .u64 (48+(v5.tmod 10))))].length 1048576 then bif Nat.ble v3.length 1048576 then some (.inl (v0,(v3++[(IntKind.wrap .u8 (aB .u64 (48+(v5.tmod 10))))]),v4,(aB .u64 (v5.tdiv 10)),(aB .i64 (v6+1)),v14,v15,v16,())) else none else none
   else bif ltI 0 v5 then
    bif Nat.ble [(IntKind.wrap .u8 (aB .u64 (48+(v5.tmod 10))))].length 1048576 then bif Nat.ble v3.length 1048576 then some (.inl (v0,(v3++[(IntKind.wrap .u8 (aB .u64 (48+(v5.tmod 10))))]),v4,(aB .u64 (v5.tdiv 10)),(aB .i64 (v6+1)),v14,v15,v16,())) else none else none
   else some (.inr ((v0,v3,v14,v15,v16,())))
  else some (.inr ((v0,v3,v14,v15,v16,())))
def jI(x:Shape.den kH):oX pV:=aO cD (2^64) x
abbrev kG:List (Nat×Kd):=[(0,.list (.int .u64)),(3,.own 5 (.int .u8)),(14,.list (.int .u64)),(15,.int .i64),(16,.int .i64)]
abbrev pE:List (Ex×List (Nat×Kd)):=[(.exit 0,[(3,.own 5 (.int .u8))])]
def dQ(x:Shape.den kG):oS kG pE:=match x with
 | (v0,v3,v14,v15,v16,()) =>
  bif ltI v16 v15 then
   bif aF v16 v14.length then aC (jI (v0,v3,v16,(v14.getD v16.toNat 0),0,v14,v15,v16,())) λz2 =>
   some (.inl (z2.1,z2.2.1,z2.2.2.1,z2.2.2.2.1,(aB .i64 (z2.2.2.2.2.1+1)),())) else none
  else some (.inr ((v3,())))
def nB(x:Shape.den kG):oX pE:=aO dQ (2^64) x
def bJ(x:aL [.list (.int .u64)]):oK [.str]:=match x with
 | (v0,()) =>
  bif eqI (v0.length:Int) 0 then
   some ((ByteArray.mk #[48]),())
  else bif !(ltI (aB .i64 (9*(v0.length:Int))) 0) then bif !(ltI 1048576 (aB .i64 (9*(v0.length:Int)))) then aC (nB (v0,(List.replicate 0 (0:Ty.den (.int .u8))),v0,(v0.length:Int),0,())) λz3 =>
  aC (CF (t:=(.int .u8)) hX z3.1 (())) λy4 =>
  some ((DR y4),()) else none else none
def aD0:Code:=R5 f139
abbrev ZQ:Env:=aG6 [] [YN]
theorem XM:OK tP ZQ:=T0 trivial ⟨aCJ,trivial⟩
def TS:Code:=S2 aD0 0
def YC:Code:=S2 TS 0
def YV(id:Nat):Option C8:=bif Nat.beq id 8 then some ⟨kH,pV,jI⟩ else bif Nat.beq id 5 then some ⟨kG,pE,nB⟩ else none
theorem aGZ:∀ x,S9 tP ZQ 50 (RV f139) YV YC kH pV x=cD x:=by
 rintro⟨v0,v3,v4,v5,v6,v14,v15,v16,⟨⟩⟩
 kernel_rfl
theorem aHF:SF tP 50 YC ⟨kH,pV,jI⟩:=SO XM.callee RZ.mixed _ (RW (l:=[]) (by kernel_rfl) trivial) aGZ
theorem aG4:∀ x,S9 tP ZQ 50 (RV f139) YV TS kG pE x=dQ x:=by
 rintro⟨v0,v3,v14,v15,v16,⟨⟩⟩
 kernel_rfl
theorem aJU:RY TS=[YC]:=by kernel_rfl
theorem aHT:SF tP 50 TS ⟨kG,pE,nB⟩:=SO XM.callee RZ.mixed _ (RW aJU ⟨SM (i:=8) (by kernel_rfl) rfl aHF,trivial⟩) aG4
abbrev UK:Ent:=⟨139,_,_,bJ⟩
theorem UY:Ent.OK tP UK:=aS7 RZ XM func139 (c:=aD0) (by kernel_rfl) (keep:=RV f139) (lt:=YV) (RW (l:=[TS]) (by kernel_rfl) ⟨SM (i:=5) (by kernel_rfl) rfl aHT,trivial⟩) (by rintro⟨v0,⟨⟩⟩; kernel_rfl)
abbrev hY:List (Nat×Kd):=[(0,.list (.int .u64)),(6,.int .u64),(7,.own 172 (.int .u64)),(8,.list (.int .u64)),(9,.int .i64),(100000,.ar 172 (.int .u64))]
abbrev l6:List (Ex×List (Nat×Kd)):=[(.exit 0,[(6,.int .u64),(7,.own 172 (.int .u64)),(8,.list (.int .u64)),(9,.int .i64),(100000,.ar 172 (.int .u64))])]
def gB(x:Shape.den hY):oS hY l6:=match x with
 | (v0,v6,v7,v8,v9,u00,()) =>
  bif !(ltI (v0.length:Int) (v7.length:Int)) then
   bif Nat.ble [0].length 1048576 then bif Nat.ble v7.length 1048576 then some (.inl (v0,v6,(v7++[0]),v8,v9,u00,())) else none else none
  else some (.inr ((v6,v7,v8,v9,u00,())))
def kP(x:Shape.den hY):oX l6:=aO gB (2^64) x
abbrev gR:List (Nat×Kd):=[(6,.int .u64),(7,.own 172 (.int .u64)),(8,.list (.int .u64)),(9,.int .i64),(10,.own 172 (.int .u64)),(11,.int .i64),(13,.int .u64),(14,.int .u64),(100000,.ar 172 (.int .u64))]
abbrev lW:List (Ex×List (Nat×Kd)):=[(.exit 4,[(6,.int .u64),(7,.own 172 (.int .u64)),(8,.list (.int .u64)),(9,.int .i64),(10,.own 172 (.int .u64)),(11,.int .i64),(13,.int .u64),(100000,.ar 172 (.int .u64))])]
def dW(x:Shape.den gR):oS gR lW:=match x with
 | (v6,v7,v8,v9,v10,v11,v13,v14,u00,()) =>
  bif !(ltI v13 1000000000) then
   bif aF (aB .i64 (v9-1)) v8.length then some (.inl (v6,v7,v8,v9,v10,v11,(aB .u64 (v13-1)),(aB .u64 (v14+(v8.getD ((aB .i64 (v9-1)).toNat) 0))),u00,())) else none
  else bif ltI v14 1000000000 then
   bif aF (aB .i64 (v9-2)) v8.length then bif aF (aB .i64 ((aB .i64 (v11+v9))-2)) v7.length then bif Nat.blt ((aB .i64 ((aB .i64 (v11+v9))-2)).toNat) v7.length then bif ltI (aB .u64 ((aB .u64 (v14*1000000000))+(v7.getD ((aB .i64 ((aB .i64 (v11+v9))-2)).toNat) 0))) (aB .u64 (v13*(v8.getD ((aB .i64 (v9-2)).toNat) 0))) then
    bif aF (aB .i64 (v9-1)) v8.length then some (.inl (v6,v7,v8,v9,v10,v11,(aB .u64 (v13-1)),(aB .u64 (v14+(v8.getD ((aB .i64 (v9-1)).toNat) 0))),u00,())) else none
   else some (.inr ((v6,v7,v8,v9,v10,v11,v13,u00,()))) else none else none else none
  else some (.inr ((v6,v7,v8,v9,v10,v11,v13,u00,())))
def kO(x:Shape.den gR):oX lW:=aO dW (2^64) x
abbrev gT:List (Nat×Kd):=[(6,.int .u64),(7,.own 172 (.int .u64)),(8,.list (.int .u64)),(9,.int .i64),(10,.own 172 (.int .u64)),(11,.int .i64),(100000,.ar 172 (.int .u64))]
abbrev lS:List (Ex×List (Nat×Kd)):=[(.exit 2,[(6,.int .u64),(7,.own 172 (.int .u64)),(10,.own 172 (.int .u64)),(100000,.ar 172 (.int .u64))])]
def cB(x:Shape.den gT):oS gT lS:=match x with
 | (v6,v7,v8,v9,v10,v11,u00,()) =>
  bif !(ltI v11 0) then
   bif aF (aB .i64 (v11+v9)) v7.length then bif Nat.blt ((aB .i64 (v11+v9)).toNat) v7.length then bif aF (aB .i64 ((aB .i64 (v11+v9))-1)) v7.length then bif Nat.blt ((aB .i64 ((aB .i64 (v11+v9))-1)).toNat) v7.length then bif aF (aB .i64 (v9-1)) v8.length then bif eqI (v8.getD ((aB .i64 (v9-1)).toNat) 0) 0 then none else bif aF (aB .i64 (v9-1)) v8.length then bif eqI (v8.getD ((aB .i64 (v9-1)).toNat) 0) 0 then none else aC (kO (v6,v7,v8,v9,v10,v11,(aB .u64 ((aB .u64 ((aB .u64 ((v7.getD ((aB .i64 (v11+v9)).toNat) 0)*1000000000))+(v7.getD ((aB .i64 ((aB .i64 (v11+v9))-1)).toNat) 0))).tdiv (v8.getD ((aB .i64 (v9-1)).toNat) 0))),((aB .u64 ((aB .u64 ((v7.getD ((aB .i64 (v11+v9)).toNat) 0)*1000000000))+(v7.getD ((aB .i64 ((aB .i64 (v11+v9))-1)).toNat) 0))).tmod (v8.getD ((aB .i64 (v9-1)).toNat) 0)),u00,())) λz7 =>
   aC (EW (t:=(.int .u64)) (rets:=[.bool]) fB z7.2.1 (z7.2.2.1,z7.2.2.2.2.2.2.1,z7.2.2.2.2.2.1,())) λy8 =>
   bif y8.1.1 then
    aC (CF (t:=(.int .u64)) cZ y8.2 (z7.2.2.1,z7.2.2.2.2.2.1,())) λy9 =>
    bif aF z7.2.2.2.2.2.1 z7.2.2.2.2.1.length then bif Nat.blt z7.2.2.2.2.2.1.toNat z7.2.2.2.2.1.length then some (.inl (z7.1,y9,z7.2.2.1,z7.2.2.2.1,(z7.2.2.2.2.1.set z7.2.2.2.2.2.1.toNat (aB .u64 (z7.2.2.2.2.2.2.1-1))),(aB .i64 (z7.2.2.2.2.2.1-1)),z7.2.2.2.2.2.2.2.1,())) else none else none
   else bif aF z7.2.2.2.2.2.1 z7.2.2.2.2.1.length then bif Nat.blt z7.2.2.2.2.2.1.toNat z7.2.2.2.2.1.length then some (.inl (z7.1,y8.2,z7.2.2.1,z7.2.2.2.1,(z7.2.2.2.2.1.set z7.2.2.2.2.2.1.toNat z7.2.2.2.2.2.2.1),(aB .i64 (z7.2.2.2.2.2.1-1)),z7.2.2.2.2.2.2.2.1,())) else none else none else none else none else none else none else none else none
  else some (.inr ((v6,v7,v10,u00,())))
def kQ(x:Shape.den gT):oX lS:=aO cB (2^64) x
def j7(u0:Unit)(x:aL [.list (.int .u64),.list (.int .u64)])(A:List (List Int)):Option ((aL [.list (.int .u64),.list (.int .u64)])×List (List Int)):=match x with
 | (v0,v1,()) =>
  bif aF (aB .i64 ((v1.length:Int)-1)) v1.length then bif eqI (aB .u64 ((v1.getD ((aB .i64 ((v1.length:Int)-1)).toNat) 0)+1)) 0 then none else aC (jF () (v0,(aB .u64 ((1000000000:Int).tdiv (aB .u64 ((v1.getD ((aB .i64 ((v1.length:Int)-1)).toNat) 0)+1)))),()) A) λy1 =>
  bif Nat.ble [0].length 1048576 then bif Nat.ble y1.1.length 1048576 then aC (jF () (v1,(aB .u64 ((1000000000:Int).tdiv (aB .u64 ((v1.getD ((aB .i64 ((v1.length:Int)-1)).toNat) 0)+1)))),()) y1.2) λy2 =>
  aC (kP (v0,(aB .u64 ((1000000000:Int).tdiv (aB .u64 ((v1.getD ((aB .i64 ((v1.length:Int)-1)).toNat) 0)+1)))),(y1.1++[0]),y2.1,(y2.1.length:Int),y2.2,())) λz3 =>
  bif !(ltI (aB .i64 ((z3.2.1.length:Int)-z3.2.2.2.1)) 0) then bif !(ltI (aB .i64 ((z3.2.1.length:Int)-z3.2.2.2.1)) (aB .i64 ((z3.2.1.length:Int)-z3.2.2.2.1))) then bif !(ltI 1048576 (aB .i64 ((z3.2.1.length:Int)-z3.2.2.2.1))) then aC (kQ (z3.1,z3.2.1,z3.2.2.1,z3.2.2.2.1,(List.replicate ((aB .i64 ((z3.2.1.length:Int)-z3.2.2.2.1)).toNat) (0:Ty.den (.int .u64))),(aB .i64 ((aB .i64 ((z3.2.1.length:Int)-z3.2.2.2.1))-1)),z3.2.2.2.2.1,())) λz10 =>
  aC (bD z10.2.1 (()) z10.2.2.2.1) λy11 =>
  aC (gK () (y11.1,z10.1,()) y11.2) λy12 =>
  aC (bD z10.2.2.1 (()) y12.2) λy13 =>
  some ((y13.1,y12.1.1,()),y13.2) else none else none else none else none else none else none
def TH:Code:=R5 f177
abbrev TE:Env:=aG6 [] [XR,Z8,XO,XV,SJ]
theorem TL:OK tP TE:=T0 trivial ⟨ZH,aER,ZP,ZW,SL,trivial⟩
def VV:Code:=S2 TH 0
def S4:Code:=S2 TH 1
def VY:Code:=S2 S4 0
def TD(id:Nat):Option C8:=bif Nat.beq id 4 then some ⟨hY,l6,kP⟩ else bif Nat.beq id 12 then some ⟨gR,lW,kO⟩ else bif Nat.beq id 8 then some ⟨gT,lS,kQ⟩ else none
theorem aDP:∀ x,S9 tP TE 146 (RV f177) TD VV hY l6 x=gB x:=by
 rintro⟨v0,v6,v7,v8,v9,u00,⟨⟩⟩
 kernel_rfl
theorem aEJ:SF tP 146 VV ⟨hY,l6,kP⟩:=SO TL.callee RZ.mixed _ (RW (l:=[]) (by kernel_rfl) trivial) aDP
theorem aC9:∀ x,S9 tP TE 146 (RV f177) TD VY gR lW x=dW x:=by
 rintro⟨v6,v7,v8,v9,v10,v11,v13,v14,u00,⟨⟩⟩
 kernel_rfl
theorem aEF:SF tP 146 VY ⟨gR,lW,kO⟩:=SO TL.callee RZ.mixed _ (RW (l:=[]) (by kernel_rfl) trivial) aC9
theorem aDM:∀ x,S9 tP TE 146 (RV f177) TD S4 gT lS x=cB x:=by
 rintro⟨v6,v7,v8,v9,v10,v11,u00,⟨⟩⟩
 kernel_rfl
theorem aFV:RY S4=[VY]:=by kernel_rfl
theorem aEO:SF tP 146 S4 ⟨gT,lS,kQ⟩:=SO TL.callee RZ.mixed _ (RW aFV ⟨SM (i:=12) (by kernel_rfl) rfl aEF,trivial⟩) aDM
theorem aE6:RY TH=[VV,S4]:=by kernel_rfl
theorem aGA:∀ l x A,aBF tP TE f177 (RV f177) TD TH 172 (.int .u64) .none [.list (.int .u64),.list (.int .u64)] (.data [.list (.int .u64),.list (.int .u64)]) l x A=j7 l x A:=by
 rintro u0 ⟨v0,v1,⟨⟩⟩ A
 kernel_rfl
theorem aHL:aFF tP 177 172 (.int .u64) .none [.list (.int .u64),.list (.int .u64)] (.data [.list (.int .u64),.list (.int .u64)]) j7:=X2 RZ TL func177 (c:=TH) (by kernel_rfl) (keep:=RV f177) (lt:=TD) (by rfl) (RW aE6 ⟨SM (i:=4) (by kernel_rfl) rfl aEJ,SM (i:=8) (by kernel_rfl) rfl aEO,trivial⟩) aGA
abbrev aAZ:Shr:=(177,aIH 0 (arH 172 (.int .u64) .none [.list (.int .u64),.list (.int .u64)] (.data [.list (.int .u64),.list (.int .u64)]) j7))
theorem aFT:UA tP aAZ:=UU (g:=177) (f:=arH 172 (.int .u64) .none [.list (.int .u64),.list (.int .u64)] (.data [.list (.int .u64),.list (.int .u64)]) j7) (ZD aHL)
def cP(x:aL [.str,.str]):oK [.str]:=match x with
 | (v0,v1,()) =>
  aC (iD (v0,v1,())) λy1 =>
  bif y1.2.2.1 then
   aC (jV ((aB .u64 (y1.1+y1.2.1)),())) λy2 =>
   some (y2.1,())
  else aC (c8 () (v0,()) []) λy3 =>
  aC (c8 () (v1,()) y3.2) λy4 =>
  bif ltI (y3.1.length:Int) (y4.1.length:Int) then
   bif Nat.ble [0].length 1048576 then bif Nat.ble y4.1.length 1048576 then bif !(ltI (aB .i64 ((aB .i64 (((y4.1++[0]).length:Int)-1))-(y3.1.length:Int))) 0) then bif !(ltI 1048576 (aB .i64 ((aB .i64 (((y4.1++[0]).length:Int)-1))-(y3.1.length:Int)))) then bif Nat.ble y3.1.length 1048576 then aC (CF (t:=(.int .u64)) cZ (y4.1++[0]) ((y3.1++List.replicate (aB .i64 ((aB .i64 (((y4.1++[0]).length:Int)-1))-(y3.1.length:Int))).toNat (0:Ty.den (.int .u64))),0,())) λy5 =>
   aC (bD y5 (()) y4.2) λy6 =>
   aC (bJ (y6.1,())) λy7 =>
   some (y7.1,()) else none else none else none else none else none
  else bif Nat.ble [0].length 1048576 then bif Nat.ble y3.1.length 1048576 then bif !(ltI (aB .i64 ((aB .i64 (((y3.1++[0]).length:Int)-1))-(y4.1.length:Int))) 0) then bif !(ltI 1048576 (aB .i64 ((aB .i64 (((y3.1++[0]).length:Int)-1))-(y4.1.length:Int)))) then bif Nat.ble y4.1.length 1048576 then aC (CF (t:=(.int .u64)) cZ (y3.1++[0]) ((y4.1++List.replicate (aB .i64 ((aB .i64 (((y3.1++[0]).length:Int)-1))-(y4.1.length:Int))).toNat (0:Ty.den (.int .u64))),0,())) λy8 =>
  aC (bD y8 (()) y4.2) λy9 =>
  aC (bJ (y9.1,())) λy10 =>
  some (y10.1,()) else none else none else none else none else none
def aKQ:Code:=R5 f101
abbrev aP0:Env:=aG6 [aD5,aAU,UK] [YK,XR,SJ]
theorem aR6:OK tP aP0:=T0 ⟨aBY,Z2,UY,trivial⟩ ⟨X4,ZH,SL,trivial⟩
def aN8(id:Nat):Option C8:=none
theorem aQS:RY aKQ=[]:=by kernel_rfl
theorem aR7:∀ x,aRN tP aP0 f101 (RV f101) aN8 aKQ 172 (.int .u64) _ _ x=cP x:=by
 rintro⟨v0,v1,⟨⟩⟩
 kernel_rfl
abbrev aWN:Ent:=⟨101,_,_,cP⟩
theorem aLB:Ent.OK tP aWN:=aUC RZ aR6 func101 (c:=aKQ) (by kernel_rfl) (keep:=RV f101) (lt:=aN8) (RW aQS trivial) aR7
def bM(x:aL [.str,.str]):oK [.str,.int .i64]:=match x with
 | (v0,v1,()) =>
  aC (cR (v0,v1,())) λy1 =>
  bif ltI y1.1 0 then
   some ((ByteArray.mk #[]),3,())
  else aC (iD (v0,v1,())) λy2 =>
  bif y2.2.2.1 then
   aC (jV ((aB .u64 (y2.1-y2.2.1)),())) λy3 =>
   some (y3.1,0,())
  else aC (c8 () (v0,()) []) λy4 =>
  bif Nat.ble [0].length 1048576 then bif Nat.ble y4.1.length 1048576 then aC (c8 () (v1,()) y4.2) λy5 =>
  aC (c8 () (v1,()) y5.2) λy6 =>
  bif !(ltI (aB .i64 ((aB .i64 (((y4.1++[0]).length:Int)-1))-(y6.1.length:Int))) 0) then bif !(ltI 1048576 (aB .i64 ((aB .i64 (((y4.1++[0]).length:Int)-1))-(y6.1.length:Int)))) then bif Nat.ble y5.1.length 1048576 then aC (EW (t:=(.int .u64)) (rets:=[.bool]) fB (y4.1++[0]) ((y5.1++List.replicate (aB .i64 ((aB .i64 (((y4.1++[0]).length:Int)-1))-(y6.1.length:Int))).toNat (0:Ty.den (.int .u64))),1,0,())) λy7 =>
  aC (bD y7.2 (()) y6.2) λy8 =>
  aC (bJ (y8.1,())) λy9 =>
  some (y9.1,0,()) else none else none else none else none else none
def aKZ:Code:=R5 f103
abbrev aPP:Env:=aG6 [aJL,aD5,aAU,UK] [YK,XV,SJ]
theorem aSM:OK tP aPP:=T0 ⟨aAJ,aBY,Z2,UY,trivial⟩ ⟨X4,ZW,SL,trivial⟩
def aOC(id:Nat):Option C8:=none
theorem aQY:RY aKZ=[]:=by kernel_rfl
theorem aSJ:∀ x,aRN tP aPP f103 (RV f103) aOC aKZ 172 (.int .u64) _ _ x=bM x:=by
 rintro⟨v0,v1,⟨⟩⟩
 kernel_rfl
abbrev aWY:Ent:=⟨103,_,_,bM⟩
theorem aLD:Ent.OK tP aWY:=aUC RZ aSM func103 (c:=aKZ) (by kernel_rfl) (keep:=RV f103) (lt:=aOC) (RW aQY trivial) aSJ
def cQ(x:aL [.str,.str]):oK [.str]:=match x with
 | (v0,v1,()) =>
  bif !(ltI 18 (aB .i64 ((v0.size:Int)+(v1.size:Int)))) then
   aC (iD (v0,v1,())) λy1 =>
   aC (jV ((aB .u64 (y1.1*y1.2.1)),())) λy2 =>
   some (y2.1,())
  else aC (c8 () (v0,()) []) λy3 =>
  aC (c8 () (v1,()) y3.2) λy4 =>
  aC (fV () (y3.1,y4.1,()) y4.2) λy5 =>
  aC (bJ (y5.1,())) λy6 =>
  some (y6.1,())
def aKC:Code:=R5 f104
abbrev aP5:Env:=aG6 [aD5,aAU,UK] [YK,W8]
theorem aR5:OK tP aP5:=T0 ⟨aBY,Z2,UY,trivial⟩ ⟨X4,Y6,trivial⟩
def aOA(id:Nat):Option C8:=none
theorem aQ8:RY aKC=[]:=by kernel_rfl
theorem aSG:∀ x,aRN tP aP5 f104 (RV f104) aOA aKC 172 (.int .u64) _ _ x=cQ x:=by
 rintro⟨v0,v1,⟨⟩⟩
 kernel_rfl
abbrev aW3:Ent:=⟨104,_,_,cQ⟩
theorem aSC:Ent.OK tP aW3:=aUC RZ aR5 func104 (c:=aKC) (by kernel_rfl) (keep:=RV f104) (lt:=aOA) (RW aQ8 trivial) aSG
def gN(x:aL [.str,.str]):oK [.str,.str,.int .i64]:=match x with
 | (v0,v1,()) =>
  bif eqS v1 (ByteArray.mk #[48]) then
   some ((ByteArray.mk #[]),(ByteArray.mk #[]),17,())
  else aC (iD (v0,v1,())) λy1 =>
  bif y1.2.2.1 then
   bif eqI y1.2.1 0 then none else aC (jV ((aB .u64 (y1.1.tdiv y1.2.1)),())) λy2 =>
   bif eqI y1.2.1 0 then none else aC (jV ((y1.1.tmod y1.2.1),())) λy3 =>
   some (y2.1,y3.1,0,())
  else aC (c8 () (v0,()) []) λy4 =>
  aC (c8 () (v1,()) y4.2) λy5 =>
  aC (kD (y4.1,y5.1,())) λy6 =>
  bif ltI y6.1 0 then
   some ((ByteArray.mk #[48]),v0,0,())
  else bif eqI (y5.1.length:Int) 1 then
   bif aF 0 y5.1.length then bif Nat.blt 0 y5.1.length then aC (gK () (y4.1,(y5.1.getD 0 0),()) y5.2) λy7 =>
   aC (bJ (y7.1.1,())) λy8 =>
   aC (jV (y7.1.2.1,())) λy9 =>
   some (y8.1,y9.1,0,()) else none else none
  else aC (j7 () (y4.1,y5.1,()) y5.2) λy10 =>
  aC (bJ (y10.1.1,())) λy11 =>
  aC (bJ (y10.1.2.1,())) λy12 =>
  some (y11.1,y12.1,0,())
def aFC:Code:=R5 f154
abbrev aLC:Env:=aG6 [aD5,aAU,aBC,UK] [YK,aAZ,XO]
theorem aOV:OK tP aLC:=T0 ⟨aBY,Z2,aGO,UY,trivial⟩ ⟨X4,aFT,ZP,trivial⟩
def aJ1(id:Nat):Option C8:=none
theorem aNX:RY aFC=[]:=by kernel_rfl
theorem aON:∀ x,aRN tP aLC f154 (RV f154) aJ1 aFC 172 (.int .u64) _ _ x=gN x:=by
 rintro⟨v0,v1,⟨⟩⟩
 kernel_rfl
abbrev aSL:Ent:=⟨154,_,_,gN⟩
theorem aOL:Ent.OK tP aSL:=aUC RZ aOV func154 (c:=aFC) (by kernel_rfl) (keep:=RV f154) (lt:=aJ1) (RW aNX trivial) aON
def vB(x:aL [.str,.str]):oK [.str]:=match x with
 | (v0,v1,()) =>
  aC (iA (v0,18,())) λy1 =>
  bif y1.2.1 then
   aC (iA (v1,18,())) λy2 =>
   bif y2.2.1 then
    aC (dM ((aB .i64 (y1.1+y2.1)),())) λy3 =>
    some (y3.1,())
   else aC (bF (v0,())) λy4 =>
   aC (bF (v1,())) λy5 =>
   bif y4.1 then
    bif y5.1 then
     aC (cP (y4.2.1,y5.2.1,())) λy6 =>
     aC (aA (y4.1,y6.1,())) λy7 =>
     some (y7.1,())
    else aC (cR (y4.2.1,y5.2.1,())) λy8 =>
    bif ltI y8.1 0 then
     aC (bM (y5.2.1,y4.2.1,())) λy9 =>
     aC (aA (y5.1,y9.1,())) λy10 =>
     some (y10.1,())
    else aC (bM (y4.2.1,y5.2.1,())) λy11 =>
    aC (aA (y4.1,y11.1,())) λy12 =>
    some (y12.1,())
   else bif y5.1 then
    aC (cR (y4.2.1,y5.2.1,())) λy13 =>
    bif ltI y13.1 0 then
     aC (bM (y5.2.1,y4.2.1,())) λy14 =>
     aC (aA (y5.1,y14.1,())) λy15 =>
     some (y15.1,())
    else aC (bM (y4.2.1,y5.2.1,())) λy16 =>
    aC (aA (y4.1,y16.1,())) λy17 =>
    some (y17.1,())
   else aC (cP (y4.2.1,y5.2.1,())) λy18 =>
   aC (aA (y4.1,y18.1,())) λy19 =>
   some (y19.1,())
  else aC (bF (v0,())) λy20 =>
  aC (bF (v1,())) λy21 =>
  bif y20.1 then
   bif y21.1 then
    aC (cP (y20.2.1,y21.2.1,())) λy22 =>
    aC (aA (y20.1,y22.1,())) λy23 =>
    some (y23.1,())
   else aC (cR (y20.2.1,y21.2.1,())) λy24 =>
   bif ltI y24.1 0 then
    aC (bM (y21.2.1,y20.2.1,())) λy25 =>
    aC (aA (y21.1,y25.1,())) λy26 =>
    some (y26.1,())
   else aC (bM (y20.2.1,y21.2.1,())) λy27 =>
   aC (aA (y20.1,y27.1,())) λy28 =>
   some (y28.1,())
  else bif y21.1 then
   aC (cR (y20.2.1,y21.2.1,())) λy29 =>
   bif ltI y29.1 0 then
    aC (bM (y21.2.1,y20.2.1,())) λy30 =>
    aC (aA (y21.1,y30.1,())) λy31 =>
    some (y31.1,())
   else aC (bM (y20.2.1,y21.2.1,())) λy32 =>
   aC (aA (y20.1,y32.1,())) λy33 =>
   some (y33.1,())
  else aC (cP (y20.2.1,y21.2.1,())) λy34 =>
  aC (aA (y20.1,y34.1,())) λy35 =>
  some (y35.1,())
abbrev aT1:Ent:=⟨67,_,_,vB⟩
theorem aN4:Ent.OK tP aT1:=oI (RU (oV aLB (oV aAJ (oV aLD (oV aBW (oV aCF (oV aC0 (oV WE oW)))))))) func67 (by kernel_rfl) (by rintro⟨v0,v1,⟨⟩⟩; kernel_rfl)
def xM(x:aL [.str,.str]):oK [.str]:=match x with
 | (v0,v1,()) =>
  aC (uQ (v1,())) λy1 =>
  aC (vB (v0,y1.1,())) λy2 =>
  some (y2.1,())
abbrev aTX:Ent:=⟨155,_,_,xM⟩
theorem aUP:Ent.OK tP aTX:=oI (RU (oV aN4 (oV aN9 oW))) func155 (by kernel_rfl) (by rintro⟨v0,v1,⟨⟩⟩; kernel_rfl)
def uS(x:aL [.str,.str]):oK [.str]:=match x with
 | (v0,v1,()) =>
  aC (iA (v0,9,())) λy1 =>
  bif y1.2.1 then
   aC (iA (v1,9,())) λy2 =>
   bif y2.2.1 then
    aC (dM ((aB .i64 (y1.1*y2.1)),())) λy3 =>
    some (y3.1,())
   else aC (bF (v0,())) λy4 =>
   aC (bF (v1,())) λy5 =>
   bif y4.1 then
    bif y5.1 then
     aC (cQ (y4.2.1,y5.2.1,())) λy6 =>
     aC (aA (false,y6.1,())) λy7 =>
     some (y7.1,())
    else aC (cQ (y4.2.1,y5.2.1,())) λy8 =>
    aC (aA (true,y8.1,())) λy9 =>
    some (y9.1,())
   else bif y5.1 then
    aC (cQ (y4.2.1,y5.2.1,())) λy10 =>
    aC (aA (true,y10.1,())) λy11 =>
    some (y11.1,())
   else aC (cQ (y4.2.1,y5.2.1,())) λy12 =>
   aC (aA (false,y12.1,())) λy13 =>
   some (y13.1,())
  else aC (bF (v0,())) λy14 =>
  aC (bF (v1,())) λy15 =>
  bif y14.1 then
   bif y15.1 then
    aC (cQ (y14.2.1,y15.2.1,())) λy16 =>
    aC (aA (false,y16.1,())) λy17 =>
    some (y17.1,())
   else aC (cQ (y14.2.1,y15.2.1,())) λy18 =>
   aC (aA (true,y18.1,())) λy19 =>
   some (y19.1,())
  else bif y15.1 then
   aC (cQ (y14.2.1,y15.2.1,())) λy20 =>
   aC (aA (true,y20.1,())) λy21 =>
   some (y21.1,())
  else aC (cQ (y14.2.1,y15.2.1,())) λy22 =>
  aC (aA (false,y22.1,())) λy23 =>
  some (y23.1,())
abbrev aO2:Ent:=⟨68,_,_,uS⟩
theorem aN7:Ent.OK tP aO2:=oI (RU (oV aSC (oV aBW (oV aCF (oV aC0 (oV WE oW)))))) func68 (by kernel_rfl) (by rintro⟨v0,v1,⟨⟩⟩; kernel_rfl)
def rO(x:aL [.str,.str]):oK [.str,.str,.int .i64]:=match x with
 | (v0,v1,()) =>
  bif eqS v1 (ByteArray.mk #[48]) then
   some ((ByteArray.mk #[]),(ByteArray.mk #[]),17,())
  else aC (iA (v0,18,())) λy1 =>
  bif y1.2.1 then
   aC (iA (v1,18,())) λy2 =>
   bif y2.2.1 then
    bif eqI y2.1 0 then none else bif eqI y2.1 0 then none else bif !(eqI (y1.1.tmod y2.1) 0) then
     bif ltI (y1.1.tmod y2.1) 0 then
      bif ltI y2.1 0 then
       aC (dM ((aB .i64 (y1.1.tdiv y2.1)),())) λy3 =>
       aC (dM ((y1.1.tmod y2.1),())) λy4 =>
       some (y3.1,y4.1,0,())
      else aC (dM ((aB .i64 ((aB .i64 (y1.1.tdiv y2.1))-1)),())) λy5 =>
      aC (dM ((aB .i64 ((y1.1.tmod y2.1)+y2.1)),())) λy6 =>
      some (y5.1,y6.1,0,())
     else bif ltI y2.1 0 then
      aC (dM ((aB .i64 ((aB .i64 (y1.1.tdiv y2.1))-1)),())) λy7 =>
      aC (dM ((aB .i64 ((y1.1.tmod y2.1)+y2.1)),())) λy8 =>
      some (y7.1,y8.1,0,())
     else aC (dM ((aB .i64 (y1.1.tdiv y2.1)),())) λy9 =>
     aC (dM ((y1.1.tmod y2.1),())) λy10 =>
     some (y9.1,y10.1,0,())
    else aC (dM ((aB .i64 (y1.1.tdiv y2.1)),())) λy11 =>
    aC (dM ((y1.1.tmod y2.1),())) λy12 =>
    some (y11.1,y12.1,0,())
   else aC (bF (v0,())) λy13 =>
   aC (bF (v1,())) λy14 =>
   aC (gN (y13.2.1,y14.2.1,())) λy15 =>
   bif !(eqI y15.2.2.1 0) then
    some ((ByteArray.mk #[]),(ByteArray.mk #[]),y15.2.2.1,())
   else bif y13.1 then
    bif y14.1 then
     bif y13.1 then
      bif y14.1 then
       aC (aA (false,y15.1,())) λy16 =>
       aC (aA (y14.1,y15.2.1,())) λy17 =>
       some (y16.1,y17.1,0,())
      else aC (aA (true,y15.1,())) λy18 =>
      aC (aA (y14.1,y15.2.1,())) λy19 =>
      some (y18.1,y19.1,0,())
     else bif y14.1 then
      aC (aA (true,y15.1,())) λy20 =>
      aC (aA (y14.1,y15.2.1,())) λy21 =>
      some (y20.1,y21.1,0,())
     else aC (aA (false,y15.1,())) λy22 =>
     aC (aA (y14.1,y15.2.1,())) λy23 =>
     some (y22.1,y23.1,0,())
    else bif !(eqS y15.2.1 (ByteArray.mk #[48])) then
     aC (cP (y15.1,(ByteArray.mk #[49]),())) λy24 =>
     aC (bM (y14.2.1,y15.2.1,())) λy25 =>
     bif y13.1 then
      bif y14.1 then
       aC (aA (false,y24.1,())) λy26 =>
       aC (aA (y14.1,y25.1,())) λy27 =>
       some (y26.1,y27.1,0,())
      else aC (aA (true,y24.1,())) λy28 =>
      aC (aA (y14.1,y25.1,())) λy29 =>
      some (y28.1,y29.1,0,())
     else bif y14.1 then
      aC (aA (true,y24.1,())) λy30 =>
      aC (aA (y14.1,y25.1,())) λy31 =>
      some (y30.1,y31.1,0,())
     else aC (aA (false,y24.1,())) λy32 =>
     aC (aA (y14.1,y25.1,())) λy33 =>
     some (y32.1,y33.1,0,())
    else bif y13.1 then
     bif y14.1 then
      aC (aA (false,y15.1,())) λy34 =>
      aC (aA (y14.1,y15.2.1,())) λy35 =>
      some (y34.1,y35.1,0,())
     else aC (aA (true,y15.1,())) λy36 =>
     aC (aA (y14.1,y15.2.1,())) λy37 =>
     some (y36.1,y37.1,0,())
    else bif y14.1 then
     aC (aA (true,y15.1,())) λy38 =>
     aC (aA (y14.1,y15.2.1,())) λy39 =>
     some (y38.1,y39.1,0,())
    else aC (aA (false,y15.1,())) λy40 =>
    aC (aA (y14.1,y15.2.1,())) λy41 =>
    some (y40.1,y41.1,0,())
   else bif y14.1 then
    bif !(eqS y15.2.1 (ByteArray.mk #[48])) then
     aC (cP (y15.1,(ByteArray.mk #[49]),())) λy42 =>
     aC (bM (y14.2.1,y15.2.1,())) λy43 =>
     bif y13.1 then
      bif y14.1 then
       aC (aA (false,y42.1,())) λy44 =>
       aC (aA (y14.1,y43.1,())) λy45 =>
       some (y44.1,y45.1,0,())
      else aC (aA (true,y42.1,())) λy46 =>
      aC (aA (y14.1,y43.1,())) λy47 =>
      some (y46.1,y47.1,0,())
     else bif y14.1 then
      aC (aA (true,y42.1,())) λy48 =>
      aC (aA (y14.1,y43.1,())) λy49 =>
      some (y48.1,y49.1,0,())
     else aC (aA (false,y42.1,())) λy50 =>
     aC (aA (y14.1,y43.1,())) λy51 =>
     some (y50.1,y51.1,0,())
    else bif y13.1 then
     bif y14.1 then
      aC (aA (false,y15.1,())) λy52 =>
      aC (aA (y14.1,y15.2.1,())) λy53 =>
      some (y52.1,y53.1,0,())
     else aC (aA (true,y15.1,())) λy54 =>
     aC (aA (y14.1,y15.2.1,())) λy55 =>
     some (y54.1,y55.1,0,())
    else bif y14.1 then
     aC (aA (true,y15.1,())) λy56 =>
     aC (aA (y14.1,y15.2.1,())) λy57 =>
     some (y56.1,y57.1,0,())
    else aC (aA (false,y15.1,())) λy58 =>
    aC (aA (y14.1,y15.2.1,())) λy59 =>
    some (y58.1,y59.1,0,())
   else bif y13.1 then
    bif y14.1 then
     aC (aA (false,y15.1,())) λy60 =>
     aC (aA (y14.1,y15.2.1,())) λy61 =>
     some (y60.1,y61.1,0,())
    else aC (aA (true,y15.1,())) λy62 =>
    aC (aA (y14.1,y15.2.1,())) λy63 =>
    some (y62.1,y63.1,0,())
   else bif y14.1 then
    aC (aA (true,y15.1,())) λy64 =>
    aC (aA (y14.1,y15.2.1,())) λy65 =>
    some (y64.1,y65.1,0,())
   else aC (aA (false,y15.1,())) λy66 =>
   aC (aA (y14.1,y15.2.1,())) λy67 =>
   some (y66.1,y67.1,0,())
  else aC (bF (v0,())) λy68 =>
  aC (bF (v1,())) λy69 =>
  aC (gN (y68.2.1,y69.2.1,())) λy70 =>
  bif !(eqI y70.2.2.1 0) then
   some ((ByteArray.mk #[]),(ByteArray.mk #[]),y70.2.2.1,())
  else bif y68.1 then
   bif y69.1 then
    bif y68.1 then
     bif y69.1 then
      aC (aA (false,y70.1,())) λy71 =>
      aC (aA (y69.1,y70.2.1,())) λy72 =>
      some (y71.1,y72.1,0,())
     else aC (aA (true,y70.1,())) λy73 =>
     aC (aA (y69.1,y70.2.1,())) λy74 =>
     some (y73.1,y74.1,0,())
    else bif y69.1 then
     aC (aA (true,y70.1,())) λy75 =>
     aC (aA (y69.1,y70.2.1,())) λy76 =>
     some (y75.1,y76.1,0,())
    else aC (aA (false,y70.1,())) λy77 =>
    aC (aA (y69.1,y70.2.1,())) λy78 =>
    some (y77.1,y78.1,0,())
   else bif !(eqS y70.2.1 (ByteArray.mk #[48])) then
    aC (cP (y70.1,(ByteArray.mk #[49]),())) λy79 =>
    aC (bM (y69.2.1,y70.2.1,())) λy80 =>
    bif y68.1 then
     bif y69.1 then
      aC (aA (false,y79.1,())) λy81 =>
      aC (aA (y69.1,y80.1,())) λy82 =>
      some (y81.1,y82.1,0,())
     else aC (aA (true,y79.1,())) λy83 =>
     aC (aA (y69.1,y80.1,())) λy84 =>
     some (y83.1,y84.1,0,())
    else bif y69.1 then
     aC (aA (true,y79.1,())) λy85 =>
     aC (aA (y69.1,y80.1,())) λy86 =>
     some (y85.1,y86.1,0,())
    else aC (aA (false,y79.1,())) λy87 =>
    aC (aA (y69.1,y80.1,())) λy88 =>
    some (y87.1,y88.1,0,())
   else bif y68.1 then
    bif y69.1 then
     aC (aA (false,y70.1,())) λy89 =>
     aC (aA (y69.1,y70.2.1,())) λy90 =>
     some (y89.1,y90.1,0,())
    else aC (aA (true,y70.1,())) λy91 =>
    aC (aA (y69.1,y70.2.1,())) λy92 =>
    some (y91.1,y92.1,0,())
   else bif y69.1 then
    aC (aA (true,y70.1,())) λy93 =>
    aC (aA (y69.1,y70.2.1,())) λy94 =>
    some (y93.1,y94.1,0,())
   else aC (aA (false,y70.1,())) λy95 =>
   aC (aA (y69.1,y70.2.1,())) λy96 =>
   some (y95.1,y96.1,0,())
  else bif y69.1 then
   bif !(eqS y70.2.1 (ByteArray.mk #[48])) then
    aC (cP (y70.1,(ByteArray.mk #[49]),())) λy97 =>
    aC (bM (y69.2.1,y70.2.1,())) λy98 =>
    bif y68.1 then
     bif y69.1 then
      aC (aA (false,y97.1,())) λy99 =>
      aC (aA (y69.1,y98.1,())) λy100 =>
      some (y99.1,y100.1,0,())
     else aC (aA (true,y97.1,())) λy101 =>
     aC (aA (y69.1,y98.1,())) λy102 =>
     some (y101.1,y102.1,0,())
    else bif y69.1 then
     aC (aA (true,y97.1,())) λy103 =>
     aC (aA (y69.1,y98.1,())) λy104 =>
     some (y103.1,y104.1,0,())
    else aC (aA (false,y97.1,())) λy105 =>
    aC (aA (y69.1,y98.1,())) λy106 =>
    some (y105.1,y106.1,0,())
   else bif y68.1 then
    bif y69.1 then
     aC (aA (false,y70.1,())) λy107 =>
     aC (aA (y69.1,y70.2.1,())) λy108 =>
     some (y107.1,y108.1,0,())
    else aC (aA (true,y70.1,())) λy109 =>
    aC (aA (y69.1,y70.2.1,())) λy110 =>
    some (y109.1,y110.1,0,())
   else bif y69.1 then
    aC (aA (true,y70.1,())) λy111 =>
    aC (aA (y69.1,y70.2.1,())) λy112 =>
    some (y111.1,y112.1,0,())
   else aC (aA (false,y70.1,())) λy113 =>
   aC (aA (y69.1,y70.2.1,())) λy114 =>
   some (y113.1,y114.1,0,())
  else bif y68.1 then
   bif y69.1 then
    aC (aA (false,y70.1,())) λy115 =>
    aC (aA (y69.1,y70.2.1,())) λy116 =>
    some (y115.1,y116.1,0,())
   else aC (aA (true,y70.1,())) λy117 =>
   aC (aA (y69.1,y70.2.1,())) λy118 =>
   some (y117.1,y118.1,0,())
  else bif y69.1 then
   aC (aA (true,y70.1,())) λy119 =>
   aC (aA (y69.1,y70.2.1,())) λy120 =>
   some (y119.1,y120.1,0,())
  else aC (aA (false,y70.1,())) λy121 =>
  aC (aA (y69.1,y70.2.1,())) λy122 =>
  some (y121.1,y122.1,0,())
abbrev aN2:Ent:=⟨119,_,_,rO⟩
theorem aRD:Ent.OK tP aN2:=oI (RU (oV aLB (oV aOL (oV aLD (oV aBW (oV aCF (oV aC0 (oV WE oW)))))))) func119 (by kernel_rfl) (by rintro⟨v0,v1,⟨⟩⟩; kernel_rfl)
end Go.PM
namespace Go.PM
open Go Go.RowKit Go.Proofs Tryz
set_option maxHeartbeats 4000000
abbrev nL:List (Nat×Kd):=[(3,.own 74 .str),(9,.list TyE),(10,.int .i64),(11,.int .i64)]
abbrev sJ:List (Ex×List (Nat×Kd)):=[(.exit 0,[(3,.own 74 .str)])]
def iW(x:Shape.den nL):oS nL sJ:=match x with
 | (v3,v9,v10,v11,()) =>
  bif ltI v11 v10 then
   bif aF v11 v9.length then aC (dM ((v9.getD v11.toNat 0),())) λy2 =>
   bif Nat.ble [y2.1].length 1048576 then bif Nat.ble v3.length 1048576 then some (.inl ((v3++[y2.1]),v9,v10,(aB .i64 (v11+1)),())) else none else none else none
  else some (.inr ((v3,())))
def qU(x:Shape.den nL):oX sJ:=aO iW (2^64) x
def mZ(x:aL [.list TyE]):Option (List ByteArray):=match x with
 | (v0,()) =>
  bif !(ltI (v0.length:Int) 0) then bif !(ltI 1048576 (v0.length:Int)) then aC (qU ((List.replicate 0 (ByteArray.empty:Ty.den .str)),v0,(v0.length:Int),0,())) λz3 =>
  some z3.1 else none else none
def Z0:Code:=R5 f113
abbrev aCZ:Env:=aCN [aQZ]
theorem aFI:OK tP aCZ:=RU ⟨aBW,trivial⟩
def aA7:Code:=S2 Z0 0
def aB1(id:Nat):Option C8:=bif Nat.beq id 3 then some ⟨nL,sJ,qU⟩ else none
theorem aK3:∀ x,S9 tP aCZ 22 (RV f113) aB1 aA7 nL sJ x=iW x:=by
 rintro⟨v3,v9,v10,v11,⟨⟩⟩
 kernel_rfl
theorem aLU:SF tP 22 aA7 ⟨nL,sJ,qU⟩:=SO aFI.callee RZ.mixed _ (RW (l:=[]) (by kernel_rfl) trivial) aK3
theorem aM2:RY Z0=[aA7]:=by kernel_rfl
theorem aNY:∀ x,a3U tP aCZ f113 (RV f113) aB1 Z0 [.list TyE] 2 74 .str x=mZ x:=by
 rintro⟨v0,⟨⟩⟩
 kernel_rfl
theorem aP4:a0L tP 113 [.list TyE] 74 .str mZ:=a6C RZ aFI func113 (c:=Z0) (by kernel_rfl) (keep:=RV f113) (lt:=aB1) (t:=2) (by kernel_rfl) (RW aM2 ⟨SM (i:=3) (by kernel_rfl) rfl aLU,trivial⟩) aNY
abbrev aDL:Shr:=(113,a6Y [.list TyE] 74 .str mZ)
theorem aFJ:UA tP aDL:=a5J aP4
abbrev kM:List (Nat×Kd):=[(0,.hnd 1),(1,.str),(10,.hnd 1),(11,.int .i64),(12,.int .i64),(100000,.ar 74 .str)]
abbrev pR:List (Ex×List (Nat×Kd)):=[(.exit 0,[(100000,.ar 74 .str)])]
def fH(x:Shape.den kM):oS kM pR:=match x with
 | (v0,v1,v10,v11,v12,u00,()) =>
  bif ltI v12 v11 then
   bif aF v12 v10.2.2 then bif Nat.blt ((v10.2.1+v12.toNat)*1) (bP u00 v10.1) then bif aF v12 v0.2.2 then bif Nat.blt ((v0.2.1+v12.toNat)*1) (bP u00 v0.1) then aC (uS (v1,(bR u00 v10.1 ((v10.2.1+v12.toNat)*1) ByteArray.empty),())) λy3 =>
   aC (xM ((bR u00 v0.1 ((v0.2.1+v12.toNat)*1) ByteArray.empty),y3.1,())) λy4 =>
   bif aF v12 v0.2.2 then bif Nat.blt ((v0.2.1+v12.toNat)*1) (bP u00 v0.1) then some (.inl ((v0.1,v0.2.1,v0.2.2),v1,(v10.1,v10.2.1,v10.2.2),v11,(aB .i64 (v12+1)),(lL u00 v0.1 ((v0.2.1+v12.toNat)*1) y4.1),())) else none else none else none else none else none else none
  else some (.inr ((u00,())))
def nG(x:Shape.den kM):oX pR:=aO fH (2^64) x
def gA(u0:Unit)(x:aL [.hnd 1,.str,.hnd 1])(A:List (List ByteArray)):Option ((aL [])×List (List ByteArray)):=match x with
 | (v0,v1,v2,()) =>
  bif eqS v1 (ByteArray.mk #[48]) then
   some ((()),A)
  else aC (nG ((v0.1,v0.2.1,v0.2.2),v1,(v2.1,v2.2.1,v2.2.2),((v2.2.2:Nat):Int),0,A,())) λz5 =>
  some ((()),z5.1)
def WK:Code:=R5 f120
abbrev ZN:Env:=aCN [aO2,aTX]
theorem aBA:OK tP ZN:=RU ⟨aN7,aUP,trivial⟩
def YD:Code:=S2 WK 0
def YX(id:Nat):Option C8:=bif Nat.beq id 2 then some ⟨kM,pR,nG⟩ else none
theorem aGM:∀ x,S9 tP ZN 29 (RV f120) YX YD kM pR x=fH x:=by
 rintro⟨v0,v1,v10,v11,v12,u00,⟨⟩⟩
 kernel_rfl
theorem aG9:SF tP 29 YD ⟨kM,pR,nG⟩:=SO aBA.callee RZ.mixed _ (RW (l:=[]) (by kernel_rfl) trivial) aGM
theorem aII:RY WK=[YD]:=by kernel_rfl
theorem aJP:∀ l x A,aBF tP ZN f120 (RV f120) YX WK 74 .str .none [.hnd 1,.str,.hnd 1] (.data []) l x A=gA l x A:=by
 rintro u0 ⟨v0,v1,v2,⟨⟩⟩ A
 kernel_rfl
theorem aLS:aFF tP 120 74 .str .none [.hnd 1,.str,.hnd 1] (.data []) gA:=X2 RZ aBA func120 (c:=WK) (by kernel_rfl) (keep:=RV f120) (lt:=YX) (by rfl) (RW aII ⟨SM (i:=2) (by kernel_rfl) rfl aG9,trivial⟩) aJP
abbrev aEA:Shr:=(120,aIH 0 (arH 74 .str .none [.hnd 1,.str,.hnd 1] (.data []) gA))
theorem aJX:UA tP aEA:=UU (g:=120) (f:=arH 74 .str .none [.hnd 1,.str,.hnd 1] (.data []) gA) (ZD aLS)
abbrev jE:List (Nat×Kd):=[(0,.hnd 1),(4,.hnd 1),(5,.int .i64),(6,.int .i64),(100000,.ar 74 .str)]
abbrev nD:List (Ex×List (Nat×Kd)):=[(.exit 0,[(100000,.ar 74 .str)])]
def eN(x:Shape.den jE):oS jE nD:=match x with
 | (v0,v4,v5,v6,u00,()) =>
  bif ltI v6 v5 then
   bif aF v6 v4.2.2 then bif Nat.blt ((v4.2.1+v6.toNat)*1) (bP u00 v4.1) then aC (uQ ((bR u00 v4.1 ((v4.2.1+v6.toNat)*1) ByteArray.empty),())) λy2 =>
   bif aF v6 v0.2.2 then bif Nat.blt ((v0.2.1+v6.toNat)*1) (bP u00 v0.1) then some (.inl ((v0.1,v0.2.1,v0.2.2),(v4.1,v4.2.1,v4.2.2),v5,(aB .i64 (v6+1)),(lL u00 v0.1 ((v0.2.1+v6.toNat)*1) y2.1),())) else none else none else none else none
  else some (.inr ((u00,())))
def l9(x:Shape.den jE):oX nD:=aO eN (2^64) x
def eX(u0:Unit)(x:aL [.hnd 1])(A:List (List ByteArray)):Option ((aL [])×List (List ByteArray)):=match x with
 | (v0,()) =>
  aC (l9 ((v0.1,v0.2.1,v0.2.2),(v0.1,v0.2.1,v0.2.2),((v0.2.2:Nat):Int),0,A,())) λz3 =>
  some ((()),z3.1)
def VF:Code:=R5 f122
abbrev YF:Env:=aCN [aTI]
theorem aAE:OK tP YF:=RU ⟨aN9,trivial⟩
def WT:Code:=S2 VF 0
def XJ(id:Nat):Option C8:=bif Nat.beq id 1 then some ⟨jE,nD,l9⟩ else none
theorem aEX:∀ x,S9 tP YF 17 (RV f122) XJ WT jE nD x=eN x:=by
 rintro⟨v0,v4,v5,v6,u00,⟨⟩⟩
 kernel_rfl
theorem aF8:SF tP 17 WT ⟨jE,nD,l9⟩:=SO aAE.callee RZ.mixed _ (RW (l:=[]) (by kernel_rfl) trivial) aEX
theorem aGK:RY VF=[WT]:=by kernel_rfl
theorem aHJ:∀ l x A,aBF tP YF f122 (RV f122) XJ VF 74 .str .none [.hnd 1] (.data []) l x A=eX l x A:=by
 rintro u0 ⟨v0,⟨⟩⟩ A
 kernel_rfl
theorem aJF:aFF tP 122 74 .str .none [.hnd 1] (.data []) eX:=X2 RZ aAE func122 (c:=VF) (by kernel_rfl) (keep:=RV f122) (lt:=XJ) (by rfl) (RW aGK ⟨SM (i:=1) (by kernel_rfl) rfl aF8,trivial⟩) aHJ
abbrev aBX:Shr:=(122,aIH 0 (arH 74 .str .none [.hnd 1] (.data []) eX))
theorem aHR:UA tP aBX:=UU (g:=122) (f:=arH 74 .str .none [.hnd 1] (.data []) eX) (ZD aJF)
def rS(x:aL [.str]):oK [.bool]:=match x with
 | (v0,()) =>
  some (!(eqS v0 (ByteArray.mk #[48])),())
abbrev aD2:Ent:=⟨174,_,_,rS⟩
theorem aJJ:Ent.OK tP aD2:=oI (RU oW) func174 (by kernel_rfl) (by rintro⟨v0,⟨⟩⟩; kernel_rfl)
abbrev cX:List (Nat×Kd):=[(0,.hnd 1),(1,.fn 174),(7,.int .i64),(8,.int .i64),(100000,.ar 74 .str)]
abbrev eU:List (Ex×List (Nat×Kd)):=[(.ret,[(4,.int .i64),(100000,.ar 74 .str)]),(.exit 0,[(100000,.ar 74 .str)])]
def aY(x:Shape.den cX):oS cX eU:=match x with
 | (v0,v1,v7,v8,u00,()) =>
  bif ltI v8 v7 then
   bif aF v8 v0.2.2 then bif Nat.blt ((v0.2.1+v8.toNat)*1) (bP u00 v0.1) then aC (rS ((bR u00 v0.1 ((v0.2.1+v8.toNat)*1) ByteArray.empty),())) λy2 =>
   bif y2.1 then
    some (.inr (.inl (v8,u00,())))
   else some (.inl ((v0.1,v0.2.1,v0.2.2),(),v7,(aB .i64 (v8+1)),u00,())) else none else none
  else some (.inr (.inr ((u00,()))))
def cM(x:Shape.den cX):oX eU:=aO aY (2^64) x
def dE(u0:Unit)(x:aL [.hnd 1,.fn 174])(A:List (List ByteArray)):Option ((aL [.int .i64])×List (List ByteArray)):=match x with
 | (v0,v1,()) =>
  aC (cM ((v0.1,v0.2.1,v0.2.2),(),((v0.2.2:Nat):Int),0,A,())) λz3 =>
  iB z3 (λa4=>some ((a4.1,()),a4.2.1)) λb5 =>
  some (((-1),()),b5.1)
def SC:Code:=R5 f173
abbrev S1:Env:=aCN [aD2]
theorem TM:OK tP S1:=RU ⟨aJJ,trivial⟩
def SX:Code:=S2 SC 0
def SZ(id:Nat):Option C8:=bif Nat.beq id 2 then some ⟨cX,eU,cM⟩ else none
theorem W4:∀ x,S9 tP S1 19 (RV f173) SZ SX cX eU x=aY x:=by
 rintro⟨v0,v1,v7,v8,u00,⟨⟩⟩
 kernel_rfl
theorem XA:SF tP 19 SX ⟨cX,eU,cM⟩:=SO TM.callee RZ.mixed _ (RW (l:=[]) (by kernel_rfl) trivial) W4
theorem XS:RY SC=[SX]:=by kernel_rfl
theorem XY:∀ l x A,aBF tP S1 f173 (RV f173) SZ SC 74 .str .none [.hnd 1,.fn 174] (.data [.int .i64]) l x A=dE l x A:=by
 rintro u0 ⟨v0,v1,⟨⟩⟩ A
 kernel_rfl
theorem YM:aFF tP 173 74 .str .none [.hnd 1,.fn 174] (.data [.int .i64]) dE:=X2 RZ TM func173 (c:=SC) (by kernel_rfl) (keep:=RV f173) (lt:=SZ) (by rfl) (RW XS ⟨SM (i:=2) (by kernel_rfl) rfl XA,trivial⟩) XY
abbrev T7:Shr:=(173,aIH 0 (arH 74 .str .none [.hnd 1,.fn 174] (.data [.int .i64]) dE))
theorem X0:UA tP T7:=UU (g:=173) (f:=arH 74 .str .none [.hnd 1,.fn 174] (.data [.int .i64]) dE) (ZD YM)
def jQ(u0:Unit) (x:aL [.hnd 1]) (A:List (List ByteArray)):Option ((aL [.int .i64])×List (List ByteArray)):=match x with
 | (v0,()) =>
  aC (dE () ((v0.1,v0.2.1,v0.2.2),(),()) A) λy1 =>
  some ((y1.1.1,()),y1.2)
def ZB:Code:=R5 f153
abbrev aEN:Env:=aG6 [] [T7]
theorem aI5:OK tP aEN:=T0 trivial ⟨X0,trivial⟩
def aCV(id:Nat):Option C8:=none
theorem aIG:RY ZB=[]:=by kernel_rfl
theorem aJW:∀ l x A,aBF tP aEN f153 (RV f153) aCV ZB 74 .str .none [.hnd 1] (.data [.int .i64]) l x A=jQ l x A:=by
 rintro u0 ⟨v0,⟨⟩⟩ A
 kernel_rfl
theorem aLK:aFF tP 153 74 .str .none [.hnd 1] (.data [.int .i64]) jQ:=X2 RZ aI5 func153 (c:=ZB) (by kernel_rfl) (keep:=RV f153) (lt:=aCV) (by rfl) (RW aIG trivial) aJW
abbrev aD4:Shr:=(153,aIH 0 (arH 74 .str .none [.hnd 1] (.data [.int .i64]) jQ))
theorem aJ3:UA tP aD4:=UU (g:=153) (f:=arH 74 .str .none [.hnd 1] (.data [.int .i64]) jQ) (ZD aLK)
abbrev jY:List (Nat×Kd):=[(4,.own 3 TyE),(12,.hnd 1),(13,.int .i64),(14,.int .i64),(100000,.ar 74 .str)]
abbrev nO:List (Ex×List (Nat×Kd)):=[(.ret,[(2,.list TyE),(3,.int .i64),(100000,.ar 74 .str)]),(.exit 0,[(4,.own 3 TyE),(100000,.ar 74 .str)])]
def dJ(x:Shape.den jY):oS jY nO:=match x with
 | (v4,v12,v13,v14,u00,()) =>
  bif ltI v14 v13 then
   bif aF v14 v12.2.2 then bif Nat.blt ((v12.2.1+v14.toNat)*1) (bP u00 v12.1) then aC (gV ((bR u00 v12.1 ((v12.2.1+v14.toNat)*1) ByteArray.empty),())) λy2 =>
   bif y2.2.1 then
    bif ltI 1000000000 y2.1 then
     some (.inr (.inl ([],4,u00,())))
    else bif ltI y2.1 (-1000000000) then
     some (.inr (.inl ([],4,u00,())))
    else bif Nat.ble [y2.1].length 1048576 then bif Nat.ble v4.length 1048576 then some (.inl ((v4++[y2.1]),(v12.1,v12.2.1,v12.2.2),v13,(aB .i64 (v14+1)),u00,())) else none else none
   else some (.inr (.inl ([],4,u00,()))) else none else none
  else some (.inr (.inr ((v4,u00,()))))
def mM(x:Shape.den jY):oX nO:=aO dJ (2^64) x
def lO(u0:Unit)(x:aL [.hnd 1])(A:List (List ByteArray)):Option ((aL [.list TyE,.int .i64])×List (List ByteArray)):=match x with
 | (v0,()) =>
  bif !(ltI ((v0.2.2:Nat):Int) 0) then bif !(ltI 1048576 ((v0.2.2:Nat):Int)) then aC (mM ((List.replicate 0 (0:Ty.den TyE)),(v0.1,v0.2.1,v0.2.2),((v0.2.2:Nat):Int),0,A,())) λz3 =>
  iB z3 (λa4=>some ((a4.1,a4.2.1,()),a4.2.2.1)) λb5 =>
  some ((b5.1,0,()),b5.2.1) else none else none
def VZ:Code:=R5 f116
abbrev Y1:Env:=aCN [aQI]
theorem aAP:OK tP Y1:=RU ⟨aLE,trivial⟩
def XN:Code:=S2 VZ 0
def X5(id:Nat):Option C8:=bif Nat.beq id 3 then some ⟨jY,nO,mM⟩ else none
theorem aF0:∀ x,S9 tP Y1 39 (RV f116) X5 XN jY nO x=dJ x:=by
 rintro⟨v4,v12,v13,v14,u00,⟨⟩⟩
 kernel_rfl
theorem aG8:SF tP 39 XN ⟨jY,nO,mM⟩:=SO aAP.callee RZ.mixed _ (RW (l:=[]) (by kernel_rfl) trivial) aF0
theorem aHB:RY VZ=[XN]:=by kernel_rfl
theorem aIN:∀ l x A,aBF tP Y1 f116 (RV f116) X5 VZ 74 .str .none [.hnd 1] (.data [.list TyE,.int .i64]) l x A=lO l x A:=by
 rintro u0 ⟨v0,⟨⟩⟩ A
 kernel_rfl
theorem aJ8:aFF tP 116 74 .str .none [.hnd 1] (.data [.list TyE,.int .i64]) lO:=X2 RZ aAP func116 (c:=VZ) (by kernel_rfl) (keep:=RV f116) (lt:=X5) (by rfl) (RW aHB ⟨SM (i:=3) (by kernel_rfl) rfl aG8,trivial⟩) aIN
abbrev aCP:Shr:=(116,aIH 0 (arH 74 .str .none [.hnd 1] (.data [.list TyE,.int .i64]) lO))
theorem aI1:UA tP aCP:=UU (g:=116) (f:=arH 74 .str .none [.hnd 1] (.data [.list TyE,.int .i64]) lO) (ZD aJ8)
abbrev lA:List (Nat×Kd):=[(3,.own 152 (.hnd 1)),(6,.list TyD),(7,.int .i64),(8,.int .i64),(100000,.ar 74 .str)]
abbrev qM:List (Ex×List (Nat×Kd)):=[(.exit 0,[(3,.own 152 (.hnd 1)),(100000,.ar 74 .str)])]
def dZ(x:Shape.den lA):oS lA qM:=match x with
 | (v3,v6,v7,v8,u00,()) =>
  bif ltI v8 v7 then
   bif aF v8 v6.length then aC (mZ ((v6.getD v8.toNat []),())) λy2 =>
   bif Nat.ble [(u00.length,0,y2.length)].length 1048576 then bif Nat.ble v3.length 1048576 then some (.inl ((v3++[(u00.length,0,y2.length)]),v6,v7,(aB .i64 (v8+1)),(u00++[y2]),())) else none else none else none
  else some (.inr ((v3,u00,())))
def nU(x:Shape.den lA):oX qM:=aO dZ (2^64) x
def fE(u0:Unit)(x:aL [.list TyD])(A:List (List ByteArray)):Option ((List (Nat×Nat×Nat))×List (List ByteArray)):=match x with
 | (v0,()) =>
  aC (nU ([],v0,(v0.length:Int),0,A,())) λz3 =>
  some (z3.1,z3.2.1)
def XC:Code:=R5 f84
abbrev aAG:Env:=aG6 [] [aDL]
theorem aCC:OK tP aAG:=T0 trivial ⟨aFJ,trivial⟩
def YT:Code:=S2 XC 0
def ZO(id:Nat):Option C8:=bif Nat.beq id 3 then some ⟨lA,qM,nU⟩ else none
theorem aHU:∀ x,S9 tP aAG 19 (RV f84) ZO YT lA qM x=dZ x:=by
 rintro⟨v3,v6,v7,v8,u00,⟨⟩⟩
 kernel_rfl
theorem aIK:SF tP 19 YT ⟨lA,qM,nU⟩:=SO aCC.callee RZ.mixed _ (RW (l:=[]) (by kernel_rfl) trivial) aHU
theorem aI6:RY XC=[YT]:=by kernel_rfl
theorem aK5:∀ l x A,aBF tP aAG f84 (RV f84) ZO XC 74 .str .none [.list TyD] (.own 152 (.hnd 1)) l x A=fE l x A:=by
 rintro u0 ⟨v0,⟨⟩⟩ A
 kernel_rfl
theorem aMI:aFF tP 84 74 .str .none [.list TyD] (.own 152 (.hnd 1)) fE:=X2 RZ aCC func84 (c:=XC) (by kernel_rfl) (keep:=RV f84) (lt:=ZO) (by rfl) (RW aI6 ⟨SM (i:=3) (by kernel_rfl) rfl aIK,trivial⟩) aK5
abbrev XB:Shr:=(84,aIH 0 (arH 74 .str .none [.list TyD] (.own 152 (.hnd 1)) fE))
theorem YE:UA tP XB:=UU (g:=84) (f:=arH 74 .str .none [.list TyD] (.own 152 (.hnd 1)) fE) (ZD aMI)
abbrev iJ:List (Nat×Kd):=[(0,.own 152 (.hnd 1)),(1,.int .i64),(5,.int .i64),(6,.int .i64),(7,.int .i64),(8,.int .i64),(100000,.ar 74 .str)]
abbrev mQ:List (Ex×List (Nat×Kd)):=[(.exit 4,[(0,.own 152 (.hnd 1)),(1,.int .i64),(5,.int .i64),(6,.int .i64),(7,.int .i64),(100000,.ar 74 .str)])]
def bU(x:Shape.den iJ):oS iJ mQ:=match x with
 | (v0,v1,v5,v6,v7,v8,u00,()) =>
  bif ltI v8 (v0.length:Int) then
   bif aF v8 v0.length then bif Nat.blt v8.toNat v0.length then bif aF v6 ((v0.getD v8.toNat (0,0,0)).2.2) then bif Nat.blt (((v0.getD v8.toNat (0,0,0)).2.1+v6.toNat)*1) (bP u00 ((v0.getD v8.toNat (0,0,0)).1)) then bif !(eqS (bR u00 ((v0.getD v8.toNat (0,0,0)).1) (((v0.getD v8.toNat (0,0,0)).2.1+v6.toNat)*1) ByteArray.empty) (ByteArray.mk #[48])) then
    bif ltI v7 0 then
     some (.inl (v0,v1,v5,v6,v8,(aB .i64 (v8+1)),u00,()))
    else bif aF v8 v0.length then bif Nat.blt v8.toNat v0.length then bif aF v6 ((v0.getD v8.toNat (0,0,0)).2.2) then bif Nat.blt (((v0.getD v8.toNat (0,0,0)).2.1+v6.toNat)*1) (bP u00 ((v0.getD v8.toNat (0,0,0)).1)) then aC (vC ((bR u00 ((v0.getD v8.toNat (0,0,0)).1) (((v0.getD v8.toNat (0,0,0)).2.1+v6.toNat)*1) ByteArray.empty),())) λy4 =>
    bif aF v7 v0.length then bif Nat.blt v7.toNat v0.length then bif aF v6 ((v0.getD v7.toNat (0,0,0)).2.2) then bif Nat.blt (((v0.getD v7.toNat (0,0,0)).2.1+v6.toNat)*1) (bP u00 ((v0.getD v7.toNat (0,0,0)).1)) then aC (vC ((bR u00 ((v0.getD v7.toNat (0,0,0)).1) (((v0.getD v7.toNat (0,0,0)).2.1+v6.toNat)*1) ByteArray.empty),())) λy5 =>
    aC (sS (y4.1,y5.1,())) λy6 =>
    bif ltI y6.1 0 then
     some (.inl (v0,v1,v5,v6,v8,(aB .i64 (v8+1)),u00,()))
    else some (.inl (v0,v1,v5,v6,v7,(aB .i64 (v8+1)),u00,())) else none else none else none else none else none else none else none else none
   else some (.inl (v0,v1,v5,v6,v7,(aB .i64 (v8+1)),u00,())) else none else none else none else none
  else some (.inr ((v0,v1,v5,v6,v7,u00,())))
def gO(x:Shape.den iJ):oX mQ:=aO bU (2^64) x
abbrev iS:List (Nat×Kd):=[(0,.own 152 (.hnd 1)),(1,.int .i64),(5,.int .i64),(6,.int .i64),(9,.bool),(10,.int .i64),(100000,.ar 74 .str)]
abbrev mH:List (Ex×List (Nat×Kd)):=[(.exit 6,[(0,.own 152 (.hnd 1)),(1,.int .i64),(5,.int .i64),(6,.int .i64),(9,.bool),(100000,.ar 74 .str)])]
def cE(x:Shape.den iS):oS iS mH:=match x with
 | (v0,v1,v5,v6,v9,v10,u00,()) =>
  bif ltI v10 (v0.length:Int) then
   bif aF v10 v0.length then bif Nat.blt v10.toNat v0.length then bif aF v6 ((v0.getD v10.toNat (0,0,0)).2.2) then bif Nat.blt (((v0.getD v10.toNat (0,0,0)).2.1+v6.toNat)*1) (bP u00 ((v0.getD v10.toNat (0,0,0)).1)) then bif aF v5 v0.length then bif Nat.blt v5.toNat v0.length then bif aF v6 ((v0.getD v5.toNat (0,0,0)).2.2) then bif Nat.blt (((v0.getD v5.toNat (0,0,0)).2.1+v6.toNat)*1) (bP u00 ((v0.getD v5.toNat (0,0,0)).1)) then aC (rO ((bR u00 ((v0.getD v10.toNat (0,0,0)).1) (((v0.getD v10.toNat (0,0,0)).2.1+v6.toNat)*1) ByteArray.empty),(bR u00 ((v0.getD v5.toNat (0,0,0)).1) (((v0.getD v5.toNat (0,0,0)).2.1+v6.toNat)*1) ByteArray.empty),())) λy10 =>
   bif aF v10 v0.length then bif Nat.blt v10.toNat v0.length then bif aF v5 v0.length then bif Nat.blt v5.toNat v0.length then aC (gA () (((v0.getD v10.toNat (0,0,0)).1,(v0.getD v10.toNat (0,0,0)).2.1,(v0.getD v10.toNat (0,0,0)).2.2),y10.1,((v0.getD v5.toNat (0,0,0)).1,(v0.getD v5.toNat (0,0,0)).2.1,(v0.getD v5.toNat (0,0,0)).2.2),()) u00) λy11 =>
   bif v9 then
    some (.inl (v0,v1,v5,v6,true,(aB .i64 (v10+1)),y11.2,()))
   else some (.inl (v0,v1,v5,v6,!(eqS y10.2.1 (ByteArray.mk #[48])),(aB .i64 (v10+1)),y11.2,())) else none else none else none else none else none else none else none else none else none else none else none else none
  else some (.inr ((v0,v1,v5,v6,v9,u00,())))
def lD(x:Shape.den iS):oX mH:=aO cE (2^64) x
abbrev iI:List (Nat×Kd):=[(0,.own 152 (.hnd 1)),(1,.int .i64),(5,.int .i64),(6,.int .i64),(142,.int .i64),(143,.int .i64),(100000,.ar 74 .str)]
abbrev mE:List (Ex×List (Nat×Kd)):=[(.exit 8,[(0,.own 152 (.hnd 1)),(1,.int .i64),(5,.int .i64),(6,.int .i64),(100000,.ar 74 .str)])]
def eB(x:Shape.den iI):oS iI mE:=match x with
 | (v0,v1,v5,v6,v142,v143,u00,()) =>
  bif ltI v143 v142 then
   bif aF v143 v0.length then bif Nat.blt v143.toNat v0.length then bif aF v6 ((v0.getD v143.toNat (0,0,0)).2.2) then bif Nat.blt (((v0.getD v143.toNat (0,0,0)).2.1+v6.toNat)*1) (bP u00 ((v0.getD v143.toNat (0,0,0)).1)) then bif aF v5 v0.length then bif Nat.blt v5.toNat v0.length then bif aF v6 ((v0.getD v5.toNat (0,0,0)).2.2) then bif Nat.blt (((v0.getD v5.toNat (0,0,0)).2.1+v6.toNat)*1) (bP u00 ((v0.getD v5.toNat (0,0,0)).1)) then aC (rO ((bR u00 ((v0.getD v143.toNat (0,0,0)).1) (((v0.getD v143.toNat (0,0,0)).2.1+v6.toNat)*1) ByteArray.empty),(bR u00 ((v0.getD v5.toNat (0,0,0)).1) (((v0.getD v5.toNat (0,0,0)).2.1+v6.toNat)*1) ByteArray.empty),())) λy17 =>
   bif aF v143 v0.length then bif Nat.blt v143.toNat v0.length then bif aF v5 v0.length then bif Nat.blt v5.toNat v0.length then aC (gA () (((v0.getD v143.toNat (0,0,0)).1,(v0.getD v143.toNat (0,0,0)).2.1,(v0.getD v143.toNat (0,0,0)).2.2),y17.1,((v0.getD v5.toNat (0,0,0)).1,(v0.getD v5.toNat (0,0,0)).2.1,(v0.getD v5.toNat (0,0,0)).2.2),()) u00) λy18 =>
   some (.inl (v0,v1,v5,v6,v142,(aB .i64 (v143+1)),y18.2,())) else none else none else none else none else none else none else none else none else none else none else none else none
  else some (.inr ((v0,v1,v5,v6,u00,())))
def cF(x:Shape.den iI):oX mE:=aO eB (2^64) x
abbrev iK:List (Nat×Kd):=[(0,.own 152 (.hnd 1)),(1,.int .i64),(5,.int .i64),(6,.int .i64),(100000,.ar 74 .str)]
abbrev mR:List (Ex×List (Nat×Kd)):=[(.exit 2,[(0,.own 152 (.hnd 1)),(1,.int .i64),(5,.int .i64),(6,.int .i64),(100000,.ar 74 .str)])]
def bV(x:Shape.den iK):oS iK mR:=match x with
 | (v0,v1,v5,v6,u00,()) =>
  aC (gO (v0,v1,v5,v6,(-1),v5,u00,())) λz21 =>
  bif ltI z21.2.2.2.2.1 0 then
   some (.inr ((z21.1,z21.2.1,z21.2.2.1,z21.2.2.2.1,z21.2.2.2.2.2.1,())))
  else bif aF z21.2.2.2.2.1 z21.1.length then bif Nat.blt z21.2.2.2.2.1.toNat z21.1.length then bif aF z21.2.2.1 z21.1.length then bif Nat.blt z21.2.2.1.toNat z21.1.length then bif aF z21.2.2.1 z21.1.length then bif Nat.blt z21.2.2.1.toNat z21.1.length then bif aF z21.2.2.2.2.1 (z21.1.set z21.2.2.1.toNat ((z21.1.getD z21.2.2.2.2.1.toNat (0,0,0)).1,(z21.1.getD z21.2.2.2.2.1.toNat (0,0,0)).2.1,(z21.1.getD z21.2.2.2.2.1.toNat (0,0,0)).2.2)).length then bif Nat.blt z21.2.2.2.2.1.toNat (z21.1.set z21.2.2.1.toNat ((z21.1.getD z21.2.2.2.2.1.toNat (0,0,0)).1,(z21.1.getD z21.2.2.2.2.1.toNat (0,0,0)).2.1,(z21.1.getD z21.2.2.2.2.1.toNat (0,0,0)).2.2)).length then aC (lD (((z21.1.set z21.2.2.1.toNat ((z21.1.getD z21.2.2.2.2.1.toNat (0,0,0)).1,(z21.1.getD z21.2.2.2.2.1.toNat (0,0,0)).2.1,(z21.1.getD z21.2.2.2.2.1.toNat (0,0,0)).2.2)).set z21.2.2.2.2.1.toNat ((z21.1.getD z21.2.2.1.toNat (0,0,0)).1,(z21.1.getD z21.2.2.1.toNat (0,0,0)).2.1,(z21.1.getD z21.2.2.1.toNat (0,0,0)).2.2)),z21.2.1,z21.2.2.1,z21.2.2.2.1,false,(aB .i64 (z21.2.2.1+1)),z21.2.2.2.2.2.1,())) λz22 =>
  bif z22.2.2.2.2.1 then
   some (.inl (z22.1,z22.2.1,z22.2.2.1,z22.2.2.2.1,z22.2.2.2.2.2.1,()))
  else bif aF z22.2.2.1 z22.1.length then bif Nat.blt z22.2.2.1.toNat z22.1.length then bif aF z22.2.2.2.1 ((z22.1.getD z22.2.2.1.toNat (0,0,0)).2.2) then bif Nat.blt (((z22.1.getD z22.2.2.1.toNat (0,0,0)).2.1+z22.2.2.2.1.toNat)*1) (bP z22.2.2.2.2.2.1 ((z22.1.getD z22.2.2.1.toNat (0,0,0)).1)) then aC (pW ((bR z22.2.2.2.2.2.1 ((z22.1.getD z22.2.2.1.toNat (0,0,0)).1) (((z22.1.getD z22.2.2.1.toNat (0,0,0)).2.1+z22.2.2.2.1.toNat)*1) ByteArray.empty),())) λy23 =>
  bif ltI y23.1 0 then
   bif aF z22.2.2.1 z22.1.length then bif Nat.blt z22.2.2.1.toNat z22.1.length then aC (eX () (((z22.1.getD z22.2.2.1.toNat (0,0,0)).1,(z22.1.getD z22.2.2.1.toNat (0,0,0)).2.1,(z22.1.getD z22.2.2.1.toNat (0,0,0)).2.2),()) z22.2.2.2.2.2.1) λy24 =>
   aC (cF (z22.1,z22.2.1,z22.2.2.1,z22.2.2.2.1,z22.2.2.1,0,y24.2,())) λz25 =>
   some (.inr ((z25.1,z25.2.1,(aB .i64 (z25.2.2.1+1)),z25.2.2.2.1,z25.2.2.2.2.1,()))) else none else none
  else aC (cF (z22.1,z22.2.1,z22.2.2.1,z22.2.2.2.1,z22.2.2.1,0,z22.2.2.2.2.2.1,())) λz26 =>
  some (.inr ((z26.1,z26.2.1,(aB .i64 (z26.2.2.1+1)),z26.2.2.2.1,z26.2.2.2.2.1,()))) else none else none else none else none else none else none else none else none else none else none else none else none
def gL(x:Shape.den iK):oX mR:=aO bV (2^64) x
abbrev iO:List (Nat×Kd):=[(0,.own 152 (.hnd 1)),(1,.int .i64),(5,.int .i64),(6,.int .i64),(100000,.ar 74 .str)]
abbrev mU:List (Ex×List (Nat×Kd)):=[(.exit 0,[(0,.own 152 (.hnd 1)),(5,.int .i64),(100000,.ar 74 .str)])]
def cG(x:Shape.den iO):oS iO mU:=match x with
 | (v0,v1,v5,v6,u00,()) =>
  bif ltI v6 v1 then
   bif ltI v5 (v0.length:Int) then
    aC (gL (v0,v1,v5,v6,u00,())) λz28 =>
    some (.inl (z28.1,z28.2.1,z28.2.2.1,(aB .i64 (z28.2.2.2.1+1)),z28.2.2.2.2.1,()))
   else some (.inr ((v0,v5,u00,())))
  else some (.inr ((v0,v5,u00,())))
def lE(x:Shape.den iO):oX mU:=aO cG (2^64) x
def eK(v0:List (Nat×Nat×Nat))(x:aL [.int .i64])(A:List (List ByteArray)):Option ((List (Nat×Nat×Nat))×List (List ByteArray)):=match x with
 | (v1,()) =>
  aC (lE (v0,v1,0,0,A,())) λz29 =>
  bif Nat.beq z29.1.length 0 then
   bif !(ltI z29.2.1 0) then bif Nat.beq z29.2.1.toNat 0 then some (z29.1,z29.2.2.1) else none else none
  else bif !(ltI z29.2.1 0) then bif Nat.ble 0 z29.2.1.toNat then bif Nat.ble z29.2.1.toNat z29.1.length then bif Nat.blt 0 z29.1.length then some (z29.1.take (z29.2.1.toNat-0),z29.2.2.1) else none else none else none else none
def U1:Code:=R5 f94
abbrev SP:Env:=aG6 [aTF,aMB,aN2,aR2] [aEA,aBX]
theorem SS:OK tP SP:=T0 ⟨aUL,aQB,aRD,aMU,trivial⟩ ⟨aJX,aHR,trivial⟩
def TB:Code:=S2 U1 0
def SE:Code:=S2 TB 0
def WA:Code:=S2 SE 0
def WB:Code:=S2 SE 1
def V5:Code:=S2 SE 2
def SH(id:Nat):Option C8:=bif Nat.beq id 7 then some ⟨iJ,mQ,gO⟩ else bif Nat.beq id 15 then some ⟨iS,mH,lD⟩ else bif Nat.beq id 24 then some ⟨iI,mE,cF⟩ else bif Nat.beq id 5 then some ⟨iK,mR,gL⟩ else bif Nat.beq id 3 then some ⟨iO,mU,lE⟩ else none
theorem aDY:∀ x,S9 tP SP 181 (RV f94) SH WA iJ mQ x=bU x:=by
 rintro⟨v0,v1,v5,v6,v7,v8,u00,⟨⟩⟩
 kernel_rfl
theorem aE5:SF tP 181 WA ⟨iJ,mQ,gO⟩:=SO SS.callee RZ.mixed _ (RW (l:=[]) (by kernel_rfl) trivial) aDY
theorem aD8:∀ x,S9 tP SP 181 (RV f94) SH WB iS mH x=cE x:=by
 rintro⟨v0,v1,v5,v6,v9,v10,u00,⟨⟩⟩
 kernel_rfl
theorem aEV:SF tP 181 WB ⟨iS,mH,lD⟩:=SO SS.callee RZ.mixed _ (RW (l:=[]) (by kernel_rfl) trivial) aD8
theorem aEE:∀ x,S9 tP SP 181 (RV f94) SH V5 iI mE x=eB x:=by
 rintro⟨v0,v1,v5,v6,v142,v143,u00,⟨⟩⟩
 kernel_rfl
theorem aFH:SF tP 181 V5 ⟨iI,mE,cF⟩:=SO SS.callee RZ.mixed _ (RW (l:=[]) (by kernel_rfl) trivial) aEE
theorem aED:∀ x,S9 tP SP 181 (RV f94) SH SE iK mR x=bV x:=by
 rintro⟨v0,v1,v5,v6,u00,⟨⟩⟩
 kernel_rfl
theorem aG0:RY SE=[WA,WB,V5]:=by kernel_rfl
theorem aET:SF tP 181 SE ⟨iK,mR,gL⟩:=SO SS.callee RZ.mixed _ (RW aG0 ⟨SM (i:=7) (by kernel_rfl) rfl aE5,SM (i:=15) (by kernel_rfl) rfl aEV,SM (i:=24) (by kernel_rfl) rfl aFH,trivial⟩) aED
theorem aEL:∀ x,S9 tP SP 181 (RV f94) SH TB iO mU x=cG x:=by
 rintro⟨v0,v1,v5,v6,u00,⟨⟩⟩
 kernel_rfl
theorem aGU:RY TB=[SE]:=by kernel_rfl
theorem aE2:SF tP 181 TB ⟨iO,mU,lE⟩:=SO SS.callee RZ.mixed _ (RW aGU ⟨SM (i:=5) (by kernel_rfl) rfl aET,trivial⟩) aEL
theorem aFW:RY U1=[TB]:=by kernel_rfl
theorem aGL:∀ l x A,aBF tP SP f94 (RV f94) SH U1 74 .str (.own 152 (.hnd 1)) [.int .i64] (.own 152 (.hnd 1)) l x A=eK l x A:=by
 rintro u0 ⟨v1,⟨⟩⟩ A
 kernel_rfl
theorem aIV:aFF tP 94 74 .str (.own 152 (.hnd 1)) [.int .i64] (.own 152 (.hnd 1)) eK:=X2 RZ SS func94 (c:=U1) (by kernel_rfl) (keep:=RV f94) (lt:=SH) (by rfl) (RW aFW ⟨SM (i:=3) (by kernel_rfl) rfl aE2,trivial⟩) aGL
abbrev UX:Shr:=(94,aIH 1 (arH 74 .str (.own 152 (.hnd 1)) [.int .i64] (.own 152 (.hnd 1)) eK))
theorem VW:UA tP UX:=UU (g:=94) (f:=arH 74 .str (.own 152 (.hnd 1)) [.int .i64] (.own 152 (.hnd 1)) eK) (ZD aIV)
end Go.PM
namespace Go.PM
open Go Go.RowKit Go.Proofs
def Dn(u:Nat):ByteArray:=⟨(Lib.decDigits u).toArray⟩
def Zn(n:Int):ByteArray:=⟨(Lib.itoa n).toArray⟩
theorem jW u:(Dn u).data.toList=Lib.decDigits u:=by rfl
theorem M8 n:(Zn n).data.toList=Lib.itoa n:=by rfl
theorem D1(u:Nat):Zn u=Dn u:=by rfl
theorem GD {n}(h:n.natAbs<10^20):IY n=Zn n:=K3 h
theorem tY {n}(h:n<0):(Zn n).data.toList=45::Lib.decDigits n.natAbs:=by rw[M8,Lib.itoa,if_pos h]
theorem r7 {n}(h:0<=n):Zn n=Dn n.natAbs:=by
 obtain⟨u,rfl⟩:∃ u:Nat,n=u:=⟨n.natAbs,by omega⟩;rfl
theorem sY {a b:ByteArray}(h:a.data.toList=b.data.toList):a=b:=by cases a; simp_all
theorem wP(a:ByteArray):a.size=a.data.toList.length:=by rfl
theorem BG(l m:List UInt8):∀ (acc:Nat),Lib.decFrom acc (l++m)=(Lib.decFrom acc l).bind λa=>Lib.decFrom a m:=by
 induction l with
 | nil=>intro acc; rfl
 | cons b l ih =>
  intro acc;rw[List.cons_append,Lib.decFrom,Lib.decFrom];split
  ·grind
  ·rfl
theorem CP {d}(h:d<10):Lib.digitVal (UInt8.ofNat (48+d))=some d:=by
 have h1:(UInt8.ofNat (48+d)).toNat=48+d:=by
  rw[UInt8.toNat_ofNat'];omega
 unfold Lib.digitVal;grind
theorem eW u:Lib.decFrom 0 (Lib.decDigits u)=some u:=by
 induction u using Nat.strongRecOn with
 | _ u ih =>
  rw[Lib.decDigits];split
  ·rename_i h;rw[Lib.decFrom,CP h];simp[Lib.decFrom]
  ·rw[BG,ih (u/10) (by omega)];simp only[Option.bind_some];rw[Lib.decFrom,CP (Nat.mod_lt _ (by simp))];simp only[Lib.decFrom];grind
theorem nA u:Lib.decDigits u≠[]:=by
 rw[Lib.decDigits];split <;> simp
theorem nV u:∀ b∈Lib.decDigits u,48<=b.toNat/\b.toNat<=57:=by
 induction u using Nat.strongRecOn with
 | _ u ih =>
  intro b hb;rw[Lib.decDigits]at hb;have key:∀ d,d<10->48<=(UInt8.ofNat (48+d)).toNat/\(UInt8.ofNat (48+d)).toNat<=57:=λd h=>by rw[UInt8.toNat_ofNat']; omega
  grind
theorem KV {a b}(h:Dn a=Dn b):a=b:=by
 have h1:=oZ (λx:ByteArray=>Lib.decFrom 0 x.data.toList) h;simp only[jW,eW]at h1;grind
theorem zQ {n}(h:n<0) m:Zn n≠Dn m:=by
 intro e;have h1:=oZ (λx:ByteArray=>x.data.toList) e;simp only[tY h,jW]at h1;have:=nV m 45 (by grind);grind
theorem O5 {a b}(h:Zn a=Zn b):a=b:=by
 rcases(by omega:a<0\/0<=a)with ha|ha
 ·rcases(by omega:b<0\/0<=b)with hb|hb
  ·have h1:=oZ (λx:ByteArray=>x.data.toList) h;simp only[tY ha,tY hb,List.cons.injEq,true_and]at h1;have h2:=oZ (Lib.decFrom 0) h1;rw[eW,eW]at h2;grind
  ·rw[r7 hb]at h;exact absurd h (zQ ha _)
 ·rcases(by omega:b<0\/0<=b)with hb|hb
  ·rw[r7 ha]at h;exact absurd h.symm (zQ hb _)
  ·rw[r7 ha,r7 hb]at h;have:=KV h;omega
theorem KI a b:eqS a b=decide (a=b):=by
 unfold eqS
 by_cases h:a=b
 ·grind
 ·have:¬ a.data=b.data:=λe=>h (sY (by grind))
  simp_all
theorem PH:ByteArray.mk #[48]=Dn 0:=sY (by rw[jW,Lib.decDigits]; rfl)
theorem RN:ByteArray.mk #[49]=Dn 1:=sY (by rw[jW,Lib.decDigits]; rfl)
theorem tJ n:eqS (Zn n) (ByteArray.mk #[48])=decide (n=0):=by
 rw[KI,PH,((D1 0).symm)]
 by_cases h:n=0
 ·grind
 ·have :=λe=>h (O5 e)
  grind
theorem AT n:eqS (Dn n) (ByteArray.mk #[48])=decide (n=0):=by
 rw[<- D1,tJ];simp
theorem lX u:(Dn u).size=Lib.nDigits u:=by rw[wP,jW,Lib.decDigits_length]
theorem mC {n}(h:n<0):(Zn n).size=Lib.nDigits n.natAbs+1:=by rw[wP,tY h,List.length_cons,Lib.decDigits_length]
theorem gM {u k}:u<10^(k+1)->Lib.nDigits u<=k+1:=by
 induction k generalizing u with
 | zero=>intro h; rw[Lib.nDigits_small (by grind)]; simp
 | succ k ih =>
  by_cases h1:u<10
  ·grind
  ·rw[Lib.nDigits_big h1];grind
theorem dC u:u<10^Lib.nDigits u:=by
 have:=Lib.decFrom_lt _ _ _ (eW u);rw[Lib.decDigits_length]at this;grind
theorem nDigits_pos u:1<=Lib.nDigits u:=by rw[Lib.nDigits]; grind
theorem N9 n:Lib.atoi (Zn n).data.toList=some n:=by
 rcases(by omega:n<0\/0<=n)with h|h
 ·rw[tY h];have hne:(Lib.decDigits n.natAbs).isEmpty=false:=by
   cases e:Lib.decDigits n.natAbs with
   | nil=>exact absurd e (nA _)
   | cons _ _=>rfl
  simp only[Lib.atoi,Lib.decNat,eW];grind
 ·rw[r7 h,jW];have h1:=eW n.natAbs;have h2:=nV n.natAbs;cases e:Lib.decDigits n.natAbs with
  | nil=>exact absurd e (nA _)
  | cons b r =>
   rw[e]at h1 h2;have hb:=h2 b (by simp);have n45:(b==45)=false:=by
    rw[beq_eq_false_iff_ne]; rintro rfl;grind
   have n43:(b==43)=false:=by
    rw[beq_eq_false_iff_ne]; rintro rfl;grind
   simp only[Lib.atoi,n45,Lib.decNat,h1];grind
theorem zH u:Lib.decNat (Dn u).data.toList=some u:=by
 have hne:(Lib.decDigits u).isEmpty=false:=by
  cases e:Lib.decDigits u with
  | nil=>exact absurd e (nA _)
  | cons _ _=>rfl
 simp only[jW,Lib.decNat,hne,eW];rfl
theorem xO:∀ (l:List UInt8) (acc n:Nat),Lib.decFrom acc l=some n->acc*10^l.length<=n
 | [],acc,n,h=>by
  obtain rfl:=oB h;simp
 | b::l,acc,n,h=>by
  rw[Lib.decFrom]at h;split at h
  ·rename_i d hd;have:=xO l _ n h;rw[List.length_cons,Nat.pow_succ];grind
  ·cases h
theorem uI:∀ l m acc x y,l.length=m.length->Lib.decFrom acc l=some x->Lib.decFrom acc m=some y->Op.bytesLess l m=decide (x<y)
 | [],[],acc,x,y,_,h1,h2=>by
  obtain rfl:=oB h1;obtain rfl:=oB h2;simp[Op.bytesLess]
 | [],_::_,_,_,_,h,_,_=>by simp at h
 | _::_,[],_,_,_,h,_,_=>by simp at h
 | c::l,d::m,acc,x,y,h,h1,h2=>by
  have hl:l.length=m.length:=by simpa using h
  have digit:∀ (b:UInt8) (e:Nat),Lib.digitVal b=some e->b.toNat=48+e/\e<10:=by
   intro b e he;unfold Lib.digitVal at he;grind
  rw[Lib.decFrom]at h1 h2;split at h1
  ·rename_i e1 he1;split at h2
   ·rename_i e2 he2;obtain⟨c1,c2⟩:=digit c e1 he1;obtain⟨d1,d2⟩:=digit d e2 he2;have x1:=Lib.decFrom_lt l _ x h1;have x2:=xO l _ x h1;have y1:=Lib.decFrom_lt m _ y h2;have y2:=xO m _ y h2;rw[hl]at x1 x2;rw[Op.bytesLess];rcases Nat.lt_trichotomy e1 e2 with g|g|g
    ·have lt:c<d:=by rw[UInt8.lt_iff_toNat_lt]; omega
     have:(acc*10+e1+1)*10^m.length<=(acc*10+e2)*10^m.length:=Nat.mul_le_mul_right _ (by omega);grind
    ·subst g;have e:c=d:=UInt8.toNat_inj.1 (by omega);subst e;have lt:¬ c<c:=by rw[UInt8.lt_iff_toNat_lt]; omega
     simp[lt,uI l m _ x y hl h1 h2]
    ·have lt:¬ c<d:=by rw[UInt8.lt_iff_toNat_lt]; omega
     have ne:¬ c=d:=by rintro rfl; omega
     have:(acc*10+e2+1)*10^m.length<=(acc*10+e1)*10^m.length:=Nat.mul_le_mul_right _ (by omega);grind
   ·cases h2
  ·cases h1
theorem PC {a b}(h:Lib.nDigits a=Lib.nDigits b):ltS (Dn a) (Dn b)=decide (a<b):=by
 unfold ltS;rw[jW,jW];exact uI _ _ 0 a b (by rw[Lib.decDigits_length,Lib.decDigits_length,h]) (eW a) (eW b)
theorem jZ {a b}(h:a<=b):Lib.nDigits a<=Lib.nDigits b:=by
 obtain⟨k,hk⟩:∃ k,Lib.nDigits b=k+1:=⟨Lib.nDigits b-1,by have:=nDigits_pos b; omega⟩;rw[hk];refine gM (Nat.lt_of_le_of_lt h ?_);rw[<- hk];exact dC b
theorem PR a b:eqS (Dn a) (Dn b)=decide (a=b):=by
 rw[KI]
 by_cases h:a=b
 ·grind
 ·have :=λe=>h (KV e)
  grind
def wS(a b:Nat):Int:=if a<b then -1 else if b<a then 1 else 0
theorem jL a b (ha:Lib.nDigits a<2^32)(hb:Lib.nDigits b<2^32):cR (Dn a,Dn b,())=some (wS a b,()):=by
 unfold cR;dsimp only;rw[lX,lX]
 by_cases h:Lib.nDigits a=Lib.nDigits b
 ·have h1:eqI (Lib.nDigits a:Int) (Lib.nDigits b:Int)=true:=by rw[bT]; simp[h]
  rw[h1,PC h,PR];unfold wS;grind
 ·have h1:eqI (Lib.nDigits a:Int) (Lib.nDigits b:Int)=false:=by rw[bT]; simp; omega
  rw[h1];rw[wrap64 (by omega) (by omega)];unfold wS
  by_cases h2:a<b
  ·have:=jZ (Nat.le_of_lt h2);grind
  ·have h3:b<a:=by
    grind
   have:=jZ (Nat.le_of_lt h3);grind
theorem iP(n:Int) (h1 : -9223372036854775808<=n) (h2:n<9223372036854775808):dM (n,())=some (Zn n,()):=by
 unfold dM xC;have e1:ltI n (-9223372036854775808)=false:=by rw[aE]; grind
 have e2:ltI 9223372036854775807 n=false:=by rw[aE]; simp; omega
 simp only[e1,e2,Bool.not_false,Bool.and_self,oC,aD,GD (n:=n) (by omega)]
theorem rK(u:Nat)(h:u<18446744073709551616):jV ((u:Int),())=some (Dn u,()):=by
 unfold jV sG;have e1:ltI u 0=false:=by rfl
 have e2:ltI u 18446744073709551616=true:=by rw[aE]; grind
 have e3:eqI 10 10=true:=by rfl
 simp only[e1,e2,e3,Bool.not_false,Bool.and_self,oC,aD,GD (n:=u) (by grind),D1]
theorem xA u (h:Lib.nDigits u<=18):qP (Dn u,())=some ((u:Int),true,()):=by
 unfold qP tA;have e1:Nat.ble (Dn u).size 1000000000=true:=by rw[bY,lX]; grind
 have e2:eqI 10 10=true:=by rfl
 have e3:eqI 64 64=true:=by rfl
 have e4:Lib.parseUintB 64 (Dn u).data.toList=.ok u:=by
  rw[Lib.parseUintB_64,Lib.parseMag_short _ (by rw[jW,Lib.decDigits_length]; omega),zH];rfl
 simp only[e1,e2,e3,Bool.and_self,oC,aD,e4]
theorem sL a b (ha:Lib.nDigits a<=18)(hb:Lib.nDigits b<=18):iD (Dn a,Dn b,())=some ((a:Int),(b:Int),true,()):=by
 unfold iD;have e1:ltI 18 ((Dn a).size)=false:=by rw[aE,lX]; simp; omega
 have e2:ltI 18 ((Dn b).size)=false:=by rw[aE,lX]; grind
 simp only[e1,e2,oD,xA a ha,xA b hb,aD]
theorem wL {s c l}(h:s.data.toList=c::l):DJ s 0=c.toNat:=by
 have h1:s[0]?=some c:=by
  have h3:s.data[0]?=some c:=by rw[<- Array.getElem?_toList,h]; rfl
  have h4:s[0]?=s.data[0]?:=by rfl
  grind
 unfold DJ;grind
theorem IK u:∃ c l,(Dn u).data.toList=c::l/\c.toNat≠45:=by
 have h:=nV u;rw[jW];cases e:Lib.decDigits u with
 | nil=>exact absurd e (nA _)
 | cons c l =>
  grind
theorem DM {s:ByteArray}{c l}(h:s.data.toList=c::l):s.extract 1 s.size=⟨l.toArray⟩:=by
 refine sY ?_;have h1:(s.extract 1 s.size).data=s.data.extract 1 s.data.size:=ByteArray.data_extract;rw[h1,Array.toList_extract,List.extract_eq_take_drop,h];have h2:s.data.size=l.length+1:=by rw[<- Array.length_toList,h]; rfl
 grind
theorem hZ n:bF (Zn n,())=some (decide (n<0),Dn n.natAbs,()):=by
 unfold bF
 by_cases h:n<0
 ·have hz:=tY h;have e1:ltI 0 ((Zn n).size:Int)=true:=by rw[aE,mC h]; simp <;> omega
  have e2:aF 0 (Zn n).size=true:=by rw[aG,mC h]; simp <;> omega
  have e3:DJ (Zn n) 0=45:=by rw[wL hz]; rfl
  have e4:Nat.ble 1 (Zn n).size=true:=by rw[bY,mC h]; simp
  have e5:Nat.ble (Zn n).size (Zn n).size=true:=by simp
  have e6:eqI 45 45=true:=by decide
  simp only[e1,e2,e3,e4,e5,e6,oC,DM hz,h,decide_true,Dn]
 ·rw[r7 (by omega)];obtain⟨c,l,h1,h2⟩:=IK n.natAbs;have hs:(Dn n.natAbs).size=l.length+1:=by rw[wP,h1]; rfl
  have e2:aF 0 (Dn n.natAbs).size=true:=by rw[aG,hs]; simp <;> omega
  have e3:eqI (DJ (Dn n.natAbs) 0) 45=false:=by rw[wL h1,bT]; simp <;> omega
  grind
theorem AX(b:Bool) m (hm:Lib.nDigits m<2^32):aA (b,Dn m,())=some (Zn (if b then -m else m),()):=by
 unfold aA;cases b with
 | false=>rfl
 | true =>
  have e2:Nat.ble ((ByteArray.mk #[45]).size+(Dn m).size) 9223372036854775807=true:=by
   rw[bY,lX];have:(ByteArray.mk #[45]).size=1:=rfl;grind
  simp only[AT,e2]
  by_cases h:m=0
  ·subst h;rfl
  ·simp only[h,decide_false,Bool.not_false,oC];simp only[if_true]
   congr 2
   refine sY ?_;rw[tY (by omega),Joins.data_append,jW];grind
theorem eJ m (hm:Lib.nDigits m<2^32):aA (true,Dn m,())=some (Zn (-m),()):=(AX true m hm).trans (by rfl)
theorem fX m (hm:Lib.nDigits m<2^32):aA (false,Dn m,())=some (Zn m,()):=(AX false m hm).trans (by rfl)
theorem mW(n k:Int)(hk:k<=18):iA (Zn n,k,())=if ((Zn n).size)<=k then some (n,true,()) else some (0,false,()):=by
 unfold iA
 by_cases h:((Zn n).size)<=k
 ·have e1:ltI k ((Zn n).size:Int)=false:=by rw[aE]; grind
  have e2:Nat.ble (Zn n).size 18=true:=by simp <;> omega
  rw[if_pos h];simp only[e1,oD,xG,e2,oC,N9,aD]
 ·have e1:ltI k ((Zn n).size)=true:=by rw[aE]; grind
  grind
theorem xH n:pW (Zn n,())=some (n.sign,()):=by
 unfold pW;simp only[tJ]
 by_cases h0:n=0
 ·grind
 ·by_cases h:n<0
  ·have hz:=tY h;have e2:aF 0 (Zn n).size=true:=by rw[aG,mC h]; simp <;> omega
   have e3:DJ (Zn n) 0=45:=by rw[wL hz]; rfl
   have e6:eqI 45 45=true:=by decide
   grind
  ·rw[r7 (by omega)];obtain⟨c,l,h1,h2⟩:=IK n.natAbs;have hs:(Dn n.natAbs).size=l.length+1:=by rw[wP,h1]; rfl
   have e2:aF 0 (Dn n.natAbs).size=true:=by rw[aG,hs]; simp
   have e3:eqI (DJ (Dn n.natAbs) 0) 45=false:=by rw[wL h1,bT]; simp <;> omega
   grind
theorem CL n (h:Lib.nDigits n.natAbs<2^32):uQ (Zn n,())=some (Zn (-n),()):=by
 unfold uQ;simp only[hZ n]
 by_cases h0:n<0
 ·simp only[fX _ h,aD];grind
 ·simp only[eJ _ h,aD];grind
theorem C6 n:vC (Zn n,())=some (Zn n.natAbs,()):=by
 unfold vC;simp only[hZ n,aD,D1]
theorem B9(a b:Nat) (ha:Lib.nDigits a<2^32) (hb:Lib.nDigits b<2^32):sS (Zn (a:Int),Zn (b:Int),())=some (wS a b,()):=by
 unfold sS;have sg:∀ n:Nat,(n:Int).sign=if n=0 then 0 else 1:=λn=>by grind
 simp only[xH (a:Int),xH (b:Int),hZ (a:Int),hZ (b:Int),aD,sg];have e0:∀ n:Nat,decide ((n:Int)<0)=false:=λn=>by simp
 by_cases h1:a=0
 ·by_cases h2:b=0
  ·have e:eqI 0 0=true:=by decide
   simp only[h1,h2,if_true,e,Bool.not_true,oD,e0,Int.natAbs_natCast];have:=jL a b ha hb;rw[h1,h2]at this;simp only[this,aD]
  ·have:eqI 0 1=false:=by decide
   have e:ltI 0 1=true:=by decide
   simp only[h1,h2,if_true,if_false,this,e,Bool.not_false,oC];unfold wS;grind
 ·by_cases h2:b=0
  ·have:eqI 1 0=false:=by decide
   have e:ltI 1 0=false:=by decide
   simp only[h1,h2,if_true,if_false,this,e,Bool.not_false,oC,oD];unfold wS;grind
  ·have e:eqI 1 1=true:=by decide
   simp only[h1,h2,if_false,e,Bool.not_true,oD,e0,Int.natAbs_natCast,jL a b ha hb,aD]
theorem zW {u}(h:Lib.nDigits u<=18):u<1000000000000000000:=by
 have h1:=dC u;have h2:10^Lib.nDigits u<=10^18:=Nat.pow_le_pow_right (by simp) h;omega
theorem fQ {x}(h1:0<=x)(h2:x<18446744073709551616):aB .u64 x=x:=by
 rw[BL,IntKind.wrap_u64];omega
theorem E7 a b (ha:Lib.nDigits a<=18)(hb:Lib.nDigits b<=18):cP (Dn a,Dn b,())=some (Dn (a+b),()):=by
 have h1:=zW ha;have h2:=zW hb;unfold cP;simp only[sL a b ha hb,aD];rw[fQ (by omega) (by omega)];have:a+b=((a+b:Nat):Int):=by rfl
 rw[this,rK _ (by omega)];rfl
theorem GK a b (ha:Lib.nDigits a<=18)(hb:Lib.nDigits b<=18)(h:b<=a):bM (Dn a,Dn b,())=some (Dn (a-b),0,()):=by
 have h1:=zW ha;unfold bM;have e:ltI (wS a b) 0=false:=by
  rw[aE]; unfold wS;grind
 simp only[jL a b (by omega) (by omega),sL a b ha hb,aD,e];rw[fQ (by omega) (by omega)];have:a-b=((a-b:Nat):Int):=by omega
 rw[this,rK _ (by omega)];rfl
theorem FB a b (h:Lib.nDigits a+Lib.nDigits b<=18):cQ (Dn a,Dn b,())=some (Dn (a*b),()):=by
 have h3:a*b<1000000000000000000:=by
  have h1:=dC a;have h2:=dC b;have h4 :=Nat.mul_lt_mul'' h1 h2;rw[<- Nat.pow_add]at h4;have h5:10^(Lib.nDigits a+Lib.nDigits b)<=10^18:=Nat.pow_le_pow_right (by decide) h;omega
 unfold cQ;have e:ltI 18 (aB .i64 (((Dn a).size:Int)+((Dn b).size:Int)))=false:=by
  rw[lX,lX,wrap64 (by omega) (by omega),aE];grind
 simp only[e,sL a b (by omega) (by omega),aD];have e2:(a:Int)*(b:Int)=((a*b:Nat):Int):=by rfl
 rw[e2,fQ (by omega) (by omega),rK _ (by omega)];rfl
theorem AZ a b (ha:Lib.nDigits a<=18)(hb:Lib.nDigits b<=18)(h:b≠0):gN (Dn a,Dn b,())=some (Dn (a/b),Dn (a%b),0,()):=by
 have h1:=zW ha;unfold gN;have e1:eqI (b:Int) 0=false:=by rw[bT]; simp; omega
 have q1:(a:Int).tdiv (b:Int)=((a/b:Nat):Int):=rfl;have q2:(a:Int).tmod (b:Int)=((a%b:Nat):Int):=rfl;have l1:a/b<=a:=Nat.div_le_self _ _;have l2:a%b<=a:=Nat.mod_le _ _;simp only[AT,h,sL a b ha hb,aD,e1,q1,q2];generalize a/b=q at *;rw[fQ (by omega) (by omega),rK _ (by omega),aD,rK _ (by omega)];rfl
theorem rH {n}{k:Nat}(h:((Zn n).size:Int)<=k):Lib.nDigits n.natAbs<=k:=by
 rcases(by omega:n<0\/0<=n)with g|g
 ·rw[mC g]at h; omega
 ·rw[r7 g,lX]at h; omega
theorem eY {x y f g:Int} (h:x=y*f+g) (hp:0<y->0<=g/\g<y) (hn:y<0->y<g/\g<=0) (h0:y≠0):x.fdiv y=f/\x.fmod y=g:=by
 have key:∀ x y f g:Int,x=y*f+g->0<y->0<=g->g<y->x.fdiv y=f/\x.fmod y=g:=by
  intro x y f g h hy h1 h2;have e1:=Int.fmod_def x y;have e2:=Int.fmod_nonneg_of_pos x hy;have e3:=Int.fmod_lt_of_pos x hy;have e4:y*(x.fdiv y-f)=g-x.fmod y:=by rw[Int.mul_sub]; omega
  have e5:x.fdiv y-f=0:=by
   rcases Int.lt_trichotomy (x.fdiv y-f) 0 with g1|g1|g1
   ·have:y*(x.fdiv y-f)<=y*(-1):=Int.mul_le_mul_of_nonneg_left (by omega) (by omega);omega
   ·exact g1
   ·have:y*1<=y*(x.fdiv y-f):=Int.mul_le_mul_of_nonneg_left (by omega) (by omega);omega
  rw[e5]at e4;omega
 rcases Int.lt_or_gt_of_ne h0 with g1|g1
 ·obtain⟨h1,h2⟩:=hn g1;have:=key (-x) (-y) f (-g) (by rw[h]; grind) (by omega) (by omega) (by omega);rw[Int.neg_fdiv_neg,Int.neg_fmod_neg]at this;omega
 ·obtain⟨h1,h2⟩:=hp g1;exact key x y f g h g1 h1 h2
end Go.PM
