/- Texts of one proof, joined (5). -/
import Derived.Test.YtmghkhgpkefgeaaGreatDoorQO4
set_option linter.unusedSimpArgs false
set_option linter.unusedVariables false
namespace Go.PM
open Go Go.RowKit
def forced(ops:Array Oper) (s:Nat):Bool:=(List.range ops.size).all fun j=>Nat.blt j s||Nat.beq (Nat.land ((qJ ops).getD j 0) (2^j-1)) (2^j-1)
def a2O(l:List Oper):Bool:=(List.range l.length).all fun i=>match l[i]? with
 | some o=>match o.guard with
  | some (g,_)=>Nat.blt g i
  | none=>true
 | none=>true
def aZB(ops:Array Oper) (s:Nat):Bool:=aC8 (qJ ops) 0 ops.toList&&forced ops s&&a2O ops.toList&&aG7 ops&&Nat.ble s ops.size
section
variable {P:Program} {ops:Array Oper} {s:Nat}
theorem a1W(h:forced ops s=true) {j b:Nat} (hj:j<ops.size) (hs:s≤j) (hb:b<j):((qJ ops).getD j 0).testBit b=true:=by
 have:=List.all_eq_true.1 h j (List.mem_range.2 hj);rw[Bool.or_eq_true]at this;rcases this with h1|h1
 ·have:=jZ h1; omega
 ·have h2:=Nat.eq_of_beq_eq_true h1
  have h3:(Nat.land ((qJ ops).getD j 0) (2^j-1)).testBit b=(2^j-1).testBit b:=by rw[h2]
  have h4:(2^j-1).testBit b=true:=by rw[Nat.testBit_two_pow_sub_one]; simpa using hb
  rw[h4]at h3;have h5:((qJ ops).getD j 0 &&& (2^j-1)).testBit b=true:=h3;rw[Nat.testBit_and,Bool.and_eq_true]at h5;exact h5.1
theorem aNB(hm:aC8 (qJ ops) 0 ops.toList=true) {i:Nat} {o:Oper} (ho:ops[i]?=some o):(qJ ops).getD i 0=aD4 (qJ ops) o.after.toList∧∀ e∈o.after,Region.binds .any e=true→e.on<i:=by
 have:=aVB hm (i:=i) (o:=o) (by simpa using ho)
 rwa[Nat.zero_add]at this
theorem aXK(hm:aC8 (qJ ops) 0 ops.toList=true) {listed:Array Bool} (hc:aMM (qJ ops) (fun i=>listed.getD i false)) {i:Nat} (hi:i∈Region.ready .any ops listed) :
  i<ops.size∧listed.getD i true=false∧∀ b,((qJ ops).getD i 0).testBit b=true→listed.getD b false=true:=by
 obtain⟨h1,o,ho,h2⟩:=mem_ready.1 hi;refine⟨(Array.getElem?_eq_some_iff.1 ho).1,by simpa using h1,fun b hb=>?_⟩
 rw[(aNB hm ho).1]at hb;unfold aD4 at hb;rcases WO _ _ hb with h3|⟨e,h3,h4,h5⟩
 ·simp at h3
 ·have h6:=h2 e (Array.mem_toList_iff.1 h3) h4
  rcases h5 with rfl|h5
  ·exact h6
  ·exact hc e.on h6 b h5
theorem bKS(hm:aC8 (qJ ops) 0 ops.toList=true):∀ (i b:Nat),i<ops.size→((qJ ops).getD i 0).testBit b=true→b<i:=by
 intro i
 induction i using Nat.strongRecOn with
 | _ i ih =>
  intro b hi hb;obtain⟨o,ho⟩:∃ o,ops[i]?=some o:=⟨ops[i],Array.getElem?_eq_getElem hi⟩;have hma:=aNB hm ho;rw[hma.1]at hb;unfold aD4 at hb;rcases WO _ _ hb with h3|⟨e,h3,h4,h5⟩
  ·simp at h3
  ·have h6:=hma.2 e (Array.mem_toList_iff.1 h3) h4
   rcases h5 with rfl|h5
   ·exact h6
   ·have:=ih e.on h6 b (by omega) h5; omega
variable {ro:Option Nat} {n:Nat} {Q:Exit→Act→World→Prop}
theorem a94(hm:aC8 (qJ ops) 0 ops.toList=true) (hf:forced ops s=true):∀ (k j:Nat) (L:Array Bool) (a:Act) (w:World),j+k=ops.size→s≤j→L.size=ops.size→(∀ i,i<ops.size→L.getD i false=decide (i<j)) →
  wpListIn (Fr ro) n P ops Q (ops.toList.drop j) a w→wpAnyIn (Fr ro) n P .any ops Q k L a w
 | 0,j,L,a,w,hk,hs,hsz,hL,h=>by
  have hd:ops.toList.drop j=[]:=List.drop_of_length_le (by simp; omega)
  rw[hd]at h;refine⟨?_,h⟩
  by_cases hr:Region.ready .any ops L=[]
  ·exact hr
  ·obtain⟨i,hi⟩:=List.exists_mem_of_ne_nil _ hr
   obtain⟨h1,o,ho,_⟩:=mem_ready.1 hi;have hlt:=(Array.getElem?_eq_some_iff.1 ho).1;have h2:=hL i hlt;rw[decide_eq_true (by omega)]at h2
   have h1:L.getD i true=false:=by simpa using h1
   simp only[Array.getD,hsz,hlt,dif_pos]at h1 h2;rw[h1]at h2; cases h2
 | k+1,j,L,a,w,hk,hs,hsz,hL,h=>by
  have hj:j<ops.size:=by omega
  have hcl:aMM (qJ ops) (fun i=>L.getD i false):=by
   intro i hi b hb;replace hi:L.getD i false=true:=hi;have hilt:i<ops.size:=by
    rcases Nat.lt_or_ge i ops.size with h|h
    ·exact h
    ·simp only[Array.getD,hsz,Nat.not_lt.2 h,dif_neg,not_false_iff]at hi; cases hi
   have h1:=hL i hilt;rw[hi]at h1;have h2:=of_decide_eq_true h1.symm;have h3:=bKS hm i b hilt hb;show L.getD b false=true;rw[hL b (by omega)]
   exact decide_eq_true (by omega)
  have hready:∀ i∈Region.ready .any ops L,i=j:=by
   intro i hi;obtain⟨h1,h2,h3⟩:=aXK hm hcl hi;have h4:¬ i<j:=fun hij=>by
    have h5:=hL i h1;rw[decide_eq_true hij]at h5;simp only[Array.getD,hsz,h1,dif_pos]at h2 h5;rw[h2]at h5; cases h5
   rcases Nat.lt_or_ge j i with hji|hji
   ·exfalso
    have h5:=h3 j (a1W hf h1 (by omega) hji)
    rw[hL j hj]at h5;have:=of_decide_eq_true h5;omega
   ·omega
  obtain⟨o,ho⟩:∃ o,ops[j]?=some o:=⟨ops[j],Array.getElem?_eq_getElem hj⟩;have hd:ops.toList.drop j=o::ops.toList.drop (j+1):=by
   rw[List.drop_eq_getElem_cons (by simpa using hj)]
   congr 1
   have:=(Array.getElem?_eq_some_iff.1 ho).2;simpa using this
  rw[hd]at h;unfold wpListIn at h;have ih:∀ a w,wpListIn (Fr ro) n P ops Q (ops.toList.drop (j+1)) a w→wpAnyIn (Fr ro) n P .any ops Q k (L.setIfInBounds j true) a w:=fun a w h=>by
   refine a94 hm hf k (j+1) _ a w (by omega) (by omega) (by simpa using hsz) (fun i hi=>?_) h
   by_cases hij:j=i
   ·subst hij
    rw[decide_eq_true (by omega)]
    have hlt:j<L.size:=by omega
    simp[Array.getD,hlt]
   ·rw[getD_set_ne false hij,hL i hi]
    by_cases h2:i<j
    ·rw[decide_eq_true h2,decide_eq_true (by omega)]
    ·rw[decide_eq_false h2,decide_eq_false (by omega)]
  refine⟨fun hr=>?_,fun i hi=>?_⟩
  ·exfalso
   have:j∈Region.ready .any ops L:=mem_ready.2 ⟨by
    have:=hL j hj;rw[decide_eq_false (by omega)]at this
    have hlt:j<L.size:=by omega
    simpa[Array.getD,hlt]using this,o,ho,fun e he hb=>by
     have:=(aNB hm ho).2 e he hb;rw[hL e.on (by omega)]
     exact decide_eq_true this⟩
   rw[hr]at this;cases this
  ·have:=hready i hi
   subst this;unfold wpOpIn;rw[ho];simp only
   by_cases hw:Region.wanted o (yielded ops a.tmps)=true
   ·rw[if_pos hw]at h ⊢
    exact Oper.wpIn_mono ih h
   ·rw[if_neg hw]at h ⊢
    exact⟨h.1,ih _ _ h.2⟩
theorem bD4 {o:Oper} {y y':Nat→Option Bool} (h:∀ g b,o.guard=some (g,b)→y g=y' g):Region.wanted o y=Region.wanted o y':=by
 unfold Region.wanted;cases hg:o.guard with
 | none=>rfl
 | some p =>
  obtain⟨g,b⟩:=p;simp only[h g b hg]
theorem a6Z {l:List Oper} (h:a2O l=true) {i:Nat} {o:Oper} (ho:l[i]?=some o) {g:Nat} {b:Bool} (hg:o.guard=some (g,b)):g<i:=by
 have:=List.all_eq_true.1 h i (List.mem_range.2 (List.getElem?_eq_some_iff.1 ho).1);rw[ho]at this;simp only[hg]at this;exact jZ this
theorem bHQ {ds:List Deferred} {Q1:Exit→Act→World→Prop} (hm:aC8 (qJ ops) 0 ops.toList=true) (hf:forced ops s=true) (hg:a2O ops.toList=true) (hnd:aG7 ops=true) (hs:s≤ops.size)
  (hno:∀ e a w,Q1 e a w→e=.normal) (hQ:∀ a w,Q1 .normal a w→wpListIn (Fr ro) n P ops Q (ops.toList.drop s) (BU ds a) w) :
  ∀ (k:Nat) (L1 L:Array Bool) (a:Act) (w:World),L1.size=s→L.size=ops.size→(∀ i,i<s→L1.getD i false=L.getD i false)→(∀ i,s≤i→L.getD i false=false)→aMM (qJ ops) (fun i=>L.getD i false)→(List.range s).countP (fun i=>!L.getD i false)=k →
   wpAny P .any (ops.toList.take s).toArray Q1 k L1 a w→wpAnyIn (Fr ro) n P .any ops Q (k+(ops.size-s)) L (BU ds a) w
 | 0,L1,L,a,w,h1,h2,h3,h4,hc,hk,h=>by
  rw[Nat.zero_add];refine a94 hm hf (ops.size-s) s L _ w (by omega) (Nat.le_refl _) h2 (fun i hi=>?_) (hQ a w h.2)
  by_cases his:i<s
  ·rw[decide_eq_true his]
   rw[List.countP_eq_zero]at hk;have:=hk i (List.mem_range.2 his);simpa using this
  ·rw[decide_eq_false his,h4 i (by omega)]
 | k+1,L1,L,a,w,h1,h2,h3,h4,hc,hk,h=>by
  have hun:∃ i,i<s∧L.getD i false=false:=by
   have:0<(List.range s).countP (fun i=>!L.getD i false):=by omega
   obtain⟨i,hi,hp⟩:=List.countP_pos_iff.1 this;exact⟨i,List.mem_range.1 hi,by simpa using hp⟩
  obtain⟨i0,hi0,hu0⟩:=hun;rw[show k+1+(ops.size-s)=(k+(ops.size-s))+1 by omega]
  refine⟨fun hr=>?_,fun i hi=>?_⟩
  ·exfalso
   have all:∀ i,i<ops.size→L.getD i false=true:=by
    intro i
    induction i using Nat.strongRecOn with
    | _ i ih =>
     intro hi;cases hli:L.getD i false with
     | true=>rfl
     | false =>
      obtain⟨o,ho⟩:∃ o,ops[i]?=some o:=⟨ops[i],Array.getElem?_eq_getElem hi⟩;have:i∈Region.ready .any ops L:=mem_ready.2 ⟨by
       have hlt:i<L.size:=by omega
       simpa[Array.getD,hlt]using hli,o,ho,fun e he hb=>ih e.on ((aNB hm ho).2 e he hb) (by have:=(aNB hm ho).2 e he hb; omega)⟩
      rw[hr]at this;cases this
   rw[all i0 (by omega)]at hu0
   cases hu0
  ·obtain⟨hi1,hi2,hi3⟩:=aXK hm hc hi
   have his:i<s:=by
    rcases Nat.lt_or_ge i s with h|h
    ·exact h
    ·have:=hi3 i0 (a1W hf hi1 h (by omega))
     rw[hu0]at this; cases this
   obtain⟨_,o,ho,hdeps⟩:=mem_ready.1 hi;have hLi:L.getD i false=false:=by
    have hlt:i<L.size:=by omega
    simp only[Array.getD,hlt,dif_pos]at hi2 ⊢;exact hi2
   have hpre:∀ j,j<s→(ops.toList.take s).toArray[j]?=ops[j]?:=by
    intro j hj;simp only[List.getElem?_toArray,List.getElem?_take,hj,if_true,Array.getElem?_toList]
   have hready:i∈Region.ready .any (ops.toList.take s).toArray L1:=mem_ready.2 ⟨by
    have:=h3 i his;rw[hLi]at this;have hlt:i<L1.size:=by omega
    simpa[Array.getD,hlt]using this,o,by rw[hpre i his]; exact ho,fun e he hb=>by
     have h5:=(aNB hm ho).2 e he hb;rw[h3 e.on (by omega)]
     exact hdeps e he hb⟩
   have hop:=h.2 i hready;have hw:Region.wanted o (yielded (ops.toList.take s).toArray a.tmps)=Region.wanted o (yielded ops (BU ds a).tmps):=bD4 fun g b hgu=>by
    have hgi:=a6Z hg (i:=i) (o:=o) (by simpa using ho) hgu
    unfold yielded;rw[hpre g (by omega)]
    rfl
   have hset:∀ a w,wpAny P .any (ops.toList.take s).toArray Q1 k (L1.setIfInBounds i true) a w→wpAnyIn (Fr ro) n P .any ops Q (k+(ops.size-s)) (L.setIfInBounds i true) (BU ds a) w:=by
    intro a w h;have hLs:∀ j,j≠i→(L.setIfInBounds i true).getD j false=L.getD j false:=fun j hj=>getD_set_ne false (fun e=>hj e.symm)
    have hL1s:∀ j,j≠i→(L1.setIfInBounds i true).getD j false=L1.getD j false:=fun j hj=>getD_set_ne false (fun e=>hj e.symm)
    have hSi:(L.setIfInBounds i true).getD i false=true:=by
     have hlt:i<L.size:=by omega
     simp[Array.getD,hlt]
    have hS1i:(L1.setIfInBounds i true).getD i false=true:=by
     have hlt:i<L1.size:=by omega
     simp[Array.getD,hlt]
    refine bHQ hm hf hg hnd hs hno hQ k _ _ a w (by simpa using h1) (by simpa using h2) ?_ ?_ ?_ ?_ h
    ·intro j hj
     by_cases hji:j=i
     ·subst hji; rw[hSi,hS1i]
     ·rw[hLs j hji,hL1s j hji,h3 j hj]
    ·intro j hj
     rw[hLs j (by omega)]; exact h4 j hj
    ·intro j hj b hb
     show (L.setIfInBounds i true).getD b false=true
     by_cases hbi:b=i
     ·subst hbi; exact hSi
     ·rw[hLs b hbi]
      by_cases hji:j=i
      ·subst hji; exact hi3 b hb
      ·have hj':L.getD j false=true:=by rw[← hLs j hji]; exact hj
       exact hc j hj' b hb
    ·have:=aU4 (p:=fun i=>!L.getD i false) (p':=fun j=>!(L.setIfInBounds i true).getD j false) (i:=i) (by simp only[hLi,Bool.not_false]) (by simp only[hSi,Bool.not_true]) (fun j hj=>by simp only[hLs j hj]) s his
     omega
   unfold wpOp at hop;rw[hpre i his,ho]at hop;simp only at hop;unfold wpOpIn;rw[ho];simp only;rw[hw]at hop
   by_cases hww:Region.wanted o (yielded ops (BU ds a).tmps)=true
   ·rw[if_pos hww]at hop ⊢
    rcases hop with hop|⟨_,a0,w0,h0⟩
    ·exact a8K (aA9 hnd (by rw[← Array.getElem?_toList]at ho; exact List.mem_of_getElem? ho)) hset (fun ch a w h=>by cases hno _ a w h) (fun a w h=>by cases hno _ a w h) hop
    ·cases hno _ a0 w0 h0
   ·rw[if_neg hww]at hop ⊢
    refine⟨fun _ _=>trivial,?_⟩
    rw[X2];exact hset _ _ hop
theorem D1 {F:Fence} {Q1:Exit→Act→World→Prop} {l2:List Oper} (hno:∀ e a w,Q1 e a w→e=.normal) (hQ:∀ a w,Q1 .normal a w→wpListIn F n P ops Q l2 a w):∀ {l1:List Oper} {a w},wpListIn F n P ops Q1 l1 a w→wpListIn F n P ops Q (l1++l2) a w
 | [],a,w,h=>hQ a w h
 | o::l1,a,w,h=>by
  rw[List.cons_append];unfold wpListIn at h ⊢;split at h
  ·rename_i hw
   rw[if_pos hw];refine⟨h.1,?_⟩;have h2:=h.2;generalize (o.semAt F.round a.eval).run P w=r at h2 ⊢;cases r with
   | ok x w' =>
    cases x with
    | value v=>exact D1 hno hQ h2
    | skip=>exact D1 hno hQ h2
    | defer d=>exact D1 hno hQ h2
    | enter f args =>
     refine⟨h2.1,CallsIn.mono h2.2 ?_⟩;rintro e w'' he;cases e with
     | returned v=>exact D1 hno hQ he
     | panicked ch=>cases hno _ _ _ he
     | outgrown=>obtain⟨a0,w0,h0⟩:=he; cases hno _ _ _ h0
    | row row args=>exact⟨h2.1,RowsIn.mono h2.2 fun v w'' he=>D1 hno hQ he⟩
    | round l f t as1 b =>
     refine⟨h2.1,RoundIn.mono h2.2 ?_⟩;rintro e w'' he;cases e with
     | returned v=>exact D1 hno hQ he
     | panicked ch=>cases hno _ _ _ he
     | outgrown=>obtain⟨a0,w0,h0⟩:=he; cases hno _ _ _ h0
    | _=>exact h2.elim
   | halt x w' =>
    cases x <;> first|(cases hno _ _ _ h2; done)|exact h2.elim
  ·rename_i hw
   rw[if_neg hw];exact⟨h.1,D1 hno hQ h.2⟩
end
section
variable {P:Program} {E:Env} {nt:Nat} {F F':Frm} {H H':Heap} {ops:Array Oper} {s:Nat}
theorem a8W(hcl:fQ P (gX P E)) (hP:P.follows .mixedOrders=true) {id:Nat} {draw:Bool} (hsp:aZB ops s=true)
  (hrun:(bif draw then aH8 P (gX P E) nt (ops.toList.take s).toArray F H else aCC P (gX P E) nt ops.toList (ops.toList.take s) F H)=some (F',H'))
  {ro:Option Nat} {n:Nat} {n0:Nat→Prop} {wi:World} {Gi:Gd} {μi:Mp} {a:Act} {w:World} {ds:List Deferred} {Q:Exit→Act→World→Prop} (hI:I n0 wi Gi μi nt F H a w)
  (hQ:∀ a' w',I n0 wi Gi μi nt F' H' a' w'→wpListIn (Fr ro) n P ops Q (ops.toList.drop s) (BU ds a') w'):(Code.region id ops draw).wpIn (Fr ro) n P Q (BU ds a) w:=by
 simp only[aZB,Bool.and_eq_true]at hsp;obtain⟨⟨⟨⟨hm,hf⟩,hg⟩,hnd⟩,hs⟩:=hsp;have hs:=Nat.le_of_ble_eq_true hs;cases draw with
 | true =>
  simp only[cond_true]at hrun;have h1:=aLL (Q:=fun e a' w'=>e=.normal∧I n0 wi Gi μi nt F' H' a' w') hcl hrun hI (fun a' w' h=>⟨rfl,h⟩)
  refine wpIn_region_any hP ?_;have hsz:(ops.toList.take s).toArray.size=s:=by simp[List.length_take]; omega
  rw[hsz]at h1;have hfalse:∀ m j,(Array.replicate m false).getD j false=false:=fun m j=>by
   simp only[Array.getD];split <;> simp
  have:=bHQ (n:=n) (ro:=ro) (ds:=ds) (Q:=Q) hm hf hg hnd hs (fun e a w h=>h.1) (fun a w h=>hQ a w h.2) s (Array.replicate s false) (Array.replicate ops.size false) a _ (by simp) (by simp) (fun i _=>by rw[hfalse,hfalse]) (fun i _=>hfalse _ i) (fun j hj b hb=>by
   have:(Array.replicate ops.size false).getD j false=true:=hj;rw[hfalse]at this; cases this) (by
   rw[List.countP_eq_length.2]
   ·simp
   ·intro i _
    rw[hfalse]; rfl) h1
  rwa[show s+(ops.size-s)=ops.size by omega]at this
 | false =>
  simp only[cond_false]at hrun;refine wpIn_region_list ?_;rw[← List.take_append_drop s ops.toList];have h1:=JD (Q:=fun e a' w'=>e=.normal∧I n0 wi Gi μi nt F' H' a' w') hcl (ops.toList.take s) F H a w hrun hI (fun a' w' h=>⟨rfl,h⟩)
  have h2:=aTI (ro:=ro) (n:=n) (ds:=ds) (Q':=fun e a' w'=>e=.normal∧wpListIn (Fr ro) n P ops Q (ops.toList.drop s) a' w') (fun a w h=>by cases h.1) (fun e a w h=>⟨h.1,hQ a w h.2⟩) (fun o ho=>aA9 hnd (List.mem_of_mem_take ho)) h1
  exact D1 (fun e a w h=>h.1) (fun a w h=>h.2) h2
end
end Go.PM
namespace Go.PM
open Go Go.RowKit
def Sg(Φ:(Nat→Prop)→(Nat→Prop)→World→Prop) (G0 G:Gd) (μ:Mp) (H:Heap) (A:World):Prop :=
 ∃ (T X:Nat→Prop) (B:World) (GB:Gd) (μB:Mp),Φ T X B∧(∀ b,X b→T b)∧(∀ b,T b→b<B.heap.size)∧(∀ b,GB b→G0 b∨T b)∧(∀ b,G0 b→GB b) ∧
  Ext (fun b=>X b∨B.heap.size≤b) B GB μB A G μ∧bC (fun b=>X b∨B.heap.size≤b) G μ H A
section
variable {P:Program} {Φ:(Nat→Prop)→(Nat→Prop)→World→Prop} {G0 G G':Gd} {μ μ':Mp} {H H':Heap} {A A' W:World} {F F':Frm} {nt n:Nat} {a:Act}
theorem Sg.start {J:(Nat→Prop)→(Nat→Prop)→World→Prop} {g0:Nat→Prop} (hlt:Lt W g0) (h:J (fun _=>False) (fun _=>False) W):Sg J (Gd.of g0) (Gd.of g0) aN [] W :=
 ⟨_,_,W,Gd.of g0,aN,h,fun b h=>h,fun b h=>h.elim,fun b h=>.inl h,fun b h=>h,Ext.refl _ _ _ _,fun r k b h=>by simp at h,fun r k g h=>by simp at h,fun r s k l b h=>by simp at h,hlt,fun _ _=>⟨rfl,rfl⟩,fun b hb=>.inr hb,xI.none _ _ (fun _=>rfl) _ _ (fun r k h=>by simp at h)⟩
theorem Sg.open_ (h:Sg Φ G0 G μ H A):∃ n0,bC n0 G μ H A∧(∀ b,G0 b→G b)∧∀ A' G' μ' H',Ext n0 A G μ A' G' μ'→bC n0 G' μ' H' A'→Sg Φ G0 G' μ' H' A':=by
 obtain⟨T,X,B,GB,μB,h1,h2,h3,h4,h5,h6,h7⟩:=h;exact⟨_,h7,fun b hb=>(h6.good b (h5 b hb)).1,fun A' G' μ' H' e w=>⟨T,X,B,GB,μB,h1,h2,h3,h4,h5,h6.trans e,w⟩⟩
theorem Sg.stp (h:Sg Φ G0 G μ H A):∃ T X B,Stp X B A∧Φ T X B:=by
 obtain⟨T,X,B,GB,μB,h1,h2,h3,h4,h5,h6,h7⟩:=h;exact⟨T,X,B,⟨fun b hb hx=>h6.old b hb (by rintro(h|h); exact hx h; omega),h6.room,h6.os,h6.tape,h6.output,h6.size⟩,h1⟩
theorem Sg.yield {ks:List Kd} {l:Nat} {all:List (aJ ks)} {J Jx:List (aJ ks)→(Nat→Prop)→(Nat→Prop)→World→Prop}
  (hY:∀ pre e post T X B T' X' A us Gx m',all=pre++e::post→J pre T X B→Stp X B A→(∀ b,T' b→(T b∨B.heap.size≤b)∧b<A.heap.size)→(∀ b,X' b→T' b∧(X b∨B.heap.size≤b)) →
   (∀ b,Gx b→(G0 b∨T' b)∧¬ X' b)→VRs A (Gd.of Gx) aN (qA ks e) us →
   YieldAt Fence.wide m' P l us.toArray A fun en C =>
    ((∀ b,b<A.heap.size→G0 b∨T' b→C.heap[b]?=A.heap[b]?)∧(∀ b n,Room A b n→Room C b n)∧A.heap.size≤C.heap.size)∧((en=.returned (.bool true)∧J (pre++[e]) T' X' C)∨(en=.returned (.bool false)∧Jx (pre++[e]) T' X' C)))
  {pre post:List (aJ ks)} {e:aJ ks} (hall:all=pre++e::post) {us:List Value} (h:Sg (J pre) G0 G μ H A) (hus:VRs A G aN (qA ks e) us) (hpl:gF.noRows (qA ks e)=true) (m':Nat) :
  YieldAt Fence.wide m' P l us.toArray A fun en C=>Mono A G μ C G μ∧((en=.returned (.bool true)∧Sg (J (pre++[e])) G0 G μ H C)∨(en=.returned (.bool false)∧Sg (Jx (pre++[e])) G0 G μ H C)):=by
 obtain⟨T,X,B,GB,μB,h1,h2,h3,h4,h5,h6,h7⟩:=h;obtain⟨T',hT'⟩:∃ T':Nat→Prop,T'=fun b=>T b∨(B.heap.size≤b∧b<A.heap.size):=⟨_,rfl⟩
 obtain⟨X',hX'⟩:∃ X':Nat→Prop,X'=fun b=>(∃ r k,H[r]?=some (some k)∧k.frozen=false∧μ.loc r=some b)∨∃ j,G.row j=some b:=⟨_,rfl⟩
 have hGT:∀ b,G b→G0 b∨T' b:=by
  intro b hb;have hlt:=h7.lt b hb;rw[hT'];rcases h6.new b hb with h|h|h
  ·exact(h4 b h).imp id .inl
  ·exact .inr (.inl (h2 b h))
  ·exact .inr (.inr ⟨h,hlt⟩)
 have hXT:∀ b,X' b→T' b∧(X b∨B.heap.size≤b)∧¬ G b:=by
  intro b hb;rw[hX']at hb;rcases hb with ⟨r,k,g1,g2,g3⟩|⟨j,hj⟩
  case inr =>
   obtain⟨s1,s2,s3,_⟩:=h7.rows.sep j b hj;rw[hT'];rcases s2 with h|h
   ·exact⟨.inl (h2 b h),.inl h,s3⟩
   ·exact⟨.inr ⟨h,s1⟩,.inr h,s3⟩
  obtain⟨c,q1,_,_,_,q5⟩:=h7.blk r k b g1 g3;have hlt:=h7.rO g1 g3;rw[hT'];rcases(q5 g2).1 with h|h
  ·exact⟨.inl (h2 b h),.inl h,(q5 g2).2⟩
  ·exact⟨.inr ⟨h,hlt⟩,.inr h,(q5 g2).2⟩
 have hst:Stp X B A:=⟨fun b hb hx=>h6.old b hb (by rintro(h|h); exact hx h; omega),h6.room,h6.os,h6.tape,h6.output,h6.size⟩
 obtain⟨fn,tmps,as1,body,y1,y2⟩:=hY pre e post T X B T' X' A us G.ok m' hall h1 hst (fun b hb=>by
  rw[hT']at hb;rcases hb with hb|hb
  ·exact⟨.inl hb,Nat.lt_of_lt_of_le (h3 b hb) h6.size⟩
  ·exact⟨.inr hb.1,hb.2⟩) (fun b hb=>⟨(hXT b hb).1,(hXT b hb).2.1⟩) (fun b hb=>⟨hGT b hb,fun hx=>(hXT b hx).2.2 hb⟩) (zX (G:=G) (G':=Gd.of G.ok) (fun b h=>h) _ _ _ hpl hus)
 refine⟨fn,tmps,as1,body,y1,y2.mono ?_⟩;rintro en C ⟨⟨k1,k2,k3⟩,hout⟩;have hgood:∀ b,G b→C.heap[b]?=A.heap[b]?:=fun b hb=>k1 b (h7.lt b hb) (hGT b hb)
 have hmono:Mono A G μ C G μ:=⟨fun b hb=>⟨hb,hgood b hb⟩,fun _ _ h=>h,fun _ _ h=>h,k2,fun _ _ h=>h⟩
 have hTs:∀ b,T' b→b<C.heap.size:=by
  intro b hb;rw[hT']at hb;rcases hb with hb|hb
  ·have:=h3 b hb; have:=h6.size; omega
  ·omega
 have hwinv:bC (fun b=>X' b∨C.heap.size≤b) G μ H C:=by
  refine⟨?_,h7.tags,h7.inj,h7.lt.step (fun b hb=>⟨hb,hgood b hb⟩) fun b hb=>Nat.lt_of_lt_of_le (h7.lt b hb) k3,h7.top,fun b hb=>.inr hb,(h7.rows.aX9 (n1:=fun b=>X' b∨C.heap.size≤b) fun j b hj _=>.inl (by rw[hX']; exact .inr ⟨j,hj⟩)).step hmono.aN k3 (fun _=>rfl) (fun j b hj=>⟨?_,id,fun r k h1 h2 h3=>⟨r,k,h1,h2,h3⟩⟩) (fun r k _ _ h1 _ _=>⟨k,h1,rfl,rfl,rfl,rfl⟩)⟩
  case refine_2 =>
   exact k1 b (h7.rows.sep j b hj).1 (.inr (hXT b (by rw[hX']; exact .inr ⟨j,hj⟩)).1)
  intro r k b hr hb;obtain⟨c,q1,q2,q3,q4,q5⟩:=h7.blk r k b hr hb;have hx:k.frozen=false→X' b:=fun hf=>by rw[hX']; exact .inl ⟨r,k,hr,hf,hb⟩
  have heq:C.heap[b]?=A.heap[b]?:=by
   cases hf:k.frozen with
   | true=>exact hgood b (q4 hf)
   | false=>exact k1 b (h7.rO hr hb) (.inr (hXT b (hx hf)).1)
  exact⟨c,heq.trans q1,aQ.mono hmono heq 0 _ q2,q3,q4,fun hf=>⟨.inl (hx hf),(q5 hf).2⟩⟩
 have key:∀ {Ψ:(Nat→Prop)→(Nat→Prop)→World→Prop},Ψ T' X' C→Sg Ψ G0 G μ H C:=fun hψ =>
  ⟨T',X',C,G,μ,hψ,fun b hb=>(hXT b hb).1,hTs,hGT,fun b hb=>(h6.good b (h5 b hb)).1,Ext.refl _ _ _ _,hwinv⟩
 refine⟨hmono,?_⟩;rcases hout with ⟨rfl,hj⟩|⟨rfl,hj⟩
 ·exact .inl ⟨rfl,key hj⟩
 ·exact .inr ⟨rfl,key hj⟩
variable {ops:Array Oper} {Q:Exit→Act→World→Prop}
theorem bJW {o:Oper} {c:Call} {f:Operand} {rest:List Oper} {l:Nat} {us:Array Value} {R:Ending→World→Prop} (ho:o.op=.call c) (hc:c.callee=.value f) (hw:Region.wanted o (yielded ops a.tmps)=true) (hf:a.eval f=.func (.yield l) #[] #[]) (hargs:c.args.map a.eval=us)
  (hy:∀ m',YieldAt Fence.wide m' P l us A R) (hR:∀ en C,R en C→∃ v,en=.returned v∧wpListIn Fence.wide n P ops Q rest (a.put o.dst v) C):wpListIn Fence.wide n P ops Q (o::rest) a A:=by
 obtain⟨fn,tmps,as1,body,y1,y2⟩:=hy (n-1);unfold wpListIn;rw[if_pos hw];refine⟨fun _ _=>trivial,?_⟩
 have hd:∀ c',o.op≠.defer c':=fun c' h=>by rw[ho]at h; cases h
 have hs:(o.semAt none a.eval).run P A=.ok (.round l fn tmps as1 body) A:=by
  rw[Oper.semAt_none];simp[execOp,ho,resolve,hc,hf,hargs,Deferred.ofValue,Sem.run_bind,Sem.run_pure,Result.andThen_ok,invoke,y1]
 show Oper.uponIn Fence.wide n P o a _ Q ((o.semAt none a.eval).run P A);rw[hs];refine⟨fun h=>(by cases h),y2.mono ?_⟩
 rintro e C he;obtain⟨v,rfl,h⟩:=hR e C he;exact h
theorem bKP {o:Oper} {rest:List Oper} (hw:Region.wanted o (yielded ops a.tmps)=false) (h:wpListIn Fence.wide n P ops Q rest (a.put o.dst undef) A):wpListIn Fence.wide n P ops Q (o::rest) a A:=by
 unfold wpListIn;rw[if_neg (by rw[hw]; decide)]
 exact⟨fun _ _=>trivial,h⟩
end
end Go.PM
namespace Go.PM
open Go Go.RowKit
structure aFS (Y:Type) where
 sh:List (Nat×Kd)
 exits:List (Ex×List (Nat×Kd))
 run:Shape.den sh→Option (List Y×aW exits)
def bNR(o:Oper):Bool:=match o.op with
 | .call c=>match c.callee with
  | .value (.tmp _)=>true
  | _=>false
 | _=>false
def bLX:List Oper→Nat→Option Nat
 | [],_=>none
 | o::r,i=>bif bNR o then some i else bLX r (i+1)
def outs {Y α:Type} (l:List Y):Option (List Y×α)→Option (List Y×α)
 | some (m,z)=>some (l++m,z)
 | none=>none
def bEY {Y τ α:Type} (r:Option (List Y×τ)) (k:τ→Option (List Y×α)):Option (List Y×α):=match r with
 | some (l,z)=>outs l (k z)
 | none=>none
def bLU {Y:Type}:Option (List Y×Unit)→Option (List Y)
 | some (l,_)=>some l
 | none=>none
section
variable {α:Type} (P:Program) (E:Env) (nt aZ:Nat) (lt:Nat→Option aS) (ks:List Kd) (li:Nat→Option (aFS (Value×aJ ks)))
def bNE(ops:Array Oper) (o:Oper) (rest:List Oper) (F:Frm) (H:Heap) (k:Frm→Heap→Option (List (Value×aJ ks)×α)) (kx:Frm→Heap→Option Unit):Option (List (Value×aJ ks)×α) :=
 a6S F ops.toList o fun F b=>bif b then (match o.op with
  | .call c=>match c.callee with
   | .value f=>match ev F f with
    | .lit yv=>bif fP.noRefs (c.args.toList.map (ev F))&&ks.all Kd.plain then (match a3A ks (c.args.toList.map (ev F))with
     | some e=>match aEM nt F o.dst (.lit (.bool true)),aEM nt F o.dst (.lit (.bool false))with
      | some F1,some F2=>match VF P E nt ops.toList rest F2 H kx with
       | some _=>outs [(yv,e)] (VF P E nt ops.toList rest F1 H k)
       | none=>none
      | _,_=>none
     | none=>none) else none
    | _=>none
   | _=>none
  | _=>none) else match aEM nt F o.dst (.lit undef)with
   | some F1=>VF P E nt ops.toList rest F1 H k
   | none=>none
def SP:Code→Frm→Heap→(Ex→Frm→Heap→Option (List (Value×aJ ks)×α))→(Ex→Frm→Heap→Option Unit)→Option (List (Value×aJ ks)×α)
 | .skip,F,H,k,_=>k .normal F H
 | .label _,F,H,k,_=>k .normal F H
 | .region _ ops draw,F,H,k,kx=>match bLX ops.toList 0 with
  | none=>bif aG7 ops then LH P E nt ops draw F H fun F H=>aKZ aZ F fun F=>k .normal F H else none
  | some s=>bif aZB ops s then match ops.toList.drop s with
   | o::rest=>bif rest.all (fun o=>!a7I o.op) then
     (bif draw then LH P E nt (ops.toList.take s).toArray true F H else VF P E nt ops.toList (ops.toList.take s) F H) fun F H =>
      bNE P E nt ks ops o rest F H (fun F H=>aKZ aZ F fun F=>k .normal F H) (fun F H=>kx .normal F H)
    else none
   | []=>none
   else none
 | .seq a b,F,H,k,kx=>SP a F H (fun ex F H=>match ex with
  | .normal=>SP b F H k kx
  | .exit i=>k (.exit i) F H
  | .ret=>k .ret F H) (fun ex F H=>match ex with
  | .normal=>HW P E nt aZ lt (fun _=>none) true [] b F H kx
  | .exit i=>kx (.exit i) F H
  | .ret=>kx .ret F H)
 | .cond c a b,F,H,k,kx=>match ev F c with
  | .lit (.bool t)=>bCH F c t fun F t=>bif t then SP a F H k kx else SP b F H k kx
  | _=>none
 | .block id a,F,H,k,kx=>SP a F H (fun ex F H=>match ex with
  | .exit i=>bif Nat.beq i id then k .normal F H else k (.exit i) F H
  | .normal=>k .normal F H
  | .ret=>k .ret F H) (fun ex F H=>match ex with
  | .exit i=>bif Nat.beq i id then kx .normal F H else kx (.exit i) F H
  | .normal=>kx .normal F H
  | .ret=>kx .ret F H)
 | .loop a,F,H,k,_=>match li (aH a)with
  | some s=>match FO [] s.sh F H with
   | some x=>bEY (s.run x) fun z=>bCA s.exits z k
   | none=>none
  | none=>match lt (aH a)with
   | some s=>match FO [] s.sh F H with
    | some x=>aC (s.run x) fun z=>bCA s.exits z k
    | none=>none
   | none=>none
 | .exit id,F,H,k,_=>k (.exit id) F H
 | .ret,F,H,k,_=>k .ret F H
 | _,_,_,_,_=>none
end
def bK0:Ex→Frm→Heap→Option Unit:=fun ex _ _=>match ex with
 | .ret=>some ()
 | _=>none
def bI5 {Y:Type} (sh:List (Nat×Kd)) (exits:List (Ex×List (Nat×Kd))) (ex:Ex) (F:Frm) (H:Heap):Option (List Y×(Shape.den sh⊕aW exits)):=match aW3 [] sh exits ex F H with
 | some z=>some ([],z)
 | none=>none
def bJX(P:Program) (E:Env) (nt aZ:Nat) (lt:Nat→Option aS) (ks:List Kd) (li:Nat→Option (aFS (Value×aJ ks))) (a:Code) (sh:List (Nat×Kd)) (exits:List (Ex×List (Nat×Kd))) (x:Shape.den sh):Option (List (Value×aJ ks)×(Shape.den sh⊕aW exits)) :=
 SP P E nt aZ lt ks li a (EG sh x 0) (PO sh x) (bI5 sh exits) bK0
def aWU {Y σ τ:Type} (step:σ→Option (List Y×(σ⊕τ))):Nat→σ→Option (List Y×τ)
 | 0,_=>none
 | n+1,x=>match step x with
  | some (l,.inl y)=>outs l (aWU step n y)
  | some (l,.inr z)=>some (l,z)
  | none=>none
theorem aVK {Y α:Type} {l:List Y} {r:Option (List Y×α)} {m:List Y} {z:α} (h:outs l r=some (m,z)):∃ m',r=some (m',z)∧m=l++m':=by
 cases r with
 | none=>cases h
 | some p =>
  obtain⟨m',z'⟩:=p;simp only[outs,Option.some.injEq,Prod.mk.injEq]at h;obtain⟨h1,h2⟩:=h;subst h2;exact⟨m',rfl,h1.symm⟩
section
variable {P:Program} {E:Env} {nt aZ:Nat} {lt:Nat→Option aS} {ks:List Kd} {li:Nat→Option (aFS (Value×aJ ks))}
variable {Φ:(Nat→Prop)→(Nat→Prop)→World→Prop} {G0 G G':Gd} {μ μ':Mp} {H H':Heap} {A A' W:World} {F F':Frm} {n:Nat} {a:Act}
theorem Sg.bJJ (h:Sg Φ G0 G μ H A):∃ n0,bC n0 G μ H A∧(∀ b,G0 b→G b)∧∀ A' G' μ' H',Ext n0 A G aN A' G' μ'→bC n0 G' μ' H' A'→Sg Φ G0 G' μ' H' A':=by
 obtain⟨T,X,B,GB,μB,h1,h2,h3,h4,h5,h6,h7⟩:=h;refine⟨_,h7,fun b hb=>(h6.good b (h5 b hb)).1,fun A' G' μ' H' e w=>⟨T,X,B,GB,aN,h1,h2,h3,h4,h5,?_,w⟩⟩
 have h6':Ext (fun b=>X b∨B.heap.size≤b) B GB aN A G aN:=h6.plain
 exact h6'.trans e
theorem bEO {c:Code} {r:Ex×Frm×Heap} (h:a9J P nt true [] c F H r) {Q:Exit→Act→World→Prop} (hS:Sg Φ G0 G μ H A) (hF:j4 A G μ nt F a)
  (hQ:∀ G' μ' a' A',Sg Φ G0 G' μ' r.2.2 A'→j4 A' G' μ' nt r.2.1 a'→Q r.1.to a' A'):c.wpIn Fence.wide n P Q a A:=by
 obtain⟨n0,hW,_,hS2⟩:=hS.bJJ;have e0:Ext n0 A G aN A G μ:={ good:=fun _ h=>⟨h,rfl⟩,map:=fun _ _ h=>(by cases h),len:=fun _ _ h=>(by cases h),room:=fun _ _ h=>h,row:=fun _ _ h=>h,os:=rfl,tape:=rfl,output:=rfl,size:=Nat.le_refl _,old:=fun _ _ _=>rfl,new:=fun _ h=>.inl h }
 refine wpIn_mono (h none n n0 A G aN a A (fun h=>(by cases h)) (fun r _=>⟨rfl,rfl⟩) ⟨G,μ,e0,hW,hF.same,by rw[hF.defers]; trivial⟩) ?_
 rintro e a' w' ⟨rfl,⟨G',μ',e',hW',hF',_⟩,hd⟩;refine hQ G' μ' a' w' (hS2 _ _ _ _ e' hW') ⟨hF'.size,hF'.slot,?_⟩;rw[hd rfl]; exact hF.defers
def bN5(P:Program) (ks:List Kd) (l:Nat) (G0:Gd) (all:List (aJ ks)) (J Jx:List (aJ ks)→(Nat→Prop)→(Nat→Prop)→World→Prop):Prop :=
 ∀ pre e post T X B T' X' A us Gx m',all=pre++e::post→J pre T X B→Stp X B A→(∀ b,T' b→(T b∨B.heap.size≤b)∧b<A.heap.size)→(∀ b,X' b→T' b∧(X b∨B.heap.size≤b)) →
   (∀ b,Gx b→(G0 b∨T' b)∧¬ X' b)→VRs A (Gd.of Gx) aN (qA ks e) us →
   YieldAt Fence.wide m' P l us.toArray A fun en C =>
    ((∀ b,b<A.heap.size→G0 b∨T' b→C.heap[b]?=A.heap[b]?)∧(∀ b n,Room A b n→Room C b n)∧A.heap.size≤C.heap.size)∧((en=.returned (.bool true)∧J (pre++[e]) T' X' C)∨(en=.returned (.bool false)∧Jx (pre++[e]) T' X' C))
def bIM(P:Program) (nt:Nat) (ks:List Kd) (c:Code) (F:Frm) (H:Heap) (ys:List (Value×aJ ks)) (r:Ex×Frm×Heap) (kx:Ex→Frm→Heap→Option Unit):Prop :=
 ∀ (l:Nat) (yv:Value),yv=.func (.yield l) #[] #[]→∀ (G0:Gd) (all:List (aJ ks)) (J Jx:List (aJ ks)→(Nat→Prop)→(Nat→Prop)→World→Prop),bN5 P ks l G0 all J Jx →
  ∀ (pre post:List (aJ ks)) (n:Nat) (a:Act) (A:World) (G:Gd) (μ:Mp),all=pre++(ys.map (·.2)++post)→(∀ y∈ys,y.1=yv)→Sg (J pre) G0 G μ H A→j4 A G μ nt F a →
  c.wpIn Fence.wide n P (fun e a' A'=>(e=r.1.to∧∃ G' μ',Sg (J (pre++ys.map (·.2))) G0 G' μ' r.2.2 A'∧j4 A' G' μ' nt r.2.1 a') ∨
   (∃ ex' F' H' pre' G' μ',kx ex' F' H'=some ()∧e=ex'.to∧Sg (Jx pre') G0 G' μ' H' A'∧j4 A' G' μ' nt F' a')) a A
def bE9(P:Program) (nt:Nat) (ks:List Kd) (a:Code) (s:aFS (Value×aJ ks)):Prop :=
 ∀ x ys z,s.run x=some (ys,z)→bIM P nt ks (.loop a) (EG s.sh x 0) (PO s.sh x) ys (I7 s.exits z) bK0
def a0M(P:Program) (nt:Nat) (lt:Nat→Option aS) (ks:List Kd) (li:Nat→Option (aFS (Value×aJ ks))):Code→Prop
 | .loop a=>(∀ s,lt (aH a)=some s→aEU P nt true [] (.loop a) s)∧(∀ s,li (aH a)=some s→bE9 P nt ks a s)
 | _=>True
theorem aD7 {c:Code} {r:Ex×Frm×Heap} {kx:Ex→Frm→Heap→Option Unit} (h:a9J P nt true [] c F H r):bIM P nt ks c F H [] r kx:=by
 intro l yv hyv G0 all J Jx hY pre post n a A G μ hall hys hS hF;refine bEO h hS hF fun G' μ' a' A' hS' hF'=>.inl ⟨rfl,G',μ',?_,hF'⟩
 rw[List.map_nil,List.append_nil]; exact hS'
theorem a8D(hcl:fQ P (gX P E)) (hP:P.follows .mixedOrders=true) {α:Type} {id:Nat} {ops:Array Oper} {draw:Bool} {k:Ex→Frm→Heap→Option α} {z:α} (h:LH P E nt ops draw F H (fun F H=>aKZ aZ F fun F=>k .normal F H)=some z) (hd:aG7 ops=true) :
  ∃ r:Ex×Frm×Heap,k r.1 r.2.1 r.2.2=some z∧a9J P nt true [] (.region id ops draw) F H r:=by
 obtain⟨F1,H1,h1,h2⟩:=a0Z (id:=id) hcl hP hd h;obtain⟨F2,h3,h4⟩:=WV aZ F1 fun F=>k .normal F H1
 rw[h3]at h1;exact⟨(.normal,F2,H1),h1,fun _ _ _ _ _ _ _ _ _ _ hI=>h2 hI fun a' w' hd' hI'=>⟨rfl,hI'.bK4 h4,fun _=>hd'⟩⟩
theorem aZF(hcl:fQ P (gX P E)) {ops:Array Oper} {l:List Oper} (hrun:aCC P (gX P E) nt ops.toList l F H=some (F',H')) (hnd:(l.all fun o=>!a7I o.op)=true) {Q:Exit→Act→World→Prop}
  (hS:Sg Φ G0 G μ H A) (hF:j4 A G μ nt F a) (hQ:∀ G' μ' a' A',Sg Φ G0 G' μ' H' A'→j4 A' G' μ' nt F' a'→Q .normal a' A'):wpListIn Fence.wide n P ops Q l a A:=by
 obtain⟨n0,hW,_,hS2⟩:=hS.open_;have h1:=JD (Q:=fun e a' w'=>e=.normal∧I n0 A G μ nt F' H' a' w') hcl l F H a A hrun ⟨G,μ,Ext.refl _ _ _ _,hW,hF⟩ (fun a' w' h=>⟨rfl,h⟩)
 have h2:=aTI (ro:=none) (n:=n) (ds:=[]) (Q':=Q) (fun a w h=>by cases h.1) (fun e a' w' h=>by
  obtain⟨rfl,G',μ',e,hW',hF'⟩:=h;have e1:BU [] a'=a':=by simp[BU]
  rw[e1];exact hQ G' μ' a' w' (hS2 _ _ _ _ e hW') hF') (fun o ho c hc=>by
  have:=List.all_eq_true.1 hnd o ho;rw[hc]at this;cases this) h1
 have e1:BU [] a=a:=by simp[BU]
 rw[e1]at h2;exact h2
theorem bFZ(hcl:fQ P (gX P E)) (hP:P.follows .mixedOrders=true) {α:Type} {id s:Nat} {ops:Array Oper} {draw:Bool} (hsp:aZB ops s=true) {k:Frm→Heap→Option α} {z:α}
  (h:(bif draw then LH P E nt (ops.toList.take s).toArray true F H else VF P E nt ops.toList (ops.toList.take s) F H) k=some z) :
  ∃ F1 H1,k F1 H1=some z∧∀ {Φ:(Nat→Prop)→(Nat→Prop)→World→Prop} {G0 G:Gd} {μ:Mp} {A:World} {a:Act} {n:Nat} {Q:Exit→Act→World→Prop},Sg Φ G0 G μ H A→j4 A G μ nt F a →
   (∀ G' μ' a' A',Sg Φ G0 G' μ' H1 A'→j4 A' G' μ' nt F1 a'→wpListIn Fence.wide n P ops Q (ops.toList.drop s) a' A')→(Code.region id ops draw).wpIn Fence.wide n P Q a A:=by
 obtain⟨F1,H1,hrun,hk⟩:∃ F1 H1,(bif draw then aH8 P (gX P E) nt (ops.toList.take s).toArray F H else aCC P (gX P E) nt ops.toList (ops.toList.take s) F H)=some (F1,H1)∧k F1 H1=some z:=by
  cases draw with
  | true =>
   simp only[cond_true]at h ⊢;exact aF6 h
  | false =>
   simp only[cond_false]at h ⊢;obtain⟨F1,H1,h2,h3⟩:=EF h;exact⟨F1,H1,h2,h3⟩
 refine⟨F1,H1,hk,?_⟩;intro Φ G0 G μ A a n Q hS hF hQ;obtain⟨n0,hW,_,hS2⟩:=hS.open_;have:=a8W (ro:=none) (n:=n) (ds:=[]) (Q:=Q) hcl hP (id:=id) hsp hrun (n0:=n0) (wi:=A) (Gi:=G) (μi:=μ) (a:=a) (w:=A) ⟨G,μ,Ext.refl _ _ _ _,hW,hF⟩ (fun a' w' h=>by
  obtain⟨G',μ',e,hW',hF'⟩:=h;have e1:BU [] a'=a':=by simp[BU]
  rw[e1];exact hQ G' μ' a' w' (hS2 _ _ _ _ e hW') hF')
 have e1:BU [] a=a:=by simp[BU]
 rw[e1]at this;exact this
theorem bH2 {l:List Operand} (hF:j4 A G μ nt F a):VRs A G μ (l.map (ev F)) (l.map a.eval):=by
 induction l with
 | nil=>rw[List.map_nil,List.map_nil,VRs]
 | cons x l ih =>
  rw[List.map_cons,List.map_cons,VRs];exact⟨_,_,rfl,dN hF x,ih⟩
theorem DV {α:Type} (hcl:fQ P (gX P E)) (hP:P.follows .mixedOrders=true):∀ (c:Code) (F:Frm) (H:Heap) (k:Ex→Frm→Heap→Option (List (Value×aJ ks)×α)) (kx:Ex→Frm→Heap→Option Unit) (ys:List (Value×aJ ks)) (z:α),
  (∀ F H,kx .ret F H=some ())→(∀ a∈gR c,a0M P nt lt ks li a)→SP P E nt aZ lt ks li c F H k kx=some (ys,z) →
  ∃ ys1 ys2 r,k r.1 r.2.1 r.2.2=some (ys2,z)∧ys=ys1++ys2∧bIM P nt ks c F H ys1 r kx
 | .skip,F,H,k,kx,ys,z,hx,hl,h=>⟨[],ys,(.normal,F,H),h,rfl,aD7 fun _ _ _ _ _ _ _ _ _ _ hI=>wpIn_skip ⟨rfl,hI,fun _=>rfl⟩⟩
 | .label l,F,H,k,kx,ys,z,hx,hl,h=>⟨[],ys,(.normal,F,H),h,rfl,aD7 fun _ _ _ _ _ _ _ _ _ _ hI=>wpIn_label ⟨rfl,hI,fun _=>rfl⟩⟩
 | .exit id,F,H,k,kx,ys,z,hx,hl,h=>⟨[],ys,(.exit id,F,H),h,rfl,aD7 fun _ _ _ _ _ _ _ _ _ _ hI=>wpIn_exit ⟨rfl,hI,fun _=>rfl⟩⟩
 | .ret,F,H,k,kx,ys,z,hx,hl,h=>⟨[],ys,(.ret,F,H),h,rfl,aD7 fun _ _ _ _ _ _ _ _ _ _ hI=>wpIn_ret ⟨rfl,hI,fun _=>rfl⟩⟩
 | .region id ops draw,F,H,k,kx,ys,z,hx,hl,h=>by
  simp only[SP]at h;split at h
  ·obtain⟨hd,h⟩:=aO h
   obtain⟨r,h1,h2⟩:=a8D (id:=id) hcl hP h hd;exact⟨[],ys,r,h1,rfl,aD7 h2⟩
  ·rename_i s hs
   obtain⟨hsp,h⟩:=aO h;split at h
   ·rename_i o rest hdrop
    obtain⟨hnd,h⟩:=aO h;obtain⟨F1,H1,hk,hsplit⟩:=bFZ (id:=id) hcl hP hsp h;unfold bNE at hk;obtain⟨b,hg,hk⟩:=aWV hk;cases b with
    | true =>
     simp only[cond_true]at hk;split at hk
     ·rename_i c hoc
      split at hk
      ·rename_i f hcf
       split at hk
       ·rename_i yv hyv
        obtain⟨hnr,hk⟩:=aO hk;rw[Bool.and_eq_true]at hnr;obtain⟨hnr,hplk⟩:=hnr;split at hk
        ·rename_i e he
         split at hk
         ·rename_i F2 F3 hp2 hp3
          split at hk
          ·rename_i u hstop
           obtain⟨ys2,hlive,rfl⟩:=aVK hk;obtain⟨F4,H4,hrun4,hk4⟩:=EF hlive;obtain⟨F5,H5,hrun5,hk5⟩:=EF hstop;obtain⟨F6,h6,h7⟩:=WV aZ F4 fun F=>k .normal F H4
           rw[h6]at hk4;refine⟨[(yv,e)],ys2,(.normal,F6,H4),hk4,rfl,?_⟩;intro l yv' hyv' G0 all J Jx hY pre post n a A G μ hall hys hS hF;have hyy:=hys _ (List.mem_singleton.2 rfl);dsimp only at hyy;subst hyy;refine hsplit hS hF fun G1 μ1 a1 A1 hS1 hF1=>?_
           rw[hdrop];have hw:=FU hF1 hg;have hv:=bH2 (l:=c.args.toList) hF1;have hv0:=dX _ _ hnr hv;have hve:=NQ ks he hv0;have hfe:=dN hF1 f;rw[hyv,VR]at hfe;have hall':all=pre++e::post:=by rw[hall]; rfl
           refine bJW hoc hcf hw (hfe.trans hyv') (us:=(c.args.toList.map a1.eval).toArray) (by rw[← Array.toList_map]) (fun m'=>hS1.yield hY hall' hve (aZL ks e hplk) m') ?_
           rintro en C ⟨hmo,hout⟩;rcases hout with ⟨rfl,hS2⟩|⟨rfl,hS2⟩
           ·refine⟨_,rfl,aZF hcl hrun4 hnd hS2 ((hF1.mono hmo).a0N hp2 (by rw[VR])) fun G2 μ2 a2 A2 hS3 hF3=>.inl ⟨rfl,G2,μ2,hS3,?_⟩⟩
            exact⟨hF3.size,fun t=>by
             rcases h7 t with h8|h8
             ·rw[h8]; exact hF3.slot t
             ·rw[h8,VR]; trivial,hF3.defers⟩
           ·exact⟨_,rfl,aZF hcl hrun5 hnd hS2 ((hF1.mono hmo).a0N hp3 (by rw[VR])) fun G2 μ2 a2 A2 hS3 hF3=>.inr ⟨.normal,F5,H5,_,G2,μ2,hk5,rfl,hS3,hF3⟩⟩
          ·cases hk
         ·cases hk
        ·cases hk
       ·cases hk
      ·cases hk
     ·cases hk
    | false =>
     simp only[cond_false]at hk;split at hk
     ·rename_i F2 hp2
      obtain⟨F4,H4,hrun4,hk4⟩:=EF hk;obtain⟨F6,h6,h7⟩:=WV aZ F4 fun F=>k .normal F H4
      rw[h6]at hk4;refine⟨[],ys,(.normal,F6,H4),hk4,rfl,?_⟩;intro l yv' hyv' G0 all J Jx hY pre post n a A G μ hall hys hS hF;refine hsplit hS hF fun G1 μ1 a1 A1 hS1 hF1=>?_
      rw[hdrop];refine bKP (FU hF1 hg) (aZF hcl hrun4 hnd hS1 (hF1.a0N hp2 (by rw[VR])) fun G2 μ2 a2 A2 hS3 hF3=>.inl ⟨rfl,G2,μ2,?_,?_⟩)
      ·rw[List.map_nil,List.append_nil]; exact hS3
      ·exact⟨hF3.size,fun t=>by
        rcases h7 t with h8|h8
        ·rw[h8]; exact hF3.slot t
        ·rw[h8,VR]; trivial,hF3.defers⟩
     ·cases hk
   ·cases h
 | .seq x y,F,H,k,kx,ys,z,hx,hl,h=>by
  simp only[SP]at h;obtain⟨ys1,ys2,⟨ex,F1,H1⟩,h1,rfl,h2⟩:=DV hcl hP x F H _ _ ys z (by intro F H; exact hx F H) (fun a ha=>hl a (by simp[gR,ha])) h
  have stop:∀ {l:Nat} {yv:Value} {G0:Gd} {all:List (aJ ks)} {J Jx:List (aJ ks)→(Nat→Prop)→(Nat→Prop)→World→Prop} {n:Nat} {R:Exit→Act→World→Prop},
    (∀ e a' A',(∃ ex' F' H' pre' G' μ',kx ex' F' H'=some ()∧e=ex'.to∧Sg (Jx pre') G0 G' μ' H' A'∧j4 A' G' μ' nt F' a')→R e a' A')→∀ ex' F' H' pre' G' μ' a' A',
    (match ex' with
     | Ex.normal=>HW P E nt aZ lt (fun _=>none) true [] y F' H' kx
     | Ex.exit i=>kx (Ex.exit i) F' H'
     | Ex.ret=>kx Ex.ret F' H')=some ()→Sg (Jx pre') G0 G' μ' H' A'→j4 A' G' μ' nt F' a' →
    Exit.then (y.wpIn Fence.wide n P R) R ex'.to a' A':=by
   intro l yv G0 all J Jx n R hR ex' F' H' pre' G' μ' a' A' hm hS hF;cases ex' with
   | normal =>
    obtain⟨r,h3,h4⟩:=qZ hcl hP y F' H' kx () (fun a ha=>by
     have:=hl a (by simp[gR,ha])
     cases a with
     | loop b=>exact this.1
     | rangeFunc g ps as1 b=>intro h; cases h
     | _=>trivial) hm
    refine bEO h4 hS hF fun G2 μ2 a2 A2 hS2 hF2=>hR _ _ _ ⟨r.1,r.2.1,r.2.2,pre',G2,μ2,h3,rfl,hS2,hF2⟩
   | exit i=>exact hR _ _ _ ⟨.exit i,F',H',pre',G',μ',hm,rfl,hS,hF⟩
   | ret=>exact hR _ _ _ ⟨.ret,F',H',pre',G',μ',hm,rfl,hS,hF⟩
  cases ex with
  | normal =>
   obtain⟨ys3,ys4,r,h3,rfl,h4⟩:=DV hcl hP y F1 H1 k kx ys2 z hx (fun a ha=>hl a (by simp[gR,ha])) h1
   refine⟨ys1++ys3,ys4,r,h3,by rw[List.append_assoc],?_⟩
   intro l yv hyv G0 all J Jx hY pre post n a A G μ hall hys hS hF;refine wpIn_seq (wpIn_mono (h2 l yv hyv G0 all J Jx hY pre (ys3.map (·.2)++post) n a A G μ (by rw[hall,List.map_append,List.append_assoc]) (fun y hy=>hys y (List.mem_append_left _ hy)) hS hF) ?_)
   rintro e a' w' (⟨rfl,G',μ',hS',hF'⟩|⟨ex',F',H',pre',G',μ',hm,rfl,hS',hF'⟩)
   ·refine wpIn_mono (h4 l yv hyv G0 all J Jx hY (pre++ys1.map (·.2)) post n a' w' G' μ' (by rw[hall,List.map_append,List.append_assoc,List.append_assoc]) (fun y hy=>hys y (List.mem_append_right _ hy)) hS' hF') ?_
    rintro e a'' w'' (⟨rfl,G2,μ2,hS2,hF2⟩|hst)
    ·refine .inl ⟨rfl,G2,μ2,?_,hF2⟩
     rw[List.map_append,← List.append_assoc]; exact hS2
    ·exact .inr hst
   ·exact stop (l:=l) (yv:=yv) (all:=all) (J:=J) (fun e a' A' h=>Or.inr h) ex' F' H' pre' G' μ' a' w' hm hS' hF'
  | exit i =>
   refine⟨ys1,ys2,(.exit i,F1,H1),h1,rfl,?_⟩;intro l yv hyv G0 all J Jx hY pre post n a A G μ hall hys hS hF;refine wpIn_seq (wpIn_mono (h2 l yv hyv G0 all J Jx hY pre post n a A G μ hall hys hS hF) ?_);rintro e a' w' (⟨rfl,G',μ',hS',hF'⟩|⟨ex',F',H',pre',G',μ',hm,rfl,hS',hF'⟩)
   ·exact .inl ⟨rfl,G',μ',hS',hF'⟩
   ·exact stop (l:=l) (yv:=yv) (all:=all) (J:=J) (fun e a' A' h=>Or.inr h) ex' F' H' pre' G' μ' a' w' hm hS' hF'
  | ret =>
   refine⟨ys1,ys2,(.ret,F1,H1),h1,rfl,?_⟩;intro l yv hyv G0 all J Jx hY pre post n a A G μ hall hys hS hF;refine wpIn_seq (wpIn_mono (h2 l yv hyv G0 all J Jx hY pre post n a A G μ hall hys hS hF) ?_);rintro e a' w' (⟨rfl,G',μ',hS',hF'⟩|⟨ex',F',H',pre',G',μ',hm,rfl,hS',hF'⟩)
   ·exact .inl ⟨rfl,G',μ',hS',hF'⟩
   ·exact stop (l:=l) (yv:=yv) (all:=all) (J:=J) (fun e a' A' h=>Or.inr h) ex' F' H' pre' G' μ' a' w' hm hS' hF'
 | .cond c x y,F,H,k,kx,ys,z,hx,hl,h=>by
  simp only[SP]at h;split at h
  ·rename_i t ht
   replace h:=aFC h ht;have hc:∀ {A:World} {G:Gd} {μ:Mp} {a:Act},j4 A G μ nt F a→a.eval c=.bool t:=fun {A G μ a} hF=>by
    have hc:=dN hF c;rw[ht,VR]at hc;exact hc
   cases t with
   | true =>
    obtain⟨ys1,ys2,r,h3,h4,h5⟩:=DV hcl hP x F H k kx ys z hx (fun a ha=>hl a (by simp[gR,ha])) h
    exact⟨ys1,ys2,r,h3,h4,fun l yv hyv G0 all J Jx hY pre post n a A G μ hall hys hS hF=>wpIn_cond (hc hF) (h5 l yv hyv G0 all J Jx hY pre post n a A G μ hall hys hS hF)⟩
   | false =>
    obtain⟨ys1,ys2,r,h3,h4,h5⟩:=DV hcl hP y F H k kx ys z hx (fun a ha=>hl a (by simp[gR,ha])) h
    exact⟨ys1,ys2,r,h3,h4,fun l yv hyv G0 all J Jx hY pre post n a A G μ hall hys hS hF=>wpIn_cond (hc hF) (h5 l yv hyv G0 all J Jx hY pre post n a A G μ hall hys hS hF)⟩
  ·cases h
 | .block id x,F,H,k,kx,ys,z,hx,hl,h=>by
  simp only[SP]at h;obtain⟨ys1,ys2,⟨ex,F1,H1⟩,h1,rfl,h2⟩:=DV hcl hP x F H _ _ ys z (by intro F H; exact hx F H) (fun a ha=>hl a (by simp[gR,ha])) h
  have stop:∀ (ex':Ex) (F':Frm) (H':Heap),(match ex' with
     | Ex.exit i=>bif Nat.beq i id then kx .normal F' H' else kx (.exit i) F' H'
     | Ex.normal=>kx Ex.normal F' H'
     | Ex.ret=>kx Ex.ret F' H')=some ()→∃ ex2:Ex,kx ex2 F' H'=some ()∧∀ (Q:Exit→Act→World→Prop) a w,Q ex2.to a w→ex'.to.inBlock id Q a w:=by
   intro ex' F' H' hm;cases ex' with
   | normal=>exact⟨.normal,hm,fun Q a w h=>h⟩
   | ret=>exact⟨.ret,hm,fun Q a w h=>h⟩
   | exit i =>
    simp only at hm;cases hi:Nat.beq i id with
    | true =>
     rw[hi]at hm;have:=Nat.eq_of_beq_eq_true hi;subst this;exact⟨.normal,hm,fun Q a w h=>by simp only[Ex.to,Exit.inBlock,if_true]; exact h⟩
    | false =>
     rw[hi]at hm;have hne:¬ i=id:=fun e=>by rw[e]at hi; simp at hi
     exact⟨.exit i,hm,fun Q a w h=>by simp only[Ex.to,Exit.inBlock,hne,if_false]; exact h⟩
  have live:∃ ex2:Ex,k ex2 F1 H1=some (ys2,z)∧∀ (Q:Exit→Act→World→Prop) a w,Q ex2.to a w→ex.to.inBlock id Q a w:=by
   cases ex with
   | normal=>exact⟨.normal,h1,fun Q a w h=>h⟩
   | ret=>exact⟨.ret,h1,fun Q a w h=>h⟩
   | exit i =>
    simp only at h1;cases hi:Nat.beq i id with
    | true =>
     rw[hi]at h1;have:=Nat.eq_of_beq_eq_true hi;subst this;exact⟨.normal,h1,fun Q a w h=>by simp only[Ex.to,Exit.inBlock,if_true]; exact h⟩
    | false =>
     rw[hi]at h1;have hne:¬ i=id:=fun e=>by rw[e]at hi; simp at hi
     exact⟨.exit i,h1,fun Q a w h=>by simp only[Ex.to,Exit.inBlock,hne,if_false]; exact h⟩
  obtain⟨ex2,hk2,hex2⟩:=live;refine⟨ys1,ys2,(ex2,F1,H1),hk2,rfl,?_⟩;intro l yv hyv G0 all J Jx hY pre post n a A G μ hall hys hS hF;refine wpIn_block (wpIn_mono (h2 l yv hyv G0 all J Jx hY pre post n a A G μ hall hys hS hF) ?_);rintro e a' w' (⟨rfl,G',μ',hS',hF'⟩|⟨ex',F',H',pre',G',μ',hm,rfl,hS',hF'⟩)
  ·exact hex2 _ _ _ (Or.inl ⟨rfl,G',μ',hS',hF'⟩)
  ·obtain⟨ex3,h3,h4⟩:=stop ex' F' H' hm
   exact h4 _ _ _ (Or.inr ⟨ex3,F',H',pre',G',μ',h3,rfl,hS',hF'⟩)
 | .loop x,F,H,k,kx,ys,z,hx,hl,h=>by
  simp only[SP]at h;have hsub:=hl (.loop x) (by simp[gR])
  split at h
  ·rename_i s hs
   split at h
   ·rename_i x0 hx0
    unfold bEY at h;split at h
    ·rename_i ys1 z1 hr
     obtain⟨ys2,h1,rfl⟩:=aVK h;refine⟨ys1,ys2,I7 s.exits z1,WX h1,rfl,?_⟩;intro l yv hyv G0 all J Jx hY pre post n a A G μ hall hys hS hF;obtain⟨n0,hW,_,hS2⟩:=hS.bJJ;have e0:Ext n0 A G aN A G μ:={ good:=fun _ h=>⟨h,rfl⟩,map:=fun _ _ h=>(by cases h),len:=fun _ _ h=>(by cases h),room:=fun _ _ h=>h,row:=fun _ _ h=>h,os:=rfl,tape:=rfl,output:=rfl,size:=Nat.le_refl _,old:=fun _ _ _=>rfl,new:=fun _ h=>.inl h }
     obtain⟨G1,μ1,e1,hW1,hF1⟩:=NW hx0 (fun r _=>⟨rfl,rfl⟩) (⟨G,μ,e0,hW,hF⟩:I n0 A G aN nt F H a A)
     refine wpIn_mono (hsub.2 s hs x0 ys1 z1 hr l yv hyv G0 all J Jx hY pre post n a A G1 μ1 hall hys (hS2 _ _ _ _ e1 hW1) hF1) ?_;rintro e a' w' (h|⟨ex',F',H',pre',G',μ',hm,rfl,hS',hF'⟩)
     ·exact .inl h
     ·refine .inr ⟨ex',F',H',pre',G',μ',?_,rfl,hS',hF'⟩
      cases ex' with
      | ret=>exact hx F' H'
      | normal=>cases hm
      | exit i=>cases hm
    ·cases h
   ·cases h
  ·split at h
   ·rename_i s hs
    split at h
    ·rename_i x0 hx0
     obtain⟨y,h1,h2⟩:=CX h;refine⟨[],ys,I7 s.exits y,WX h2,rfl,aD7 fun ro n n0 wi Gi μi a w hro hfl hI=>?_⟩
     exact hsub.1 s hs x0 y h1 ro n n0 wi Gi μi a w hro hfl (hI.dec hfl hx0)
    ·cases h
   ·cases h
 | .scope x,F,H,k,kx,ys,z,hx,hl,h=>by simp only[SP]at h; cases h
 | .rangeFunc g ps as1 x,F,H,k,kx,ys,z,hx,hl,h=>by simp only[SP]at h; cases h
 | .goto l,F,H,k,kx,ys,z,hx,hl,h=>by simp only[SP]at h; cases h
 | .refuse s,F,H,k,kx,ys,z,hx,hl,h=>by simp only[SP]at h; cases h
theorem a5U {Y:Type} {sh:List (Nat×Kd)} {exits:List (Ex×List (Nat×Kd))} {ex:Ex} {F:Frm} {H:Heap} {l:List Y} {y:Shape.den sh⊕aW exits} (h:bI5 sh exits ex F H=some (l,y)):l=[]∧aW3 [] sh exits ex F H=some y:=by
 unfold bI5 at h;split at h
 ·rename_i z hz
  simp only[Option.some.injEq,Prod.mk.injEq]at h;obtain⟨h1,h2⟩:=h;subst h2;exact⟨h1.symm,hz⟩
 ·cases h
theorem bFA {F1:Frm} {H1:Heap} (hs:∀ {n0:Nat→Prop},I n0 A G aN nt F H a A→I n0 A G aN nt F1 H1 a A) (hS:Sg Φ G0 G μ H A) (hF:j4 A G μ nt F a):∃ G' μ',Sg Φ G0 G' μ' H1 A∧j4 A G' μ' nt F1 a:=by
 obtain⟨n0,hW,_,hS2⟩:=hS.bJJ;have e0:Ext n0 A G aN A G μ:={ good:=fun _ h=>⟨h,rfl⟩,map:=fun _ _ h=>(by cases h),len:=fun _ _ h=>(by cases h),room:=fun _ _ h=>h,row:=fun _ _ h=>h,os:=rfl,tape:=rfl,output:=rfl,size:=Nat.le_refl _,old:=fun _ _ _=>rfl,new:=fun _ h=>.inl h }
 obtain⟨G1,μ1,e1,hW1,hF1⟩:=hs ⟨G,μ,e0,hW,hF⟩;exact⟨G1,μ1,hS2 _ _ _ _ e1 hW1,hF1⟩
theorem a77:∀ {l:List (Ex×List (Nat×Kd))} {z:aW l} {ex:Ex},aB9 [] l ex F H=some z→(I7 l z).1=ex∧∀ {n0:Nat→Prop},I n0 A G aN nt F H a A→I n0 A G aN nt (I7 l z).2.1 (I7 l z).2.2 a A:=by
 intro l z ex h;obtain⟨h1,sh,x,h2,h3,h4⟩:=WC h;refine⟨h1,fun hI=>?_⟩
 rw[h3,h4];exact NW h2 (fun r _=>⟨rfl,rfl⟩) hI
theorem bI0(hcl:fQ P (gX P E)) (hP:P.follows .mixedOrders=true) {b:Code} {sh:List (Nat×Kd)} {exits:List (Ex×List (Nat×Kd))} {step:Shape.den sh→Option (List (Value×aJ ks)×(Shape.den sh⊕aW exits))} (L:Nat)
  (hl:∀ a∈gR b,a0M P nt lt ks li a) (hr:∀ x,bJX P E nt aZ lt ks li b sh exits x=step x):bE9 P nt ks b ⟨sh,exits,aWU step L⟩:=by
 intro x ys z hz l yv hyv G0 all J Jx hY pre post n a A G μ hall hys hS hF;refine wpIn_loop_ghost (fun k a A=>∃ pre1 ys1 x G μ,aWU step k x=some (ys1,z)∧pre++ys.map (·.2)=pre1++ys1.map (·.2)∧(∀ y∈ys1,y.1=yv)∧Sg (J pre1) G0 G μ (PO sh x) A∧j4 A G μ nt (EG sh x 0) a) L ⟨pre,ys,x,G,μ,hz,rfl,hys,hS,hF⟩ ?_
 rintro k a1 A1 ⟨pre1,ys1,x,G,μ,hz,hpre,hys1,hS,hF⟩;cases k with
 | zero=>cases hz
 | succ k =>
  simp only[aWU]at hz;have hall1:all=pre1++(ys1.map (·.2)++post):=by rw[hall,← List.append_assoc,hpre,List.append_assoc]
  split at hz
  ·rename_i m y hs
   obtain⟨m2,hz2,rfl⟩:=aVK hz;rw[← hr]at hs;obtain⟨y1,y2,⟨ex,F',H'⟩,h1,h2,h3⟩:=DV hcl hP b _ _ _ bK0 m _ (fun _ _=>rfl) hl hs
   obtain⟨e1,h4⟩:=a5U h1;clear h1;subst e1;rw[List.append_nil]at h2;subst h2;refine wpIn_mono (h3 l yv hyv G0 all J Jx hY pre1 (m2.map (·.2)++post) n a1 A1 G μ (by rw[hall1,List.map_append,List.append_assoc]) (fun y hy=>hys1 y (List.mem_append_left _ hy)) hS hF) ?_
   rintro e a' A' (⟨rfl,G',μ',hS',hF'⟩|⟨ex',F',H',pre',G',μ',hm,rfl,hS',hF'⟩)
   ·rcases aEX h4 with ⟨y',e1,e2,e3⟩|⟨z',e1,_,_⟩
    ·cases e1
     dsimp only at e2;subst e2;obtain⟨G2,μ2,hS2,hF2⟩:=bFA (fun hI=>NW e3 (fun r _=>⟨rfl,rfl⟩) hI) hS' hF'
     exact⟨k,by omega,_,m2,y,G2,μ2,hz2,by rw[hpre,List.map_append,List.append_assoc],fun y hy=>hys1 y (List.mem_append_right _ hy),hS2,hF2⟩
    ·cases e1
   ·cases ex' with
    | ret=>exact .inr ⟨.ret,F',H',pre',G',μ',rfl,rfl,hS',hF'⟩
    | normal=>cases hm
    | exit i=>cases hm
  ·rename_i m y hs
   simp only[Option.some.injEq,Prod.mk.injEq]at hz;obtain⟨rfl,rfl⟩:=hz;rw[← hr]at hs;obtain⟨y1,y2,⟨ex,F',H'⟩,h1,h2,h3⟩:=DV hcl hP b _ _ _ bK0 m _ (fun _ _=>rfl) hl hs
   obtain⟨e1,h4⟩:=a5U h1;clear h1;subst e1;rw[List.append_nil]at h2;subst h2;refine wpIn_mono (h3 l yv hyv G0 all J Jx hY pre1 post n a1 A1 G μ hall1 hys1 hS hF) ?_;rintro e a' A' (⟨rfl,G',μ',hS',hF'⟩|⟨ex',F',H',pre',G',μ',hm,rfl,hS',hF'⟩)
   ·rcases aEX h4 with ⟨y',e1,e2,e3⟩|⟨z',e1,e2,e3⟩
    ·cases e1
    ·cases e1
     dsimp only at e2 e3;obtain⟨h5,h6⟩:=a77 (A:=A') (G:=G') (a:=a') (nt:=nt) e3;obtain⟨G2,μ2,hS2,hF2⟩:=bFA (fun hI=>h6 hI) hS' hF'
     have hout:(Exit.normal≠ex.to→True):=fun _=>trivial
     cases ex with
     | normal=>exact absurd rfl e2
     | exit i=>exact .inl ⟨by rw[h5],G2,μ2,by rw[hpre]; exact hS2,hF2⟩
     | ret=>exact .inl ⟨by rw[h5],G2,μ2,by rw[hpre]; exact hS2,hF2⟩
   ·cases ex' with
    | ret=>exact .inr ⟨.ret,F',H',pre',G',μ',rfl,rfl,hS',hF'⟩
    | normal=>cases hm
    | exit i=>cases hm
  ·cases hz
def bJ5(P:Program) (E:Env) (fn:Func) (aZ:Nat) (lt:Nat→Option aS) (ks:List Kd) (li:Nat→Option (aFS (Value×aJ ks))) (c:Code) (ts:List Ty) (yv:Value) (x:XZ ts):Option (List (Value×aJ ks)) :=
 bif Nat.ble (1+(aHY ts x).length) fn.ntmps then bLU (SP P E fn.ntmps aZ lt ks li c (start aZ 0 (.lit yv::aHY ts x)) [] (fun ex _ _=>match ex with
  | .exit _=>none
  | _=>some ([],())) (fun ex _ _=>match ex with
  | .exit _=>none
  | _=>some ())) else none
theorem bK3(hP:XL P) (hE:bE P E) {g:Nat} {fn:Func} (hg:P.funcs[g]?=some fn) {c:Code} (hc:fn.body=some c) (hres:fn.results=#[]) {ts:List Ty} {f:XZ ts→Option (List (aJ ks))}
  (hl:∀ a∈gR c,a0M P fn.ntmps lt ks li a) (hb:∀ yv x all,f x=some all→bJ5 P E fn aZ lt ks li c ts yv x=some (all.map fun e=>(yv,e))):a1D P g ts ks f:=by
 intro x all hall m l W G vs hlt hvs J Jx hY hJ;obtain⟨yv,hyv⟩:∃ yv:Value,yv=.func (.yield l) #[] #[]:=⟨_,rfl⟩;have hbx:=hb yv x all hall;unfold bJ5 at hbx;obtain⟨hlen,hbx⟩:=aO hbx;unfold bLU at hbx;split at hbx
 ·rename_i l0 u hex
  have hl0:=Option.some.inj hbx;obtain⟨ys1,ys2,⟨ex,F',H'⟩,h1,h2,h3⟩:=DV hE.callee hP.mixed c _ _ _ _ _ _ (fun _ _=>rfl) hl hex
  have hex:(ex=.normal∨ex=.ret)∧ys2=[]:=by
   cases ex with
   | exit i=>cases h1
   | normal =>
    simp only[Option.some.injEq,Prod.mk.injEq]at h1;exact⟨.inl rfl,h1.1.symm⟩
   | ret =>
    simp only[Option.some.injEq,Prod.mk.injEq]at h1;exact⟨.inr rfl,h1.1.symm⟩
  obtain⟨hex,rfl⟩:=hex;rw[List.append_nil]at h2;subst h2;have hys:∀ y∈l0,y.1=yv:=by
   intro y hy;rw[hl0]at hy;obtain⟨e,-,rfl⟩:=List.mem_map.1 hy;rfl
  have hmap:l0.map (·.2)=all:=by
   rw[hl0,List.map_map];exact List.map_id all
  refine callsIn_of_wp hg hc trivial ?_ rfl;have hargs:VRs W (Gd.of G) aN (.lit yv::aHY ts x) ((#[.func (.yield l) #[] #[]]:Array Value)++vs.toArray).toList:=by
   rw[← hyv];simp only[Array.toList_append,List.cons_append,List.nil_append];rw[VRs];exact⟨yv,vs,rfl,by rw[VR],hvs⟩
  have hF0:=HK (m:=aZ) (n:=fn.ntmps) hargs (by simpa[Nat.add_comm]using Nat.le_of_ble_eq_true hlen)
  have hS0:Sg (J []) (Gd.of G) (Gd.of G) aN [] W:=Sg.start hlt hJ;have post:∀ (ex:Exit) (a:Act) (A:World),(ex=.normal∨ex=.ret)→a.defers=[]→∀ (T X:Nat→Prop) (B:World),Stp X B A→(J all T X B∨∃ pre,Jx pre T X B) →
    bodyPost P fn (fun en C=>(∃ v,en=.returned v)∧∃ T X B,Stp X B C∧(J all T X B∨∃ pre,Jx pre T X B)) ex a A:=by
   intro ex a A hex hd T X B hst hj;have hr:(results fn a.tmps).run P A=.ok (.tuple #[]) A:=by simp[results,hres]
   rcases hex with rfl|rfl
   ·exact⟨hd,_,hr,⟨_,rfl⟩,T,X,B,hst,hj⟩
   ·exact⟨hd,_,hr,⟨_,rfl⟩,T,X,B,hst,hj⟩
  refine wpIn_mono (h3 l yv hyv (Gd.of G) all J Jx hY [] [] m _ W (Gd.of G) aN (by rw[hmap]; simp) hys hS0 hF0) ?_
  rintro e a' A' (⟨rfl,G',μ',hS',hF'⟩|⟨ex',F',H',pre',G',μ',hm,rfl,hS',hF'⟩)
  ·obtain⟨T,X,B,hst,hj⟩:=hS'.stp
   rw[List.nil_append,hmap]at hj;refine post _ a' A' ?_ hF'.defers T X B hst (.inl hj);rcases hex with rfl|rfl
   ·exact .inl rfl
   ·exact .inr rfl
  ·obtain⟨T,X,B,hst,hj⟩:=hS'.stp
   refine post _ a' A' ?_ hF'.defers T X B hst (.inr ⟨_,hj⟩);cases ex' with
   | normal=>exact .inl rfl
   | ret=>exact .inr rfl
   | exit i=>cases hm
 ·cases hbx
theorem bIF {a:Code} {i:Nat} {s0:aFS (Value×aJ ks)} (hf:aH a=i) (hlt:lt i=none) (hli:li i=some s0) (h:bE9 P nt ks a s0):a0M P nt lt ks li (.loop a):=by
 refine⟨fun s hs=>?_,fun s hs=>?_⟩
 ·rw[hf,hlt]at hs
  cases hs
 ·rw[hf,hli]at hs
  cases hs;exact h
def a2G(P:Program) (nt:Nat) (lt:Nat→Option aS) (ks:List Kd) (li:Nat→Option (aFS (Value×aJ ks))):List Code→Prop
 | []=>True
 | c::r=>a0M P nt lt ks li c∧a2G P nt lt ks li r
theorem aSF:∀ {l:List Code},a2G P nt lt ks li l→∀ a∈l,a0M P nt lt ks li a
 | [],_,a,ha=>by cases ha
 | c::r,h,a,ha=>by
  rcases List.mem_cons.1 ha with rfl|ha
  ·exact h.1
  ·exact aSF h.2 a ha
theorem a9V {c:Code} {l:List Code} (hc:gR c=l) (h:a2G P nt lt ks li l):∀ a∈gR c,a0M P nt lt ks li a:=by
 rw[hc]; exact aSF h
end
end Go.PM
namespace Go.PM
open Go
theorem aR(i:Int) (n:Nat):aL i n=decide (0≤i∧i<n):=by
 cases i with
 | ofNat m =>
  show Nat.blt m n=_;rw[cX]
  by_cases h:m<n
  ·rw[decide_eq_true h,decide_eq_true]; exact⟨Int.natCast_nonneg m,Int.ofNat_lt.2 h⟩
  ·rw[decide_eq_false h,decide_eq_false]; rintro⟨-,h2⟩; exact h (Int.ofNat_lt.1 h2)
 | negSucc m =>
  show false=_;rw[decide_eq_false]; rintro⟨h,-⟩; exact absurd h (by omega)
theorem gY(m n:Nat):Nat.ble m n=decide (m≤n):=by
 cases h:Nat.ble m n with
 | true=>exact(decide_eq_true (Nat.le_of_ble_eq_true h)).symm
 | false =>
  refine(decide_eq_false fun hl=>?_).symm
  rw[Nat.ble_eq_true_of_le hl]at h;cases h
theorem wrap64 {x:Int} (h1 : -9223372036854775808≤x) (h2:x<9223372036854775808):aB .i64 x=x:=by
 cases x with
 | ofNat m =>
  have:m<9223372036854775808:=by have:(m:Int)<9223372036854775808:=h2; omega
  unfold aB;simp only[cX,decide_eq_true this,cond_true]
 | negSucc m =>
  have:m<9223372036854775808:=by omega
  unfold aB;simp only[cX,decide_eq_true this,cond_true]
theorem cY(i:Nat) (h:i<9223372036854775807):aB .i64 ((i:Int)+1)=((i+1:Nat):Int):=by
 rw[wrap64 (by omega) (by omega)]; rfl
theorem aGN {x:Int} (h1 : -9223372036854775808≤x) (h2:x<9223372036854775808):IntKind.wrap .i64 x=x:=by
 rw[← aEZ]; exact wrap64 h1 h2
theorem aTE {α:Type} (p:Prop) [Decidable p] (a b:α):(bif decide p then a else b)=if p then a else b:=by
 by_cases h:p <;> simp[h]
theorem aG {τ α:Type} (x:τ) (k:τ→Option α):aC (some x) k=k x:=rfl
theorem bKR(p:Prop) [Decidable p]:(!decide p)=decide (¬ p):=by by_cases h:p <;> simp[h]
theorem CW {β γ α:Type} (z:β) (f:β→Option α) (g:γ→Option α):BN (.inl z) f g=f z:=rfl
theorem lR {β γ α:Type} (z:γ) (f:β→Option α) (g:γ→Option α):BN (.inr z) f g=g z:=rfl
section
variable {σ τ:Type} {step:σ→Option (σ⊕τ)}
theorem iI(n:Nat) (x:σ):bZ step (n+1) x=match step x with
  | some (.inl y)=>bZ step n y
  | some (.inr z)=>some z
  | none=>none:=rfl
theorem aW1(F:Nat→σ) (k:Nat):∀ (m j:Nat),(∀ i,j≤i→i<j+m→step (F i)=some (.inl (F (i+1))))→bZ step (m+k) (F j)=bZ step k (F (j+m))
 | 0,j,_=>by rw[Nat.zero_add,Nat.add_zero]
 | m+1,j,h=>by
  rw[Nat.add_right_comm,iI,h j (Nat.le_refl _) (by omega)]
  show bZ step (m+k) (F (j+1))=_;rw[aW1 F k m (j+1) fun i h1 h2=>h i (by omega) (by omega)]
  congr 2; omega
theorem bI {N:Nat} (F:Nat→σ) (m:Nat) (z:τ) (hN:m<N) (h:∀ i,i<m→step (F i)=some (.inl (F (i+1)))) (he:step (F m)=some (.inr z)):bZ step N (F 0)=some z:=by
 obtain⟨k,rfl⟩:∃ k,N=m+(k+1):=⟨N-m-1,by omega⟩
 rw[aW1 F (k+1) m 0 (fun i _ h2=>h i (by omega)),Nat.zero_add,iI,he]
end
end Go.PM
namespace Go.PM
open Go Go.RowKit
section
variable {P:Program} {n0:Nat→Prop} {w w':World} {G G':Gd} {μ μ1:Mp} {H H1:Heap}
def aCF(μ μ1:Mp) (h:Nat):Mp:=⟨fun r=>if r<h then μ.loc r else μ1.loc (r-h),fun r=>if r<h then μ.len r else μ1.len (r-h)⟩
theorem FV {h r:Nat} (hr:r<h):(aCF μ μ1 h).loc r=μ.loc r∧(aCF μ μ1 h).len r=μ.len r:=by simp[aCF,hr]
theorem FY {h r:Nat} (hr:h≤r):(aCF μ μ1 h).loc r=μ1.loc (r-h)∧(aCF μ μ1 h).len r=μ1.len (r-h):=by
 have:¬ r<h:=by omega
 simp[aCF,this]
theorem bA9(hW:bC n0 G μ H w) (e:Ext (D2 w) w G.bare aN w' G' μ1):Ext n0 w G μ w' (G'.with G) (aCF μ μ1 H.length):={
 good:=e.good
 map:=fun r b hr=>by
  rcases Nat.lt_or_ge r H.length with hl|hl
  ·rw[(FV hl).1]; exact hr
  ·rw[(hW.top r hl).1]at hr; cases hr
 len:=fun r b hr=>by
  rcases Nat.lt_or_ge r H.length with hl|hl
  ·rw[(FV hl).2]; exact hr
  ·rw[(hW.top r hl).2]at hr; cases hr
 room:=e.room
 row:=fun _ _ h=>h
 os:=e.os
 tape:=e.tape
 output:=e.output
 size:=e.size
 old:=fun b hb _=>e.old b hb (Nat.not_le.2 hb)
 new:=fun b hb=>by
  rcases e.new b hb with h|h
  ·exact .inl h
  ·exact .inr (hW.base b h) }
theorem bG5(hW:bC n0 G μ H w) (e:Ext (D2 w) w G.bare aN w' G' μ1) (h1:bC (D2 w) G' μ1 H1 w') (ht:aG2 H1=true) (hp:∀ (r:Nat) (k:Blk),H1[r]?=some (some k)→gF.noRows k.cells=true∧∀ t l,k.tag≠some ⟨.rows t,l⟩):bC n0 (G'.with G) (aCF μ μ1 H.length) (H++H1) w':=by
 have e':=bA9 hW e;have key:∀ (r:Nat) (k:Blk),(H++H1)[r]?=some (some k)→(r<H.length∧H[r]?=some (some k))∨(H.length≤r∧H1[r-H.length]?=some (some k)):=by
  intro r k hr;rcases Nat.lt_or_ge r H.length with hl|hl
  ·rw[List.getElem?_append_left hl]at hr; exact .inl ⟨hl,hr⟩
  ·rw[List.getElem?_append_right hl]at hr; exact .inr ⟨hl,hr⟩
 refine⟨?_,?_,?_,h1.lt,?_,fun b hb=>hW.base b (Nat.le_trans e.size hb),hW.rows.step e'.toMono.aN e.size (fun _=>rfl) (fun j b hj=>?_) (fun r k t l hr hg htg=>?_)⟩
 case refine_5 =>
  have hlt:=(hW.rows.sep j b hj).1;refine⟨e.old b hlt (Nat.not_le.2 hlt),fun hg=>?_,fun r k hr hf hl=>?_⟩
  ·rcases e.new b hg with h|h
   ·exact h
   ·exact absurd hlt (Nat.not_lt.2 h)
  ·rcases key r k hr with ⟨hl2,hr⟩|⟨hl2,hr⟩
   ·rw[(FV hl2).1]at hl; exact⟨r,k,hr,hf,hl⟩
   ·rw[(FY hl2).1]at hl
    obtain⟨_,_,_,_,_,a5⟩:=h1.blk _ k b hr hl;exact absurd hlt (Nat.not_lt.2 (a5 hf).1)
 case refine_6 =>
  rcases key r k hr with ⟨hl2,hr⟩|⟨hl2,hr⟩
  ·exact⟨k,hr,rfl,rfl,rfl,(FV hl2).1⟩
  ·exact absurd htg ((hp _ k hr).2 t l)
 ·intro r k b hr hb
  rcases key r k hr with ⟨hl,hr⟩|⟨hl,hr⟩
  ·rw[(FV hl).1]at hb
   obtain⟨c,a1,a2,a3,a4,a5⟩:=hW.blk r k b hr hb;have hlt:=hW.rO hr hb;have ho:=e.old b hlt (Nat.not_le.2 hlt);refine⟨c,ho.trans a1,aQ.mono e'.toMono ho 0 _ a2,a3,fun hf=>(e.good b (a4 hf)).1,fun hf=>⟨(a5 hf).1,fun hg=>?_⟩⟩
   rcases e.new b hg with h|h
   ·exact(a5 hf).2 h
   ·omega
  ·rw[(FY hl).1]at hb
   obtain⟨c,a1,a2,a3,a4,a5⟩:=h1.blk _ k b hr hb;refine⟨c,a1,?_,a3,a4,fun hf=>⟨hW.base b (a5 hf).1,(a5 hf).2⟩⟩
   refine AU (G:=G') (G':=G'.with G) (fun b h=>h) _ _ _ _ (hp _ k hr).1 ?_
   rcases aHJ ht hr with hg|hg
   ·obtain⟨g,hg⟩:=Option.isSome_iff_exists.1 hg
    have:=(h1.tags _ k g hr hg).1;rw[this]at a2 ⊢;exact uO (lS _ _) a2
   ·exact uO hg a2
 ·intro r k g hr hg
  rcases key r k hr with ⟨hl,hr⟩|⟨hl,hr⟩
  ·rw[(FV hl).2]; exact hW.tags r k g hr hg
  ·rw[(FY hl).2]; exact h1.tags _ k g hr hg
 ·intro r s k l b hr hs fk fl m1 m2
  rcases key r k hr with ⟨hl,hr⟩|⟨hl,hr⟩ <;> rcases key s l hs with ⟨hl2,hs⟩|⟨hl2,hs⟩
  ·rw[(FV hl).1]at m1
   rw[(FV hl2).1]at m2;exact hW.inj r s k l b hr hs fk fl m1 m2
  ·rw[(FV hl).1]at m1
   rw[(FY hl2).1]at m2;obtain⟨_,_,_,_,_,a5⟩:=h1.blk _ l b hs m2;have:=hW.rO hr m1;have:=(a5 fl).1;omega
  ·rw[(FY hl).1]at m1
   rw[(FV hl2).1]at m2;obtain⟨_,_,_,_,_,a5⟩:=h1.blk _ k b hr m1;have:=hW.rO hs m2;have:=(a5 fk).1;omega
  ·rw[(FY hl).1]at m1
   rw[(FY hl2).1]at m2;have:=h1.inj _ _ k l b hr hs fk fl m1 m2;omega
 ·intro r hr
  simp only[List.length_append]at hr;have hl:H.length≤r:=by omega
  rw[(FY hl).1,(FY hl).2];exact h1.top _ (by omega)
theorem bHI {r sz:Nat} {v:Value} (h:VR w' G' μ1 (.own r sz) v):VR w' G' (aCF μ μ1 H.length) (.own (H.length+r) sz) v:=by
 have e:=FY (μ:=μ) (μ1:=μ1) (h:=H.length) (r:=H.length+r) (by omega)
 rw[VR]at h ⊢;rw[e.1,e.2,Nat.add_sub_cancel_left];exact h
def a9N(P:Program) (g:FuncId) (args:List Kd) (e:TypeId) (ty:Ty) (f:aJ args→Option (List ty.den)):Prop :=
 ∀ x l,f x=some l→∀ {n0 G μ w us},bC n0 G μ [] w→VRs w G μ (qA args x) us→CC P n0 w G μ g us.toArray (.own 0 ty.size) [some ⟨aM ty l,e,true,false,some ⟨ty,l⟩⟩]
def bNO(t:Nat) (e:TypeId) (ty:Ty) (ex:Ex) (F:Frm) (H:Heap):Option (List ty.den):=match ex with
 | .exit _=>none
 | _=>match aAW [(t,.own e ty)] F H with
  | some x=>some x.1
  | none=>none
def a9I(P:Program) (E:Env) (fn:Func) (aZ:Nat) (lt:Nat→Option aS) (c:Code) (args:List Kd) (t:Nat) (e:TypeId) (ty:Ty) (x:aJ args):Option (List ty.den) :=
 bif Nat.ble (qA args x).length fn.ntmps then K5 P E fn.ntmps aZ lt c (start aZ 0 (qA args x)) [] (bNO t e ty) else none
theorem a7L {E:Env} (hP:XL P) (hE:bE P E) {g:Nat} {fn:Func} (hg:P.funcs[g]?=some fn) {c:Code} (hc:fn.body=some c) {aZ:Nat} {lt:Nat→Option aS} {args:List Kd} {t:Nat} (hr:fn.results.toList=[.tmp t]) {e:TypeId} {ty:Ty} {f:aJ args→Option (List ty.den)}
  (hl:∀ a∈aF c,∀ s,lt (aH a)=some s→cF P fn.ntmps a s) (hb:∀ x,a9I P E fn aZ lt c args t e ty x=f x):a9N P g args e ty f:=by
 intro x l hy n0 G μ w us hW hv;rw[← hb]at hy;unfold a9I at hy;obtain⟨hlen,hy⟩:=aO hy;obtain⟨⟨ex,F',H'⟩,h1,h2⟩:=sM hE.callee hP.mixed c _ _ _ _ hl hy;obtain⟨y,hex,hd,hyl⟩:∃ y,(ex=.normal∨ex=.ret)∧aAW [(t,.own e ty)] F' H'=some y∧y.1=l:=by
  unfold bNO at h1;split at h1
  ·cases h1
  ·rename_i hne
   split at h1
   ·rename_i y hy
    simp only[Option.some.injEq]at h1;refine⟨y,?_,hy,h1⟩;cases ex with
    | normal=>exact .inl rfl
    | ret=>exact .inr rfl
    | exit i=>exact absurd rfl (hne i)
   ·cases h1
 obtain⟨yl,⟨⟩⟩:=y;dsimp only at hyl;subst hyl;refine⟨enters hg (hP.names g fn hg) (by rw[hc]; rfl) _ _,calls_of_wp hg hc ?_⟩
 have hI:I n0 w G μ fn.ntmps (start aZ 0 (qA args x)) [] ⟨us.toArray++Array.replicate (fn.ntmps-us.toArray.size) undef,[]⟩ w:=⟨G,μ,Ext.refl _ _ _ _,hW,HK (by simpa using hv) (Nat.le_of_ble_eq_true hlen)⟩
 refine wp_mono (h2 n0 w G μ _ w (fun r=>hW.top r (Nat.zero_le _)) hI) ?_
 rintro e0 a' w' ⟨rfl,hI'⟩;obtain⟨G',μ',e',hW',hF'⟩:=K3 hd (fun r=>hW.top r (Nat.zero_le _)) hI'
 have hvs:AZ P (EG [(t,.own e ty)] (yl,()) 0) (PO [(t,.own e ty)] (yl,())) fn.results.toList=some [.own 0 ty.size]:=by
  rw[hr];simp[AZ,aY6,EG,D5,fB]
 obtain⟨ws,h3,h4⟩:=xW (P:=P) hW' hF' hvs;have hres:(results fn a'.tmps).run P w'=.ok (if hh:ws.toArray.size=1 then ws.toArray[0] else .tuple ws.toArray) w':=by
  rw[L9,Array.mapM_eq_mapM_toList];simp only[Sem.run_bind,Sem.run_map,h3,Result.andThen_ok,Sem.run_pure]
 have hpost:a'.defers=[]∧∃ v,(results fn a'.tmps).run P w'=.ok v w'∧(∃ v' G'' μ'',Ending.returned v=.returned v'∧Ext n0 w G μ w' G'' μ''∧bC n0 G'' μ'' (PO [(t,.own e ty)] (yl,())) w'∧VR w' G'' μ'' (.own 0 ty.size) v') :=
  ⟨hF'.defers,_,hres,_,G',μ',rfl,e',hW',BL h4⟩
 rcases hex with rfl|rfl
 ·exact hpost
 ·exact hpost
def bJY(args:List Kd) (e:TypeId) (ty:Ty) (f:aJ args→Option (List ty.den)) (qs:List PV) (H:Heap):Option a16 :=
 bif fP.noRefs qs&&(gF.noRows qs&&ty.plain) then match a3A args qs with
  | some x=>some ⟨List ty.den,f x,fun l=>(.own H.length ty.size,H++[some ⟨aM ty l,e,true,false,some ⟨ty,l⟩⟩])⟩
  | none=>none
 else none
theorem a8O {g:FuncId} {args:List Kd} {e:TypeId} {ty:Ty} {f:aJ args→Option (List ty.den)} (hf:a9N P g args e ty f):zK P (g,bJY args e ty f):=by
 intro qs H r h y hy n0 G μ w vs hW hv;dsimp only at h;unfold bJY at h;obtain⟨hn,h⟩:=aVN h;split at h
 ·rename_i x hx
  have h:=Option.some.inj h;subst h;simp only[Bool.and_eq_true]at hn;obtain⟨hn,hnr,hpl⟩:=hn;have hW0:bC (D2 w) G.bare aN [] w:=⟨fun r k b h=>by simp at h,fun r k g h=>by simp at h,fun r s k l b h=>by simp at h,hW.lt,fun _ _=>⟨rfl,rfl⟩,fun _ h=>h,xI.none _ _ (fun _=>rfl) _ _ (fun r k h=>by simp at h)⟩
  obtain⟨h1,h2⟩:=hf x y hy hW0 (NQ args hx (zX (G:=G) (G':=G.bare) (fun b h=>h) _ _ _ hnr (dX _ _ hn hv)))
  refine⟨h1,h2.mono ?_⟩;rintro e' w' ⟨v',G',μ1,rfl,e1,e2,e3⟩;refine⟨v',G'.with G,aCF μ μ1 H.length,rfl,bA9 hW e1,bG5 hW e1 e2 rfl (fun r k hr=>?_),?_⟩
  ·cases r with
   | zero =>
    simp only[List.getElem?_cons_zero,Option.some.injEq]at hr;subst hr;exact⟨E0 _ hpl _,fun t l h=>by simp only[Option.some.injEq,Tg.mk.injEq]at h; obtain⟨rfl,_⟩:=h; cases hpl⟩
   | succ r=>simp at hr
  have:=bHI (H:=H) (μ:=μ) e3;rw[VR]at this ⊢;simpa using this
 ·cases h
end
end Go.PM
namespace Go.PM
open Go Go.RowKit
section
variable {P:Program} {n0:Nat→Prop} {w w':World} {G G':Gd} {μ μ1:Mp} {H H1:Heap}
theorem bAJ(hW:bC n0 G μ H w) {r:Nat} (hr:H[r]?=some none) (k:Blk) (hf:k.frozen=false) (hg:k.grown=true)
  (hblk:∀ b,μ.loc r=some b→(∃ c,w.heap[b]?=some (.cells c k.ty (0,0))∧aQ w G μ b 0 k.cells)∧n0 b∧¬ G b∧(∀ s k1,H[s]?=some (some k1)→k1.frozen=false→μ.loc s≠some b)∧∀ j,G.row j≠some b)
  (htag:∀ g,k.tag=some g→k.cells=aM g.t g.l∧μ.len r=some g.l.length):bC n0 G μ (H.set r (some k)) w:=by
 have hlt:r<H.length:=(List.getElem?_eq_some_iff.1 hr).1;have key:∀ s k1,(H.set r (some k))[s]?=some (some k1)→(s=r∧k1=k)∨(s≠r∧H[s]?=some (some k1)):=by
  intro s k1 hs
  by_cases e:r=s
  ·subst e
   rw[List.getElem?_set_self hlt]at hs;exact .inl ⟨rfl,(Option.some.inj (Option.some.inj hs)).symm⟩
  ·rw[List.getElem?_set_ne e]at hs
   exact .inr ⟨Ne.symm e,hs⟩
 refine⟨?_,?_,?_,hW.lt,fun s hs=>hW.top s (by simpa using hs),hW.base,?_⟩
 ·intro s k1 b hs hb
  rcases key s k1 hs with ⟨rfl,rfl⟩|⟨_,hs⟩
  ·obtain⟨⟨c,h1,h2⟩,h3,h4,_⟩:=hblk b hb
   exact⟨c,h1,h2,fun h=>(by rw[hg]at h; cases h),fun h=>(by rw[hf]at h; cases h),fun _=>⟨h3,h4⟩⟩
  ·exact hW.blk s k1 b hs hb
 ·intro s k1 g hs h1
  rcases key s k1 hs with ⟨rfl,rfl⟩|⟨_,hs⟩
  ·exact htag g h1
  ·exact hW.tags s k1 g hs h1
 ·intro s1 s2 k1 k2 b h1 h2 f1 f2 m1 m2
  rcases key s1 k1 h1 with ⟨rfl,rfl⟩|⟨_,h3⟩
  ·rcases key s2 k2 h2 with ⟨rfl,rfl⟩|⟨_,h4⟩
   ·rfl
   ·exact absurd m2 ((hblk b m1).2.2.2.1 s2 k2 h4 f2)
  ·rcases key s2 k2 h2 with ⟨rfl,rfl⟩|⟨_,h4⟩
   ·exact absurd m1 ((hblk b m2).2.2.2.1 s1 k1 h3 f1)
   ·exact hW.inj s1 s2 k1 k2 b h3 h4 f1 f2 m1 m2
 ·refine⟨hW.rows.inj,?_,hW.rows.cel,?_,?_⟩
  ·intro j b hj
   obtain⟨a1,a2,a3,a4⟩:=hW.rows.sep j b hj;refine⟨a1,a2,a3,fun s k1 hs f1 m1=>?_⟩
   rcases key s k1 hs with ⟨rfl,rfl⟩|⟨_,hs⟩
   ·exact(hblk b m1).2.2.2.2 j hj
   ·exact a4 s k1 hs f1 m1
  ·intro s k1 t l hs h1 h2
   rcases key s k1 hs with ⟨rfl,rfl⟩|⟨_,hs⟩
   ·rw[hg]at h1; cases h1
   ·exact hW.rows.arn s k1 t l hs h1 h2
  ·intro s1 s2 k1 k2 t l t' l' h1 g1 t1 h2 g2 t2
   rcases key s1 k1 h1 with ⟨rfl,rfl⟩|⟨_,h1⟩
   ·rw[hg]at g1; cases g1
   ·rcases key s2 k2 h2 with ⟨rfl,rfl⟩|⟨_,h2⟩
    ·rw[hg]at g2; cases g2
    ·exact hW.rows.one s1 s2 k1 k2 t l t' l' h1 g1 t1 h2 g2 t2
def a9G(P:Program) (g:FuncId) (e:TypeId) (t:Ty) (args:List Kd) (f:List t.den→aJ args→Option (List t.den)):Prop :=
 ∀ l x l',f l x=some l'→∀ {n0 G μ H w us r},bC n0 G μ H w→H[r]?=some (some (owB e t l))→VRs w G μ (.own r t.size::qA args x) us→gF.noRows (qA args x)=true→CC P n0 w G μ g us.toArray (.tuple []) (H.set r (some (owB e t l')))
def W9 {t:Ty} {args:List Kd} (f:Unit→aJ (.hnd t.size::args)→List (List t.den)→Option (aJ []×List (List t.den))) (l:List t.den) (x:aJ args):Option (List t.den):=match f () ((0,0,l.length),x) [l]with
 | some ((),[l'])=>bif Nat.beq l'.length l.length then some l' else none
 | _=>none
def bDD(P:Program) (g:FuncId) (e:TypeId) (t:Ty) (args rets:List Kd) (f:List t.den→aJ args→Option (aJ rets×List t.den)):Prop :=
 ∀ l x y l',f l x=some (y,l')→∀ {n0 G μ H w us r},bC n0 G μ H w→H[r]?=some (some (owB e t l))→VRs w G μ (.own r t.size::qA args x) us→gF.noRows (qA args x)=true→CC P n0 w G μ g us.toArray (aXS rets y) (H.set r (some (owB e t l')))
def aMJ {t:Ty} {args rets:List Kd} (f:Unit→aJ (.hnd t.size::args)→List (List t.den)→Option (aJ rets×List (List t.den))) (l:List t.den) (x:aJ args):Option (aJ rets×List t.den):=match f () ((0,0,l.length),x) [l]with
 | some (y,[l'])=>bif Nat.beq l'.length l.length then some (y,l') else none
 | _=>none
def bJA:List Kd→Bool
 | []=>true
 | [.bool]=>true
 | [.int _]=>true
 | _=>false
theorem bHG {rets:List Kd} (h:bJA rets=true) (y:aJ rets) {w:World} {G G':Gd} {μ μ':Mp} {v:Value} (hv:VR w G μ (aXS rets y) v):VR w G' μ' (aXS rets y) v:=by
 unfold bJA at h;split at h
 ·change VR w G μ (.tuple []) v at hv
  change VR w G' μ' (.tuple []) v;rw[VR]at hv ⊢;obtain⟨vs,h1,h2⟩:=hv;rw[VRs]at h2;exact⟨vs,h1,by rw[VRs]; exact h2⟩
 ·obtain⟨b,⟨⟩⟩:=y
  change VR w G μ (.lit (.bool b)) v at hv;change VR w G' μ' (.lit (.bool b)) v;rw[VR]at hv ⊢;exact hv
 ·rename_i k
  obtain⟨b,⟨⟩⟩:=y;change VR w G μ (.lit (.int k b)) v at hv;change VR w G' μ' (.lit (.int k b)) v;rw[VR]at hv ⊢;exact hv
 ·cases h
theorem a2R {g:FuncId} {e:TypeId} {t:Ty} {args rets:List Kd} {f:Unit→aJ (.hnd t.size::args)→List (List t.den)→Option (aJ rets×List (List t.den))} (hf:SR P g e t .none (.hnd t.size::args) (.data rets) f) (hd:YR args=true) (hpl:t.plain=true) (hlr:bJA rets=true) (he:e≠UJ:=by decide):bDD P g e t args rets (aMJ f):=by
 intro l x yy l' hy n0 G μ H w us r hW hk hv hnr;unfold aMJ at hy;split at hy
 ·rename_i y1 l1 hfl
  obtain⟨hlen,hy⟩:=aO hy;obtain⟨rfl,rfl⟩:=Prod.mk.inj (Option.some.inj hy);have hlen:=Nat.eq_of_beq_eq_true hlen;have ht2:=(hW.tags r _ _ hk rfl).2;have hlt:r<H.length:=(List.getElem?_eq_some_iff.1 hk).1;obtain⟨rb,hrb⟩:∃ rb:Option Nat,rb=if l=[] then none else μ.loc r:=⟨_,rfl⟩
  have hrbl:∀ b,rb=some b→μ.loc r=some b∧l≠[]:=fun b hb=>by
   rw[hrb]at hb;split at hb
   ·cases hb
   ·rename_i hne; exact⟨hb,hne⟩
  have hmine:∀ b,μ.loc r=some b→n0 b∧¬ G b:=fun b hb=>by
   obtain⟨_,_,_,_,_,h6⟩:=hW.blk r _ b hk hb;exact h6 rfl
  have hrow:∀ j b,G.row j=some b→μ.loc r≠some b:=fun j b hj=>(hW.rows.sep j b hj).2.2.2 r _ hk rfl
  obtain⟨u,us',rfl,q1,q2⟩:∃ u us',us=u::us'∧VR w G μ (.own r t.size) u∧VRs w G μ (qA args x) us':=by
   rw[VRs]at hv; exact hv
  have at0:∀ (s:Nat) (k1:Blk),([some (arB e t [l])]:Heap)[s]?=some (some k1)→s=0∧k1=arB e t [l]:=by
   intro s k1 hs;cases s with
   | zero=>simp only[List.getElem?_cons_zero,Option.some.injEq]at hs; exact⟨rfl,hs.symm⟩
   | succ s=>simp at hs
  have hG0:∃ G0:Gd,G0=⟨G.ok,fun j=>if j=0 then rb else none⟩:=⟨_,rfl⟩
  obtain⟨G0,hG0⟩:=hG0;have hok:G0.ok=G.ok:=by rw[hG0]
  have hr0:∀ j b,G0.row j=some b→j=0∧rb=some b:=fun j b hj=>by
   rw[hG0]at hj;dsimp only at hj;split at hj
   ·exact⟨‹_›,hj⟩
   ·cases hj
  have hW1:bC (fun b=>w.heap.size≤b∨rb=some b) G0 ⟨fun _=>none,fun s=>if s=0 then some 1 else none⟩ [some (arB e t [l])] w:=by
   refine⟨fun s k1 b hs hb=>(by cases hb),?_,fun s1 s2 k1 k2 b _ _ _ _ m=>(by cases m),by rw[hok]; exact hW.lt,?_,fun b hb=>.inl hb,?_⟩
   ·intro s k1 gg hs hg
    obtain⟨rfl,rfl⟩:=at0 s k1 hs;cases hg;exact⟨rfl,rfl⟩
   ·intro s hs
    have:s≠0:=by rintro rfl; simp at hs
    exact⟨rfl,by simp[this]⟩
   ·refine⟨fun i j b h1 h2=>(hr0 i b h1).1.trans (hr0 j b h2).1.symm,fun j b hj=>?_,fun j b hj=>?_,fun s k1 t1 l1 hs h1 h2=>?_,fun s1 s2 k1 k2 t1 l1 t2 l2 h1 _ _ h2 _ _=>((at0 s1 k1 h1).1.trans (at0 s2 k2 h2).1.symm)⟩
    ·obtain⟨_,h2⟩:=hr0 j b hj
     exact⟨hW.rO hk (hrbl b h2).1,.inr h2,by rw[hok]; exact(hmine b (hrbl b h2).1).2,fun _ _ _ _ h=>by cases h⟩
    ·obtain⟨_,h2⟩:=hr0 j b hj
     obtain⟨c,h3,_⟩:=hW.blk r _ b hk (hrbl b h2).1;exact .inl ⟨c,_,_,h3⟩
    ·obtain⟨rfl,rfl⟩:=at0 s k1 hs
     cases h2;refine⟨rfl,fun j hj=>?_,fun j row hj=>?_⟩
     ·rw[hG0]
      have:j≠0:=by rintro rfl; simp at hj
      simp[this]
     ·cases j with
      | zero =>
       simp only[List.getElem?_cons_zero,Option.some.injEq]at hj;subst hj
       by_cases hl:l=[]
       ·exact .inl ⟨hl,he⟩
       ·right
        rw[VR]at q1;obtain⟨n,z1,z2⟩:=q1;rw[ht2]at z1;obtain rfl:=Option.some.inj z1;rcases z2 with ⟨z2,_⟩|⟨b,c,z2,_⟩
        ·exact absurd (List.eq_nil_of_length_eq_zero z2) hl
        ·obtain⟨cc,a1,a2,_⟩:=hW.blk r _ b hk z2
         refine⟨b,by rw[hG0,hrb]; simp[hl,z2],.inl ⟨he,cc,a1,?_⟩⟩
         exact AU (G:=G) (G':=G0) (fun b h=>by rw[hok]; exact h) _ _ _ _ (E0 t hpl l) (uO (lS _ _) a2)
      | succ j=>simp at hj
  have hv1:VRs w G0 ⟨fun _=>none,fun s=>if s=0 then some 1 else none⟩ (Tk.none.pv 0++qA (.hnd t.size::args) ((0,0,l.length),x)) (u::us'):=by
   change VRs w G0 _ (.row 0 0 l.length t.size::qA args x) (u::us');rw[VRs];refine⟨u,us',rfl,?_,VRs.bN (zX (G:=G) (G':=G0) (fun b h=>by rw[hok]; exact h) _ _ _ hnr (dX _ _ (WG args x hd) q2))⟩
   rw[VR]at q1;rw[VR];obtain⟨n,z1,z2⟩:=q1;rw[ht2]at z1;obtain rfl:=Option.some.inj z1;rcases z2 with ⟨z2,ao,rfl⟩|⟨b,c,z2,rfl,z3,z4⟩
   ·exact⟨ao,0,by rw[show l.length=0 from z2],by rw[show l.length=0 from z2]; exact Nat.le_refl _,.inl z2⟩
   ·refine⟨_,c,rfl,z3,?_⟩
    by_cases hl:l=[]
    ·exact .inl (by rw[hl]; rfl)
    ·exact .inr ⟨b,by rw[hG0,hrb]; simp[hl,z2],by simp,by simpa using z4⟩
  obtain⟨c1,c2⟩:=hf () ((0,0,l.length),x) [l] y1 [l1] hfl (ra:=0) (r:=0) hW1 rfl ⟨fun _ _ h=>by cases h⟩ hv1
  refine⟨c1,c2.mono ?_⟩;rintro e' w' ⟨v',G1,μ1,rfl,ee,hW',hvv⟩;have hb1:∀ b,rb=some b→G1.row 0=some b:=fun b hb=>ee.row 0 b (by rw[hG0]; simp[hb])
  have hH1:(((aBK (Tk.none.ow () 0) [some (arB e t [l])]).set 0 none)++(some (arB e t [l1])::(An.data rets).hp y1):Heap)[1]?=some (some (arB e t [l1])):=rfl;have hn0:∀ b,b<w.heap.size→¬ n0 b→w'.heap[b]?=w.heap[b]?:=fun b hb hn=>ee.old b hb (by
   rintro(h|h)
   ·exact Nat.not_le.2 hb h
   ·exact hn (hmine b (hrbl b h).1).1)
  have hgg:∀ b,G b→G0 b:=fun b hb=>by rw[hok]; exact hb
  have e2:Ext n0 w G μ w' (G1.with G) μ:={
   good:=fun b hb=>⟨(ee.good b (hgg b hb)).1,(ee.good b (hgg b hb)).2⟩
   map:=fun _ _ h=>h
   len:=fun _ _ h=>h
   room:=ee.room
   row:=fun _ _ h=>h
   os:=ee.os
   tape:=ee.tape
   output:=ee.output
   size:=ee.size
   old:=hn0
   new:=fun b hb=>by
    rcases ee.new b hb with h|h|h
    ·rw[hok]at h; exact .inl h
    ·exact .inr (hW.base b h)
    ·exact .inr (hmine b (hrbl b h).1).1 }
  have hold:∀ b,b<w.heap.size→rb≠some b→w'.heap[b]?=w.heap[b]?∧(G1 b→G b):=fun b hb hne =>
   ⟨ee.old b hb (by rintro(h|h); exact Nat.not_le.2 hb h; exact hne h),fun hg=>by
    rcases ee.new b hg with h|h|h
    ·rw[hok]at h; exact h
    ·exact absurd hb (Nat.not_lt.2 h)
    ·exact absurd h hne⟩
  have hk2:bC n0 (G1.with G) μ (H.set r none) w':=by
   refine(zZ hW r).aZ e2 ⟨fun _=>rfl,fun j b hj=>hold b (hW.rows.sep j b hj).1 fun h=>hrow j b hj (hrbl b h).1⟩ ?_ (fun b hb=>hW'.lt b hb)
   intro s k1 b hs hb;obtain⟨hs,hsr⟩:=tT hs;refine hold b (hW.rO hs hb) fun h=>?_
   have hrb:=(hrbl b h).1;cases hf:k1.frozen with
   | false=>exact hsr (hW.inj s r k1 _ b hs hk hf rfl hb hrb)
   | true =>
    obtain⟨_,_,_,_,h5,_⟩:=hW.blk s k1 b hs hb;exact(hmine b hrb).2 (h5 hf)
  have hfin:bC n0 (G1.with G) μ (H.set r (some (owB e t l1))) w':=by
   have:=bAJ hk2 (r:=r) (List.getElem?_set_self hlt) (owB e t l1) rfl rfl ?_ ?_
   ·rwa[List.set_set]at this
   ·intro b hb
    have hcells:(∃ c,w'.heap[b]?=some (.cells c e (0,0))∧aQ w' (G1.with G) μ b 0 (aM t l1))∧¬ G1 b:=by
     by_cases hl:l=[]
     ·have hl1:l1=[]:=List.eq_nil_of_length_eq_zero (by rw[hlen,hl]; rfl)
      have hne:rb≠some b:=fun h=>(hrbl b h).2 hl
      obtain⟨o1,o2⟩:=hold b (hW.rO hk hb) hne;obtain⟨c,h3,_⟩:=hW.blk r _ b hk hb;refine⟨⟨c,o1.trans h3,?_⟩,fun h=>(hmine b hb).2 (o2 h)⟩
      rw[hl1]; simp[aM,aQ]
     ·have hbb:rb=some b:=by rw[hrb,if_neg hl]; exact hb
      have hrow1:=hb1 b hbb;obtain⟨_,_,a3⟩:=hW'.rows.arn 1 _ t [l1] hH1 rfl rfl;rcases a3 0 l1 rfl with h|⟨b',z1,z2⟩
      ·exact absurd (List.eq_nil_of_length_eq_zero (by rw[← hlen,h.1]; rfl)) hl
      ·rw[hrow1]at z1
       obtain rfl:=Option.some.inj z1;obtain⟨c0,y1,_⟩:=hW.blk r _ b hk hb;obtain⟨c,z2,z3⟩:=z2.cells (.inr (e2.room b 0 ⟨c0,_,_,y1,Nat.zero_le _⟩));refine⟨⟨c,z2,?_⟩,(hW'.rows.sep 0 b hrow1).2.2.1⟩;exact AU (G:=G1) (G':=G1.with G) (fun b h=>h) _ _ _ _ (E0 t hpl l1) (uO (lS _ _) z3)
    refine⟨hcells.1,(hmine b hb).1,hcells.2,fun s k1 hs hf hsb=>?_,fun j hj=>hrow j b hj hb⟩
    obtain⟨hs,hsr⟩:=tT hs;exact hsr (hW.inj s r k1 _ b hs hk hf rfl hsb hb)
   ·intro g hg
    cases hg;exact⟨rfl,by rw[ht2,hlen]⟩
  refine⟨v',G1.with G,μ,rfl,e2,hfin,?_⟩;exact bHG hlr y1 hvv
 ·cases hy
theorem aUR {g:FuncId} {e:TypeId} {t:Ty} {args:List Kd} {f:Unit→aJ (.hnd t.size::args)→List (List t.den)→Option (aJ []×List (List t.den))} (hf:SR P g e t .none (.hnd t.size::args) (.data []) f) (hd:YR args=true) (hpl:t.plain=true) (he:e≠UJ:=by decide):a9G P g e t args (W9 f):=by
 intro l x l' hy n0 G μ H w us r hW hk hv hnr;refine a2R hf hd hpl rfl he l x () l' ?_ hW hk hv hnr;unfold W9 at hy;unfold aMJ;split at hy
 ·rename_i l1 hfl
  obtain⟨hlen,hy⟩:=aO hy;obtain rfl:=Option.some.inj hy;rw[hfl];show (bif Nat.beq l1.length l.length then some ((),l1) else none)=_;rw[hlen];rfl
 ·cases hy
def bEN(e:TypeId) (t:Ty) (args rets:List Kd) (f:List t.den→aJ args→Option (aJ rets×List t.den)) (qs:List PV) (H:Heap):Option a16:=match a4L e t H qs with
 | some (l,r,ps)=>match a3A args ps with
  | some x=>bif fP.noRefs ps&&gF.noRows (qA args x) then some ⟨aJ rets×List t.den,f l x,fun z=>(aXS rets z.1,H.set r (some (owB e t z.2)))⟩ else none
  | none=>none
 | none=>none
theorem bID {g:FuncId} {e:TypeId} {t:Ty} {args rets:List Kd} {f:List t.den→aJ args→Option (aJ rets×List t.den)} (hf:bDD P g e t args rets f):zK P (g,bEN e t args rets f):=by
 intro qs H rh h y hy n0 G μ w vs hW hv;change bEN e t args rets f qs H=some rh at h;show CC P n0 w G μ g vs.toArray (rh.out y).1 (rh.out y).2;unfold bEN at h;split at h
 ·rename_i l r ps hl
  split at h
  ·rename_i x hx
   obtain⟨hb,h⟩:=aVN h;simp only[Option.some.injEq]at h;subst h;simp only[Bool.and_eq_true]at hb;obtain⟨h0,rfl⟩:=aM9 hW hl;rw[VRs]at hv;obtain⟨u,us,rfl,q1,q2⟩:=hv;exact hf l x y.1 y.2 hy hW h0 (by rw[VRs]; exact⟨u,us,rfl,q1,(NQ args hx (dX _ _ hb.1 q2)).bN⟩) hb.2
  ·cases h
 ·cases h
def bGO(e:TypeId) (t:Ty) (args:List Kd) (f:List t.den→aJ args→Option (List t.den)) (qs:List PV) (H:Heap):Option a16:=match a4L e t H qs with
 | some (l,r,ps)=>match a3A args ps with
  | some x=>bif fP.noRefs ps&&gF.noRows (qA args x) then some ⟨List t.den,f l x,fun l'=>(.tuple [],H.set r (some (owB e t l')))⟩ else none
  | none=>none
 | none=>none
theorem a8X {g:FuncId} {e:TypeId} {t:Ty} {args:List Kd} {f:List t.den→aJ args→Option (List t.den)} (hf:a9G P g e t args f):zK P (g,bGO e t args f):=by
 intro qs H rh h y hy n0 G μ w vs hW hv;change bGO e t args f qs H=some rh at h;show CC P n0 w G μ g vs.toArray (rh.out y).1 (rh.out y).2;unfold bGO at h;split at h
 ·rename_i l r ps hl
  split at h
  ·rename_i x hx
   obtain⟨hb,h⟩:=aVN h;simp only[Option.some.injEq]at h;subst h;simp only[Bool.and_eq_true]at hb;obtain⟨h0,rfl⟩:=aM9 hW hl;rw[VRs]at hv;obtain⟨u,us,rfl,q1,q2⟩:=hv;exact hf l x y hy hW h0 (by rw[VRs]; exact⟨u,us,rfl,q1,(NQ args hx (dX _ _ hb.1 q2)).bN⟩) hb.2
  ·cases h
 ·cases h
end
end Go.PM
namespace Go.PM
open Go Go.RowKit
def bCU(P:Program) (E:Env) (fn:Func) (aZ:Nat) (lt rt:Nat→Option aS) (c:Code) (ae:TypeId) (t:Ty) (tk:Tk) (args:List Kd) (an:An) (l:tk.den) (x:aJ args) (A:List (List t.den)):Option (an.den×List (List t.den)) :=
 bif Nat.ble (tk.pv 0++qA args x).length fn.ntmps then HW P E fn.ntmps aZ lt rt false [] c (start aZ 0 (tk.pv 0++qA args x)) (TH (tk.ow l 0)++[some (arB ae t A)]) (bK1 P fn.results.toList ae t an) else none
section
variable {P:Program} {n0:Nat→Prop} {w w':World} {G G1 G2:Gd} {μ μ2:Mp} {H H':Heap} {ae:TypeId} {t:Ty} {A B:List (List t.den)}
theorem bK6 {E:Env} (hP:XL P) (hE:bE P E) {g:Nat} {fn:Func} (hg:P.funcs[g]?=some fn) {c:Code} (hc:fn.body=some c) {aZ:Nat} {lt rt:Nat→Option aS} {ae:TypeId} {t:Ty} {tk:Tk} {args:List Kd} {an:An} {f:tk.den→aJ args→List (List t.den)→Option (an.den×List (List t.den))}
  (hd:YR args=true) (hl:∀ a∈gR c,aA0 P fn.ntmps lt rt false [] a) (hb:∀ l x A,bCU P E fn aZ lt rt c ae t tk args an l x A=f l x A):SR P g ae t tk args an f:=by
 intro l x A y B hy n0 G μ H w us ra r hW har ho hv;rw[← hb]at hy;unfold bCU at hy;obtain⟨hlen,hy⟩:=aO hy;obtain⟨⟨ex,F',H'⟩,h1,h2⟩:=qZ hE.callee hP.mixed c _ _ _ _ hl hy;obtain⟨vs,B',hex,hvs,hB,hq,rfl⟩:∃ vs B',(ex=.normal∨ex=.ret)∧AZ P F' H' fn.results.toList=some vs∧bFS ae t H'=some B'∧bD5 an (lA vs) H'=some y∧B'.2=B:=by
  unfold bK1 at h1;split at h1
  ·cases h1
  ·rename_i hne
   split at h1
   ·rename_i vs hvs
    split at h1
    ·rename_i B' hB
     split at h1
     ·rename_i y' hy'
      simp only[Option.some.injEq,Prod.mk.injEq]at h1;obtain⟨rfl,h1⟩:=h1;refine⟨vs,B',?_,hvs,hB,hy',h1⟩;cases ex with
      | normal=>exact .inl rfl
      | ret=>exact .inr rfl
      | exit i=>exact absurd rfl (hne i)
     ·cases h1
    ·cases h1
   ·cases h1
 have hargs:VRs w G (mpA μ (tk.ow l r) A.length) (tk.pv 0++qA args x) us:=by
  have hn:=WG args x hd;cases tk with
  | none=>exact VRs.bN (dX _ _ hn hv)
  | own e u =>
   change VRs w G μ (.own r u.size::qA args x) us at hv;change VRs w G _ (.own 0 u.size::qA args x) us;rw[VRs]at hv ⊢;obtain⟨v,us',rfl,q1,q2⟩:=hv;refine⟨v,us',rfl,?_,VRs.bN (dX _ _ hn q2)⟩;rw[VR]at q1 ⊢;exact q1
 have howb:TH (tk.ow l 0)=TH (tk.ow l r):=by cases tk <;> rfl
 have hW1:=aSX hW ho har;rw[← howb]at hW1;have e0:Ext (wrA w G μ (tk.ow l r)) w G aN w G (mpA μ (tk.ow l r) A.length) :=
  ⟨⟨fun b hb=>⟨hb,rfl⟩,fun _ _ h=>(by cases h),fun _ _ h=>(by cases h),fun _ _ h=>h,fun _ _ h=>h⟩,rfl,rfl,rfl,Nat.le_refl _,fun _ _ _=>rfl,fun _ h=>.inl h⟩
 refine⟨enters hg (hP.names g fn hg) (by rw[hc]; rfl) _ _,(callsIn_wide (n:=0)).1 (callsIn_of_wp_marks hg hc trivial ?_)⟩
 have hI:I (wrA w G μ (tk.ow l r)) w G aN fn.ntmps (start aZ 0 (tk.pv 0++qA args x)) (TH (tk.ow l 0)++[some (arB ae t A)]) ⟨us.toArray++Array.replicate (fn.ntmps-us.toArray.size) undef,[]⟩ w :=
  ⟨G,_,e0,hW1,HK (by simpa using hargs) (Nat.le_of_ble_eq_true hlen)⟩
 refine wpIn_mono (h2 none 0 _ w G aN _ w (fun _=>rfl) (fun r _=>⟨rfl,rfl⟩) hI.bMP) ?_
 rintro e1 ⟨tm,ds⟩ w' ⟨rfl,hI',_⟩;have hend:∀ w',IM (wrA w G μ (tk.ow l r)) w G aN fn.ntmps F' H' { tmps:=tm,defers:=[] } w'→LeavesIn Fence.wide 0 P fn tm (fun en w'=>∃ v' G'' μ'',en=.returned v'∧Ext n0 w G μ w' G'' μ''∧bC n0 G'' μ'' (((aBK (tk.ow l r) H).set ra none)++(some (arB ae t B'.2)::an.hp y)) w'∧VR w' G'' μ'' (an.pv y (H.length+1)) v') [] .returning w':=by
  rintro w' ⟨G1,μ1,ee,hW',hF',_⟩;obtain⟨ws,h3,h4⟩:=xW (P:=P) hW' hF' hvs;have hres:(results fn tm).run P w'=.ok (if hh:ws.toArray.size=1 then ws.toArray[0] else .tuple ws.toArray) w':=by
   rw[L9,Array.mapM_eq_mapM_toList];simp only[Sem.run_bind,Sem.run_map,h3,Result.andThen_ok,Sem.run_pure]
  have hrb:=aPP hW' hB;obtain⟨G2,μ3,b1,b2,b3⟩:∃ G2 μ3,Ext n0 w G μ w' G2 μ3∧bC n0 G2 μ3 (((aBK (tk.ow l r) H).set ra none)++(some (arB ae t B'.2)::an.hp y)) w'∧VR w' G2 μ3 (an.pv y (H.length+1)) (if hh:ws.toArray.size=1 then ws.toArray[0] else .tuple ws.toArray):=by
   have hvr:=BL h4;cases an with
   | data rets =>
    simp only[bD5]at hq;split at hq
    ·rename_i q hq'
     have hb:=aY8 (G2:=⟨fun b=>G1 b∨∃ s k,H'[s]?=some (some k)∧k.frozen=false∧μ1.loc s=some b,G1.row⟩) hW ho har ee hW' hrb (os:=none) ⟨fun _ _ _ h=>by cases h⟩ (fun _=>rfl) (fun b hb=>.inl hb) (fun b hb=>by
      rcases hb with h|⟨s,k,z1,z2,z3⟩
      ·exact .inl h
      ·exact .inr ⟨s,k,z1,z2,z3,fun _ _ _ h=>by cases h⟩)
     refine⟨_,_,hb.1,hb.2,?_⟩;have:=QA (G':=⟨fun b=>G1 b∨∃ s k,H'[s]?=some (some k)∧k.frozen=false∧μ1.loc s=some b,G1.row⟩) hW' (fun _ _ h=>h) (fun b hb=>.inl hb) (fun s k1 b hs _ hb=>by
      obtain⟨_,_,_,_,g5,_⟩:=hW'.blk s k1 b hs hb;cases hf:k1.frozen with
      | true=>exact .inl (g5 hf)
      | false=>exact .inr ⟨s,k1,hs,hf,hb⟩) depth _ q _ hq' hvr
     exact(aNF hq this).bN
    ·cases hq
   | own e u =>
    simp only[bD5]at hq;obtain⟨r1,l0,hos,hvv⟩:=aZE hW' hq hvr;have hb:=aY8 (G2:=G1) hW ho har ee hW' hrb hos (fun _=>rfl) (fun b hb=>hb) (fun b hb=>.inl hb)
    refine⟨_,_,hb.1,hb.2,hvv _ _ _ ?_ ?_⟩
    ·have h1:¬ H.length+1<H.length:=by omega
     simp[CP,h1,bLN]
    ·have h1:¬ H.length+1<H.length:=by omega
     simp[CP,h1,bJ9]
  exact⟨_,hres,_,G2,μ3,rfl,b1,b2,b3⟩
 rcases hex with rfl|rfl
 ·exact E3 (fun b hb=>(aSX hW ho har).base b hb) hend ds w' hI'
 ·exact E3 (fun b hb=>(aSX hW ho har).base b hb) hend ds w' hI'
end
end Go.PM
namespace Go.PM
open Go Go.RowKit
def bC3(P:Program) (E:Env) (fn:Func) (aZ:Nat) (lt rt:Nat→Option aS) (c:Code) (ae:TypeId) (t:Ty) (args rets:List Kd) (x:aJ args):Option (aJ rets) :=
 bif Nat.ble (qA args x).length fn.ntmps then HW P E fn.ntmps aZ lt rt false [] c (start aZ 0 (qA args x)) [some (arB ae t [])] (bAK P fn.results.toList rets) else none
section
variable {P:Program}
theorem bMC {E:Env} (hP:XL P) (hE:bE P E) {g:Nat} {fn:Func} (hg:P.funcs[g]?=some fn) {c:Code} (hc:fn.body=some c) {aZ:Nat} {lt rt:Nat→Option aS} {ae:TypeId} {t:Ty} {args rets:List Kd} {f:aJ args→Option (aJ rets)}
  (hl:∀ a∈gR c,aA0 P fn.ntmps lt rt false [] a) (hb:∀ x,bC3 P E fn aZ lt rt c ae t args rets x=f x):eB P g args rets f:=by
 intro x y hy;rw[← hb]at hy;unfold bC3 at hy;obtain⟨hlen,hy⟩:=aO hy;obtain⟨⟨ex,F',H'⟩,h1,h2⟩:=qZ hE.callee hP.mixed c _ _ _ _ hl hy;obtain⟨vs,q,hex,hvs,hq,hd⟩:∃ vs q,(ex=.normal∨ex=.ret)∧AZ P F' H' fn.results.toList=some vs∧bDT H' (lA vs)=some q∧bBU rets q=some y:=by
  unfold bAK at h1;split at h1
  ·cases h1
  ·rename_i hne
   split at h1
   ·rename_i vs hvs
    split at h1
    ·rename_i q hq
     refine⟨vs,q,?_,hvs,hq,h1⟩;cases ex with
     | normal=>exact .inl rfl
     | ret=>exact .inr rfl
     | exit i=>exact absurd rfl (hne i)
    ·cases h1
   ·cases h1
 obtain⟨hq1,hq2⟩:=W0 hq;intro w G us hlt hv;have at0:∀ (s:Nat) (k1:Blk),([some (arB ae t [])]:Heap)[s]?=some (some k1)→s=0∧k1=arB ae t []:=by
  intro s k1 hs;cases s with
  | zero=>simp only[List.getElem?_cons_zero,Option.some.injEq]at hs; exact⟨rfl,hs.symm⟩
  | succ s=>simp at hs
 have hW:bC (D2 w) (Gd.of G) ⟨fun _=>none,fun r=>if r=0 then some 0 else none⟩ [some (arB ae t [])] w:=by
  refine⟨(fun r k b h hb=>by cases hb),(fun r k g h hg=>?_),(fun r s k l b h _ _ _ hb=>by cases hb),hlt,(fun r hr=>⟨rfl,?_⟩),fun _ h=>h,⟨(fun _ _ _ h=>by cases h),(fun _ _ h=>by cases h),(fun _ _ h=>by cases h),(fun r k u l h hgr ht=>?_),(fun r s k k' u l u' l' h1 g1 t1 h2 g2 t2=>by rw[(at0 r k h1).1,(at0 s k' h2).1])⟩⟩
  ·obtain⟨rfl,rfl⟩:=at0 r k h
   cases hg;exact⟨rfl,rfl⟩
  ·have:r≠0:=by rintro rfl; simp at hr
   simp[this]
  ·obtain⟨rfl,rfl⟩:=at0 r k h
   cases ht;exact⟨rfl,fun _ _=>rfl,fun j row hj=>by simp at hj⟩
 have e0:Ext (D2 w) w (Gd.of G) aN w (Gd.of G) ⟨fun _=>none,fun r=>if r=0 then some 0 else none⟩ :=
  ⟨⟨fun b hb=>⟨hb,rfl⟩,fun _ _ h=>(by cases h),fun _ _ h=>(by cases h),fun _ _ h=>h,fun _ _ h=>h⟩,rfl,rfl,rfl,Nat.le_refl _,fun _ _ _=>rfl,fun _ h=>.inl h⟩
 refine⟨enters hg (hP.names g fn hg) (by rw[hc]; rfl) _ _,(callsIn_wide (n:=0)).1 (callsIn_of_wp_marks hg hc trivial ?_)⟩
 have hI:I (D2 w) w (Gd.of G) aN fn.ntmps (start aZ 0 (qA args x)) [some (arB ae t [])] ⟨us++Array.replicate (fn.ntmps-us.size) undef,[]⟩ w:=⟨Gd.of G,_,e0,hW,HK hv.bN (Nat.le_of_ble_eq_true hlen)⟩;refine wpIn_mono (h2 none 0 _ w (Gd.of G) aN _ w (fun _=>rfl) (fun r _=>⟨rfl,rfl⟩) hI.bMP) ?_
 rintro e1 ⟨tm,ds⟩ w' ⟨rfl,hI',_⟩;have hend:∀ w',IM (D2 w) w (Gd.of G) aN fn.ntmps F' H' { tmps:=tm,defers:=[] } w'→LeavesIn Fence.wide 0 P fn tm (fun en w'=>∃ v' G',en=.returned v'∧Ext (D2 w) w (Gd.of G) aN w' (Gd.of G') aN∧(∀ b,G' b→b<w'.heap.size)∧VR w' (Gd.of G') aN (aXS rets y) v') [] .returning w':=by
  rintro w' ⟨G1,μ1,e1,e2,hF',_⟩;obtain⟨ws,h3,h4⟩:=xW (P:=P) e2 hF' hvs;have hres:(results fn tm).run P w'=.ok (if hh:ws.toArray.size=1 then ws.toArray[0] else .tuple ws.toArray) w':=by
   rw[L9,Array.mapM_eq_mapM_toList];simp only[Sem.run_bind,Sem.run_map,h3,Result.andThen_ok,Sem.run_pure]
  have hval:=W6 (G:=⟨fun b=>G1 b∨∃ r k,H'[r]?=some (some k)∧μ1.loc r=some b,G1.row⟩) (G':=Gd.of fun b=>G1 b∨∃ r k,H'[r]?=some (some k)∧μ1.loc r=some b) (fun b h=>h) _ _ _ hq2
    (QA (G':=⟨fun b=>G1 b∨∃ r k,H'[r]?=some (some k)∧μ1.loc r=some b,G1.row⟩) e2 (fun _ _ h=>h) (fun b hb=>.inl hb) (fun r k b hr _ hb=>.inr ⟨r,k,hr,hb⟩) depth _ q _ hq1 (BL h4))
  have hext:Ext (D2 w) w (Gd.of G) aN w' (Gd.of fun b=>G1 b∨∃ r k,H'[r]?=some (some k)∧μ1.loc r=some b) aN:={
   good:=fun b hb=>⟨.inl (e1.good b hb).1,(e1.good b hb).2⟩
   map:=fun _ _ h=>h
   len:=fun _ _ h=>h
   room:=e1.room
   row:=fun _ _ h=>h
   os:=e1.os
   tape:=e1.tape
   output:=e1.output
   size:=e1.size
   old:=e1.old
   new:=fun b hb=>by
    rcases hb with hb|⟨r,k,hr,hb⟩
    ·exact e1.new b hb
    ·obtain⟨c,_,_,_,g5,g6⟩:=e2.blk r k b hr hb
     cases hf:k.frozen with
     | true=>exact e1.new b (g5 hf)
     | false=>exact .inr (g6 hf).1 }
  have hlt':∀ b,(G1 b∨∃ r k,H'[r]?=some (some k)∧μ1.loc r=some b)→b<w'.heap.size:=by
   rintro b (hb|⟨r,k,hr,hb⟩)
   ·exact e2.lt b hb
   ·exact e2.rO hr hb
  exact⟨_,hres,_,_,rfl,hext,hlt',aNF hd hval⟩
 rcases hex with rfl|rfl
 ·exact E3 (fun b hb=>hW.base b hb) hend ds w' hI'
 ·exact E3 (fun b hb=>hW.base b hb) hend ds w' hI'
end
end Go.PM
namespace Go.PM
open Go Go.RowKit Go.Proofs
set_option maxRecDepth 100000
set_option maxHeartbeats 4000000
def cN(x:aJ [.str]):Option (aJ [.bool,.str]):=match x with
 | (v0,()) =>
  bif ltI 0 (v0.size:Int) then
   bif aL 0 v0.size then bif eqI (a3I v0 0) 45 then
    bif Nat.ble 1 v0.size then bif Nat.ble v0.size v0.size then some (true,(v0.extract 1 v0.size),()) else none else none
   else some (false,v0,()) else none
  else some (false,v0,())
noncomputable def aGQ:Code:=aT Tryz.f179
abbrev aRZ:Env:=b8 []
theorem aXO:bE Tryz.prog aRZ:=bF trivial
def aPI(id:Nat):Option aS:=none
theorem aUX:aF aGQ=[]:=by kernel_rfl
theorem aX6:∀ x,cI Tryz.prog aRZ Tryz.f179 (aD Tryz.f179) aPI aGQ _ _ x=cN x:=by
 rintro⟨v0,⟨⟩⟩
 kernel_rfl
theorem a3T:eB Tryz.prog 179 _ _ cN:=by
 exact bL aK aXO Tryz.func179 (c:=aGQ) (by kernel_rfl) (aZ:=aD Tryz.f179) (lt:=aPI) (aE aUX trivial) aX6
abbrev ER:Ent:=⟨179,_,_,cN⟩
theorem zW:Ent.OK Tryz.prog ER:=a3T
def aA(x:aJ [.bool,.str]):Option (aJ [.str]):=match x with
 | (v0,v1,()) =>
  bif v0 then
   bif !(eqS v1 (ByteArray.mk #[48])) then
    bif Nat.ble ((ByteArray.mk #[45]).size+v1.size) 9223372036854775807 then some (((ByteArray.mk #[45])++v1),()) else none
   else some (v1,())
  else some (v1,())
noncomputable def aMA:Code:=aT Tryz.f180
abbrev aWN:Env:=b8 []
theorem a1T:bE Tryz.prog aWN:=bF trivial
def aSN(id:Nat):Option aS:=none
theorem aX5:aF aMA=[]:=by kernel_rfl
theorem a0C:∀ x,cI Tryz.prog aWN Tryz.f180 (aD Tryz.f180) aSN aMA _ _ x=aA x:=by
 rintro⟨v0,v1,⟨⟩⟩
 kernel_rfl
theorem a7S:eB Tryz.prog 180 _ _ aA:=by
 exact bL aK a1T Tryz.func180 (c:=aMA) (by kernel_rfl) (aZ:=aD Tryz.f180) (lt:=aSN) (aE aX5 trivial) a0C
abbrev R4:Ent:=⟨180,_,_,aA⟩
theorem OE:Ent.OK Tryz.prog R4:=a7S
def p8(x:aJ [.str,.int .i64]):Option (aJ [.int .i64,.bool]):=match x with
 | (v0,v1,()) =>
  bif ltI v1 (v0.size:Int) then
   some (0,false,())
  else aC (KY (v0,())) fun y1 =>
  some (y1.1,true,())
noncomputable def aC2:Code:=aT Tryz.f178
abbrev aPB:Env:=b8 [aPE]
theorem aVX:bE Tryz.prog aPB:=bF ⟨aVP,trivial⟩
def aMR(id:Nat):Option aS:=none
theorem aSS:aF aC2=[]:=by kernel_rfl
theorem aUV:∀ x,cI Tryz.prog aPB Tryz.f178 (aD Tryz.f178) aMR aC2 _ _ x=p8 x:=by
 rintro⟨v0,v1,⟨⟩⟩
 kernel_rfl
theorem a1L:eB Tryz.prog 178 _ _ p8:=by
 exact bL aK aVX Tryz.func178 (c:=aC2) (by kernel_rfl) (aZ:=aD Tryz.f178) (lt:=aMR) (aE aSS trivial) aUV
abbrev Q4:Ent:=⟨178,_,_,p8⟩
theorem QT:Ent.OK Tryz.prog Q4:=a1L
def j3(x:aJ [.int .i64]):Option (aJ [.str]):=match x with
 | (v0,()) =>
  aC (K1 (v0,())) fun y1 =>
  some (y1.1,())
noncomputable def aVE:Code:=aT Tryz.f137
abbrev a4P:Env:=b8 [aPJ]
theorem a8N:bE Tryz.prog a4P:=bF ⟨aU7,trivial⟩
def a0G(id:Nat):Option aS:=none
theorem a2U:aF aVE=[]:=by kernel_rfl
theorem a8J:∀ x,cI Tryz.prog a4P Tryz.f137 (aD Tryz.f137) a0G aVE _ _ x=j3 x:=by
 rintro⟨v0,⟨⟩⟩
 kernel_rfl
theorem bDU:eB Tryz.prog 137 _ _ j3:=by
 exact bL aK a8N Tryz.func137 (c:=aVE) (by kernel_rfl) (aZ:=aD Tryz.f137) (lt:=a0G) (aE a2U trivial) a8J
abbrev QO:Ent:=⟨137,_,_,j3⟩
theorem JG:Ent.OK Tryz.prog QO:=bDU
def JI(x:aJ [.str]):Option (aJ [.int .i64,.bool]):=match x with
 | (v0,()) =>
  aC (AG (v0,10,64,())) fun y1 =>
  some (y1.1,true,())
noncomputable def aFP:Code:=aT Tryz.f210
abbrev aS9:Env:=b8 [aAY]
theorem aYU:bE Tryz.prog aS9:=bF ⟨aLT,trivial⟩
def aOV(id:Nat):Option aS:=none
theorem aU1:aF aFP=[]:=by kernel_rfl
theorem aX1:∀ x,cI Tryz.prog aS9 Tryz.f210 (aD Tryz.f210) aOV aFP _ _ x=JI x:=by
 rintro⟨v0,⟨⟩⟩
 kernel_rfl
theorem a3M:eB Tryz.prog 210 _ _ JI:=by
 exact bL aK aYU Tryz.func210 (c:=aFP) (by kernel_rfl) (aZ:=aD Tryz.f210) (lt:=aOV) (aE aU1 trivial) aX1
abbrev aS7:Ent:=⟨210,_,_,JI⟩
theorem aXZ:Ent.OK Tryz.prog aS7:=a3M
def AE(x:aJ [.str]):Option (aJ [.int .i64]):=match x with
 | (v0,()) =>
  bif eqS v0 (ByteArray.mk #[48]) then
   some (0,())
  else bif aL 0 v0.size then bif eqI (a3I v0 0) 45 then
   some ((-1),())
  else some (1,()) else none
noncomputable def aKH:Code:=aT Tryz.f167
abbrev aWM:Env:=b8 []
theorem a2B:bE Tryz.prog aWM:=bF trivial
def aS8(id:Nat):Option aS:=none
theorem aX0:aF aKH=[]:=by kernel_rfl
theorem a1Z:∀ x,cI Tryz.prog aWM Tryz.f167 (aD Tryz.f167) aS8 aKH _ _ x=AE x:=by
 rintro⟨v0,⟨⟩⟩
 kernel_rfl
theorem a7E:eB Tryz.prog 167 _ _ AE:=by
 exact bL aK a2B Tryz.func167 (c:=aKH) (by kernel_rfl) (aZ:=aD Tryz.f167) (lt:=aS8) (aE aX0 trivial) a1Z
abbrev aMD:Ent:=⟨167,_,_,AE⟩
theorem aK7:Ent.OK Tryz.prog aMD:=a7E
def sN(x:aJ [.int .u64]):Option (aJ [.str]):=match x with
 | (v0,()) =>
  aC (wX (v0,10,())) fun y1 =>
  some (y1.1,())
noncomputable def aKV:Code:=aT Tryz.f214
abbrev aWF:Env:=b8 [UP]
theorem aZ2:bE Tryz.prog aWF:=bF ⟨aHB,trivial⟩
def aSV(id:Nat):Option aS:=none
theorem aX7:aF aKV=[]:=by kernel_rfl
theorem aZK:∀ x,cI Tryz.prog aWF Tryz.f214 (aD Tryz.f214) aSV aKV _ _ x=sN x:=by
 rintro⟨v0,⟨⟩⟩
 kernel_rfl
theorem a6V:eB Tryz.prog 214 _ _ sN:=by
 exact bL aK aZ2 Tryz.func214 (c:=aKV) (by kernel_rfl) (aZ:=aD Tryz.f214) (lt:=aSV) (aE aX7 trivial) aZK
abbrev SV:Ent:=⟨214,_,_,sN⟩
theorem OO:Ent.OK Tryz.prog SV:=a6V
def yS(x:aJ [.str]):Option (aJ [.int .u64,.bool]):=match x with
 | (v0,()) =>
  aC (yL (v0,10,64,())) fun y1 =>
  some (y1.1,true,())
noncomputable def XH:Code:=aT Tryz.f234
abbrev aMY:Env:=b8 [Y5]
theorem aS5:bE Tryz.prog aMY:=bF ⟨aJR,trivial⟩
def aIM(id:Nat):Option aS:=none
theorem aPT:aF XH=[]:=by kernel_rfl
theorem aTO:∀ x,cI Tryz.prog aMY Tryz.f234 (aD Tryz.f234) aIM XH _ _ x=yS x:=by
 rintro⟨v0,⟨⟩⟩
 kernel_rfl
theorem aXV:eB Tryz.prog 234 _ _ yS:=by
 exact bL aK aS5 Tryz.func234 (c:=XH) (by kernel_rfl) (aZ:=aD Tryz.f234) (lt:=aIM) (aE aPT trivial) aTO
abbrev aLK:Ent:=⟨234,_,_,yS⟩
theorem aSB:Ent.OK Tryz.prog aLK:=aXV
def pS(x:aJ [.str,.str]):Option (aJ [.int .u64,.int .u64,.bool]):=match x with
 | (v0,v1,()) =>
  bif ltI 18 (v0.size:Int) then
   some (0,0,false,())
  else bif ltI 18 (v1.size:Int) then
   some (0,0,false,())
  else aC (yS (v0,())) fun y1 =>
  aC (yS (v1,())) fun y2 =>
  some (y1.1,y2.1,true,())
noncomputable def aBR:Code:=aT Tryz.f213
abbrev aO0:Env:=b8 [aLK]
theorem aUW:bE Tryz.prog aO0:=bF ⟨aSB,trivial⟩
def aKT(id:Nat):Option aS:=none
theorem aSY:aF aBR=[]:=by kernel_rfl
theorem aVQ:∀ x,cI Tryz.prog aO0 Tryz.f213 (aD Tryz.f213) aKT aBR _ _ x=pS x:=by
 rintro⟨v0,v1,⟨⟩⟩
 kernel_rfl
theorem aZ0:eB Tryz.prog 213 _ _ pS:=by
 exact bL aK aUW Tryz.func213 (c:=aBR) (by kernel_rfl) (aZ:=aD Tryz.f213) (lt:=aKT) (aE aSY trivial) aVQ
abbrev KU:Ent:=⟨213,_,_,pS⟩
theorem I4:Ent.OK Tryz.prog KU:=aZ0
def fE(x:aJ [.str,.str]):Option (aJ [.int .i64]):=match x with
 | (v0,v1,()) =>
  bif !(eqI (v0.size:Int) (v1.size:Int)) then
   some ((if (if (-1)<(aB .i64 ((v0.size:Int)-(v1.size:Int))) then (aB .i64 ((v0.size:Int)-(v1.size:Int))) else (-1))<1 then (if (-1)<(aB .i64 ((v0.size:Int)-(v1.size:Int))) then (aB .i64 ((v0.size:Int)-(v1.size:Int))) else (-1)) else 1),())
  else bif ltS v0 v1 then
   some ((-1),())
  else bif !(ltS v0 v1||eqS v0 v1) then
   some (1,())
  else some (0,())
noncomputable def QM:Code:=aT Tryz.f182
abbrev aFI:Env:=b8 []
theorem aOP:bE Tryz.prog aFI:=bF trivial
def aAX(id:Nat):Option aS:=none
theorem aL4:aF QM=[]:=by kernel_rfl
theorem aOR:∀ x,cI Tryz.prog aFI Tryz.f182 (aD Tryz.f182) aAX QM _ _ x=fE x:=by
 rintro⟨v0,v1,⟨⟩⟩
 kernel_rfl
theorem aSM:eB Tryz.prog 182 _ _ fE:=by
 exact bL aK aOP Tryz.func182 (c:=QM) (by kernel_rfl) (aZ:=aD Tryz.f182) (lt:=aAX) (aE aL4 trivial) aOR
abbrev JM:Ent:=⟨182,_,_,fE⟩
theorem KN:Ent.OK Tryz.prog JM:=aSM
def CS(x:aJ [.str,.str]):Option (aJ [.int .i64]):=match x with
 | (v0,v1,()) =>
  aC (AE (v0,())) fun y1 =>
  aC (AE (v1,())) fun y2 =>
  bif !(eqI y1.1 y2.1) then
   bif ltI y1.1 y2.1 then
    some ((-1),())
   else some (1,())
  else aC (cN (v0,())) fun y3 =>
  aC (cN (v1,())) fun y4 =>
  bif y3.1 then
   aC (fE (y4.2.1,y3.2.1,())) fun y5 =>
   some (y5.1,())
  else aC (fE (y3.2.1,y4.2.1,())) fun y6 =>
  some (y6.1,())
noncomputable def ZQ:Code:=aT Tryz.f163
abbrev aLZ:Env:=b8 [JM,aMD,ER]
theorem aTX:bE Tryz.prog aLZ:=bF ⟨KN,aK7,zW,trivial⟩
def aIE(id:Nat):Option aS:=none
theorem aQM:aF ZQ=[]:=by kernel_rfl
theorem aRU:∀ x,cI Tryz.prog aLZ Tryz.f163 (aD Tryz.f163) aIE ZQ _ _ x=CS x:=by
 rintro⟨v0,v1,⟨⟩⟩
 kernel_rfl
theorem aXW:eB Tryz.prog 163 _ _ CS:=by
 exact bL aK aTX Tryz.func163 (c:=ZQ) (by kernel_rfl) (aZ:=aD Tryz.f163) (lt:=aIE) (aE aQM trivial) aRU
abbrev aMS:Ent:=⟨163,_,_,CS⟩
theorem aR2:Ent.OK Tryz.prog aMS:=aXW
def LZ(x:aJ [.str]):Option (aJ [.str]):=match x with
 | (v0,()) =>
  aC (cN (v0,())) fun y1 =>
  bif y1.1 then
   aC (aA (false,y1.2.1,())) fun y2 =>
   some (y2.1,())
  else aC (aA (true,y1.2.1,())) fun y3 =>
  some (y3.1,())
noncomputable def aRM:Code:=aT Tryz.f207
abbrev aZP:Env:=b8 [R4,ER]
theorem a4E:bE Tryz.prog aZP:=bF ⟨OE,zW,trivial⟩
def aXB(id:Nat):Option aS:=none
theorem a02:aF aRM=[]:=by kernel_rfl
theorem a4G:∀ x,cI Tryz.prog aZP Tryz.f207 (aD Tryz.f207) aXB aRM _ _ x=LZ x:=by
 rintro⟨v0,⟨⟩⟩
 kernel_rfl
theorem bBQ:eB Tryz.prog 207 _ _ LZ:=by
 exact bL aK a4E Tryz.func207 (c:=aRM) (by kernel_rfl) (aZ:=aD Tryz.f207) (lt:=aXB) (aE a02 trivial) a4G
abbrev aQ2:Ent:=⟨207,_,_,LZ⟩
theorem aOU:Ent.OK Tryz.prog aQ2:=bBQ
def LO(x:aJ [.str]):Option (aJ [.str]):=match x with
 | (v0,()) =>
  aC (cN (v0,())) fun y1 =>
  some (y1.2.1,())
noncomputable def aQT:Code:=aT Tryz.f164
abbrev a0J:Env:=b8 [ER]
theorem a3O:bE Tryz.prog a0J:=bF ⟨zW,trivial⟩
def aXA(id:Nat):Option aS:=none
theorem a07:aF aQT=[]:=by kernel_rfl
theorem a2X:∀ x,cI Tryz.prog a0J Tryz.f164 (aD Tryz.f164) aXA aQT _ _ x=LO x:=by
 rintro⟨v0,⟨⟩⟩
 kernel_rfl
theorem bBA:eB Tryz.prog 164 _ _ LO:=by
 exact bL aK a3O Tryz.func164 (c:=aQT) (by kernel_rfl) (aZ:=aD Tryz.f164) (lt:=aXA) (aE a07 trivial) a2X
abbrev a00:Ent:=⟨164,_,_,LO⟩
theorem a3V:Ent.OK Tryz.prog a00:=bBA
abbrev gA:List (Nat×Kd):=[(0,.hnd 1),(2,.int .i64),(3,.int .i64),(100000,.ar 5 (.int .u8))]
abbrev jE:List (Ex×List (Nat×Kd)):=[(.exit 0,[(100000,.ar 5 (.int .u8))])]
def hO(x:Shape.den gA):Option (Shape.den gA⊕aW jE):=match x with
 | (v0,v2,v3,v100000,()) =>
  bif ltI v2 v3 then
   bif aL v3 v0.2.2 then bif Nat.blt ((v0.2.1+v3.toNat)*1) (dH v100000 v0.1) then bif aL v2 v0.2.2 then bif Nat.blt ((v0.2.1+v2.toNat)*1) (dH v100000 v0.1) then bif aL v2 v0.2.2 then bif Nat.blt ((v0.2.1+v2.toNat)*1) (dH v100000 v0.1) then bif aL v3 v0.2.2 then bif Nat.blt ((v0.2.1+v3.toNat)*1) (dH (yQ v100000 v0.1 ((v0.2.1+v2.toNat)*1) (eD v100000 v0.1 ((v0.2.1+v3.toNat)*1) 0)) v0.1) then some (.inl ((v0.1,v0.2.1,v0.2.2),(aB .i64 (v2+1)),(aB .i64 (v3-1)),(yQ (yQ v100000 v0.1 ((v0.2.1+v2.toNat)*1) (eD v100000 v0.1 ((v0.2.1+v3.toNat)*1) 0)) v0.1 ((v0.2.1+v3.toNat)*1) (eD v100000 v0.1 ((v0.2.1+v2.toNat)*1) 0)),())) else none else none else none else none else none else none else none else none
  else some (.inr ((v100000,())))
def mJ(x:Shape.den gA):Option (aW jE):=bZ hO (2^64) x
def eH(u0:Unit) (x:aJ [.hnd 1]) (A:List (List Int)):Option ((aJ [])×List (List Int)):=match x with
 | (v0,()) =>
  aC (mJ ((v0.1,v0.2.1,v0.2.2),0,(aB .i64 (((v0.2.2:Nat):Int)-1)),A,())) fun z1 =>
  some ((()),z1.1)
noncomputable def rI:Code:=aT Tryz.f236
abbrev xP:Env:=b8 []
theorem CG:bE Tryz.prog xP:=bF trivial
noncomputable def kQ:Code:=dS rI 0
def wM(id:Nat):Option aS:=bif Nat.beq id 1 then some ⟨gA,jE,mJ⟩ else none
theorem NA:∀ x,dM Tryz.prog xP 28 (aD Tryz.f236) wM kQ gA jE x=hO x:=by
 rintro⟨v0,v2,v3,v100000,⟨⟩⟩
 kernel_rfl
theorem QJ:aF kQ=[]:=by kernel_rfl
theorem NJ:aH kQ=1:=by kernel_rfl
theorem N1:cF Tryz.prog 28 kQ ⟨gA,jE,mJ⟩:=by
 exact cC CG.callee aK.mixed _ (aE QJ trivial) NA
theorem OU:aF rI=[kQ]:=by kernel_rfl
theorem PK:∀ l x A,JN Tryz.prog xP Tryz.f236 (aD Tryz.f236) wM rI 5 (.int .u8) .none [.hnd 1] (.data []) l x A=eH l x A:=by
 rintro u0 ⟨v0,⟨⟩⟩ A
 kernel_rfl
theorem TS:SR Tryz.prog 236 5 (.int .u8) .none [.hnd 1] (.data []) eH:=by
 exact C4 aK CG Tryz.func236 (c:=rI) (by kernel_rfl) (aZ:=aD Tryz.f236) (lt:=wM) (by rfl) (aE OU ⟨cB NJ rfl N1,trivial⟩) PK
theorem RB:a9G Tryz.prog 236 5 (.int .u8) [] (W9 eH):=aUR TS (by rfl) (by rfl)
abbrev FN:Shr:=(236,aAO 1 (bGO 5 (.int .u8) [] (W9 eH)))
theorem O0:zK Tryz.prog FN:=uK (a8X RB)
abbrev lY:List (Nat×Kd):=[(0,.list (.int .u64))]
abbrev p7:List (Ex×List (Nat×Kd)):=[(.exit 0,[(0,.list (.int .u64))])]
def jI(x:Shape.den lY):Option (Shape.den lY⊕aW p7):=match x with
 | (v0,()) =>
  bif ltI 0 (v0.length:Int) then
   bif aL (aB .i64 ((v0.length:Int)-1)) v0.length then bif eqI (v0.getD ((aB .i64 ((v0.length:Int)-1)).toNat) 0) 0 then
    bif !(ltI (aB .i64 ((v0.length:Int)-1)) 0) then bif Nat.ble 0 ((aB .i64 ((v0.length:Int)-1)).toNat) then bif Nat.ble ((aB .i64 ((v0.length:Int)-1)).toNat) v0.length then some (.inl (((v0.drop 0).take ((aB .i64 ((v0.length:Int)-1)).toNat-0)),())) else none else none else none
   else some (.inr ((v0,()))) else none
  else some (.inr ((v0,())))
def yX(x:Shape.den lY):Option (aW p7):=bZ jI (2^64) x
def l8(x:aJ [.list (.int .u64)]):Option (aJ [.list (.int .u64)]):=match x with
 | (v0,()) =>
  aC (yX (v0,())) fun z1 =>
  some (z1.1,())
noncomputable def zB:Code:=aT Tryz.f217
abbrev GP:Env:=b8 []
theorem LA:bE Tryz.prog GP:=bF trivial
noncomputable def rE:Code:=dS zB 0
def ET(id:Nat):Option aS:=bif Nat.beq id 1 then some ⟨lY,p7,yX⟩ else none
theorem WE:∀ x,dM Tryz.prog GP 21 (aD Tryz.f217) ET rE lY p7 x=jI x:=by
 rintro⟨v0,⟨⟩⟩
 kernel_rfl
theorem aCQ:aF rE=[]:=by kernel_rfl
theorem VN:aH rE=1:=by kernel_rfl
theorem XD:cF Tryz.prog 21 rE ⟨lY,p7,yX⟩:=by
 exact cC LA.callee aK.mixed _ (aE aCQ trivial) WE
theorem aAD:aF zB=[rE]:=by kernel_rfl
theorem aC0:∀ x,cI Tryz.prog GP Tryz.f217 (aD Tryz.f217) ET zB _ _ x=l8 x:=by
 rintro⟨v0,⟨⟩⟩
 kernel_rfl
theorem aHN:eB Tryz.prog 217 _ _ l8:=by
 exact bL aK LA Tryz.func217 (c:=zB) (by kernel_rfl) (aZ:=aD Tryz.f217) (lt:=ET) (aE aAD ⟨cB VN rfl XD,trivial⟩) aC0
abbrev PH:Ent:=⟨217,_,_,l8⟩
theorem aBT:Ent.OK Tryz.prog PH:=aHN
abbrev iQ:List (Nat×Kd):=[(0,.own 180 (.int .u64)),(100000,.ar 180 (.int .u64))]
abbrev mQ:List (Ex×List (Nat×Kd)):=[(.exit 0,[(0,.own 180 (.int .u64)),(100000,.ar 180 (.int .u64))])]
def kF(x:Shape.den iQ):Option (Shape.den iQ⊕aW mQ):=match x with
 | (v0,v100000,()) =>
  bif ltI 0 (v0.length:Int) then
   bif aL (aB .i64 ((v0.length:Int)-1)) v0.length then bif Nat.blt ((aB .i64 ((v0.length:Int)-1)).toNat) v0.length then bif eqI (v0.getD ((aB .i64 ((v0.length:Int)-1)).toNat) 0) 0 then
    bif !(ltI (aB .i64 ((v0.length:Int)-1)) 0) then bif Nat.ble 0 ((aB .i64 ((v0.length:Int)-1)).toNat) then bif Nat.ble ((aB .i64 ((v0.length:Int)-1)).toNat) v0.length then bif Nat.blt 0 v0.length then some (.inl ((v0.take ((aB .i64 ((v0.length:Int)-1)).toNat-0)),v100000,())) else none else none else none else none
   else some (.inr ((v0,v100000,()))) else none else none
  else some (.inr ((v0,v100000,())))
def vI(x:Shape.den iQ):Option (aW mQ):=bZ kF (2^64) x
def bJ(v0:List Int) (x:aJ []) (A:List (List Int)):Option ((List Int)×List (List Int)):=match x with
 | (()) =>
  aC (vI (v0,A,())) fun z1 =>
  some (z1.1,z1.2.1)
noncomputable def uL:Code:=aT Tryz.f217
abbrev BD:Env:=b8 []
theorem HE:bE Tryz.prog BD:=bF trivial
noncomputable def nE:Code:=dS uL 0
def zN(id:Nat):Option aS:=bif Nat.beq id 1 then some ⟨iQ,mQ,vI⟩ else none
theorem P6:∀ x,dM Tryz.prog BD 21 (aD Tryz.f217) zN nE iQ mQ x=kF x:=by
 rintro⟨v0,v100000,⟨⟩⟩
 kernel_rfl
theorem VM:aF nE=[]:=by kernel_rfl
theorem P4:aH nE=1:=by kernel_rfl
theorem SJ:cF Tryz.prog 21 nE ⟨iQ,mQ,vI⟩:=by
 exact cC HE.callee aK.mixed _ (aE VM trivial) P6
theorem UA:aF uL=[nE]:=by kernel_rfl
theorem VS:∀ l x A,JN Tryz.prog BD Tryz.f217 (aD Tryz.f217) zN uL 180 (.int .u64) (.own 180 (.int .u64)) [] (.own 180 (.int .u64)) l x A=bJ l x A:=by
 rintro u0 ⟨⟨⟩⟩ A
 kernel_rfl
theorem Z4:SR Tryz.prog 217 180 (.int .u64) (.own 180 (.int .u64)) [] (.own 180 (.int .u64)) bJ:=by
 exact C4 aK HE Tryz.func217 (c:=uL) (by kernel_rfl) (aZ:=aD Tryz.f217) (lt:=zN) (by rfl) (aE UA ⟨cB P4 rfl SJ,trivial⟩) VS
abbrev iH:Shr:=(217,aAO 1 (arH 180 (.int .u64) (.own 180 (.int .u64)) [] (.own 180 (.int .u64)) bJ))
theorem iP:zK Tryz.prog iH:=uK (g:=217) (f:=arH 180 (.int .u64) (.own 180 (.int .u64)) [] (.own 180 (.int .u64)) bJ) (IF Z4)
abbrev uD:List (Nat×Kd):=[(0,.str),(3,.own 180 (.int .u64)),(4,.int .i64),(5,.int .u64),(25,.list (.int .u8)),(26,.int .i64),(27,.int .i64),(100000,.ar 180 (.int .u64))]
abbrev yT:List (Ex×List (Nat×Kd)):=[(.exit 2,[(0,.str),(3,.own 180 (.int .u64)),(4,.int .i64),(5,.int .u64),(100000,.ar 180 (.int .u64))])]
def vF(x:Shape.den uD):Option (Shape.den uD⊕aW yT):=match x with
 | (v0,v3,v4,v5,v25,v26,v27,v100000,()) =>
  bif ltI v27 v26 then
   bif aL v27 v25.length then some (.inl (v0,v3,v4,(aB .u64 ((aB .u64 (10*v5))+(IntKind.wrap .u64 (aB .u8 ((v25.getD v27.toNat 0)-48))))),v25,v26,(aB .i64 (v27+1)),v100000,())) else none
  else some (.inr ((v0,v3,v4,v5,v100000,())))
def AW(x:Shape.den uD):Option (aW yT):=bZ vF (2^64) x
abbrev uE:List (Nat×Kd):=[(0,.str),(3,.own 180 (.int .u64)),(4,.int .i64),(100000,.ar 180 (.int .u64))]
abbrev yE:List (Ex×List (Nat×Kd)):=[(.exit 0,[(3,.own 180 (.int .u64)),(100000,.ar 180 (.int .u64))])]
def vH(x:Shape.den uE):Option (Shape.den uE⊕aW yE):=match x with
 | (v0,v3,v4,v100000,()) =>
  bif ltI 0 v4 then
   bif !(ltI (if 0<(aB .i64 (v4-9)) then (aB .i64 (v4-9)) else 0) 0) then bif !(ltI v4 0) then bif Nat.ble ((if 0<(aB .i64 (v4-9)) then (aB .i64 (v4-9)) else 0).toNat) v4.toNat then bif Nat.ble v4.toNat v0.size then aC (AW (v0,v3,v4,0,(aB2 (v0.extract ((if 0<(aB .i64 (v4-9)) then (aB .i64 (v4-9)) else 0).toNat) v4.toNat)),((aB2 (v0.extract ((if 0<(aB .i64 (v4-9)) then (aB .i64 (v4-9)) else 0).toNat) v4.toNat)).length:Int),0,v100000,())) fun z2 =>
   bif Nat.ble [z2.2.2.2.1].length 1048576 then bif Nat.ble z2.2.1.length 1048576 then some (.inl (z2.1,(z2.2.1++[z2.2.2.2.1]),(aB .i64 (z2.2.2.1-9)),z2.2.2.2.2.1,())) else none else none else none else none else none else none
  else some (.inr ((v3,v100000,())))
def AM(x:Shape.den uE):Option (aW yE):=bZ vH (2^64) x
def fJ(u0:Unit) (x:aJ [.str]) (A:List (List Int)):Option ((List Int)×List (List Int)):=match x with
 | (v0,()) =>
  bif !(ltI (aB .i64 ((aB .i64 ((v0.size:Int).tdiv 9))+1)) 0) then bif !(ltI 1048576 (aB .i64 ((aB .i64 ((v0.size:Int).tdiv 9))+1))) then aC (AM (v0,(List.replicate 0 0),(v0.size:Int),A,())) fun z3 =>
  aC (bJ z3.1 (()) z3.2.1) fun y4 =>
  some (y4.1,y4.2) else none else none
noncomputable def LG:Code:=aT Tryz.f215
abbrev LD:Env:=R2 [] [iH]
theorem L3:bE Tryz.prog LD:=qF trivial ⟨iP,trivial⟩
noncomputable def vR:Code:=dS LG 0
noncomputable def AO:Code:=dS vR 0
def JH(id:Nat):Option aS:=bif Nat.beq id 7 then some ⟨uD,yT,AW⟩ else bif Nat.beq id 3 then some ⟨uE,yE,AM⟩ else none
theorem aI7:∀ x,dM Tryz.prog LD 44 (aD Tryz.f215) JH AO uD yT x=vF x:=by
 rintro⟨v0,v3,v4,v5,v25,v26,v27,v100000,⟨⟩⟩
 kernel_rfl
theorem aQ4:aF AO=[]:=by kernel_rfl
theorem aIY:aH AO=7:=by kernel_rfl
theorem aK4:cF Tryz.prog 44 AO ⟨uD,yT,AW⟩:=by
 exact cC L3.callee aK.mixed _ (aE aQ4 trivial) aI7
theorem aJ7:∀ x,dM Tryz.prog LD 44 (aD Tryz.f215) JH vR uE yE x=vH x:=by
 rintro⟨v0,v3,v4,v100000,⟨⟩⟩
 kernel_rfl
theorem aRD:aF vR=[AO]:=by kernel_rfl
theorem aKC:aH vR=3:=by kernel_rfl
theorem aMB:cF Tryz.prog 44 vR ⟨uE,yE,AM⟩:=by
 exact cC L3.callee aK.mixed _ (aE aRD ⟨cB aIY rfl aK4,trivial⟩) aJ7
theorem aOB:aF LG=[vR]:=by kernel_rfl
theorem aQQ:∀ l x A,JN Tryz.prog LD Tryz.f215 (aD Tryz.f215) JH LG 180 (.int .u64) .none [.str] (.own 180 (.int .u64)) l x A=fJ l x A:=by
 rintro u0 ⟨v0,⟨⟩⟩ A
 kernel_rfl
theorem aU6:SR Tryz.prog 215 180 (.int .u64) .none [.str] (.own 180 (.int .u64)) fJ:=by
 exact C4 aK L3 Tryz.func215 (c:=LG) (by kernel_rfl) (aZ:=aD Tryz.f215) (lt:=JH) (by rfl) (aE aOB ⟨cB aKC rfl aMB,trivial⟩) aQQ
abbrev E9:Shr:=(215,aAO 0 (arH 180 (.int .u64) .none [.str] (.own 180 (.int .u64)) fJ))
theorem EI:zK Tryz.prog E9:=uK (g:=215) (f:=arH 180 (.int .u64) .none [.str] (.own 180 (.int .u64)) fJ) (IF aU6)
abbrev jP:List (Nat×Kd):=[(0,.list (.int .u64)),(1,.list (.int .u64)),(5,.int .i64)]
abbrev nO:List (Ex×List (Nat×Kd)):=[(.ret,[(4,.int .i64)]),(.exit 0,[])]
def lL(x:Shape.den jP):Option (Shape.den jP⊕aW nO):=match x with
 | (v0,v1,v5,()) =>
  bif !(ltI v5 0) then
   bif aL v5 v0.length then bif aL v5 v1.length then bif ltI (v0.getD v5.toNat 0) (v1.getD v5.toNat 0) then
    some (.inr (.inl ((-1),())))
   else bif aL v5 v0.length then bif aL v5 v1.length then bif ltI (v1.getD v5.toNat 0) (v0.getD v5.toNat 0) then
    some (.inr (.inl (1,())))
   else some (.inl (v0,v1,(aB .i64 (v5-1)),())) else none else none else none else none
  else some (.inr (.inr ((()))))
def wJ(x:Shape.den jP):Option (aW nO):=bZ lL (2^64) x
def mX(x:aJ [.list (.int .u64),.list (.int .u64)]):Option (aJ [.int .i64]):=match x with
 | (v0,v1,()) =>
  bif !(eqI (v0.length:Int) (v1.length:Int)) then
   some ((if (if (-1)<(aB .i64 ((v0.length:Int)-(v1.length:Int))) then (aB .i64 ((v0.length:Int)-(v1.length:Int))) else (-1))<1 then (if (-1)<(aB .i64 ((v0.length:Int)-(v1.length:Int))) then (aB .i64 ((v0.length:Int)-(v1.length:Int))) else (-1)) else 1),())
  else aC (wJ (v0,v1,(aB .i64 ((v0.length:Int)-1)),())) fun z1 =>
  BN z1 (fun a2=>some (a2.1,())) fun b3 =>
  some (0,())
noncomputable def vW:Code:=aT Tryz.f228
abbrev CE:Env:=b8 []
theorem IP:bE Tryz.prog CE:=bF trivial
noncomputable def oM:Code:=dS vW 0
def BB(id:Nat):Option aS:=bif Nat.beq id 4 then some ⟨jP,nO,wJ⟩ else none
theorem SH:∀ x,dM Tryz.prog CE 45 (aD Tryz.f228) BB oM jP nO x=lL x:=by
 rintro⟨v0,v1,v5,⟨⟩⟩
 kernel_rfl
theorem W2:aF oM=[]:=by kernel_rfl
theorem R8:aH oM=4:=by kernel_rfl
theorem TV:cF Tryz.prog 45 oM ⟨jP,nO,wJ⟩:=by
 exact cC IP.callee aK.mixed _ (aE W2 trivial) SH
theorem VW:aF vW=[oM]:=by kernel_rfl
theorem ZB:∀ x,cI Tryz.prog CE Tryz.f228 (aD Tryz.f228) BB vW _ _ x=mX x:=by
 rintro⟨v0,v1,⟨⟩⟩
 kernel_rfl
theorem aB5:eB Tryz.prog 228 _ _ mX:=by
 exact bL aK IP Tryz.func228 (c:=vW) (by kernel_rfl) (aZ:=aD Tryz.f228) (lt:=BB) (aE VW ⟨cB R8 rfl TV,trivial⟩) ZB
abbrev ML:Ent:=⟨228,_,_,mX⟩
theorem ZS:Ent.OK Tryz.prog ML:=aB5
abbrev iK:List (Nat×Kd):=[(1,.list (.int .u64)),(5,.own 180 (.int .u64)),(6,.int .i64),(7,.int .u64),(8,.int .u64),(17,.list (.int .u64)),(18,.int .i64),(19,.int .i64),(24,.list (.int .u64)),(25,.int .i64),(26,.int .i64),(100000,.ar 180 (.int .u64))]
abbrev mR:List (Ex×List (Nat×Kd)):=[(.exit 2,[(1,.list (.int .u64)),(5,.own 180 (.int .u64)),(6,.int .i64),(8,.int .u64),(17,.list (.int .u64)),(18,.int .i64),(19,.int .i64),(100000,.ar 180 (.int .u64))])]
def kL(x:Shape.den iK):Option (Shape.den iK⊕aW mR):=match x with
 | (v1,v5,v6,v7,v8,v17,v18,v19,v24,v25,v26,v100000,()) =>
  bif ltI v26 v25 then
   bif aL v26 v24.length then bif aL (aB .i64 (v6+v26)) v5.length then bif Nat.blt ((aB .i64 (v6+v26)).toNat) v5.length then bif aL (aB .i64 (v6+v26)) v5.length then bif Nat.blt ((aB .i64 (v6+v26)).toNat) v5.length then some (.inl (v1,(v5.set ((aB .i64 (v6+v26)).toNat) ((aB .u64 (v8+(aB .u64 ((v5.getD ((aB .i64 (v6+v26)).toNat) 0)+(aB .u64 (v7*(v24.getD v26.toNat 0))))))).tmod 1000000000)),v6,v7,(aB .u64 ((aB .u64 (v8+(aB .u64 ((v5.getD ((aB .i64 (v6+v26)).toNat) 0)+(aB .u64 (v7*(v24.getD v26.toNat 0))))))).tdiv 1000000000)),v17,v18,v19,v24,v25,(aB .i64 (v26+1)),v100000,())) else none else none else none else none else none
  else some (.inr ((v1,v5,v6,v8,v17,v18,v19,v100000,())))
def pC(x:Shape.den iK):Option (aW mR):=bZ kL (2^64) x
abbrev iN:List (Nat×Kd):=[(1,.list (.int .u64)),(5,.own 180 (.int .u64)),(17,.list (.int .u64)),(18,.int .i64),(19,.int .i64),(100000,.ar 180 (.int .u64))]
abbrev mI:List (Ex×List (Nat×Kd)):=[(.exit 0,[(5,.own 180 (.int .u64)),(100000,.ar 180 (.int .u64))])]
def kT(x:Shape.den iN):Option (Shape.den iN⊕aW mI):=match x with
 | (v1,v5,v17,v18,v19,v100000,()) =>
  bif ltI v19 v18 then
   bif aL v19 v17.length then aC (pC (v1,v5,v19,(v17.getD v19.toNat 0),0,v17,v18,v19,v1,(v1.length:Int),0,v100000,())) fun z2 =>
   bif aL (aB .i64 (z2.2.2.1+(z2.1.length:Int))) z2.2.1.length then bif Nat.blt ((aB .i64 (z2.2.2.1+(z2.1.length:Int))).toNat) z2.2.1.length then some (.inl (z2.1,(z2.2.1.set ((aB .i64 (z2.2.2.1+(z2.1.length:Int))).toNat) z2.2.2.2.1),z2.2.2.2.2.1,z2.2.2.2.2.2.1,(aB .i64 (z2.2.2.2.2.2.2.1+1)),z2.2.2.2.2.2.2.2.1,())) else none else none else none
  else some (.inr ((v5,v100000,())))
def pB(x:Shape.den iN):Option (aW mI):=bZ kT (2^64) x
def eT(u0:Unit) (x:aJ [.list (.int .u64),.list (.int .u64)]) (A:List (List Int)):Option ((List Int)×List (List Int)):=match x with
 | (v0,v1,()) =>
  bif !(ltI (aB .i64 ((v0.length:Int)+(v1.length:Int))) 0) then bif !(ltI (aB .i64 ((v0.length:Int)+(v1.length:Int))) (aB .i64 ((v0.length:Int)+(v1.length:Int)))) then bif !(ltI 1048576 (aB .i64 ((v0.length:Int)+(v1.length:Int)))) then aC (pB (v1,(List.replicate ((aB .i64 ((v0.length:Int)+(v1.length:Int))).toNat) 0),v0,(v0.length:Int),0,A,())) fun z3 =>
  aC (bJ z3.1 (()) z3.2.1) fun y4 =>
  some (y4.1,y4.2) else none else none else none
noncomputable def uR:Code:=aT Tryz.f220
abbrev uU:Env:=R2 [] [iH]
theorem xH:bE Tryz.prog uU:=qF trivial ⟨iP,trivial⟩
noncomputable def jN:Code:=dS uR 0
noncomputable def nV:Code:=dS jN 0
def s8(id:Nat):Option aS:=bif Nat.beq id 7 then some ⟨iK,mR,pC⟩ else bif Nat.beq id 3 then some ⟨iN,mI,pB⟩ else none
theorem PU:∀ x,dM Tryz.prog uU 63 (aD Tryz.f220) s8 nV iK mR x=kL x:=by
 rintro⟨v1,v5,v6,v7,v8,v17,v18,v19,v24,v25,v26,v100000,⟨⟩⟩
 kernel_rfl
theorem WA:aF nV=[]:=by kernel_rfl
theorem QF:aH nV=7:=by kernel_rfl
theorem SO:cF Tryz.prog 63 nV ⟨iK,mR,pC⟩:=by
 exact cC xH.callee aK.mixed _ (aE WA trivial) PU
theorem QV:∀ x,dM Tryz.prog uU 63 (aD Tryz.f220) s8 jN iN mI x=kT x:=by
 rintro⟨v1,v5,v17,v18,v19,v100000,⟨⟩⟩
 kernel_rfl
theorem V5:aF jN=[nV]:=by kernel_rfl
theorem QW:aH jN=3:=by kernel_rfl
theorem R3:cF Tryz.prog 63 jN ⟨iN,mI,pB⟩:=by
 exact cC xH.callee aK.mixed _ (aE V5 ⟨cB QF rfl SO,trivial⟩) QV
theorem TB:aF uR=[jN]:=by kernel_rfl
theorem VI:∀ l x A,JN Tryz.prog uU Tryz.f220 (aD Tryz.f220) s8 uR 180 (.int .u64) .none [.list (.int .u64),.list (.int .u64)] (.own 180 (.int .u64)) l x A=eT l x A:=by
 rintro u0 ⟨v0,v1,⟨⟩⟩ A
 kernel_rfl
theorem ZX:SR Tryz.prog 220 180 (.int .u64) .none [.list (.int .u64),.list (.int .u64)] (.own 180 (.int .u64)) eT:=by
 exact C4 aK xH Tryz.func220 (c:=uR) (by kernel_rfl) (aZ:=aD Tryz.f220) (lt:=s8) (by rfl) (aE TB ⟨cB QW rfl R3,trivial⟩) VI
abbrev A6:Shr:=(220,aAO 0 (arH 180 (.int .u64) .none [.list (.int .u64),.list (.int .u64)] (.own 180 (.int .u64)) eT))
theorem HA:zK Tryz.prog A6:=uK (g:=220) (f:=arH 180 (.int .u64) .none [.list (.int .u64),.list (.int .u64)] (.own 180 (.int .u64)) eT) (IF ZX)
def fN(u0:Unit) (x:aJ [.list (.int .u64),.int .u64]) (A:List (List Int)):Option ((List Int)×List (List Int)):=match x with
 | (v0,v1,()) =>
  aC (l8 ([v1],())) fun y1 =>
  aC (eT () (v0,y1.1,()) A) fun y2 =>
  some (y2.1,y2.2)
noncomputable def zP:Code:=aT Tryz.f240
abbrev JS:Env:=R2 [PH] [A6]
theorem TL:bE Tryz.prog JS:=qF ⟨aBT,trivial⟩ ⟨HA,trivial⟩
def IN(id:Nat):Option aS:=none
theorem SN:aF zP=[]:=by kernel_rfl
theorem S6:∀ l x A,JN Tryz.prog JS Tryz.f240 (aD Tryz.f240) IN zP 180 (.int .u64) .none [.list (.int .u64),.int .u64] (.own 180 (.int .u64)) l x A=fN l x A:=by
 rintro u0 ⟨v0,v1,⟨⟩⟩ A
 kernel_rfl
theorem YV:SR Tryz.prog 240 180 (.int .u64) .none [.list (.int .u64),.int .u64] (.own 180 (.int .u64)) fN:=by
 exact C4 aK TL Tryz.func240 (c:=zP) (by kernel_rfl) (aZ:=aD Tryz.f240) (lt:=IN) (by rfl) (aE SN trivial) S6
abbrev JW:Shr:=(240,aAO 0 (arH 180 (.int .u64) .none [.list (.int .u64),.int .u64] (.own 180 (.int .u64)) fN))
theorem UC:zK Tryz.prog JW:=uK (g:=240) (f:=arH 180 (.int .u64) .none [.list (.int .u64),.int .u64] (.own 180 (.int .u64)) fN) (IF YV)
abbrev j8:List (Nat×Kd):=[(0,.list (.int .u64)),(1,.int .u64),(6,.own 180 (.int .u64)),(7,.int .u64),(8,.int .i64),(100000,.ar 180 (.int .u64))]
abbrev nM:List (Ex×List (Nat×Kd)):=[(.exit 0,[(6,.own 180 (.int .u64)),(7,.int .u64),(100000,.ar 180 (.int .u64))])]
def lH(x:Shape.den j8):Option (Shape.den j8⊕aW nM):=match x with
 | (v0,v1,v6,v7,v8,v100000,()) =>
  bif !(ltI v8 0) then
   bif aL v8 v0.length then bif eqI v1 0 then none else bif aL v8 v6.length then bif Nat.blt v8.toNat v6.length then bif eqI v1 0 then none else some (.inl (v0,v1,(v6.set v8.toNat (aB .u64 ((aB .u64 ((aB .u64 (v7*1000000000))+(v0.getD v8.toNat 0))).tdiv v1))),((aB .u64 ((aB .u64 (v7*1000000000))+(v0.getD v8.toNat 0))).tmod v1),(aB .i64 (v8-1)),v100000,())) else none else none else none
  else some (.inr ((v6,v7,v100000,())))
def qI(x:Shape.den j8):Option (aW nM):=bZ lH (2^64) x
def fG(u0:Unit) (x:aJ [.list (.int .u64),.int .u64]) (A:List (List Int)):Option ((aJ [.list (.int .u64),.int .u64])×List (List Int)):=match x with
 | (v0,v1,()) =>
  bif !(ltI (v0.length:Int) 0) then bif !(ltI (v0.length:Int) (v0.length:Int)) then bif !(ltI 1048576 (v0.length:Int)) then aC (qI (v0,v1,(List.replicate ((v0.length:Int).toNat) 0),0,(aB .i64 ((v0.length:Int)-1)),A,())) fun z1 =>
  aC (bJ z1.1 (()) z1.2.2.1) fun y2 =>
  some ((y2.1,z1.2.1,()),y2.2) else none else none else none
noncomputable def wE:Code:=aT Tryz.f229
abbrev B5:Env:=R2 [] [iH]
theorem HZ:bE Tryz.prog B5:=qF trivial ⟨iP,trivial⟩
noncomputable def oO:Code:=dS wE 0
def A9(id:Nat):Option aS:=bif Nat.beq id 4 then some ⟨j8,nM,qI⟩ else none
theorem RV:∀ x,dM Tryz.prog B5 38 (aD Tryz.f229) A9 oO j8 nM x=lH x:=by
 rintro⟨v0,v1,v6,v7,v8,v100000,⟨⟩⟩
 kernel_rfl
theorem X3:aF oO=[]:=by kernel_rfl
theorem SL:aH oO=4:=by kernel_rfl
theorem TQ:cF Tryz.prog 38 oO ⟨j8,nM,qI⟩:=by
 exact cC HZ.callee aK.mixed _ (aE X3 trivial) RV
theorem WQ:aF wE=[oO]:=by kernel_rfl
theorem ZP:∀ l x A,JN Tryz.prog B5 Tryz.f229 (aD Tryz.f229) A9 wE 180 (.int .u64) .none [.list (.int .u64),.int .u64] (.data [.list (.int .u64),.int .u64]) l x A=fG l x A:=by
 rintro u0 ⟨v0,v1,⟨⟩⟩ A
 kernel_rfl
theorem aB1:SR Tryz.prog 229 180 (.int .u64) .none [.list (.int .u64),.int .u64] (.data [.list (.int .u64),.int .u64]) fG:=by
 exact C4 aK HZ Tryz.func229 (c:=wE) (by kernel_rfl) (aZ:=aD Tryz.f229) (lt:=A9) (by rfl) (aE WQ ⟨cB SL rfl TQ,trivial⟩) ZP
abbrev CY:Shr:=(229,aAO 0 (arH 180 (.int .u64) .none [.list (.int .u64),.int .u64] (.data [.list (.int .u64),.int .u64]) fG))
theorem HS:zK Tryz.prog CY:=uK (g:=229) (f:=arH 180 (.int .u64) .none [.list (.int .u64),.int .u64] (.data [.list (.int .u64),.int .u64]) fG) (IF aB1)
abbrev gS:List (Nat×Kd):=[(0,.hnd 1),(1,.list (.int .u64)),(2,.int .u64),(3,.int .i64),(9,.int .i64),(10,.int .u64),(11,.int .i64),(100000,.ar 180 (.int .u64))]
abbrev kY:List (Ex×List (Nat×Kd)):=[(.exit 0,[(9,.int .i64),(100000,.ar 180 (.int .u64))])]
def fW(x:Shape.den gS):Option (Shape.den gS⊕aW kY):=match x with
 | (v0,v1,v2,v3,v9,v10,v11,v100000,()) =>
  bif !(ltI (v1.length:Int) v11) then
   bif ltI v11 (v1.length:Int) then
    bif aL v11 v1.length then bif aL (aB .i64 (v3+v11)) v0.2.2 then bif Nat.blt ((v0.2.1+(aB .i64 (v3+v11)).toNat)*1) (dH v100000 v0.1) then bif ltI (aB .i64 ((aB .i64 ((IntKind.wrap .i64 (eD v100000 v0.1 ((v0.2.1+(aB .i64 (v3+v11)).toNat)*1) 0))-(IntKind.wrap .i64 ((aB .u64 (v10+(aB .u64 (v2*(v1.getD v11.toNat 0))))).tmod 1000000000))))-v9)) 0 then
     bif aL (aB .i64 (v3+v11)) v0.2.2 then bif Nat.blt ((v0.2.1+(aB .i64 (v3+v11)).toNat)*1) (dH v100000 v0.1) then some (.inl ((v0.1,v0.2.1,v0.2.2),v1,v2,v3,1,(aB .u64 ((aB .u64 (v10+(aB .u64 (v2*(v1.getD v11.toNat 0))))).tdiv 1000000000)),(aB .i64 (v11+1)),(yQ v100000 v0.1 ((v0.2.1+(aB .i64 (v3+v11)).toNat)*1) (IntKind.wrap .u64 (aB .i64 ((aB .i64 ((aB .i64 ((IntKind.wrap .i64 (eD v100000 v0.1 ((v0.2.1+(aB .i64 (v3+v11)).toNat)*1) 0))-(IntKind.wrap .i64 ((aB .u64 (v10+(aB .u64 (v2*(v1.getD v11.toNat 0))))).tmod 1000000000))))-v9))+1000000000)))),())) else none else none
    else bif aL (aB .i64 (v3+v11)) v0.2.2 then bif Nat.blt ((v0.2.1+(aB .i64 (v3+v11)).toNat)*1) (dH v100000 v0.1) then some (.inl ((v0.1,v0.2.1,v0.2.2),v1,v2,v3,0,(aB .u64 ((aB .u64 (v10+(aB .u64 (v2*(v1.getD v11.toNat 0))))).tdiv 1000000000)),(aB .i64 (v11+1)),(yQ v100000 v0.1 ((v0.2.1+(aB .i64 (v3+v11)).toNat)*1) (IntKind.wrap .u64 (aB .i64 ((aB .i64 ((IntKind.wrap .i64 (eD v100000 v0.1 ((v0.2.1+(aB .i64 (v3+v11)).toNat)*1) 0))-(IntKind.wrap .i64 ((aB .u64 (v10+(aB .u64 (v2*(v1.getD v11.toNat 0))))).tmod 1000000000))))-v9)))),())) else none else none else none else none else none
   else bif aL (aB .i64 (v3+v11)) v0.2.2 then bif Nat.blt ((v0.2.1+(aB .i64 (v3+v11)).toNat)*1) (dH v100000 v0.1) then bif ltI (aB .i64 ((aB .i64 ((IntKind.wrap .i64 (eD v100000 v0.1 ((v0.2.1+(aB .i64 (v3+v11)).toNat)*1) 0))-(IntKind.wrap .i64 (v10.tmod 1000000000))))-v9)) 0 then
    bif aL (aB .i64 (v3+v11)) v0.2.2 then bif Nat.blt ((v0.2.1+(aB .i64 (v3+v11)).toNat)*1) (dH v100000 v0.1) then some (.inl ((v0.1,v0.2.1,v0.2.2),v1,v2,v3,1,(aB .u64 (v10.tdiv 1000000000)),(aB .i64 (v11+1)),(yQ v100000 v0.1 ((v0.2.1+(aB .i64 (v3+v11)).toNat)*1) (IntKind.wrap .u64 (aB .i64 ((aB .i64 ((aB .i64 ((IntKind.wrap .i64 (eD v100000 v0.1 ((v0.2.1+(aB .i64 (v3+v11)).toNat)*1) 0))-(IntKind.wrap .i64 (v10.tmod 1000000000))))-v9))+1000000000)))),())) else none else none
   else bif aL (aB .i64 (v3+v11)) v0.2.2 then bif Nat.blt ((v0.2.1+(aB .i64 (v3+v11)).toNat)*1) (dH v100000 v0.1) then some (.inl ((v0.1,v0.2.1,v0.2.2),v1,v2,v3,0,(aB .u64 (v10.tdiv 1000000000)),(aB .i64 (v11+1)),(yQ v100000 v0.1 ((v0.2.1+(aB .i64 (v3+v11)).toNat)*1) (IntKind.wrap .u64 (aB .i64 ((aB .i64 ((IntKind.wrap .i64 (eD v100000 v0.1 ((v0.2.1+(aB .i64 (v3+v11)).toNat)*1) 0))-(IntKind.wrap .i64 (v10.tmod 1000000000))))-v9)))),())) else none else none else none else none
  else some (.inr ((v9,v100000,())))
def rL(x:Shape.den gS):Option (aW kY):=bZ fW (2^64) x
def eQ(u0:Unit) (x:aJ [.hnd 1,.list (.int .u64),.int .u64,.int .i64]) (A:List (List Int)):Option ((aJ [.bool])×List (List Int)):=match x with
 | (v0,v1,v2,v3,()) =>
  aC (rL ((v0.1,v0.2.1,v0.2.2),v1,v2,v3,0,0,0,A,())) fun z1 =>
  some ((ltI 0 z1.1,()),z1.2.1)
noncomputable def xJ:Code:=aT Tryz.f219
abbrev EU:Env:=b8 []
theorem JQ:bE Tryz.prog EU:=bF trivial
noncomputable def pU:Code:=dS xJ 0
def B8(id:Nat):Option aS:=bif Nat.beq id 4 then some ⟨gS,kY,rL⟩ else none
theorem TR:∀ x,dM Tryz.prog EU 59 (aD Tryz.f219) B8 pU gS kY x=fW x:=by
 rintro⟨v0,v1,v2,v3,v9,v10,v11,v100000,⟨⟩⟩
 kernel_rfl
theorem aAH:aF pU=[]:=by kernel_rfl
theorem TM:aH pU=4:=by kernel_rfl
theorem VX:cF Tryz.prog 59 pU ⟨gS,kY,rL⟩:=by
 exact cC JQ.callee aK.mixed _ (aE aAH trivial) TR
theorem W4:aF xJ=[pU]:=by kernel_rfl
theorem aAN:∀ l x A,JN Tryz.prog EU Tryz.f219 (aD Tryz.f219) B8 xJ 180 (.int .u64) .none [.hnd 1,.list (.int .u64),.int .u64,.int .i64] (.data [.bool]) l x A=eQ l x A:=by
 rintro u0 ⟨v0,v1,v2,v3,⟨⟩⟩ A
 kernel_rfl
theorem aE0:SR Tryz.prog 219 180 (.int .u64) .none [.hnd 1,.list (.int .u64),.int .u64,.int .i64] (.data [.bool]) eQ:=by
 exact C4 aK JQ Tryz.func219 (c:=xJ) (by kernel_rfl) (aZ:=aD Tryz.f219) (lt:=B8) (by rfl) (aE W4 ⟨cB TM rfl VX,trivial⟩) aAN
theorem aCD:bDD Tryz.prog 219 180 (.int .u64) [.list (.int .u64),.int .u64,.int .i64] [.bool] (aMJ eQ):=a2R aE0 (by rfl) (by rfl) (by rfl)
abbrev CO:Shr:=(219,aAO 1 (bEN 180 (.int .u64) [.list (.int .u64),.int .u64,.int .i64] [.bool] (aMJ eQ)))
theorem IX:zK Tryz.prog CO:=uK (bID aCD)
abbrev kX:List (Nat×Kd):=[(0,.hnd 1),(1,.list (.int .u64)),(2,.int .i64),(6,.int .u64),(7,.int .i64),(100000,.ar 180 (.int .u64))]
abbrev oP:List (Ex×List (Nat×Kd)):=[(.exit 0,[(100000,.ar 180 (.int .u64))])]
def fY(x:Shape.den kX):Option (Shape.den kX⊕aW oP):=match x with
 | (v0,v1,v2,v6,v7,v100000,()) =>
  bif !(ltI (v1.length:Int) v7) then
   bif aL (aB .i64 (v2+v7)) v0.2.2 then bif Nat.blt ((v0.2.1+(aB .i64 (v2+v7)).toNat)*1) (dH v100000 v0.1) then bif ltI v7 (v1.length:Int) then
    bif aL v7 v1.length then bif aL (aB .i64 (v2+v7)) v0.2.2 then bif Nat.blt ((v0.2.1+(aB .i64 (v2+v7)).toNat)*1) (dH v100000 v0.1) then some (.inl ((v0.1,v0.2.1,v0.2.2),v1,v2,(aB .u64 ((aB .u64 ((aB .u64 (v6+(eD v100000 v0.1 ((v0.2.1+(aB .i64 (v2+v7)).toNat)*1) 0)))+(v1.getD v7.toNat 0))).tdiv 1000000000)),(aB .i64 (v7+1)),(yQ v100000 v0.1 ((v0.2.1+(aB .i64 (v2+v7)).toNat)*1) ((aB .u64 ((aB .u64 (v6+(eD v100000 v0.1 ((v0.2.1+(aB .i64 (v2+v7)).toNat)*1) 0)))+(v1.getD v7.toNat 0))).tmod 1000000000)),())) else none else none else none
   else bif aL (aB .i64 (v2+v7)) v0.2.2 then bif Nat.blt ((v0.2.1+(aB .i64 (v2+v7)).toNat)*1) (dH v100000 v0.1) then some (.inl ((v0.1,v0.2.1,v0.2.2),v1,v2,(aB .u64 ((aB .u64 (v6+(eD v100000 v0.1 ((v0.2.1+(aB .i64 (v2+v7)).toNat)*1) 0))).tdiv 1000000000)),(aB .i64 (v7+1)),(yQ v100000 v0.1 ((v0.2.1+(aB .i64 (v2+v7)).toNat)*1) ((aB .u64 (v6+(eD v100000 v0.1 ((v0.2.1+(aB .i64 (v2+v7)).toNat)*1) 0))).tmod 1000000000)),())) else none else none else none else none
  else some (.inr ((v100000,())))
def rK(x:Shape.den kX):Option (aW oP):=bZ fY (2^64) x
def dB(u0:Unit) (x:aJ [.hnd 1,.list (.int .u64),.int .i64]) (A:List (List Int)):Option ((aJ [])×List (List Int)):=match x with
 | (v0,v1,v2,()) =>
  aC (rK ((v0.1,v0.2.1,v0.2.2),v1,v2,0,0,A,())) fun z1 =>
  some ((()),z1.1)
noncomputable def xA:Code:=aT Tryz.f216
abbrev EO:Env:=b8 []
theorem JO:bE Tryz.prog EO:=bF trivial
noncomputable def pT:Code:=dS xA 0
def CK(id:Nat):Option aS:=bif Nat.beq id 2 then some ⟨kX,oP,rK⟩ else none
theorem T0:∀ x,dM Tryz.prog EO 41 (aD Tryz.f216) CK pT kX oP x=fY x:=by
 rintro⟨v0,v1,v2,v6,v7,v100000,⟨⟩⟩
 kernel_rfl
theorem aAF:aF pT=[]:=by kernel_rfl
theorem TW:aH pT=2:=by kernel_rfl
theorem VA:cF Tryz.prog 41 pT ⟨kX,oP,rK⟩:=by
 exact cC JO.callee aK.mixed _ (aE aAF trivial) T0
theorem XW:aF xA=[pT]:=by kernel_rfl
theorem ZY:∀ l x A,JN Tryz.prog EO Tryz.f216 (aD Tryz.f216) CK xA 180 (.int .u64) .none [.hnd 1,.list (.int .u64),.int .i64] (.data []) l x A=dB l x A:=by
 rintro u0 ⟨v0,v1,v2,⟨⟩⟩ A
 kernel_rfl
theorem aDP:SR Tryz.prog 216 180 (.int .u64) .none [.hnd 1,.list (.int .u64),.int .i64] (.data []) dB:=by
 exact C4 aK JO Tryz.func216 (c:=xA) (by kernel_rfl) (aZ:=aD Tryz.f216) (lt:=CK) (by rfl) (aE XW ⟨cB TW rfl VA,trivial⟩) ZY
theorem aC7:a9G Tryz.prog 216 180 (.int .u64) [.list (.int .u64),.int .i64] (W9 dB):=aUR aDP (by rfl) (by rfl)
abbrev C7:Shr:=(216,aAO 1 (bGO 180 (.int .u64) [.list (.int .u64),.int .i64] (W9 dB)))
theorem H6:zK Tryz.prog C7:=uK (a8X aC7)
abbrev mV:List (Nat×Kd):=[(0,.list (.int .u64)),(3,.own 5 (.int .u8)),(4,.int .i64),(5,.int .u64),(6,.int .i64),(14,.list (.int .u64)),(15,.int .i64),(16,.int .i64)]
abbrev qT:List (Ex×List (Nat×Kd)):=[(.exit 2,[(0,.list (.int .u64)),(3,.own 5 (.int .u8)),(14,.list (.int .u64)),(15,.int .i64),(16,.int .i64)])]
def fO(x:Shape.den mV):Option (Shape.den mV⊕aW qT):=match x with
 | (v0,v3,v4,v5,v6,v14,v15,v16,()) =>
  bif ltI v6 9 then
   bif ltI (aB .i64 (v4+1)) (v0.length:Int) then
    bif Nat.ble [(IntKind.wrap .u8 (aB .u64 (48+(v5.tmod 10))))].length 1048576 then bif Nat.ble v3.length 1048576 then some (.inl (v0,(v3++[(IntKind.wrap .u8 (aB .u64 (48+(v5.tmod 10))))]),v4,(aB .u64 (v5.tdiv 10)),(aB .i64 (v6+1)),v14,v15,v16,())) else none else none
   else bif ltI 0 v5 then
    bif Nat.ble [(IntKind.wrap .u8 (aB .u64 (48+(v5.tmod 10))))].length 1048576 then bif Nat.ble v3.length 1048576 then some (.inl (v0,(v3++[(IntKind.wrap .u8 (aB .u64 (48+(v5.tmod 10))))]),v4,(aB .u64 (v5.tdiv 10)),(aB .i64 (v6+1)),v14,v15,v16,())) else none else none
   else some (.inr ((v0,v3,v14,v15,v16,())))
  else some (.inr ((v0,v3,v14,v15,v16,())))
def oR(x:Shape.den mV):Option (aW qT):=bZ fO (2^64) x
abbrev mU:List (Nat×Kd):=[(0,.list (.int .u64)),(3,.own 5 (.int .u8)),(14,.list (.int .u64)),(15,.int .i64),(16,.int .i64)]
abbrev qR:List (Ex×List (Nat×Kd)):=[(.exit 0,[(3,.own 5 (.int .u8))])]
def kV(x:Shape.den mU):Option (Shape.den mU⊕aW qR):=match x with
 | (v0,v3,v14,v15,v16,()) =>
  bif ltI v16 v15 then
   bif aL v16 v14.length then aC (oR (v0,v3,v16,(v14.getD v16.toNat 0),0,v14,v15,v16,())) fun z2 =>
   some (.inl (z2.1,z2.2.1,z2.2.2.1,z2.2.2.2.1,(aB .i64 (z2.2.2.2.2.1+1)),())) else none
  else some (.inr ((v3,())))
def oS(x:Shape.den mU):Option (aW qR):=bZ kV (2^64) x
def bU(x:aJ [.list (.int .u64)]):Option (aJ [.str]):=match x with
 | (v0,()) =>
  bif eqI (v0.length:Int) 0 then
   some ((ByteArray.mk #[48]),())
  else bif !(ltI (aB .i64 (9*(v0.length:Int))) 0) then bif !(ltI 1048576 (aB .i64 (9*(v0.length:Int)))) then aC (oS (v0,(List.replicate 0 0),v0,(v0.length:Int),0,())) fun z3 =>
  aC (W9 (t:=(.int .u8)) eH z3.1 (())) fun y4 =>
  some ((a0R y4),()) else none else none
noncomputable def AY:Code:=aT Tryz.f218
abbrev AF:Env:=R2 [] [FN]
theorem C8:bE Tryz.prog AF:=qF trivial ⟨O0,trivial⟩
noncomputable def oH:Code:=dS AY 0
noncomputable def sE:Code:=dS oH 0
def zA(id:Nat):Option aS:=bif Nat.beq id 8 then some ⟨mV,qT,oR⟩ else bif Nat.beq id 5 then some ⟨mU,qR,oS⟩ else none
theorem XS:∀ x,dM Tryz.prog AF 50 (aD Tryz.f218) zA sE mV qT x=fO x:=by
 rintro⟨v0,v3,v4,v5,v6,v14,v15,v16,⟨⟩⟩
 kernel_rfl
theorem aEE:aF sE=[]:=by kernel_rfl
theorem XE:aH sE=8:=by kernel_rfl
theorem aAB:cF Tryz.prog 50 sE ⟨mV,qT,oR⟩:=by
 exact cC C8.callee aK.mixed _ (aE aEE trivial) XS
theorem XN:∀ x,dM Tryz.prog AF 50 (aD Tryz.f218) zA oH mU qR x=kV x:=by
 rintro⟨v0,v3,v14,v15,v16,⟨⟩⟩
 kernel_rfl
theorem aFE:aF oH=[sE]:=by kernel_rfl
theorem Y4:aH oH=5:=by kernel_rfl
theorem Z6:cF Tryz.prog 50 oH ⟨mU,qR,oS⟩:=by
 exact cC C8.callee aK.mixed _ (aE aFE ⟨cB XE rfl aAB,trivial⟩) XN
theorem aCS:aF AY=[oH]:=by kernel_rfl
theorem aET:∀ x,cI Tryz.prog AF Tryz.f218 (aD Tryz.f218) zA AY _ _ x=bU x:=by
 rintro⟨v0,⟨⟩⟩
 kernel_rfl
theorem aJU:eB Tryz.prog 218 _ _ bU:=by
 exact bL aK C8 Tryz.func218 (c:=AY) (by kernel_rfl) (aZ:=aD Tryz.f218) (lt:=zA) (aE aCS ⟨cB Y4 rfl Z6,trivial⟩) aET
abbrev vC:Ent:=⟨218,_,_,bU⟩
theorem vS:Ent.OK Tryz.prog vC:=aJU
abbrev iO:List (Nat×Kd):=[(0,.list (.int .u64)),(6,.int .u64),(7,.own 180 (.int .u64)),(8,.list (.int .u64)),(9,.int .i64),(100000,.ar 180 (.int .u64))]
abbrev mK:List (Ex×List (Nat×Kd)):=[(.exit 0,[(6,.int .u64),(7,.own 180 (.int .u64)),(8,.list (.int .u64)),(9,.int .i64),(100000,.ar 180 (.int .u64))])]
def pA(x:Shape.den iO):Option (Shape.den iO⊕aW mK):=match x with
 | (v0,v6,v7,v8,v9,v100000,()) =>
  bif !(ltI (v0.length:Int) (v7.length:Int)) then
   bif Nat.ble [0].length 1048576 then bif Nat.ble v7.length 1048576 then some (.inl (v0,v6,(v7++[0]),v8,v9,v100000,())) else none else none
  else some (.inr ((v6,v7,v8,v9,v100000,())))
def o7(x:Shape.den iO):Option (aW mK):=bZ pA (2^64) x
abbrev iU:List (Nat×Kd):=[(6,.int .u64),(7,.own 180 (.int .u64)),(8,.list (.int .u64)),(9,.int .i64),(10,.own 180 (.int .u64)),(11,.int .i64),(13,.int .u64),(14,.int .u64),(100000,.ar 180 (.int .u64))]
abbrev mL:List (Ex×List (Nat×Kd)):=[(.exit 4,[(6,.int .u64),(7,.own 180 (.int .u64)),(8,.list (.int .u64)),(9,.int .i64),(10,.own 180 (.int .u64)),(11,.int .i64),(13,.int .u64),(100000,.ar 180 (.int .u64))])]
def kJ(x:Shape.den iU):Option (Shape.den iU⊕aW mL):=match x with
 | (v6,v7,v8,v9,v10,v11,v13,v14,v100000,()) =>
  bif !(ltI v13 1000000000) then
   bif aL (aB .i64 (v9-1)) v8.length then some (.inl (v6,v7,v8,v9,v10,v11,(aB .u64 (v13-1)),(aB .u64 (v14+(v8.getD ((aB .i64 (v9-1)).toNat) 0))),v100000,())) else none
  else bif ltI v14 1000000000 then
   bif aL (aB .i64 (v9-2)) v8.length then bif aL (aB .i64 ((aB .i64 (v11+v9))-2)) v7.length then bif Nat.blt ((aB .i64 ((aB .i64 (v11+v9))-2)).toNat) v7.length then bif ltI (aB .u64 ((aB .u64 (v14*1000000000))+(v7.getD ((aB .i64 ((aB .i64 (v11+v9))-2)).toNat) 0))) (aB .u64 (v13*(v8.getD ((aB .i64 (v9-2)).toNat) 0))) then
    bif aL (aB .i64 (v9-1)) v8.length then some (.inl (v6,v7,v8,v9,v10,v11,(aB .u64 (v13-1)),(aB .u64 (v14+(v8.getD ((aB .i64 (v9-1)).toNat) 0))),v100000,())) else none
   else some (.inr ((v6,v7,v8,v9,v10,v11,v13,v100000,()))) else none else none else none
  else some (.inr ((v6,v7,v8,v9,v10,v11,v13,v100000,())))
def o9(x:Shape.den iU):Option (aW mL):=bZ kJ (2^64) x
abbrev iT:List (Nat×Kd):=[(6,.int .u64),(7,.own 180 (.int .u64)),(8,.list (.int .u64)),(9,.int .i64),(10,.own 180 (.int .u64)),(11,.int .i64),(100000,.ar 180 (.int .u64))]
abbrev mN:List (Ex×List (Nat×Kd)):=[(.exit 2,[(6,.int .u64),(7,.own 180 (.int .u64)),(10,.own 180 (.int .u64)),(100000,.ar 180 (.int .u64))])]
def fA(x:Shape.den iT):Option (Shape.den iT⊕aW mN):=match x with
 | (v6,v7,v8,v9,v10,v11,v100000,()) =>
  bif !(ltI v11 0) then
   bif aL (aB .i64 (v11+v9)) v7.length then bif Nat.blt ((aB .i64 (v11+v9)).toNat) v7.length then bif aL (aB .i64 ((aB .i64 (v11+v9))-1)) v7.length then bif Nat.blt ((aB .i64 ((aB .i64 (v11+v9))-1)).toNat) v7.length then bif aL (aB .i64 (v9-1)) v8.length then bif eqI (v8.getD ((aB .i64 (v9-1)).toNat) 0) 0 then none else bif aL (aB .i64 (v9-1)) v8.length then bif eqI (v8.getD ((aB .i64 (v9-1)).toNat) 0) 0 then none else aC (o9 (v6,v7,v8,v9,v10,v11,(aB .u64 ((aB .u64 ((aB .u64 ((v7.getD ((aB .i64 (v11+v9)).toNat) 0)*1000000000))+(v7.getD ((aB .i64 ((aB .i64 (v11+v9))-1)).toNat) 0))).tdiv (v8.getD ((aB .i64 (v9-1)).toNat) 0))),((aB .u64 ((aB .u64 ((v7.getD ((aB .i64 (v11+v9)).toNat) 0)*1000000000))+(v7.getD ((aB .i64 ((aB .i64 (v11+v9))-1)).toNat) 0))).tmod (v8.getD ((aB .i64 (v9-1)).toNat) 0)),v100000,())) fun z7 =>
   aC (aMJ (t:=(.int .u64)) (rets:=[.bool]) eQ z7.2.1 (z7.2.2.1,z7.2.2.2.2.2.2.1,z7.2.2.2.2.2.1,())) fun y8 =>
   bif y8.1.1 then
    aC (W9 (t:=(.int .u64)) dB y8.2 (z7.2.2.1,z7.2.2.2.2.2.1,())) fun y9 =>
    bif aL z7.2.2.2.2.2.1 z7.2.2.2.2.1.length then bif Nat.blt z7.2.2.2.2.2.1.toNat z7.2.2.2.2.1.length then some (.inl (z7.1,y9,z7.2.2.1,z7.2.2.2.1,(z7.2.2.2.2.1.set z7.2.2.2.2.2.1.toNat (aB .u64 (z7.2.2.2.2.2.2.1-1))),(aB .i64 (z7.2.2.2.2.2.1-1)),z7.2.2.2.2.2.2.2.1,())) else none else none
   else bif aL z7.2.2.2.2.2.1 z7.2.2.2.2.1.length then bif Nat.blt z7.2.2.2.2.2.1.toNat z7.2.2.2.2.1.length then some (.inl (z7.1,y8.2,z7.2.2.1,z7.2.2.2.1,(z7.2.2.2.2.1.set z7.2.2.2.2.2.1.toNat z7.2.2.2.2.2.2.1),(aB .i64 (z7.2.2.2.2.2.1-1)),z7.2.2.2.2.2.2.2.1,())) else none else none else none else none else none else none else none else none
  else some (.inr ((v6,v7,v10,v100000,())))
def o8(x:Shape.den iT):Option (aW mN):=bZ fA (2^64) x
def fZ(u0:Unit) (x:aJ [.list (.int .u64),.list (.int .u64)]) (A:List (List Int)):Option ((aJ [.list (.int .u64),.list (.int .u64)])×List (List Int)):=match x with
 | (v0,v1,()) =>
  bif aL (aB .i64 ((v1.length:Int)-1)) v1.length then bif eqI (aB .u64 ((v1.getD ((aB .i64 ((v1.length:Int)-1)).toNat) 0)+1)) 0 then none else aC (fN () (v0,(aB .u64 ((1000000000:Int).tdiv (aB .u64 ((v1.getD ((aB .i64 ((v1.length:Int)-1)).toNat) 0)+1)))),()) A) fun y1 =>
  bif Nat.ble [0].length 1048576 then bif Nat.ble y1.1.length 1048576 then aC (fN () (v1,(aB .u64 ((1000000000:Int).tdiv (aB .u64 ((v1.getD ((aB .i64 ((v1.length:Int)-1)).toNat) 0)+1)))),()) y1.2) fun y2 =>
  aC (o7 (v0,(aB .u64 ((1000000000:Int).tdiv (aB .u64 ((v1.getD ((aB .i64 ((v1.length:Int)-1)).toNat) 0)+1)))),(y1.1++[0]),y2.1,(y2.1.length:Int),y2.2,())) fun z3 =>
  bif !(ltI (aB .i64 ((z3.2.1.length:Int)-z3.2.2.2.1)) 0) then bif !(ltI (aB .i64 ((z3.2.1.length:Int)-z3.2.2.2.1)) (aB .i64 ((z3.2.1.length:Int)-z3.2.2.2.1))) then bif !(ltI 1048576 (aB .i64 ((z3.2.1.length:Int)-z3.2.2.2.1))) then aC (o8 (z3.1,z3.2.1,z3.2.2.1,z3.2.2.2.1,(List.replicate ((aB .i64 ((z3.2.1.length:Int)-z3.2.2.2.1)).toNat) 0),(aB .i64 ((aB .i64 ((z3.2.1.length:Int)-z3.2.2.2.1))-1)),z3.2.2.2.2.1,())) fun z10 =>
  aC (bJ z10.2.1 (()) z10.2.2.2.1) fun y11 =>
  aC (fG () (y11.1,z10.1,()) y11.2) fun y12 =>
  aC (bJ z10.2.2.1 (()) y12.2) fun y13 =>
  some ((y13.1,y12.1.1,()),y13.2) else none else none else none else none else none else none
noncomputable def pQ:Code:=aT Tryz.f230
abbrev pV:Env:=R2 [] [C7,JW,CY,CO,iH]
theorem rJ:bE Tryz.prog pV:=qF trivial ⟨H6,UC,HS,IX,iP,trivial⟩
noncomputable def nK:Code:=dS pQ 0
noncomputable def jU:Code:=dS pQ 1
noncomputable def nI:Code:=dS jU 0
def oZ(id:Nat):Option aS:=bif Nat.beq id 4 then some ⟨iO,mK,o7⟩ else bif Nat.beq id 12 then some ⟨iU,mL,o9⟩ else bif Nat.beq id 8 then some ⟨iT,mN,o8⟩ else none
theorem P3:∀ x,dM Tryz.prog pV 146 (aD Tryz.f230) oZ nK iO mK x=pA x:=by
 rintro⟨v0,v6,v7,v8,v9,v100000,⟨⟩⟩
 kernel_rfl
theorem WR:aF nK=[]:=by kernel_rfl
theorem PW:aH nK=4:=by kernel_rfl
theorem RJ:cF Tryz.prog 146 nK ⟨iO,mK,o7⟩:=by
 exact cC rJ.callee aK.mixed _ (aE WR trivial) P3
theorem QZ:∀ x,dM Tryz.prog pV 146 (aD Tryz.f230) oZ nI iU mL x=kJ x:=by
 rintro⟨v6,v7,v8,v9,v10,v11,v13,v14,v100000,⟨⟩⟩
 kernel_rfl
theorem VD:aF nI=[]:=by kernel_rfl
theorem QI:aH nI=12:=by kernel_rfl
theorem SQ:cF Tryz.prog 146 nI ⟨iU,mL,o9⟩:=by
 exact cC rJ.callee aK.mixed _ (aE VD trivial) QZ
theorem QN:∀ x,dM Tryz.prog pV 146 (aD Tryz.f230) oZ jU iT mN x=fA x:=by
 rintro⟨v6,v7,v8,v9,v10,v11,v100000,⟨⟩⟩
 kernel_rfl
theorem VZ:aF jU=[nI]:=by kernel_rfl
theorem QB:aH jU=8:=by kernel_rfl
theorem SG:cF Tryz.prog 146 jU ⟨iT,mN,o8⟩:=by
 exact cC rJ.callee aK.mixed _ (aE VZ ⟨cB QI rfl SQ,trivial⟩) QN
theorem TA:aF pQ=[nK,jU]:=by kernel_rfl
theorem VY:∀ l x A,JN Tryz.prog pV Tryz.f230 (aD Tryz.f230) oZ pQ 180 (.int .u64) .none [.list (.int .u64),.list (.int .u64)] (.data [.list (.int .u64),.list (.int .u64)]) l x A=fZ l x A:=by
 rintro u0 ⟨v0,v1,⟨⟩⟩ A
 kernel_rfl
theorem aAQ:SR Tryz.prog 230 180 (.int .u64) .none [.list (.int .u64),.list (.int .u64)] (.data [.list (.int .u64),.list (.int .u64)]) fZ:=by
 exact C4 aK rJ Tryz.func230 (c:=pQ) (by kernel_rfl) (aZ:=aD Tryz.f230) (lt:=oZ) (by rfl) (aE TA ⟨cB PW rfl RJ,cB QB rfl SG,trivial⟩) VY
abbrev KZ:Shr:=(230,aAO 0 (arH 180 (.int .u64) .none [.list (.int .u64),.list (.int .u64)] (.data [.list (.int .u64),.list (.int .u64)]) fZ))
theorem V8:zK Tryz.prog KZ:=uK (g:=230) (f:=arH 180 (.int .u64) .none [.list (.int .u64),.list (.int .u64)] (.data [.list (.int .u64),.list (.int .u64)]) fZ) (IF aAQ)
def fV(x:aJ [.str,.str]):Option (aJ [.str]):=match x with
 | (v0,v1,()) =>
  aC (pS (v0,v1,())) fun y1 =>
  bif y1.2.2.1 then
   aC (sN ((aB .u64 (y1.1+y1.2.1)),())) fun y2 =>
   some (y2.1,())
  else aC (fJ () (v0,()) []) fun y3 =>
  aC (fJ () (v1,()) y3.2) fun y4 =>
  bif ltI (y3.1.length:Int) (y4.1.length:Int) then
   bif Nat.ble [0].length 1048576 then bif Nat.ble y4.1.length 1048576 then bif !(ltI (aB .i64 ((aB .i64 (((y4.1++[0]).length:Int)-1))-(y3.1.length:Int))) 0) then bif !(ltI 1048576 (aB .i64 ((aB .i64 (((y4.1++[0]).length:Int)-1))-(y3.1.length:Int)))) then bif Nat.ble y3.1.length 1048576 then aC (W9 (t:=(.int .u64)) dB (y4.1++[0]) ((y3.1++List.replicate (aB .i64 ((aB .i64 (((y4.1++[0]).length:Int)-1))-(y3.1.length:Int))).toNat (0:Ty.den (.int .u64))),0,())) fun y5 =>
   aC (bJ y5 (()) y4.2) fun y6 =>
   aC (bU (y6.1,())) fun y7 =>
   some (y7.1,()) else none else none else none else none else none
  else bif Nat.ble [0].length 1048576 then bif Nat.ble y3.1.length 1048576 then bif !(ltI (aB .i64 ((aB .i64 (((y3.1++[0]).length:Int)-1))-(y4.1.length:Int))) 0) then bif !(ltI 1048576 (aB .i64 ((aB .i64 (((y3.1++[0]).length:Int)-1))-(y4.1.length:Int)))) then bif Nat.ble y4.1.length 1048576 then aC (W9 (t:=(.int .u64)) dB (y3.1++[0]) ((y4.1++List.replicate (aB .i64 ((aB .i64 (((y3.1++[0]).length:Int)-1))-(y4.1.length:Int))).toNat (0:Ty.den (.int .u64))),0,())) fun y8 =>
  aC (bJ y8 (()) y4.2) fun y9 =>
  aC (bU (y9.1,())) fun y10 =>
  some (y10.1,()) else none else none else none else none else none
noncomputable def aFQ:Code:=aT Tryz.f181
abbrev aS4:Env:=R2 [SV,KU,vC] [E9,C7,iH]
theorem aYG:bE Tryz.prog aS4:=qF ⟨OO,I4,vS,trivial⟩ ⟨EI,H6,iP,trivial⟩
def aO7(id:Nat):Option aS:=none
theorem aV7:aF aFQ=[]:=by kernel_rfl
theorem aXP:∀ x,aO5 Tryz.prog aS4 Tryz.f181 (aD Tryz.f181) aO7 aFQ 180 (.int .u64) _ _ x=fV x:=by
 rintro⟨v0,v1,⟨⟩⟩
 kernel_rfl
theorem a3P:eB Tryz.prog 181 _ _ fV:=by
 exact aWT aK aYG Tryz.func181 (c:=aFQ) (by kernel_rfl) (aZ:=aD Tryz.f181) (lt:=aO7) (aE aV7 trivial) aXP
abbrev aGH:Ent:=⟨181,_,_,fV⟩
theorem aIH:Ent.OK Tryz.prog aGH:=a3P
def dA(x:aJ [.str,.str]):Option (aJ [.str,.int .i64]):=match x with
 | (v0,v1,()) =>
  aC (fE (v0,v1,())) fun y1 =>
  bif ltI y1.1 0 then
   some ((ByteArray.mk #[]),3,())
  else aC (pS (v0,v1,())) fun y2 =>
  bif y2.2.2.1 then
   aC (sN ((aB .u64 (y2.1-y2.2.1)),())) fun y3 =>
   some (y3.1,0,())
  else aC (fJ () (v0,()) []) fun y4 =>
  bif Nat.ble [0].length 1048576 then bif Nat.ble y4.1.length 1048576 then aC (fJ () (v1,()) y4.2) fun y5 =>
  aC (fJ () (v1,()) y5.2) fun y6 =>
  bif !(ltI (aB .i64 ((aB .i64 (((y4.1++[0]).length:Int)-1))-(y6.1.length:Int))) 0) then bif !(ltI 1048576 (aB .i64 ((aB .i64 (((y4.1++[0]).length:Int)-1))-(y6.1.length:Int)))) then bif Nat.ble y5.1.length 1048576 then aC (aMJ (t:=(.int .u64)) (rets:=[.bool]) eQ (y4.1++[0]) ((y5.1++List.replicate (aB .i64 ((aB .i64 (((y4.1++[0]).length:Int)-1))-(y6.1.length:Int))).toNat (0:Ty.den (.int .u64))),1,0,())) fun y7 =>
  aC (bJ y7.2 (()) y6.2) fun y8 =>
  aC (bU (y8.1,())) fun y9 =>
  some (y9.1,0,()) else none else none else none else none else none
noncomputable def aGC:Code:=aT Tryz.f183
abbrev aSJ:Env:=R2 [JM,SV,KU,vC] [E9,CO,iH]
theorem aX3:bE Tryz.prog aSJ:=qF ⟨KN,OO,I4,vS,trivial⟩ ⟨EI,IX,iP,trivial⟩
def aO1(id:Nat):Option aS:=none
theorem aU9:aF aGC=[]:=by kernel_rfl
theorem aYF:∀ x,aO5 Tryz.prog aSJ Tryz.f183 (aD Tryz.f183) aO1 aGC 180 (.int .u64) _ _ x=dA x:=by
 rintro⟨v0,v1,⟨⟩⟩
 kernel_rfl
theorem a3H:eB Tryz.prog 183 _ _ dA:=by
 exact aWT aK aX3 Tryz.func183 (c:=aGC) (by kernel_rfl) (aZ:=aD Tryz.f183) (lt:=aO1) (aE aU9 trivial) aYF
abbrev aHS:Ent:=⟨183,_,_,dA⟩
theorem aIO:Ent.OK Tryz.prog aHS:=a3H
def fU(x:aJ [.str,.str]):Option (aJ [.str]):=match x with
 | (v0,v1,()) =>
  bif !(ltI 18 (aB .i64 ((v0.size:Int)+(v1.size:Int)))) then
   aC (pS (v0,v1,())) fun y1 =>
   aC (sN ((aB .u64 (y1.1*y1.2.1)),())) fun y2 =>
   some (y2.1,())
  else aC (fJ () (v0,()) []) fun y3 =>
  aC (fJ () (v1,()) y3.2) fun y4 =>
  aC (eT () (y3.1,y4.1,()) y4.2) fun y5 =>
  aC (bU (y5.1,())) fun y6 =>
  some (y6.1,())
noncomputable def aGT:Code:=aT Tryz.f184
abbrev aTH:Env:=R2 [SV,KU,vC] [E9,A6]
theorem aYD:bE Tryz.prog aTH:=qF ⟨OO,I4,vS,trivial⟩ ⟨EI,HA,trivial⟩
def aO2(id:Nat):Option aS:=none
theorem aV9:aF aGT=[]:=by kernel_rfl
theorem aXX:∀ x,aO5 Tryz.prog aTH Tryz.f184 (aD Tryz.f184) aO2 aGT 180 (.int .u64) _ _ x=fU x:=by
 rintro⟨v0,v1,⟨⟩⟩
 kernel_rfl
theorem a3B:eB Tryz.prog 184 _ _ fU:=by
 exact aWT aK aYD Tryz.func184 (c:=aGT) (by kernel_rfl) (aZ:=aD Tryz.f184) (lt:=aO2) (aE aV9 trivial) aXX
abbrev aUA:Ent:=⟨184,_,_,fU⟩
theorem aYA:Ent.OK Tryz.prog aUA:=a3B
def n9(x:aJ [.str,.str]):Option (aJ [.str,.str,.int .i64]):=match x with
 | (v0,v1,()) =>
  bif eqS v1 (ByteArray.mk #[48]) then
   some ((ByteArray.mk #[]),(ByteArray.mk #[]),17,())
  else aC (pS (v0,v1,())) fun y1 =>
  bif y1.2.2.1 then
   bif eqI y1.2.1 0 then none else aC (sN ((aB .u64 (y1.1.tdiv y1.2.1)),())) fun y2 =>
   bif eqI y1.2.1 0 then none else aC (sN ((y1.1.tmod y1.2.1),())) fun y3 =>
   some (y2.1,y3.1,0,())
  else aC (fJ () (v0,()) []) fun y4 =>
  aC (fJ () (v1,()) y4.2) fun y5 =>
  aC (mX (y4.1,y5.1,())) fun y6 =>
  bif ltI y6.1 0 then
   some ((ByteArray.mk #[48]),v0,0,())
  else bif eqI (y5.1.length:Int) 1 then
   bif aL 0 y5.1.length then bif Nat.blt 0 y5.1.length then aC (fG () (y4.1,(y5.1.getD 0 0),()) y5.2) fun y7 =>
   aC (bU (y7.1.1,())) fun y8 =>
   aC (sN (y7.1.2.1,())) fun y9 =>
   some (y8.1,y9.1,0,()) else none else none
  else aC (fZ () (y4.1,y5.1,()) y5.2) fun y10 =>
  aC (bU (y10.1.1,())) fun y11 =>
  aC (bU (y10.1.2.1,())) fun y12 =>
  some (y11.1,y12.1,0,())
noncomputable def T5:Code:=aT Tryz.f205
abbrev aIN:Env:=R2 [SV,KU,ML,vC] [E9,KZ,CY]
theorem aRN:bE Tryz.prog aIN:=qF ⟨OO,I4,ZS,vS,trivial⟩ ⟨EI,V8,HS,trivial⟩
def aDT(id:Nat):Option aS:=none
theorem aNS:aF T5=[]:=by kernel_rfl
theorem aPQ:∀ x,aO5 Tryz.prog aIN Tryz.f205 (aD Tryz.f205) aDT T5 180 (.int .u64) _ _ x=n9 x:=by
 rintro⟨v0,v1,⟨⟩⟩
 kernel_rfl
theorem aVF:eB Tryz.prog 205 _ _ n9:=by
 exact aWT aK aRN Tryz.func205 (c:=T5) (by kernel_rfl) (aZ:=aD Tryz.f205) (lt:=aDT) (aE aNS trivial) aPQ
abbrev aIR:Ent:=⟨205,_,_,n9⟩
theorem aPM:Ent.OK Tryz.prog aIR:=aVF
def LM(x:aJ [.str,.str]):Option (aJ [.str]):=match x with
 | (v0,v1,()) =>
  aC (p8 (v0,18,())) fun y1 =>
  bif y1.2.1 then
   aC (p8 (v1,18,())) fun y2 =>
   bif y2.2.1 then
    aC (j3 ((aB .i64 (y1.1+y2.1)),())) fun y3 =>
    some (y3.1,())
   else aC (cN (v0,())) fun y4 =>
   aC (cN (v1,())) fun y5 =>
   bif y4.1 then
    bif y5.1 then
     aC (fV (y4.2.1,y5.2.1,())) fun y6 =>
     aC (aA (y4.1,y6.1,())) fun y7 =>
     some (y7.1,())
    else aC (fE (y4.2.1,y5.2.1,())) fun y8 =>
    bif ltI y8.1 0 then
     aC (dA (y5.2.1,y4.2.1,())) fun y9 =>
     aC (aA (y5.1,y9.1,())) fun y10 =>
     some (y10.1,())
    else aC (dA (y4.2.1,y5.2.1,())) fun y11 =>
    aC (aA (y4.1,y11.1,())) fun y12 =>
    some (y12.1,())
   else bif y5.1 then
    aC (fE (y4.2.1,y5.2.1,())) fun y13 =>
    bif ltI y13.1 0 then
     aC (dA (y5.2.1,y4.2.1,())) fun y14 =>
     aC (aA (y5.1,y14.1,())) fun y15 =>
     some (y15.1,())
    else aC (dA (y4.2.1,y5.2.1,())) fun y16 =>
    aC (aA (y4.1,y16.1,())) fun y17 =>
    some (y17.1,())
   else aC (fV (y4.2.1,y5.2.1,())) fun y18 =>
   aC (aA (y4.1,y18.1,())) fun y19 =>
   some (y19.1,())
  else aC (cN (v0,())) fun y20 =>
  aC (cN (v1,())) fun y21 =>
  bif y20.1 then
   bif y21.1 then
    aC (fV (y20.2.1,y21.2.1,())) fun y22 =>
    aC (aA (y20.1,y22.1,())) fun y23 =>
    some (y23.1,())
   else aC (fE (y20.2.1,y21.2.1,())) fun y24 =>
   bif ltI y24.1 0 then
    aC (dA (y21.2.1,y20.2.1,())) fun y25 =>
    aC (aA (y21.1,y25.1,())) fun y26 =>
    some (y26.1,())
   else aC (dA (y20.2.1,y21.2.1,())) fun y27 =>
   aC (aA (y20.1,y27.1,())) fun y28 =>
   some (y28.1,())
  else bif y21.1 then
   aC (fE (y20.2.1,y21.2.1,())) fun y29 =>
   bif ltI y29.1 0 then
    aC (dA (y21.2.1,y20.2.1,())) fun y30 =>
    aC (aA (y21.1,y30.1,())) fun y31 =>
    some (y31.1,())
   else aC (dA (y20.2.1,y21.2.1,())) fun y32 =>
   aC (aA (y20.1,y32.1,())) fun y33 =>
   some (y33.1,())
  else aC (fV (y20.2.1,y21.2.1,())) fun y34 =>
  aC (aA (y20.1,y34.1,())) fun y35 =>
  some (y35.1,())
noncomputable def aPZ:Code:=aT Tryz.f135
abbrev aZD:Env:=b8 [aGH,JM,aHS,QO,R4,Q4,ER]
theorem a32:bE Tryz.prog aZD:=bF ⟨aIH,KN,aIO,JG,OE,QT,zW,trivial⟩
def aWD(id:Nat):Option aS:=none
theorem a19:aF aPZ=[]:=by kernel_rfl
theorem a3J:∀ x,cI Tryz.prog aZD Tryz.f135 (aD Tryz.f135) aWD aPZ _ _ x=LM x:=by
 rintro⟨v0,v1,⟨⟩⟩
 kernel_rfl
theorem bAZ:eB Tryz.prog 135 _ _ LM:=by
 exact bL aK a32 Tryz.func135 (c:=aPZ) (by kernel_rfl) (aZ:=aD Tryz.f135) (lt:=aWD) (aE a19 trivial) a3J
abbrev aP1:Ent:=⟨135,_,_,LM⟩
theorem aPL:Ent.OK Tryz.prog aP1:=bAZ
def LN(x:aJ [.str,.str]):Option (aJ [.str]):=match x with
 | (v0,v1,()) =>
  aC (LZ (v1,())) fun y1 =>
  aC (LM (v0,y1.1,())) fun y2 =>
  some (y2.1,())
noncomputable def aRC:Code:=aT Tryz.f206
abbrev aZO:Env:=b8 [aP1,aQ2]
theorem a3Y:bE Tryz.prog aZO:=bF ⟨aPL,aOU,trivial⟩
def aW8(id:Nat):Option aS:=none
theorem a1G:aF aRC=[]:=by kernel_rfl
theorem a26:∀ x,cI Tryz.prog aZO Tryz.f206 (aD Tryz.f206) aW8 aRC _ _ x=LN x:=by
 rintro⟨v0,v1,⟨⟩⟩
 kernel_rfl
theorem a9M:eB Tryz.prog 206 _ _ LN:=by
 exact bL aK a3Y Tryz.func206 (c:=aRC) (by kernel_rfl) (aZ:=aD Tryz.f206) (lt:=aW8) (aE a1G trivial) a26
abbrev aQ5:Ent:=⟨206,_,_,LN⟩
theorem aO4:Ent.OK Tryz.prog aQ5:=a9M
def IC(x:aJ [.str,.str]):Option (aJ [.str]):=match x with
 | (v0,v1,()) =>
  aC (p8 (v0,9,())) fun y1 =>
  bif y1.2.1 then
   aC (p8 (v1,9,())) fun y2 =>
   bif y2.2.1 then
    aC (j3 ((aB .i64 (y1.1*y2.1)),())) fun y3 =>
    some (y3.1,())
   else aC (cN (v0,())) fun y4 =>
   aC (cN (v1,())) fun y5 =>
   bif y4.1 then
    bif y5.1 then
     aC (fU (y4.2.1,y5.2.1,())) fun y6 =>
     aC (aA (false,y6.1,())) fun y7 =>
     some (y7.1,())
    else aC (fU (y4.2.1,y5.2.1,())) fun y8 =>
    aC (aA (true,y8.1,())) fun y9 =>
    some (y9.1,())
   else bif y5.1 then
    aC (fU (y4.2.1,y5.2.1,())) fun y10 =>
    aC (aA (true,y10.1,())) fun y11 =>
    some (y11.1,())
   else aC (fU (y4.2.1,y5.2.1,())) fun y12 =>
   aC (aA (false,y12.1,())) fun y13 =>
   some (y13.1,())
  else aC (cN (v0,())) fun y14 =>
  aC (cN (v1,())) fun y15 =>
  bif y14.1 then
   bif y15.1 then
    aC (fU (y14.2.1,y15.2.1,())) fun y16 =>
    aC (aA (false,y16.1,())) fun y17 =>
    some (y17.1,())
   else aC (fU (y14.2.1,y15.2.1,())) fun y18 =>
   aC (aA (true,y18.1,())) fun y19 =>
   some (y19.1,())
  else bif y15.1 then
   aC (fU (y14.2.1,y15.2.1,())) fun y20 =>
   aC (aA (true,y20.1,())) fun y21 =>
   some (y21.1,())
  else aC (fU (y14.2.1,y15.2.1,())) fun y22 =>
  aC (aA (false,y22.1,())) fun y23 =>
  some (y23.1,())
noncomputable def aP3:Code:=aT Tryz.f136
abbrev aZY:Env:=b8 [aUA,QO,R4,Q4,ER]
theorem a23:bE Tryz.prog aZY:=bF ⟨aYA,JG,OE,QT,zW,trivial⟩
def aWY(id:Nat):Option aS:=none
theorem a04:aF aP3=[]:=by kernel_rfl
theorem a3K:∀ x,cI Tryz.prog aZY Tryz.f136 (aD Tryz.f136) aWY aP3 _ _ x=IC x:=by
 rintro⟨v0,v1,⟨⟩⟩
 kernel_rfl
theorem bA5:eB Tryz.prog 136 _ _ IC:=by
 exact bL aK a23 Tryz.func136 (c:=aP3) (by kernel_rfl) (aZ:=aD Tryz.f136) (lt:=aWY) (aE a04 trivial) a3K
abbrev aHK:Ent:=⟨136,_,_,IC⟩
theorem aCN:Ent.OK Tryz.prog aHK:=bA5
def xV(x:aJ [.str,.str]):Option (aJ [.str,.str,.int .i64]):=match x with
 | (v0,v1,()) =>
  bif eqS v1 (ByteArray.mk #[48]) then
   some ((ByteArray.mk #[]),(ByteArray.mk #[]),17,())
  else aC (p8 (v0,18,())) fun y1 =>
  bif y1.2.1 then
   aC (p8 (v1,18,())) fun y2 =>
   bif y2.2.1 then
    bif eqI y2.1 0 then none else bif eqI y2.1 0 then none else bif !(eqI (y1.1.tmod y2.1) 0) then
     bif ltI (y1.1.tmod y2.1) 0 then
      bif ltI y2.1 0 then
       aC (j3 ((aB .i64 (y1.1.tdiv y2.1)),())) fun y3 =>
       aC (j3 ((y1.1.tmod y2.1),())) fun y4 =>
       some (y3.1,y4.1,0,())
      else aC (j3 ((aB .i64 ((aB .i64 (y1.1.tdiv y2.1))-1)),())) fun y5 =>
      aC (j3 ((aB .i64 ((y1.1.tmod y2.1)+y2.1)),())) fun y6 =>
      some (y5.1,y6.1,0,())
     else bif ltI y2.1 0 then
      aC (j3 ((aB .i64 ((aB .i64 (y1.1.tdiv y2.1))-1)),())) fun y7 =>
      aC (j3 ((aB .i64 ((y1.1.tmod y2.1)+y2.1)),())) fun y8 =>
      some (y7.1,y8.1,0,())
     else aC (j3 ((aB .i64 (y1.1.tdiv y2.1)),())) fun y9 =>
     aC (j3 ((y1.1.tmod y2.1),())) fun y10 =>
     some (y9.1,y10.1,0,())
    else aC (j3 ((aB .i64 (y1.1.tdiv y2.1)),())) fun y11 =>
    aC (j3 ((y1.1.tmod y2.1),())) fun y12 =>
    some (y11.1,y12.1,0,())
   else aC (cN (v0,())) fun y13 =>
   aC (cN (v1,())) fun y14 =>
   aC (n9 (y13.2.1,y14.2.1,())) fun y15 =>
   bif !(eqI y15.2.2.1 0) then
    some ((ByteArray.mk #[]),(ByteArray.mk #[]),y15.2.2.1,())
   else bif y13.1 then
    bif y14.1 then
     bif y13.1 then
      bif y14.1 then
       aC (aA (false,y15.1,())) fun y16 =>
       aC (aA (y14.1,y15.2.1,())) fun y17 =>
       some (y16.1,y17.1,0,())
      else aC (aA (true,y15.1,())) fun y18 =>
      aC (aA (y14.1,y15.2.1,())) fun y19 =>
      some (y18.1,y19.1,0,())
     else bif y14.1 then
      aC (aA (true,y15.1,())) fun y20 =>
      aC (aA (y14.1,y15.2.1,())) fun y21 =>
      some (y20.1,y21.1,0,())
     else aC (aA (false,y15.1,())) fun y22 =>
     aC (aA (y14.1,y15.2.1,())) fun y23 =>
     some (y22.1,y23.1,0,())
    else bif !(eqS y15.2.1 (ByteArray.mk #[48])) then
     aC (fV (y15.1,(ByteArray.mk #[49]),())) fun y24 =>
     aC (dA (y14.2.1,y15.2.1,())) fun y25 =>
     bif y13.1 then
      bif y14.1 then
       aC (aA (false,y24.1,())) fun y26 =>
       aC (aA (y14.1,y25.1,())) fun y27 =>
       some (y26.1,y27.1,0,())
      else aC (aA (true,y24.1,())) fun y28 =>
      aC (aA (y14.1,y25.1,())) fun y29 =>
      some (y28.1,y29.1,0,())
     else bif y14.1 then
      aC (aA (true,y24.1,())) fun y30 =>
      aC (aA (y14.1,y25.1,())) fun y31 =>
      some (y30.1,y31.1,0,())
     else aC (aA (false,y24.1,())) fun y32 =>
     aC (aA (y14.1,y25.1,())) fun y33 =>
     some (y32.1,y33.1,0,())
    else bif y13.1 then
     bif y14.1 then
      aC (aA (false,y15.1,())) fun y34 =>
      aC (aA (y14.1,y15.2.1,())) fun y35 =>
      some (y34.1,y35.1,0,())
     else aC (aA (true,y15.1,())) fun y36 =>
     aC (aA (y14.1,y15.2.1,())) fun y37 =>
     some (y36.1,y37.1,0,())
    else bif y14.1 then
     aC (aA (true,y15.1,())) fun y38 =>
     aC (aA (y14.1,y15.2.1,())) fun y39 =>
     some (y38.1,y39.1,0,())
    else aC (aA (false,y15.1,())) fun y40 =>
    aC (aA (y14.1,y15.2.1,())) fun y41 =>
    some (y40.1,y41.1,0,())
   else bif y14.1 then
    bif !(eqS y15.2.1 (ByteArray.mk #[48])) then
     aC (fV (y15.1,(ByteArray.mk #[49]),())) fun y42 =>
     aC (dA (y14.2.1,y15.2.1,())) fun y43 =>
     bif y13.1 then
      bif y14.1 then
       aC (aA (false,y42.1,())) fun y44 =>
       aC (aA (y14.1,y43.1,())) fun y45 =>
       some (y44.1,y45.1,0,())
      else aC (aA (true,y42.1,())) fun y46 =>
      aC (aA (y14.1,y43.1,())) fun y47 =>
      some (y46.1,y47.1,0,())
     else bif y14.1 then
      aC (aA (true,y42.1,())) fun y48 =>
      aC (aA (y14.1,y43.1,())) fun y49 =>
      some (y48.1,y49.1,0,())
     else aC (aA (false,y42.1,())) fun y50 =>
     aC (aA (y14.1,y43.1,())) fun y51 =>
     some (y50.1,y51.1,0,())
    else bif y13.1 then
     bif y14.1 then
      aC (aA (false,y15.1,())) fun y52 =>
      aC (aA (y14.1,y15.2.1,())) fun y53 =>
      some (y52.1,y53.1,0,())
     else aC (aA (true,y15.1,())) fun y54 =>
     aC (aA (y14.1,y15.2.1,())) fun y55 =>
     some (y54.1,y55.1,0,())
    else bif y14.1 then
     aC (aA (true,y15.1,())) fun y56 =>
     aC (aA (y14.1,y15.2.1,())) fun y57 =>
     some (y56.1,y57.1,0,())
    else aC (aA (false,y15.1,())) fun y58 =>
    aC (aA (y14.1,y15.2.1,())) fun y59 =>
    some (y58.1,y59.1,0,())
   else bif y13.1 then
    bif y14.1 then
     aC (aA (false,y15.1,())) fun y60 =>
     aC (aA (y14.1,y15.2.1,())) fun y61 =>
     some (y60.1,y61.1,0,())
    else aC (aA (true,y15.1,())) fun y62 =>
    aC (aA (y14.1,y15.2.1,())) fun y63 =>
    some (y62.1,y63.1,0,())
   else bif y14.1 then
    aC (aA (true,y15.1,())) fun y64 =>
    aC (aA (y14.1,y15.2.1,())) fun y65 =>
    some (y64.1,y65.1,0,())
   else aC (aA (false,y15.1,())) fun y66 =>
   aC (aA (y14.1,y15.2.1,())) fun y67 =>
   some (y66.1,y67.1,0,())
  else aC (cN (v0,())) fun y68 =>
  aC (cN (v1,())) fun y69 =>
  aC (n9 (y68.2.1,y69.2.1,())) fun y70 =>
  bif !(eqI y70.2.2.1 0) then
   some ((ByteArray.mk #[]),(ByteArray.mk #[]),y70.2.2.1,())
  else bif y68.1 then
   bif y69.1 then
    bif y68.1 then
     bif y69.1 then
      aC (aA (false,y70.1,())) fun y71 =>
      aC (aA (y69.1,y70.2.1,())) fun y72 =>
      some (y71.1,y72.1,0,())
     else aC (aA (true,y70.1,())) fun y73 =>
     aC (aA (y69.1,y70.2.1,())) fun y74 =>
     some (y73.1,y74.1,0,())
    else bif y69.1 then
     aC (aA (true,y70.1,())) fun y75 =>
     aC (aA (y69.1,y70.2.1,())) fun y76 =>
     some (y75.1,y76.1,0,())
    else aC (aA (false,y70.1,())) fun y77 =>
    aC (aA (y69.1,y70.2.1,())) fun y78 =>
    some (y77.1,y78.1,0,())
   else bif !(eqS y70.2.1 (ByteArray.mk #[48])) then
    aC (fV (y70.1,(ByteArray.mk #[49]),())) fun y79 =>
    aC (dA (y69.2.1,y70.2.1,())) fun y80 =>
    bif y68.1 then
     bif y69.1 then
      aC (aA (false,y79.1,())) fun y81 =>
      aC (aA (y69.1,y80.1,())) fun y82 =>
      some (y81.1,y82.1,0,())
     else aC (aA (true,y79.1,())) fun y83 =>
     aC (aA (y69.1,y80.1,())) fun y84 =>
     some (y83.1,y84.1,0,())
    else bif y69.1 then
     aC (aA (true,y79.1,())) fun y85 =>
     aC (aA (y69.1,y80.1,())) fun y86 =>
     some (y85.1,y86.1,0,())
    else aC (aA (false,y79.1,())) fun y87 =>
    aC (aA (y69.1,y80.1,())) fun y88 =>
    some (y87.1,y88.1,0,())
   else bif y68.1 then
    bif y69.1 then
     aC (aA (false,y70.1,())) fun y89 =>
     aC (aA (y69.1,y70.2.1,())) fun y90 =>
     some (y89.1,y90.1,0,())
    else aC (aA (true,y70.1,())) fun y91 =>
    aC (aA (y69.1,y70.2.1,())) fun y92 =>
    some (y91.1,y92.1,0,())
   else bif y69.1 then
    aC (aA (true,y70.1,())) fun y93 =>
    aC (aA (y69.1,y70.2.1,())) fun y94 =>
    some (y93.1,y94.1,0,())
   else aC (aA (false,y70.1,())) fun y95 =>
   aC (aA (y69.1,y70.2.1,())) fun y96 =>
   some (y95.1,y96.1,0,())
  else bif y69.1 then
   bif !(eqS y70.2.1 (ByteArray.mk #[48])) then
    aC (fV (y70.1,(ByteArray.mk #[49]),())) fun y97 =>
    aC (dA (y69.2.1,y70.2.1,())) fun y98 =>
    bif y68.1 then
     bif y69.1 then
      aC (aA (false,y97.1,())) fun y99 =>
      aC (aA (y69.1,y98.1,())) fun y100 =>
      some (y99.1,y100.1,0,())
     else aC (aA (true,y97.1,())) fun y101 =>
     aC (aA (y69.1,y98.1,())) fun y102 =>
     some (y101.1,y102.1,0,())
    else bif y69.1 then
     aC (aA (true,y97.1,())) fun y103 =>
     aC (aA (y69.1,y98.1,())) fun y104 =>
     some (y103.1,y104.1,0,())
    else aC (aA (false,y97.1,())) fun y105 =>
    aC (aA (y69.1,y98.1,())) fun y106 =>
    some (y105.1,y106.1,0,())
   else bif y68.1 then
    bif y69.1 then
     aC (aA (false,y70.1,())) fun y107 =>
     aC (aA (y69.1,y70.2.1,())) fun y108 =>
     some (y107.1,y108.1,0,())
    else aC (aA (true,y70.1,())) fun y109 =>
    aC (aA (y69.1,y70.2.1,())) fun y110 =>
    some (y109.1,y110.1,0,())
   else bif y69.1 then
    aC (aA (true,y70.1,())) fun y111 =>
    aC (aA (y69.1,y70.2.1,())) fun y112 =>
    some (y111.1,y112.1,0,())
   else aC (aA (false,y70.1,())) fun y113 =>
   aC (aA (y69.1,y70.2.1,())) fun y114 =>
   some (y113.1,y114.1,0,())
  else bif y68.1 then
   bif y69.1 then
    aC (aA (false,y70.1,())) fun y115 =>
    aC (aA (y69.1,y70.2.1,())) fun y116 =>
    some (y115.1,y116.1,0,())
   else aC (aA (true,y70.1,())) fun y117 =>
   aC (aA (y69.1,y70.2.1,())) fun y118 =>
   some (y117.1,y118.1,0,())
  else bif y69.1 then
   aC (aA (true,y70.1,())) fun y119 =>
   aC (aA (y69.1,y70.2.1,())) fun y120 =>
   some (y119.1,y120.1,0,())
  else aC (aA (false,y70.1,())) fun y121 =>
  aC (aA (y69.1,y70.2.1,())) fun y122 =>
  some (y121.1,y122.1,0,())
noncomputable def aB6:Code:=aT Tryz.f165
abbrev aO6:Env:=b8 [aGH,aIR,aHS,QO,R4,Q4,ER]
theorem aUP:bE Tryz.prog aO6:=bF ⟨aIH,aPM,aIO,JG,OE,QT,zW,trivial⟩
def aM0(id:Nat):Option aS:=none
theorem aSD:aF aB6=[]:=by kernel_rfl
theorem aVC:∀ x,cI Tryz.prog aO6 Tryz.f165 (aD Tryz.f165) aM0 aB6 _ _ x=xV x:=by
 rintro⟨v0,v1,⟨⟩⟩
 kernel_rfl
theorem a15:eB Tryz.prog 165 _ _ xV:=by
 exact bL aK aUP Tryz.func165 (c:=aB6) (by kernel_rfl) (aZ:=aD Tryz.f165) (lt:=aM0) (aE aSD trivial) aVC
abbrev aC6:Ent:=⟨165,_,_,xV⟩
theorem aEA:Ent.OK Tryz.prog aC6:=a15
end Go.PM
namespace Go.PM
open Go Go.RowKit Go.Proofs
set_option maxRecDepth 100000
set_option maxHeartbeats 4000000
abbrev sG:List (Nat×Kd):=[(3,.own 110 .str),(9,.list TyE),(10,.int .i64),(11,.int .i64)]
abbrev wZ:List (Ex×List (Nat×Kd)):=[(.exit 0,[(3,.own 110 .str)])]
def tA(x:Shape.den sG):Option (Shape.den sG⊕aW wZ):=match x with
 | (v3,v9,v10,v11,()) =>
  bif ltI v11 v10 then
   bif aL v11 v9.length then aC (j3 ((v9.getD v11.toNat 0),())) fun y2 =>
   bif Nat.ble [y2.1].length 1048576 then bif Nat.ble v3.length 1048576 then some (.inl ((v3++[y2.1]),v9,v10,(aB .i64 (v11+1)),())) else none else none else none
  else some (.inr ((v3,())))
def zC(x:Shape.den sG):Option (aW wZ):=bZ tA (2^64) x
def q9(x:aJ [.list TyE]):Option (List ByteArray):=match x with
 | (v0,()) =>
  bif !(ltI (v0.length:Int) 0) then bif !(ltI 1048576 (v0.length:Int)) then aC (zC ((List.replicate 0 ByteArray.empty),v0,(v0.length:Int),0,())) fun z3 =>
  some z3.1 else none else none
noncomputable def JE:Code:=aT Tryz.f119
abbrev PX:Env:=b8 [QO]
theorem UO:bE Tryz.prog PX:=bF ⟨JG,trivial⟩
noncomputable def yA:Code:=dS JE 0
def NX(id:Nat):Option aS:=bif Nat.beq id 3 then some ⟨sG,wZ,zC⟩ else none
theorem aGM:∀ x,dM Tryz.prog PX 22 (aD Tryz.f119) NX yA sG wZ x=tA x:=by
 rintro⟨v3,v9,v10,v11,⟨⟩⟩
 kernel_rfl
theorem aNO:aF yA=[]:=by kernel_rfl
theorem aF5:aH yA=3:=by kernel_rfl
theorem aI4:cF Tryz.prog 22 yA ⟨sG,wZ,zC⟩:=by
 exact cC UO.callee aK.mixed _ (aE aNO trivial) aGM
theorem aKG:aF JE=[yA]:=by kernel_rfl
theorem aOS:∀ x,a9I Tryz.prog PX Tryz.f119 (aD Tryz.f119) NX JE [.list TyE] 2 110 .str x=q9 x:=by
 rintro⟨v0,⟨⟩⟩
 kernel_rfl
theorem aT0:a9N Tryz.prog 119 [.list TyE] 110 .str q9:=by
 exact a7L aK UO Tryz.func119 (c:=JE) (by kernel_rfl) (aZ:=aD Tryz.f119) (lt:=NX) (t:=2) (by kernel_rfl) (aE aKG ⟨cB aF5 rfl aI4,trivial⟩) aOS
abbrev IZ:Shr:=(119,bJY [.list TyE] 110 .str q9)
theorem JZ:zK Tryz.prog IZ:=a8O aT0
abbrev mW:List (Nat×Kd):=[(0,.hnd 1),(1,.str),(10,.hnd 1),(11,.int .i64),(12,.int .i64),(100000,.ar 110 .str)]
abbrev rB:List (Ex×List (Nat×Kd)):=[(.exit 0,[(100000,.ar 110 .str)])]
def o0(x:Shape.den mW):Option (Shape.den mW⊕aW rB):=match x with
 | (v0,v1,v10,v11,v12,v100000,()) =>
  bif ltI v12 v11 then
   bif aL v12 v10.2.2 then bif Nat.blt ((v10.2.1+v12.toNat)*1) (dH v100000 v10.1) then bif aL v12 v0.2.2 then bif Nat.blt ((v0.2.1+v12.toNat)*1) (dH v100000 v0.1) then aC (IC (v1,(eD v100000 v10.1 ((v10.2.1+v12.toNat)*1) ByteArray.empty),())) fun y3 =>
   aC (LN ((eD v100000 v0.1 ((v0.2.1+v12.toNat)*1) ByteArray.empty),y3.1,())) fun y4 =>
   bif aL v12 v0.2.2 then bif Nat.blt ((v0.2.1+v12.toNat)*1) (dH v100000 v0.1) then some (.inl ((v0.1,v0.2.1,v0.2.2),v1,(v10.1,v10.2.1,v10.2.2),v11,(aB .i64 (v12+1)),(yQ v100000 v0.1 ((v0.2.1+v12.toNat)*1) y4.1),())) else none else none else none else none else none else none
  else some (.inr ((v100000,())))
def sW(x:Shape.den mW):Option (aW rB):=bZ o0 (2^64) x
def hX(u0:Unit) (x:aJ [.hnd 1,.str,.hnd 1]) (A:List (List ByteArray)):Option ((aJ [])×List (List ByteArray)):=match x with
 | (v0,v1,v2,()) =>
  bif eqS v1 (ByteArray.mk #[48]) then
   some ((()),A)
  else aC (sW ((v0.1,v0.2.1,v0.2.2),v1,(v2.1,v2.2.1,v2.2.2),((v2.2.2:Nat):Int),0,A,())) fun z5 =>
  some ((()),z5.1)
noncomputable def AQ:Code:=aT Tryz.f166
abbrev IK:Env:=b8 [aHK,aQ5]
theorem MN:bE Tryz.prog IK:=bF ⟨aCN,aO4,trivial⟩
noncomputable def sB:Code:=dS AQ 0
def GJ(id:Nat):Option aS:=bif Nat.beq id 2 then some ⟨mW,rB,sW⟩ else none
theorem YI:∀ x,dM Tryz.prog IK 29 (aD Tryz.f166) GJ sB mW rB x=o0 x:=by
 rintro⟨v0,v1,v10,v11,v12,v100000,⟨⟩⟩
 kernel_rfl
theorem aDO:aF sB=[]:=by kernel_rfl
theorem ZH:aH sB=2:=by kernel_rfl
theorem aAL:cF Tryz.prog 29 sB ⟨mW,rB,sW⟩:=by
 exact cC MN.callee aK.mixed _ (aE aDO trivial) YI
theorem aBU:aF AQ=[sB]:=by kernel_rfl
theorem aFM:∀ l x A,JN Tryz.prog IK Tryz.f166 (aD Tryz.f166) GJ AQ 110 .str .none [.hnd 1,.str,.hnd 1] (.data []) l x A=hX l x A:=by
 rintro u0 ⟨v0,v1,v2,⟨⟩⟩ A
 kernel_rfl
theorem aJW:SR Tryz.prog 166 110 .str .none [.hnd 1,.str,.hnd 1] (.data []) hX:=by
 exact C4 aK MN Tryz.func166 (c:=AQ) (by kernel_rfl) (aZ:=aD Tryz.f166) (lt:=GJ) (by rfl) (aE aBU ⟨cB ZH rfl aAL,trivial⟩) aFM
abbrev RR:Shr:=(166,aAO 0 (arH 110 .str .none [.hnd 1,.str,.hnd 1] (.data []) hX))
theorem aFB:zK Tryz.prog RR:=uK (g:=166) (f:=arH 110 .str .none [.hnd 1,.str,.hnd 1] (.data []) hX) (IF aJW)
abbrev mT:List (Nat×Kd):=[(0,.hnd 1),(1,.str),(10,.list .str),(11,.int .i64),(12,.int .i64),(100000,.ar 110 .str)]
abbrev qX:List (Ex×List (Nat×Kd)):=[(.exit 0,[(100000,.ar 110 .str)])]
def kU(x:Shape.den mT):Option (Shape.den mT⊕aW qX):=match x with
 | (v0,v1,v10,v11,v12,v100000,()) =>
  bif ltI v12 v11 then
   bif aL v12 v10.length then bif aL v12 v0.2.2 then bif Nat.blt ((v0.2.1+v12.toNat)*1) (dH v100000 v0.1) then aC (IC (v1,(v10.getD v12.toNat ByteArray.empty),())) fun y3 =>
   aC (LN ((eD v100000 v0.1 ((v0.2.1+v12.toNat)*1) ByteArray.empty),y3.1,())) fun y4 =>
   bif aL v12 v0.2.2 then bif Nat.blt ((v0.2.1+v12.toNat)*1) (dH v100000 v0.1) then some (.inl ((v0.1,v0.2.1,v0.2.2),v1,v10,v11,(aB .i64 (v12+1)),(yQ v100000 v0.1 ((v0.2.1+v12.toNat)*1) y4.1),())) else none else none else none else none else none
  else some (.inr ((v100000,())))
def sY(x:Shape.den mT):Option (aW qX):=bZ kU (2^64) x
def kH(u0:Unit) (x:aJ [.hnd 1,.str,.list .str]) (A:List (List ByteArray)):Option ((aJ [])×List (List ByteArray)):=match x with
 | (v0,v1,v2,()) =>
  bif eqS v1 (ByteArray.mk #[48]) then
   some ((()),A)
  else aC (sY ((v0.1,v0.2.1,v0.2.2),v1,v2,(v2.length:Int),0,A,())) fun z5 =>
  some ((()),z5.1)
noncomputable def AR:Code:=aT Tryz.f166
abbrev IE:Env:=b8 [aHK,aQ5]
theorem MQ:bE Tryz.prog IE:=bF ⟨aCN,aO4,trivial⟩
noncomputable def sD:Code:=dS AR 0
def GD(id:Nat):Option aS:=bif Nat.beq id 2 then some ⟨mT,qX,sY⟩ else none
theorem XI:∀ x,dM Tryz.prog IE 29 (aD Tryz.f166) GD sD mT qX x=kU x:=by
 rintro⟨v0,v1,v10,v11,v12,v100000,⟨⟩⟩
 kernel_rfl
theorem aE6:aF sD=[]:=by kernel_rfl
theorem X4:aH sD=2:=by kernel_rfl
theorem Z0:cF Tryz.prog 29 sD ⟨mT,qX,sY⟩:=by
 exact cC MQ.callee aK.mixed _ (aE aE6 trivial) XI
theorem aBY:aF AR=[sD]:=by kernel_rfl
theorem aDW:∀ l x A,JN Tryz.prog IE Tryz.f166 (aD Tryz.f166) GD AR 110 .str .none [.hnd 1,.str,.list .str] (.data []) l x A=kH l x A:=by
 rintro u0 ⟨v0,v1,v2,⟨⟩⟩ A
 kernel_rfl
theorem aIV:SR Tryz.prog 166 110 .str .none [.hnd 1,.str,.list .str] (.data []) kH:=by
 exact C4 aK MQ Tryz.func166 (c:=AR) (by kernel_rfl) (aZ:=aD Tryz.f166) (lt:=GD) (by rfl) (aE aBY ⟨cB X4 rfl Z0,trivial⟩) aDW
theorem aGW:a9G Tryz.prog 166 110 .str [.str,.list .str] (W9 kH):=aUR aIV (by rfl) (by rfl)
abbrev PD:Shr:=(166,aAO 1 (bGO 110 .str [.str,.list .str] (W9 kH)))
theorem aCV:zK Tryz.prog PD:=uK (a8X aGW)
abbrev kW:List (Nat×Kd):=[(0,.hnd 1),(4,.hnd 1),(5,.int .i64),(6,.int .i64),(100000,.ar 110 .str)]
abbrev oY:List (Ex×List (Nat×Kd)):=[(.exit 0,[(100000,.ar 110 .str)])]
def mH(x:Shape.den kW):Option (Shape.den kW⊕aW oY):=match x with
 | (v0,v4,v5,v6,v100000,()) =>
  bif ltI v6 v5 then
   bif aL v6 v4.2.2 then bif Nat.blt ((v4.2.1+v6.toNat)*1) (dH v100000 v4.1) then aC (LZ ((eD v100000 v4.1 ((v4.2.1+v6.toNat)*1) ByteArray.empty),())) fun y2 =>
   bif aL v6 v0.2.2 then bif Nat.blt ((v0.2.1+v6.toNat)*1) (dH v100000 v0.1) then some (.inl ((v0.1,v0.2.1,v0.2.2),(v4.1,v4.2.1,v4.2.2),v5,(aB .i64 (v6+1)),(yQ v100000 v0.1 ((v0.2.1+v6.toNat)*1) y2.1),())) else none else none else none else none
  else some (.inr ((v100000,())))
def rG(x:Shape.den kW):Option (aW oY):=bZ mH (2^64) x
def fX(u0:Unit) (x:aJ [.hnd 1]) (A:List (List ByteArray)):Option ((aJ [])×List (List ByteArray)):=match x with
 | (v0,()) =>
  aC (rG ((v0.1,v0.2.1,v0.2.2),(v0.1,v0.2.1,v0.2.2),((v0.2.2:Nat):Int),0,A,())) fun z3 =>
  some ((()),z3.1)
noncomputable def xK:Code:=aT Tryz.f168
abbrev EN:Env:=b8 [aQ2]
theorem JU:bE Tryz.prog EN:=bF ⟨aOU,trivial⟩
noncomputable def pR:Code:=dS xK 0
def B7(id:Nat):Option aS:=bif Nat.beq id 1 then some ⟨kW,oY,rG⟩ else none
theorem TD:∀ x,dM Tryz.prog EN 17 (aD Tryz.f168) B7 pR kW oY x=mH x:=by
 rintro⟨v0,v4,v5,v6,v100000,⟨⟩⟩
 kernel_rfl
theorem aAK:aF pR=[]:=by kernel_rfl
theorem UE:aH pR=1:=by kernel_rfl
theorem VU:cF Tryz.prog 17 pR ⟨kW,oY,rG⟩:=by
 exact cC JU.callee aK.mixed _ (aE aAK trivial) TD
theorem YN:aF xK=[pR]:=by kernel_rfl
theorem aAI:∀ l x A,JN Tryz.prog EN Tryz.f168 (aD Tryz.f168) B7 xK 110 .str .none [.hnd 1] (.data []) l x A=fX l x A:=by
 rintro u0 ⟨v0,⟨⟩⟩ A
 kernel_rfl
theorem aES:SR Tryz.prog 168 110 .str .none [.hnd 1] (.data []) fX:=by
 exact C4 aK JU Tryz.func168 (c:=xK) (by kernel_rfl) (aZ:=aD Tryz.f168) (lt:=B7) (by rfl) (aE YN ⟨cB UE rfl VU,trivial⟩) aAI
abbrev N7:Shr:=(168,aAO 0 (arH 110 .str .none [.hnd 1] (.data []) fX))
theorem aAA:zK Tryz.prog N7:=uK (g:=168) (f:=arH 110 .str .none [.hnd 1] (.data []) fX) (IF aES)
def gW(x:aJ [.str]):Option (aJ [.bool]):=match x with
 | (v0,()) =>
  some (!(eqS v0 (ByteArray.mk #[48])),())
noncomputable def H7:Code:=aT Tryz.f209
abbrev SW:Env:=b8 []
theorem aEY:bE Tryz.prog SW:=bF trivial
def PA(id:Nat):Option aS:=none
theorem aDG:aF H7=[]:=by kernel_rfl
theorem aEC:∀ x,cI Tryz.prog SW Tryz.f209 (aD Tryz.f209) PA H7 _ _ x=gW x:=by
 rintro⟨v0,⟨⟩⟩
 kernel_rfl
theorem aJY:eB Tryz.prog 209 _ _ gW:=by
 exact bL aK aEY Tryz.func209 (c:=H7) (by kernel_rfl) (aZ:=aD Tryz.f209) (lt:=PA) (aE aDG trivial) aEC
abbrev II:Ent:=⟨209,_,_,gW⟩
theorem M6:Ent.OK Tryz.prog II:=aJY
abbrev cJ:List (Nat×Kd):=[(0,.list .str),(1,.fn 209),(7,.int .i64),(8,.int .i64)]
abbrev dP:List (Ex×List (Nat×Kd)):=[(.ret,[(4,.int .i64)]),(.exit 0,[])]
def a8(x:Shape.den cJ):Option (Shape.den cJ⊕aW dP):=match x with
 | (v0,v1,v7,v8,()) =>
  bif ltI v8 v7 then
   bif aL v8 v0.length then aC (gW ((v0.getD v8.toNat ByteArray.empty),())) fun y2 =>
   bif y2.1 then
    some (.inr (.inl (v8,())))
   else some (.inl (v0,(),v7,(aB .i64 (v8+1)),())) else none
  else some (.inr (.inr ((()))))
def dG(x:Shape.den cJ):Option (aW dP):=bZ a8 (2^64) x
def dC(x:aJ [.list .str,.fn 209]):Option (aJ [.int .i64]):=match x with
 | (v0,v1,()) =>
  aC (dG (v0,(),(v0.length:Int),0,())) fun z3 =>
  BN z3 (fun a4=>some (a4.1,())) fun b5 =>
  some ((-1),())
noncomputable def gQ:Code:=aT Tryz.f208
abbrev mS:Env:=b8 [II]
theorem rX:bE Tryz.prog mS:=bF ⟨M6,trivial⟩
noncomputable def dT:Code:=dS gQ 0
def mA(id:Nat):Option aS:=bif Nat.beq id 2 then some ⟨cJ,dP,dG⟩ else none
theorem BR:∀ x,dM Tryz.prog mS 19 (aD Tryz.f208) mA dT cJ dP x=a8 x:=by
 rintro⟨v0,v1,v7,v8,⟨⟩⟩
 kernel_rfl
theorem EL:aF dT=[]:=by kernel_rfl
theorem BQ:aH dT=2:=by kernel_rfl
theorem CH:cF Tryz.prog 19 dT ⟨cJ,dP,dG⟩:=by
 exact cC rX.callee aK.mixed _ (aE EL trivial) BR
theorem DM:aF gQ=[dT]:=by kernel_rfl
theorem EH:∀ x,cI Tryz.prog mS Tryz.f208 (aD Tryz.f208) mA gQ _ _ x=dC x:=by
 rintro⟨v0,v1,⟨⟩⟩
 kernel_rfl
theorem GV:eB Tryz.prog 208 _ _ dC:=by
 exact bL aK rX Tryz.func208 (c:=gQ) (by kernel_rfl) (aZ:=aD Tryz.f208) (lt:=mA) (aE DM ⟨cB BQ rfl CH,trivial⟩) EH
abbrev uJ:Ent:=⟨208,_,_,dC⟩
theorem EE:Ent.OK Tryz.prog uJ:=GV
def iD(x:aJ [.list .str]):Option (aJ [.int .i64]):=match x with
 | (v0,()) =>
  aC (dC (v0,(),())) fun y1 =>
  some (y1.1,())
noncomputable def ME:Code:=aT Tryz.f169
abbrev ZU:Env:=b8 [uJ]
theorem aJ4:bE Tryz.prog ZU:=bF ⟨EE,trivial⟩
def UR(id:Nat):Option aS:=none
theorem aHV:aF ME=[]:=by kernel_rfl
theorem aJ9:∀ x,cI Tryz.prog ZU Tryz.f169 (aD Tryz.f169) UR ME _ _ x=iD x:=by
 rintro⟨v0,⟨⟩⟩
 kernel_rfl
theorem aON:eB Tryz.prog 169 _ _ iD:=by
 exact bL aK aJ4 Tryz.func169 (c:=ME) (by kernel_rfl) (aZ:=aD Tryz.f169) (lt:=UR) (aE aHV trivial) aJ9
abbrev MB:Ent:=⟨169,_,_,iD⟩
theorem PB:Ent.OK Tryz.prog MB:=aON
abbrev cG:List (Nat×Kd):=[(0,.hnd 1),(1,.fn 209),(7,.int .i64),(8,.int .i64),(100000,.ar 110 .str)]
abbrev dJ:List (Ex×List (Nat×Kd)):=[(.ret,[(4,.int .i64),(100000,.ar 110 .str)]),(.exit 0,[(100000,.ar 110 .str)])]
def bQ(x:Shape.den cG):Option (Shape.den cG⊕aW dJ):=match x with
 | (v0,v1,v7,v8,v100000,()) =>
  bif ltI v8 v7 then
   bif aL v8 v0.2.2 then bif Nat.blt ((v0.2.1+v8.toNat)*1) (dH v100000 v0.1) then aC (gW ((eD v100000 v0.1 ((v0.2.1+v8.toNat)*1) ByteArray.empty),())) fun y2 =>
   bif y2.1 then
    some (.inr (.inl (v8,v100000,())))
   else some (.inl ((v0.1,v0.2.1,v0.2.2),(),v7,(aB .i64 (v8+1)),v100000,())) else none else none
  else some (.inr (.inr ((v100000,()))))
def dD(x:Shape.den cG):Option (aW dJ):=bZ bQ (2^64) x
def cA(u0:Unit) (x:aJ [.hnd 1,.fn 209]) (A:List (List ByteArray)):Option ((aJ [.int .i64])×List (List ByteArray)):=match x with
 | (v0,v1,()) =>
  aC (dD ((v0.1,v0.2.1,v0.2.2),(),((v0.2.2:Nat):Int),0,A,())) fun z3 =>
  BN z3 (fun a4=>some ((a4.1,()),a4.2.1)) fun b5 =>
  some (((-1),()),b5.1)
noncomputable def gE:Code:=aT Tryz.f208
abbrev mC:Env:=b8 [II]
theorem rP:bE Tryz.prog mC:=bF ⟨M6,trivial⟩
noncomputable def dR:Code:=dS gE 0
def lN(id:Nat):Option aS:=bif Nat.beq id 2 then some ⟨cG,dJ,dD⟩ else none
theorem BH:∀ x,dM Tryz.prog mC 19 (aD Tryz.f208) lN dR cG dJ x=bQ x:=by
 rintro⟨v0,v1,v7,v8,v100000,⟨⟩⟩
 kernel_rfl
theorem DR:aF dR=[]:=by kernel_rfl
theorem BA:aH dR=2:=by kernel_rfl
theorem BS:cF Tryz.prog 19 dR ⟨cG,dJ,dD⟩:=by
 exact cC rP.callee aK.mixed _ (aE DR trivial) BH
theorem B6:aF gE=[dR]:=by kernel_rfl
theorem DO:∀ l x A,JN Tryz.prog mC Tryz.f208 (aD Tryz.f208) lN gE 110 .str .none [.hnd 1,.fn 209] (.data [.int .i64]) l x A=cA l x A:=by
 rintro u0 ⟨v0,v1,⟨⟩⟩ A
 kernel_rfl
theorem FQ:SR Tryz.prog 208 110 .str .none [.hnd 1,.fn 209] (.data [.int .i64]) cA:=by
 exact C4 aK rP Tryz.func208 (c:=gE) (by kernel_rfl) (aZ:=aD Tryz.f208) (lt:=lN) (by rfl) (aE B6 ⟨cB BA rfl BS,trivial⟩) DO
abbrev tI:Shr:=(208,aAO 0 (arH 110 .str .none [.hnd 1,.fn 209] (.data [.int .i64]) cA))
theorem DF:zK Tryz.prog tI:=uK (g:=208) (f:=arH 110 .str .none [.hnd 1,.fn 209] (.data [.int .i64]) cA) (IF FQ)
def kS(u0:Unit) (x:aJ [.hnd 1]) (A:List (List ByteArray)):Option ((aJ [.int .i64])×List (List ByteArray)):=match x with
 | (v0,()) =>
  aC (cA () ((v0.1,v0.2.1,v0.2.2),(),()) A) fun y1 =>
  some ((y1.1.1,()),y1.2)
noncomputable def HY:Code:=aT Tryz.f169
abbrev R9:Env:=R2 [] [tI]
theorem aEN:bE Tryz.prog R9:=qF trivial ⟨DF,trivial⟩
def PC(id:Nat):Option aS:=none
theorem aCH:aF HY=[]:=by kernel_rfl
theorem aEQ:∀ l x A,JN Tryz.prog R9 Tryz.f169 (aD Tryz.f169) PC HY 110 .str .none [.hnd 1] (.data [.int .i64]) l x A=kS l x A:=by
 rintro u0 ⟨v0,⟨⟩⟩ A
 kernel_rfl
theorem aJ3:SR Tryz.prog 169 110 .str .none [.hnd 1] (.data [.int .i64]) kS:=by
 exact C4 aK aEN Tryz.func169 (c:=HY) (by kernel_rfl) (aZ:=aD Tryz.f169) (lt:=PC) (by rfl) (aE aCH trivial) aEQ
abbrev SB:Shr:=(169,aAO 0 (arH 110 .str .none [.hnd 1] (.data [.int .i64]) kS))
theorem aE9:zK Tryz.prog SB:=uK (g:=169) (f:=arH 110 .str .none [.hnd 1] (.data [.int .i64]) kS) (IF aJ3)
abbrev lX:List (Nat×Kd):=[(4,.own 3 TyE),(12,.hnd 1),(13,.int .i64),(14,.int .i64),(100000,.ar 110 .str)]
abbrev pO:List (Ex×List (Nat×Kd)):=[(.ret,[(2,.list TyE),(3,.int .i64),(100000,.ar 110 .str)]),(.exit 0,[(4,.own 3 TyE),(100000,.ar 110 .str)])]
def jF(x:Shape.den lX):Option (Shape.den lX⊕aW pO):=match x with
 | (v4,v12,v13,v14,v100000,()) =>
  bif ltI v14 v13 then
   bif aL v14 v12.2.2 then bif Nat.blt ((v12.2.1+v14.toNat)*1) (dH v100000 v12.1) then aC (JI ((eD v100000 v12.1 ((v12.2.1+v14.toNat)*1) ByteArray.empty),())) fun y2 =>
   bif y2.2.1 then
    bif ltI 1000000000 y2.1 then
     some (.inr (.inl ([],4,v100000,())))
    else bif ltI y2.1 (-1000000000) then
     some (.inr (.inl ([],4,v100000,())))
    else bif Nat.ble [y2.1].length 1048576 then bif Nat.ble v4.length 1048576 then some (.inl ((v4++[y2.1]),(v12.1,v12.2.1,v12.2.2),v13,(aB .i64 (v14+1)),v100000,())) else none else none
   else some (.inr (.inl ([],4,v100000,()))) else none else none
  else some (.inr (.inr ((v4,v100000,()))))
def rV(x:Shape.den lX):Option (aW pO):=bZ jF (2^64) x
def mB(u0:Unit) (x:aJ [.hnd 1]) (A:List (List ByteArray)):Option ((aJ [.list TyE,.int .i64])×List (List ByteArray)):=match x with
 | (v0,()) =>
  bif !(ltI ((v0.2.2:Nat):Int) 0) then bif !(ltI 1048576 ((v0.2.2:Nat):Int)) then aC (rV ((List.replicate 0 0),(v0.1,v0.2.1,v0.2.2),((v0.2.2:Nat):Int),0,A,())) fun z3 =>
  BN z3 (fun a4=>some ((a4.1,a4.2.1,()),a4.2.2.1)) fun b5 =>
  some ((b5.1,0,()),b5.2.1) else none else none
noncomputable def zD:Code:=aT Tryz.f170
abbrev GA:Env:=b8 [aS7]
theorem KX:bE Tryz.prog GA:=bF ⟨aXZ,trivial⟩
noncomputable def rF:Code:=dS zD 0
def EX(id:Nat):Option aS:=bif Nat.beq id 3 then some ⟨lX,pO,rV⟩ else none
theorem VO:∀ x,dM Tryz.prog GA 39 (aD Tryz.f170) EX rF lX pO x=jF x:=by
 rintro⟨v4,v12,v13,v14,v100000,⟨⟩⟩
 kernel_rfl
theorem aB8:aF rF=[]:=by kernel_rfl
theorem WM:aH rF=3:=by kernel_rfl
theorem W7:cF Tryz.prog 39 rF ⟨lX,pO,rV⟩:=by
 exact cC KX.callee aK.mixed _ (aE aB8 trivial) VO
theorem Z2:aF zD=[rF]:=by kernel_rfl
theorem aCW:∀ l x A,JN Tryz.prog GA Tryz.f170 (aD Tryz.f170) EX zD 110 .str .none [.hnd 1] (.data [.list TyE,.int .i64]) l x A=mB l x A:=by
 rintro u0 ⟨v0,⟨⟩⟩ A
 kernel_rfl
theorem aGZ:SR Tryz.prog 170 110 .str .none [.hnd 1] (.data [.list TyE,.int .i64]) mB:=by
 exact C4 aK KX Tryz.func170 (c:=zD) (by kernel_rfl) (aZ:=aD Tryz.f170) (lt:=EX) (by rfl) (aE Z2 ⟨cB WM rfl W7,trivial⟩) aCW
abbrev PE:Shr:=(170,aAO 0 (arH 110 .str .none [.hnd 1] (.data [.list TyE,.int .i64]) mB))
theorem aDD:zK Tryz.prog PE:=uK (g:=170) (f:=arH 110 .str .none [.hnd 1] (.data [.list TyE,.int .i64]) mB) (IF aGZ)
abbrev oD:List (Nat×Kd):=[(3,.own 148 (.hnd 1)),(6,.list TyD),(7,.int .i64),(8,.int .i64),(100000,.ar 110 .str)]
abbrev rR:List (Ex×List (Nat×Kd)):=[(.exit 0,[(3,.own 148 (.hnd 1)),(100000,.ar 110 .str)])]
def lW(x:Shape.den oD):Option (Shape.den oD⊕aW rR):=match x with
 | (v3,v6,v7,v8,v100000,()) =>
  bif ltI v8 v7 then
   bif aL v8 v6.length then aC (q9 ((v6.getD v8.toNat []),())) fun y2 =>
   bif Nat.ble [(v100000.length,0,y2.length)].length 1048576 then bif Nat.ble v3.length 1048576 then some (.inl ((v3++[(v100000.length,0,y2.length)]),v6,v7,(aB .i64 (v8+1)),(v100000++[y2]),())) else none else none else none
  else some (.inr ((v3,v100000,())))
def uW(x:Shape.den oD):Option (aW rR):=bZ lW (2^64) x
def eP(u0:Unit) (x:aJ [.list TyD]) (A:List (List ByteArray)):Option ((List (Nat×Nat×Nat))×List (List ByteArray)):=match x with
 | (v0,()) =>
  aC (uW ([],v0,(v0.length:Int),0,A,())) fun z3 =>
  some (z3.1,z3.2.1)
noncomputable def BY:Code:=aT Tryz.f129
abbrev JY:Env:=R2 [] [IZ]
theorem NZ:bE Tryz.prog JY:=qF trivial ⟨JZ,trivial⟩
noncomputable def tM:Code:=dS BY 0
def IH(id:Nat):Option aS:=bif Nat.beq id 3 then some ⟨oD,rR,uW⟩ else none
theorem ZZ:∀ x,dM Tryz.prog JY 19 (aD Tryz.f129) IH tM oD rR x=lW x:=by
 rintro⟨v3,v6,v7,v8,v100000,⟨⟩⟩
 kernel_rfl
theorem aH7:aF tM=[]:=by kernel_rfl
theorem aAE:aH tM=3:=by kernel_rfl
theorem aDH:cF Tryz.prog 19 tM ⟨oD,rR,uW⟩:=by
 exact cC NZ.callee aK.mixed _ (aE aH7 trivial) ZZ
theorem aFA:aF BY=[tM]:=by kernel_rfl
theorem aF2:∀ l x A,JN Tryz.prog JY Tryz.f129 (aD Tryz.f129) IH BY 110 .str .none [.list TyD] (.own 148 (.hnd 1)) l x A=eP l x A:=by
 rintro u0 ⟨v0,⟨⟩⟩ A
 kernel_rfl
theorem aML:SR Tryz.prog 129 110 .str .none [.list TyD] (.own 148 (.hnd 1)) eP:=by
 exact C4 aK NZ Tryz.func129 (c:=BY) (by kernel_rfl) (aZ:=aD Tryz.f129) (lt:=IH) (by rfl) (aE aFA ⟨cB aAE rfl aDH,trivial⟩) aF2
abbrev wU:Shr:=(129,aAO 0 (arH 110 .str .none [.list TyD] (.own 148 (.hnd 1)) eP))
theorem xN:zK Tryz.prog wU:=uK (g:=129) (f:=arH 110 .str .none [.list TyD] (.own 148 (.hnd 1)) eP) (IF aML)
abbrev j6:List (Nat×Kd):=[(0,.own 148 (.hnd 1)),(1,.int .i64),(5,.int .i64),(6,.int .i64),(7,.int .i64),(8,.int .i64),(100000,.ar 110 .str)]
abbrev nZ:List (Ex×List (Nat×Kd)):=[(.exit 4,[(0,.own 148 (.hnd 1)),(1,.int .i64),(5,.int .i64),(6,.int .i64),(7,.int .i64),(100000,.ar 110 .str)])]
def dU(x:Shape.den j6):Option (Shape.den j6⊕aW nZ):=match x with
 | (v0,v1,v5,v6,v7,v8,v100000,()) =>
  bif ltI v8 (v0.length:Int) then
   bif aL v8 v0.length then bif Nat.blt v8.toNat v0.length then bif aL v6 ((v0.getD v8.toNat (0,0,0)).2.2) then bif Nat.blt (((v0.getD v8.toNat (0,0,0)).2.1+v6.toNat)*1) (dH v100000 ((v0.getD v8.toNat (0,0,0)).1)) then bif !(eqS (eD v100000 ((v0.getD v8.toNat (0,0,0)).1) (((v0.getD v8.toNat (0,0,0)).2.1+v6.toNat)*1) ByteArray.empty) (ByteArray.mk #[48])) then
    bif ltI v7 0 then
     some (.inl (v0,v1,v5,v6,v8,(aB .i64 (v8+1)),v100000,()))
    else bif aL v8 v0.length then bif Nat.blt v8.toNat v0.length then bif aL v6 ((v0.getD v8.toNat (0,0,0)).2.2) then bif Nat.blt (((v0.getD v8.toNat (0,0,0)).2.1+v6.toNat)*1) (dH v100000 ((v0.getD v8.toNat (0,0,0)).1)) then aC (LO ((eD v100000 ((v0.getD v8.toNat (0,0,0)).1) (((v0.getD v8.toNat (0,0,0)).2.1+v6.toNat)*1) ByteArray.empty),())) fun y4 =>
    bif aL v7 v0.length then bif Nat.blt v7.toNat v0.length then bif aL v6 ((v0.getD v7.toNat (0,0,0)).2.2) then bif Nat.blt (((v0.getD v7.toNat (0,0,0)).2.1+v6.toNat)*1) (dH v100000 ((v0.getD v7.toNat (0,0,0)).1)) then aC (LO ((eD v100000 ((v0.getD v7.toNat (0,0,0)).1) (((v0.getD v7.toNat (0,0,0)).2.1+v6.toNat)*1) ByteArray.empty),())) fun y5 =>
    aC (CS (y4.1,y5.1,())) fun y6 =>
    bif ltI y6.1 0 then
     some (.inl (v0,v1,v5,v6,v8,(aB .i64 (v8+1)),v100000,()))
    else some (.inl (v0,v1,v5,v6,v7,(aB .i64 (v8+1)),v100000,())) else none else none else none else none else none else none else none else none
   else some (.inl (v0,v1,v5,v6,v7,(aB .i64 (v8+1)),v100000,())) else none else none else none else none
  else some (.inr ((v0,v1,v5,v6,v7,v100000,())))
def lM(x:Shape.den j6):Option (aW nZ):=bZ dU (2^64) x
abbrev j7:List (Nat×Kd):=[(0,.own 148 (.hnd 1)),(1,.int .i64),(5,.int .i64),(6,.int .i64),(9,.bool),(10,.int .i64),(100000,.ar 110 .str)]
abbrev nH:List (Ex×List (Nat×Kd)):=[(.exit 6,[(0,.own 148 (.hnd 1)),(1,.int .i64),(5,.int .i64),(6,.int .i64),(9,.bool),(100000,.ar 110 .str)])]
def fK(x:Shape.den j7):Option (Shape.den j7⊕aW nH):=match x with
 | (v0,v1,v5,v6,v9,v10,v100000,()) =>
  bif ltI v10 (v0.length:Int) then
   bif aL v10 v0.length then bif Nat.blt v10.toNat v0.length then bif aL v6 ((v0.getD v10.toNat (0,0,0)).2.2) then bif Nat.blt (((v0.getD v10.toNat (0,0,0)).2.1+v6.toNat)*1) (dH v100000 ((v0.getD v10.toNat (0,0,0)).1)) then bif aL v5 v0.length then bif Nat.blt v5.toNat v0.length then bif aL v6 ((v0.getD v5.toNat (0,0,0)).2.2) then bif Nat.blt (((v0.getD v5.toNat (0,0,0)).2.1+v6.toNat)*1) (dH v100000 ((v0.getD v5.toNat (0,0,0)).1)) then aC (xV ((eD v100000 ((v0.getD v10.toNat (0,0,0)).1) (((v0.getD v10.toNat (0,0,0)).2.1+v6.toNat)*1) ByteArray.empty),(eD v100000 ((v0.getD v5.toNat (0,0,0)).1) (((v0.getD v5.toNat (0,0,0)).2.1+v6.toNat)*1) ByteArray.empty),())) fun y10 =>
   bif aL v10 v0.length then bif Nat.blt v10.toNat v0.length then bif aL v5 v0.length then bif Nat.blt v5.toNat v0.length then aC (hX () (((v0.getD v10.toNat (0,0,0)).1,(v0.getD v10.toNat (0,0,0)).2.1,(v0.getD v10.toNat (0,0,0)).2.2),y10.1,((v0.getD v5.toNat (0,0,0)).1,(v0.getD v5.toNat (0,0,0)).2.1,(v0.getD v5.toNat (0,0,0)).2.2),()) v100000) fun y11 =>
   bif v9 then
    some (.inl (v0,v1,v5,v6,true,(aB .i64 (v10+1)),y11.2,()))
   else some (.inl (v0,v1,v5,v6,!(eqS y10.2.1 (ByteArray.mk #[48])),(aB .i64 (v10+1)),y11.2,())) else none else none else none else none else none else none else none else none else none else none else none else none
  else some (.inr ((v0,v1,v5,v6,v9,v100000,())))
def qD(x:Shape.den j7):Option (aW nH):=bZ fK (2^64) x
abbrev jK:List (Nat×Kd):=[(0,.own 148 (.hnd 1)),(1,.int .i64),(5,.int .i64),(6,.int .i64),(142,.int .i64),(143,.int .i64),(100000,.ar 110 .str)]
abbrev nY:List (Ex×List (Nat×Kd)):=[(.exit 8,[(0,.own 148 (.hnd 1)),(1,.int .i64),(5,.int .i64),(6,.int .i64),(100000,.ar 110 .str)])]
def lP(x:Shape.den jK):Option (Shape.den jK⊕aW nY):=match x with
 | (v0,v1,v5,v6,v142,v143,v100000,()) =>
  bif ltI v143 v142 then
   bif aL v143 v0.length then bif Nat.blt v143.toNat v0.length then bif aL v6 ((v0.getD v143.toNat (0,0,0)).2.2) then bif Nat.blt (((v0.getD v143.toNat (0,0,0)).2.1+v6.toNat)*1) (dH v100000 ((v0.getD v143.toNat (0,0,0)).1)) then bif aL v5 v0.length then bif Nat.blt v5.toNat v0.length then bif aL v6 ((v0.getD v5.toNat (0,0,0)).2.2) then bif Nat.blt (((v0.getD v5.toNat (0,0,0)).2.1+v6.toNat)*1) (dH v100000 ((v0.getD v5.toNat (0,0,0)).1)) then aC (xV ((eD v100000 ((v0.getD v143.toNat (0,0,0)).1) (((v0.getD v143.toNat (0,0,0)).2.1+v6.toNat)*1) ByteArray.empty),(eD v100000 ((v0.getD v5.toNat (0,0,0)).1) (((v0.getD v5.toNat (0,0,0)).2.1+v6.toNat)*1) ByteArray.empty),())) fun y17 =>
   bif aL v143 v0.length then bif Nat.blt v143.toNat v0.length then bif aL v5 v0.length then bif Nat.blt v5.toNat v0.length then aC (hX () (((v0.getD v143.toNat (0,0,0)).1,(v0.getD v143.toNat (0,0,0)).2.1,(v0.getD v143.toNat (0,0,0)).2.2),y17.1,((v0.getD v5.toNat (0,0,0)).1,(v0.getD v5.toNat (0,0,0)).2.1,(v0.getD v5.toNat (0,0,0)).2.2),()) v100000) fun y18 =>
   some (.inl (v0,v1,v5,v6,v142,(aB .i64 (v143+1)),y18.2,())) else none else none else none else none else none else none else none else none else none else none else none else none
  else some (.inr ((v0,v1,v5,v6,v100000,())))
def dW(x:Shape.den jK):Option (aW nY):=bZ lP (2^64) x
abbrev j5:List (Nat×Kd):=[(0,.own 148 (.hnd 1)),(1,.int .i64),(5,.int .i64),(6,.int .i64),(100000,.ar 110 .str)]
abbrev nF:List (Ex×List (Nat×Kd)):=[(.exit 2,[(0,.own 148 (.hnd 1)),(1,.int .i64),(5,.int .i64),(6,.int .i64),(100000,.ar 110 .str)])]
def dV(x:Shape.den j5):Option (Shape.den j5⊕aW nF):=match x with
 | (v0,v1,v5,v6,v100000,()) =>
  aC (lM (v0,v1,v5,v6,(-1),v5,v100000,())) fun z21 =>
  bif ltI z21.2.2.2.2.1 0 then
   some (.inr ((z21.1,z21.2.1,z21.2.2.1,z21.2.2.2.1,z21.2.2.2.2.2.1,())))
  else bif aL z21.2.2.2.2.1 z21.1.length then bif Nat.blt z21.2.2.2.2.1.toNat z21.1.length then bif aL z21.2.2.1 z21.1.length then bif Nat.blt z21.2.2.1.toNat z21.1.length then bif aL z21.2.2.1 z21.1.length then bif Nat.blt z21.2.2.1.toNat z21.1.length then bif aL z21.2.2.2.2.1 (z21.1.set z21.2.2.1.toNat ((z21.1.getD z21.2.2.2.2.1.toNat (0,0,0)).1,(z21.1.getD z21.2.2.2.2.1.toNat (0,0,0)).2.1,(z21.1.getD z21.2.2.2.2.1.toNat (0,0,0)).2.2)).length then bif Nat.blt z21.2.2.2.2.1.toNat (z21.1.set z21.2.2.1.toNat ((z21.1.getD z21.2.2.2.2.1.toNat (0,0,0)).1,(z21.1.getD z21.2.2.2.2.1.toNat (0,0,0)).2.1,(z21.1.getD z21.2.2.2.2.1.toNat (0,0,0)).2.2)).length then aC (qD (((z21.1.set z21.2.2.1.toNat ((z21.1.getD z21.2.2.2.2.1.toNat (0,0,0)).1,(z21.1.getD z21.2.2.2.2.1.toNat (0,0,0)).2.1,(z21.1.getD z21.2.2.2.2.1.toNat (0,0,0)).2.2)).set z21.2.2.2.2.1.toNat ((z21.1.getD z21.2.2.1.toNat (0,0,0)).1,(z21.1.getD z21.2.2.1.toNat (0,0,0)).2.1,(z21.1.getD z21.2.2.1.toNat (0,0,0)).2.2)),z21.2.1,z21.2.2.1,z21.2.2.2.1,false,(aB .i64 (z21.2.2.1+1)),z21.2.2.2.2.2.1,())) fun z22 =>
  bif z22.2.2.2.2.1 then
   some (.inl (z22.1,z22.2.1,z22.2.2.1,z22.2.2.2.1,z22.2.2.2.2.2.1,()))
  else bif aL z22.2.2.1 z22.1.length then bif Nat.blt z22.2.2.1.toNat z22.1.length then bif aL z22.2.2.2.1 ((z22.1.getD z22.2.2.1.toNat (0,0,0)).2.2) then bif Nat.blt (((z22.1.getD z22.2.2.1.toNat (0,0,0)).2.1+z22.2.2.2.1.toNat)*1) (dH z22.2.2.2.2.2.1 ((z22.1.getD z22.2.2.1.toNat (0,0,0)).1)) then aC (AE ((eD z22.2.2.2.2.2.1 ((z22.1.getD z22.2.2.1.toNat (0,0,0)).1) (((z22.1.getD z22.2.2.1.toNat (0,0,0)).2.1+z22.2.2.2.1.toNat)*1) ByteArray.empty),())) fun y23 =>
  bif ltI y23.1 0 then
   bif aL z22.2.2.1 z22.1.length then bif Nat.blt z22.2.2.1.toNat z22.1.length then aC (fX () (((z22.1.getD z22.2.2.1.toNat (0,0,0)).1,(z22.1.getD z22.2.2.1.toNat (0,0,0)).2.1,(z22.1.getD z22.2.2.1.toNat (0,0,0)).2.2),()) z22.2.2.2.2.2.1) fun y24 =>
   aC (dW (z22.1,z22.2.1,z22.2.2.1,z22.2.2.2.1,z22.2.2.1,0,y24.2,())) fun z25 =>
   some (.inr ((z25.1,z25.2.1,(aB .i64 (z25.2.2.1+1)),z25.2.2.2.1,z25.2.2.2.2.1,()))) else none else none
  else aC (dW (z22.1,z22.2.1,z22.2.2.1,z22.2.2.2.1,z22.2.2.1,0,z22.2.2.2.2.2.1,())) fun z26 =>
  some (.inr ((z26.1,z26.2.1,(aB .i64 (z26.2.2.1+1)),z26.2.2.2.1,z26.2.2.2.2.1,()))) else none else none else none else none else none else none else none else none else none else none else none else none
def lG(x:Shape.den j5):Option (aW nF):=bZ dV (2^64) x
abbrev jT:List (Nat×Kd):=[(0,.own 148 (.hnd 1)),(1,.int .i64),(5,.int .i64),(6,.int .i64),(100000,.ar 110 .str)]
abbrev nX:List (Ex×List (Nat×Kd)):=[(.exit 0,[(0,.own 148 (.hnd 1)),(5,.int .i64),(100000,.ar 110 .str)])]
def fL(x:Shape.den jT):Option (Shape.den jT⊕aW nX):=match x with
 | (v0,v1,v5,v6,v100000,()) =>
  bif ltI v6 v1 then
   bif ltI v5 (v0.length:Int) then
    aC (lG (v0,v1,v5,v6,v100000,())) fun z28 =>
    some (.inl (z28.1,z28.2.1,z28.2.2.1,(aB .i64 (z28.2.2.2.1+1)),z28.2.2.2.2.1,()))
   else some (.inr ((v0,v5,v100000,())))
  else some (.inr ((v0,v5,v100000,())))
def qC(x:Shape.den jT):Option (aW nX):=bZ fL (2^64) x
def dE(v0:List (Nat×Nat×Nat)) (x:aJ [.int .i64]) (A:List (List ByteArray)):Option ((List (Nat×Nat×Nat))×List (List ByteArray)):=match x with
 | (v1,()) =>
  aC (qC (v0,v1,0,0,A,())) fun z29 =>
  bif Nat.beq z29.1.length 0 then
   bif !(ltI z29.2.1 0) then bif Nat.beq z29.2.1.toNat 0 then some (z29.1,z29.2.2.1) else none else none
  else bif !(ltI z29.2.1 0) then bif Nat.ble 0 z29.2.1.toNat then bif Nat.ble z29.2.1.toNat z29.1.length then bif Nat.blt 0 z29.1.length then some (z29.1.take (z29.2.1.toNat-0),z29.2.2.1) else none else none else none else none
noncomputable def vM:Code:=aT Tryz.f121
abbrev jH:Env:=R2 [a00,aMS,aC6,aMD] [RR,N7]
theorem jL:bE Tryz.prog jH:=qF ⟨a3V,aR2,aEA,aK7,trivial⟩ ⟨aFB,aAA,trivial⟩
noncomputable def kZ:Code:=dS vM 0
noncomputable def fM:Code:=dS kZ 0
noncomputable def oX:Code:=dS fM 0
noncomputable def oU:Code:=dS fM 1
noncomputable def oQ:Code:=dS fM 2
def iE(id:Nat):Option aS:=bif Nat.beq id 7 then some ⟨j6,nZ,lM⟩ else bif Nat.beq id 15 then some ⟨j7,nH,qD⟩ else bif Nat.beq id 24 then some ⟨jK,nY,dW⟩ else bif Nat.beq id 5 then some ⟨j5,nF,lG⟩ else bif Nat.beq id 3 then some ⟨jT,nX,qC⟩ else none
theorem RF:∀ x,dM Tryz.prog jH 181 (aD Tryz.f121) iE oX j6 nZ x=dU x:=by
 rintro⟨v0,v1,v5,v6,v7,v8,v100000,⟨⟩⟩
 kernel_rfl
theorem YX:aF oX=[]:=by kernel_rfl
theorem SY:aH oX=7:=by kernel_rfl
theorem S8:cF Tryz.prog 181 oX ⟨j6,nZ,lM⟩:=by
 exact cC jL.callee aK.mixed _ (aE YX trivial) RF
theorem SC:∀ x,dM Tryz.prog jH 181 (aD Tryz.f121) iE oU j7 nH x=fK x:=by
 rintro⟨v0,v1,v5,v6,v9,v10,v100000,⟨⟩⟩
 kernel_rfl
theorem X6:aF oU=[]:=by kernel_rfl
theorem RU:aH oU=15:=by kernel_rfl
theorem TJ:cF Tryz.prog 181 oU ⟨j7,nH,qD⟩:=by
 exact cC jL.callee aK.mixed _ (aE X6 trivial) SC
theorem R6:∀ x,dM Tryz.prog jH 181 (aD Tryz.f121) iE oQ jK nY x=lP x:=by
 rintro⟨v0,v1,v5,v6,v142,v143,v100000,⟨⟩⟩
 kernel_rfl
theorem XC:aF oQ=[]:=by kernel_rfl
theorem RE:aH oQ=24:=by kernel_rfl
theorem UD:cF Tryz.prog 181 oQ ⟨jK,nY,dW⟩:=by
 exact cC jL.callee aK.mixed _ (aE XC trivial) R6
theorem RO:∀ x,dM Tryz.prog jH 181 (aD Tryz.f121) iE fM j5 nF x=dV x:=by
 rintro⟨v0,v1,v5,v6,v100000,⟨⟩⟩
 kernel_rfl
theorem YE:aF fM=[oX,oU,oQ]:=by kernel_rfl
theorem RM:aH fM=5:=by kernel_rfl
theorem T7:cF Tryz.prog 181 fM ⟨j5,nF,lG⟩:=by
 exact cC jL.callee aK.mixed _ (aE YE ⟨cB SY rfl S8,cB RU rfl TJ,cB RE rfl UD,trivial⟩) RO
theorem S2:∀ x,dM Tryz.prog jH 181 (aD Tryz.f121) iE kZ jT nX x=fL x:=by
 rintro⟨v0,v1,v5,v6,v100000,⟨⟩⟩
 kernel_rfl
theorem ZE:aF kZ=[fM]:=by kernel_rfl
theorem SA:aH kZ=3:=by kernel_rfl
theorem T9:cF Tryz.prog 181 kZ ⟨jT,nX,qC⟩:=by
 exact cC jL.callee aK.mixed _ (aE ZE ⟨cB RM rfl T7,trivial⟩) S2
theorem VG:aF vM=[kZ]:=by kernel_rfl
theorem X8:∀ l x A,JN Tryz.prog jH Tryz.f121 (aD Tryz.f121) iE vM 110 .str (.own 148 (.hnd 1)) [.int .i64] (.own 148 (.hnd 1)) l x A=dE l x A:=by
 rintro u0 ⟨v1,⟨⟩⟩ A
 kernel_rfl
theorem aCJ:SR Tryz.prog 121 110 .str (.own 148 (.hnd 1)) [.int .i64] (.own 148 (.hnd 1)) dE:=by
 exact C4 aK jL Tryz.func121 (c:=vM) (by kernel_rfl) (aZ:=aD Tryz.f121) (lt:=iE) (by rfl) (aE VG ⟨cB SA rfl T9,trivial⟩) X8
abbrev nB:Shr:=(121,aAO 1 (arH 110 .str (.own 148 (.hnd 1)) [.int .i64] (.own 148 (.hnd 1)) dE))
theorem nG:zK Tryz.prog nB:=uK (g:=121) (f:=arH 110 .str (.own 148 (.hnd 1)) [.int .i64] (.own 148 (.hnd 1)) dE) (IF aCJ)
end Go.PM
