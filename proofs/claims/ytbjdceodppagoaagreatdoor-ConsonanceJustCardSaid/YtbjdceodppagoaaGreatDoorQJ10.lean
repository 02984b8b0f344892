/- Texts of one proof, joined (10). -/
import Derived.Shelf.Slices.CompactI
import Derived.Test.YtbjdceodppagoaaGreatDoorQJ9
set_option linter.unusedSimpArgs false
set_option linter.unusedVariables false
set_option maxRecDepth 100000
noncomputable section
namespace Go.PM
open Go Go.RowKit Go.Proofs
theorem aQE {τ:Type}{m:Nat}{f:Nat->Option τ}{z:τ}(h:∀ i,i<m->f i=none):((List.range m).findSome? f).getD z=z:=by rw[List.findSome?_eq_none_iff.2 (λi hi=>h i (List.mem_range.1 hi))]; rfl
theorem xQ {τ:Type}(p:Nat->Prop) [DecidablePred p](g:Nat->τ):∀ l:List Nat,(l.findSome? λi=>if p i then some (g i) else none)=(l.find? λi=>decide (p i)).map g
 | []=>rfl
 | i::l=>by
  rw[List.findSome?_cons,List.find?_cons]
  by_cases h:p i
  ·simp[h]
  ·simp[h,xQ p g l]
theorem CB(a b:List Int) (ha:a.length<=9223372036854775806):dK (a,b,())=some (decide (a=b),()):=by
 unfold dK;simp only[bP,pG,aS]
 by_cases hl:a.length=b.length
 ·rw[if_neg Z];have:aW bQ (2^64) (a,b,(a.length:Int),0,())=_:=qI (N:=2^64) (step:=bQ) (λi=>(a,b,(a.length:Int),(i:Int),())) (λi=>if ¬ a.getD i 0=b.getD i 0 then some (.inl (false,())) else none) a.length (.inr ()) Z (by
   intro i hi;simp only[bQ,aE,bP,aK,aS,pG,oN];rw[if_pos Z,if_pos ⟨by omega,by omega⟩,if_pos ⟨by omega,by omega⟩,bC i Z]
   by_cases h:¬ a.getD i 0=b.getD i 0
   ·rw[if_pos h,if_pos h]
   ·rw[if_neg h,if_neg h]) (by
   simp only[bQ,aE,aS];rw[if_neg Z])
  unfold iD;rw[this,xQ (λi=>¬ a.getD i 0=b.getD i 0),aD];cases hf:(List.range a.length).find? λi=>decide (¬ a.getD i 0=b.getD i 0)with
  | none =>
   have hall:∀ i,i<a.length->a.getD i 0=b.getD i 0:=by
    intro i hi;have:=List.find?_eq_none.1 hf i (List.mem_range.2 hi);simpa using this
   have:a=b:=by
    apply List.ext_getElem hl;intro i h1 h2;have:=hall i h1;rw[oQ,oQ,List.getElem?_eq_getElem h1,List.getElem?_eq_getElem h2]at this;exact this
   rw[oT this]; rfl
  | some i =>
   have h1:=List.find?_some hf;have:¬ a=b:=λe=>by subst e; simp at h1
   rw[oF this]; rfl
 ·rw[if_pos Z,oF];rintro rfl; exact hl rfl
theorem VD(a b:List Int)(ha:a.length<=9223372036854775806):BL (a,b,())=some (decide (a=b),()):=by
 unfold BL; dsimp only;rw[CB a b ha,aD]
theorem aOZ {σ τ:Type} {step:σ->Option (σ⊕τ)} (R:Nat->σ->Prop) (out:σ->τ) (m:Nat) (h:∀ i x,i<m->R i x->∃ y,step x=some (.inl y)/\R (i+1) y) (he:∀ x,R m x->step x=some (.inr (out x))) :
  ∀ (k j:Nat) (N:Nat) (x:σ),j+k=m->k<N->R j x->∃ y,R m y/\aW step N x=some (out y)
 | 0,j,N,x,hj,hN,hr=>by
  have:j=m:=Z
  subst this;obtain⟨N,rfl⟩:∃ n,N=n+1:=⟨N-1,by omega⟩;exact⟨x,hr,by rw[bV,he x hr]⟩
 | k+1,j,N,x,hj,hN,hr=>by
  obtain⟨N,rfl⟩:∃ n,N=n+1:=⟨N-1,by omega⟩;obtain⟨y,h1,h2⟩:=h j x Z hr;obtain⟨z,h3,h4⟩:=aOZ R out m h he k (j+1) N y Z Z h2;exact⟨z,h3,by rw[bV,h1]; exact h4⟩
theorem aAB(j:Nat):(!(ltI (j:Int) 0))=true:=by rw[aE,oF Z]; rfl
def aQK(l:List (List Int)):Prop:=l.length<=4611686018427387904/\∀ x∈l,x.length<=9223372036854775806
theorem eV {l:List (List Int)}{i:Nat}(h:i<l.length):l.getD i []∈l:=by rw[oQ,List.getElem?_eq_getElem h]; exact List.getElem_mem h
theorem vC {l:List (List Int)}{i:Nat}(h:i<l.length):l.toArray[i]! =l.getD i []:=by rw[getElem!_pos l.toArray i (by simpa using h),oQ,List.getElem?_eq_getElem h]; simp
theorem a3L {l:List (List Int)} (hs:aQK l) {j:Nat} (hj0:0<j) (hj:j<l.length) (hall:∀ i,i<j->Lib.keeps l.toArray i=true) (hdup:Lib.keeps l.toArray j=false) :
  ∃ (dk:List (List Int)) (kk:Nat),Lib.CompInv l.toArray l.length kk dk.toArray/\cI (l,(),(j:Int),(j,l.length-j),1,())=some (dk,(kk:Int),()):=by
 obtain⟨y,⟨dk,kk,rfl,hI⟩,hy⟩:=aOZ (step:=cH) (λi x=>∃ (dk:List (List Int)) (kk:Nat),x=(dk,(),(kk:Int),(j,l.length-j),((i+1:Nat):Int),())/\Lib.CompInv l.toArray (j+1+i) kk dk.toArray)
  (λx=>(x.1,x.2.2.1,())) (l.length-j-1) (by
   rintro i x hi ⟨dk,kk,rfl,hI⟩;have hsz:dk.length=l.length:=by have:=hI.size; simpa using this
   have hlt:=hI.lt;have hm:j+(i+1)<l.length:=Z
   have g1:dk.getD (j+(i+1)) []=l.getD (j+(i+1)) []:=by
    have:=hI.high (j+(i+1)) Z;rwa[vC Z,vC hm]at this
   have g2:dk.getD (j+i) []=l.getD (j+i) []:=by
    have:=hI.high (j+i) Z;rwa[vC Z,vC Z]at this
   have hk1:=hs.1;have w1:aB .i64 (((i+1:Nat):Int)-1)=((i:Nat):Int):=by rw[wrap64 Z Z]; omega
   simp only[cH,aE,aK,bW,aS,oN,w1,g1,g2];rw[if_pos Z,if_pos Z,if_pos Z,if_pos Z,if_pos Z,VD _ _ (hs.2 _ (eV hm)),aD,aS,bC (i+1) Z]
   by_cases he:l.getD (j+(i+1)) []=l.getD (j+i) []
   ·rw[if_pos he];refine⟨_,rfl,dk,kk,rfl,?_⟩;have hneg:Lib.keeps l.toArray (j+1+i)=false:=by
     refine Lib.keeps_neg Z ?_;rw[vC Z,vC Z,show j+1+i=j+(i+1)by omega,show j+(i+1)-1=j+i by omega,he]
    exact hI.skip hneg
   ·rw[if_neg he,if_pos Z,if_pos Z,if_pos Z,if_pos Z,bC kk Z];refine⟨_,rfl,_,kk+1,rfl,?_⟩;have hpos:Lib.keeps l.toArray (j+1+i)=true:=by
     refine Lib.keeps_pos ?_;rw[vC Z,vC Z,show j+1+i=j+(i+1)by omega,show j+(i+1)-1=j+i by omega];exact he
    have:=hI.keep (by simp; omega) hpos;rw[vC Z,show j+1+i=j+(i+1)by omega]at this;rw[show j+1+(i+1)=j+(i+1)+1 by omega];simpa using this) (by
   rintro x ⟨dk,kk,rfl,hI⟩;simp only[cH,aE,aS];rw[if_neg Z]) (l.length-j-1) 0 (2^64) (l,(),(j:Int),(j,l.length-j),1,()) Z (by have:=hs.1; omega) ⟨l,j,rfl,by
    rw[Nat.add_zero];exact Lib.CompInv.start hall hdup⟩
 rw[show j+1+(l.length-j-1)=l.length by omega]at hI;exact⟨dk,kk,hI,hy⟩
theorem aUN {l dk:List (List Int)}{kk:Nat}(h:Lib.CompInv l.toArray l.length kk dk.toArray):dk.take kk=Lib.compact l:=by
 have hsz:dk.length=l.length:=by have:=h.size; simpa using this
 have hlt:=h.lt;have hlen:(Lib.compact l).length=kk:=h.len;apply List.ext_getElem
 ·rw[List.length_take,hlen]; omega
 ·intro i h1 h2;have hi:i<kk:=by rw[List.length_take]at h1; omega
  have:=h.low i hi;change (Lib.compact l)[i]?=_ at this;rw[List.getElem?_eq_getElem h2,getElem!_pos dk.toArray i (by simp; omega)]at this;rw[List.getElem_take];have:=oB this;rw[this]; simp
theorem aNU(p:Nat->Bool):∀ (m:Nat) {j:Nat},(List.range m).find? p=some j->p j=true/\j<m/\∀ i,i<j->p i=false:=by
 intro m j h;have h1:=List.find?_some h;have h2:=List.mem_range.1 (List.mem_of_find?_eq_some h);refine⟨h1,h2,λi hi=>?_⟩;obtain⟨-,xs,ys,hab,hn⟩:=List.find?_eq_some_iff_append.1 h;have hlen:xs.length=j:=by
  have:(List.range m)[xs.length]?=some j:=by rw[hab]; simp
  rw[List.getElem?_range (by have:=oZ List.length hab; simp at this; omega)]at this;exact oB this
 have him:i∈xs:=by
  have h3:xs=(List.range m).take xs.length:=by rw[hab]; simp
  rw[h3,hlen,List.take_range];exact List.mem_range.2 Z
 simpa using hn i him
theorem a8I {l:List (List Int)}(hs:aQK l):bO l ((),())=some (Lib.compact l,()):=by
 have hk1:=hs.1;unfold bO; dsimp only;rw[aE,aS]
 by_cases h2:(l.length:Int)<2
 ·rw[if_pos h2,Lib.compact_all l (λj hj=>Lib.keeps_lt_one _ j Z)]
 rw[if_neg h2]
 -- the first loop
 have key:∀ j,0<j->j<l.length->(l.getD j []=l.getD (j-1) []↔Lib.keeps l.toArray j=false):=by
  intro j h0 hj;constructor
  ·intro h;exact Lib.keeps_neg h0 (by rw[vC hj,vC Z,h])
  ·intro h
   by_cases he:l.getD j []=l.getD (j-1) []
   ·exact he
   ·have:=Lib.keeps_pos (d:=l.toArray) (m:=j) (by rw[vC hj,vC Z]; exact he);rw[h]at this; cases this
 have step:∀ j,0<j->j<l.length->bD (l,(),(j:Int),())=if l.getD j []=l.getD (j-1) [] then
   (aC (cI (l,(),(j:Int),(j,l.length-j),1,())) λz6 =>
    bif !(ltI z6.2.1 0) then bif Nat.ble z6.2.1.toNat z6.1.length then bif Nat.ble z6.1.length z6.1.length then bif Nat.blt z6.2.1.toNat z6.1.length then bif Nat.ble (z6.2.1.toNat+(z6.1.length-z6.2.1.toNat)) z6.1.length then bif !(ltI z6.2.1 0) then bif Nat.ble 0 z6.2.1.toNat then bif Nat.ble z6.2.1.toNat ((clr z6.1 z6.2.1.toNat (z6.1.length-z6.2.1.toNat) []).length) then bif Nat.blt 0 ((clr z6.1 z6.2.1.toNat (z6.1.length-z6.2.1.toNat) []).length) then some (.inr (.inl ((clr z6.1 z6.2.1.toNat (z6.1.length-z6.2.1.toNat) []),(0,(z6.2.1.toNat-0)),()))) else none else none else none else none else none else none else none else none else none)
   else some (.inl (l,(),((j+1:Nat):Int),())):=by
  intro j h0 hj;have w1:aB .i64 ((j:Int)-1)=((j-1:Nat):Int):=by rw[wrap64 Z Z]; omega
  simp only[bD];rw[aE,oT (show (j:Int)<(l.length:Int)by omega),oC,aK,oT (show 0<=(j:Int)/\(j:Int)<(l.length:Int)by omega),oC,oN,bW,oT hj,oC,w1,aK,oT (show 0<=((j-1:Nat):Int)/\((j-1:Nat):Int)<(l.length:Int)by omega),oC,oN,bW,oT (show j-1<l.length by omega),oC,VD _ _ (hs.2 _ (eV hj)),aD]
  by_cases he:l.getD j []=l.getD (j-1) []
  ·rw[if_pos he,oT he,oC,aAB,oC,cT,oT (show j<=l.length by omega),oC,cT,oT (oM l.length),oC,oC]
  ·rw[if_neg he,oF he,oD,bC j Z]
 cases hf:(List.range (l.length-1)).find? (λi=>!(Lib.keeps l.toArray (i+1)))with
 | none =>
  have hall:∀ i,i<l.length->Lib.keeps l.toArray i=true:=by
   intro i hi;cases i with
   | zero=>exact Lib.keeps_lt_one _ 0 Z
   | succ i =>
    have:=List.find?_eq_none.1 hf i (List.mem_range.2 Z);simpa using this
  have hl:cG (l,(),1,())=some (.inr (l,())):=by
   refine bH (N:=2^64) (step:=bD) (λi=>(l,(),((i+1:Nat):Int),())) (l.length-1) (.inr (l,())) Z ?_ ?_
   ·intro i hi;rw[step (i+1) Z Z,if_neg];intro he;have:=(key (i+1) Z Z).1 he;rw[hall (i+1) Z]at this; cases this
   ·simp only[bD];rw[aE,oF Z,oD]
  rw[hl,Lib.compact_all l hall]; rfl
 | some j =>
  obtain⟨hj1,hj2,hj3⟩:=aNU _ _ hf;have hdup:Lib.keeps l.toArray (j+1)=false:=by simpa using hj1
  have hall:∀ i,i<j+1->Lib.keeps l.toArray i=true:=by
   intro i hi;cases i with
   | zero=>exact Lib.keeps_lt_one _ 0 Z
   | succ i =>
    have:=hj3 i Z;simpa using this
  obtain⟨dk,kk,hI,hin⟩:=a3L hs (Nat.succ_pos j) Z hall hdup;have hsz:dk.length=l.length:=by have:=hI.size; simpa using this
  have hlt:=hI.lt;have hclr:(clr dk kk (l.length-kk) []).length=l.length:=by simp only[clr,oH,List.length_take,List.length_replicate,List.length_drop]; omega
  have hl:cG (l,(),1,())=some (.inl (clr dk kk (l.length-kk) [],(0,kk-0),())):=by
   have hsteps:=T7 (step:=bD) (λi=>(l,(),((i+1:Nat):Int),())) (2^64-j-1+1) j 0 (λi _ hi=>by
    rw[step (i+1) Z Z,if_neg];intro he;have:=(key (i+1) Z Z).1 he;rw[hall (i+1) Z]at this; cases this)
   have e:j+(2^64-j-1+1)=2^64:=Z
   rw[e,show 0+j+1=j+1 by omega]at hsteps;refine Eq.trans hsteps ?_;rw[bV,step (j+1) Z Z,if_pos ((key (j+1) Z Z).2 hdup),hin,aD];dsimp only;rw[aAB,oN,hsz,hclr];simp only[cT,bW,oC];rw[oT (show kk<=l.length by omega),oT (oM l.length),oT hlt,oT (show kk+(l.length-kk)<=l.length by omega),oT (Nat.zero_le kk),oT (show 0<l.length by omega)];rfl
  rw[hl,aD];simp only[I3,Nat.sub_zero,List.drop_zero];have:(clr dk kk (l.length-kk) []).take kk=dk.take kk:=by
   unfold clr;rw[List.take_append_of_le_length (by rw[List.length_take]; omega),List.take_take,Nat.min_self]
  rw[this,aUN hI]
theorem EV {l:List (List Int)}{i:Nat}(h:i<l.length):l.toArray[i]! =l[i]:=by rw[getElem!_pos l.toArray i (by simpa using h)]; simp
theorem a1T(l:List (List Int))(x:List Int):x∈Lib.compact l↔x∈l:=by
 constructor
 ·intro h;unfold Lib.compact Lib.compactUpTo at h;obtain⟨i,hi,rfl⟩:=List.mem_map.1 h;have hl:=List.mem_range.1 (List.mem_filter.1 hi).1;rw[EV hl]; exact List.getElem_mem hl
 ·intro h;obtain⟨i,hi,rfl⟩:=List.getElem_of_mem h;have key:∀ i (hi:i<l.length),l[i]∈Lib.compact l:=by
   intro i
   induction i with
   | zero =>
    intro hi;unfold Lib.compact Lib.compactUpTo;refine List.mem_map.2 ⟨0,List.mem_filter.2 ⟨List.mem_range.2 hi,by simp[Lib.keeps]⟩,EV hi⟩
   | succ i ih =>
    intro hi
    by_cases he:l[i+1]=l[i]' Z
    ·rw[he]; exact ih Z
    ·unfold Lib.compact Lib.compactUpTo;refine List.mem_map.2 ⟨i+1,List.mem_filter.2 ⟨List.mem_range.2 hi,?_⟩,EV hi⟩;refine Lib.keeps_pos ?_;rw[EV hi,Nat.add_sub_cancel,EV Z]; exact he
  exact key i hi
theorem a3B {l:List (List Int)}(h:l.Pairwise (λa b=>decide (cmpL b a<0)=false)):(Lib.compact l).Nodup:=by
 unfold Lib.compact Lib.compactUpTo;refine List.pairwise_map.2 ?_;have hp:((List.range l.length).filter (Lib.keeps l.toArray)).Pairwise λi j=>i<j:=List.Pairwise.filter _ List.pairwise_lt_range
 refine List.Pairwise.imp_of_mem ?_ hp;intro i j hi hj hij he;obtain⟨hi1,hi2⟩:=List.mem_filter.1 hi;obtain⟨hj1,hj2⟩:=List.mem_filter.1 hj;have hi1:=List.mem_range.1 hi1;have hj1:=List.mem_range.1 hj1;simp only[Lib.keeps,decide_eq_true_eq]at hj2;have h2:l.toArray[j]!≠l.toArray[j-1]!:=by
  rcases hj2 with h2|h2
  ·omega
  ·exact h2
 rw[EV hj1,EV (i:=j-1) Z]at h2;rw[EV hi1,EV hj1]at he;have ord:∀ i j (hij:i<j) (hj:j<l.length),¬ cmpL l[j] (l[i]' Z)<0:=λi j hij hj=>by
  have:=List.pairwise_iff_getElem.1 h i j Z hj hij;simpa using this
 have a1:=ord (j-1) j Z hj1;have a2:cmpL (l[j-1]' Z) l[j]<0:=by
  by_cases h3:cmpL (l[j-1]' Z) l[j]<0
  ·exact h3
  ·exact(h2 (RB a1 h3)).elim
 rcases oG i (j-1)with h3|h3
 ·have a3:=ord i (j-1) h3 Z;rw[he]at a3;exact a3 a2
 ·have:i=j-1:=Z
  subst this;exact h2 he.symm
def SI(l:List (List Int)):Prop:=l.Pairwise λa b=>cmpL a b<0
theorem aXI {l:List (List Int)}(h:SI l):l.Nodup:=by
 refine List.Pairwise.imp (λ{a b} h e=>?_) h;rw[e,IL]at h;omega
theorem aRO {l l':List (List Int)}(h:SI l)(h':SI l')(hm:∀ x,x∈l↔x∈l'):l=l' :=
 List.Perm.eq_of_pairwise (le:=λa b=>cmpL a b<0) (λa b _ _ h1 h2=>(a3C h1 h2).elim) h h' ((List.perm_ext_iff_of_nodup (aXI h) (aXI h')).2 hm)
theorem aMT {l:List (List Int)}(h:l.Pairwise (λa b=>decide (cmpL b a<0)=false)):SI (Lib.compact l):=by
 have s:(Lib.compact l).Pairwise (λa b=>decide (cmpL b a<0)=false):=by
  unfold Lib.compact Lib.compactUpTo;refine List.pairwise_map.2 ?_;have hp:((List.range l.length).filter (Lib.keeps l.toArray)).Pairwise λi j=>i<j:=List.Pairwise.filter _ List.pairwise_lt_range
  refine List.Pairwise.imp_of_mem ?_ hp;intro i j hi hj hij;have hi1:=List.mem_range.1 (List.mem_filter.1 hi).1;have hj1:=List.mem_range.1 (List.mem_filter.1 hj).1;rw[EV hi1,EV hj1];exact List.pairwise_iff_getElem.1 h i j hi1 hj1 hij
 refine List.Pairwise.imp (λ{a b} h=>?_) (List.pairwise_and_iff.2 ⟨s,a3B h⟩);obtain⟨h1,h2⟩:=h;simp only[decide_eq_false_iff_not]at h1
 by_cases h3:cmpL a b<0
 ·exact h3
 ·exact(h2 (RB h3 h1)).elim
def CL(x:List Int):List (List Int)->List (List Int)
 | []=>[x]
 | y::r=>if cmpL x y=0 then y::r else if cmpL x y<0 then x::y::r else y::CL x r
theorem KQ(x z:List Int):∀ l,z∈CL x l↔z=x\/z∈l
 | []=>by simp[CL]
 | y::r=>by
  unfold CL
  by_cases h0:cmpL x y=0
  ·rw[if_pos h0,aMF h0]; simp
  ·rw[if_neg h0]
   by_cases h1:cmpL x y<0
   ·rw[if_pos h1]; simp
   ·rw[if_neg h1,List.mem_cons,KQ x z r,List.mem_cons];constructor
    ·rintro(h|h|h)
     ·exact .inr (.inl h)
     ·exact .inl h
     ·exact .inr (.inr h)
    ·rintro(h|h|h)
     ·exact .inr (.inl h)
     ·exact .inl h
     ·exact .inr (.inr h)
theorem aL4(x:List Int):∀ {l},SI l->SI (CL x l)
 | [],_=>by simp[CL,SI]
 | y::r,h=>by
  unfold SI at h;obtain⟨hy,hr⟩:=List.pairwise_cons.1 h;unfold CL
  by_cases h0:cmpL x y=0
  ·rw[if_pos h0]; exact h
  ·rw[if_neg h0]
   by_cases h1:cmpL x y<0
   ·rw[if_pos h1];refine List.pairwise_cons.2 ⟨λz hz=>?_,h⟩;rcases List.mem_cons.1 hz with rfl|hz
    ·exact h1
    ·exact H4 h1 (hy z hz)
   ·rw[if_neg h1];refine List.pairwise_cons.2 ⟨λz hz=>?_,aL4 x hr⟩;rcases(KQ x z r).1 hz with rfl|hz
    ·exact a3O h0 h1
    ·exact hy z hz
theorem EO(x:List Int):∀ l,(CL x l).length<=l.length+1
 | []=>by simp[CL]
 | y::r=>by
  unfold CL;split
  ·simp
  ·split
   ·simp
   ·have:=EO x r;simp only[List.length_cons]; omega
theorem a6H {α:Type}(d:α)(pre:List α)(y:α)(r:List α):(pre++y::r).getD pre.length d=y:=by rw[oQ,List.getElem?_append_right (oM _),Nat.sub_self]; rfl
theorem EG {x:List Int}(hx:x.length<=9223372036854775806):∀ (suf pre:List (List Int)) (N:Nat),pre.length+suf.length<=1000000->(∀ y∈suf,y.length<=9223372036854775806)->suf.length<N ->
  ∃ z,aW mA N (pre++suf,x,pre,(pre.length:Int),())=some z/\(mY z (λa4=>some (a4.1,())) λb5=>bif Nat.ble [b5.1].length 1048576 then bif Nat.ble b5.2.1.length 1048576 then some ((b5.2.1++[b5.1]),()) else none else none)=(some (pre++CL x suf,()):Option (aM [.list (.list (.int .i64))]))
 | [],pre,N,hl,_,hN=>by
  obtain⟨n,rfl⟩:∃ n,N=n+1:=⟨N-1,by omega⟩;refine⟨.inr (x,pre,()),?_,?_⟩
  ·rw[bV];simp only[mA,List.append_nil,aE,aS];rw[if_neg Z]
  ·simp only[List.length_nil,Nat.add_zero]at hl;simp only[lM,cT,aS,List.length_cons,List.length_nil];rw[if_pos Z,if_pos Z]; rfl
 | y::r,pre,N,hl,hs,hN=>by
  obtain⟨n,rfl⟩:∃ n,N=n+1:=⟨N-1,by omega⟩;simp only[List.length_cons]at hl hN;have hlen:(pre++y::r).length=pre.length+(r.length+1):=ze
  have hst:mA (pre++y::r,x,pre,(pre.length:Int),())=if cmpL x y=0 then some (.inr (.inl (pre++y::r,()))) else if cmpL x y<0 then some (.inr (.inl (pre++x::y::r,()))) else some (.inl (pre++y::r,x,pre++[y],((pre.length+1:Nat):Int),())):=by
   simp only[mA,aE,bP,aK,cT,pG,aS,oN,a6H];rw[if_pos Z,if_pos Z,CI x y hx (hs y ze),aD];have hd:((pre++y::r).drop pre.length).take ((pre++y::r).length-pre.length)=y::r:=by
    rw[List.drop_left,hlen,Nat.add_sub_cancel_left];exact List.take_of_length_le ze
   dsimp only
   by_cases h0:cmpL x y=0
   ·rw[if_pos h0,if_pos h0]
   ·rw[if_neg h0,if_neg h0]
    by_cases h1:cmpL x y<0
    ·rw[if_pos h1,if_pos h1,hd];simp only[List.length_cons,oH,List.length_nil];rw[if_pos Z,if_pos Z,if_pos Z,if_pos Z,if_pos Z,if_pos Z,if_pos Z,List.append_assoc]; rfl
    ·rw[if_neg h1,if_neg h1];simp only[List.length_cons,List.length_nil];rw[if_pos Z,if_pos Z,if_pos Z,bC _ Z]
  rw[bV,hst];unfold CL
  by_cases h0:cmpL x y=0
  ·rw[if_pos h0,if_pos h0]; exact⟨_,rfl,rfl⟩
  ·rw[if_neg h0,if_neg h0]
   by_cases h1:cmpL x y<0
   ·rw[if_pos h1,if_pos h1]; exact⟨_,rfl,rfl⟩
   ·rw[if_neg h1,if_neg h1];have:=EG hx r (pre++[y]) n (by simp only[oH,List.length_cons,List.length_nil]; omega) (λz hz=>hs z (by simp[hz])) Z;simp only[List.append_assoc,List.cons_append,List.nil_append,oH,List.length_cons,List.length_nil]at this;exact this
theorem tQ {l:List (List Int)}{x:List Int}(hl:l.length<=1000000)(hs:∀ y∈l,y.length<=9223372036854775806)(hx:x.length<=9223372036854775806):iW (l,x,())=some (CL x l,()):=by
 obtain⟨z,h1,h2⟩:=EG hx l [] (2^64) (by simpa using hl) hs Z;unfold iW; dsimp only;have h1':wP (l,x,[],0,())=some z:=h1;rw[h1',aD,h2]; rfl
theorem bE1(x:Int) : -9223372036854775808<=aB .i64 x/\aB .i64 x<9223372036854775808:=by
 rw[SD,IntKind.wrap_i64];omega
theorem bGB(x:Int):aB .i64 (aB .i64 x)=aB .i64 x:=wrap64 (bE1 x).1 (bE1 x).2
def R9(f:Nat->Int) (n i:Nat):List Int:=(List.range i).map f++List.replicate (n-i) 0
theorem aEG(f:Nat->Int){n i:Nat}(h:i<=n):(R9 f n i).length=n:=by simp only[R9,oH,List.length_map,List.length_range,List.length_replicate]; omega
theorem aKG(f:Nat->Int)(n:Nat):R9 f n 0=List.replicate n 0:=by simp[R9]
theorem aM3(f:Nat->Int)(n:Nat):R9 f n n=(List.range n).map f:=by simp[R9]
theorem aO7(f:Nat->Int){n i:Nat}(h:i<n):(R9 f n i).set i (f i)=R9 f n (i+1):=by
 unfold R9;rw[List.set_append_right _ _ ze];simp only[List.length_map,List.length_range,Nat.sub_self];obtain⟨k,hk⟩:∃ k,n-i=k+1:=⟨n-i-1,by omega⟩;rw[hk,List.replicate_succ,List.set_cons_zero,show n-(i+1)=k by omega,List.range_succ,List.map_append,List.append_assoc]; rfl
def dM(a b:List Int):List Int:=(List.range a.length).map λi=>aB .i64 (a.getD i 0-b.getD i 0)
def aQ8(a b:List Int)(k:Int):List Int:=(List.range a.length).map λi=>aB .i64 (a.getD i 0+aB .i64 (k*b.getD i 0))
theorem HC(a b:List Int):(dM a b).length=a.length:=by simp[dM]
theorem KI {a b:List Int}(h1:a.length<=b.length)(h2:a.length<=1048576):uG (a,b,())=some (dM a b,()):=by
 have hloop:yV (a,b,List.replicate a.length 0,0,())=some (dM a b,()):=by
  rw[<- aKG (λi=>aB .i64 (a.getD i 0-b.getD i 0))];refine bH (N:=2^64) (step:=sB) (λi=>(a,b,R9 (λi=>aB .i64 (a.getD i 0-b.getD i 0)) a.length i,(i:Int),())) a.length _ Z ?_ ?_
  ·intro i hi;simp only[sB,aE,aK,bW,aS,oN,aEG _ (Nat.le_of_lt hi)];rw[if_pos Z,if_pos Z,if_pos Z,if_pos Z,if_pos Z,bC i Z];rw[aO7 (λi=>aB .i64 (a.getD i 0-b.getD i 0)) hi]
  ·simp only[sB,aE,aS];rw[if_neg Z,aM3]; rfl
 unfold uG; dsimp only;simp only[aE,pG,aS,oN];rw[if_pos Z,if_pos Z,if_pos Z,hloop,aD]
theorem GF {a b:List Int}(k:Int)(h1:a.length<=b.length)(h2:a.length<=1048576):vB (a,b,k,())=some (aQ8 a b k,()):=by
 have hloop:CW (a,b,k,List.replicate a.length 0,(a.length:Int),0,())=some (aQ8 a b k,()):=by
  rw[<- aKG (λi=>aB .i64 (a.getD i 0+aB .i64 (k*b.getD i 0)))];refine bH (N:=2^64) (step:=wH) (λi=>(a,b,k,R9 (λi=>aB .i64 (a.getD i 0+aB .i64 (k*b.getD i 0))) a.length i,(a.length:Int),(i:Int),())) a.length _ Z ?_ ?_
  ·intro i hi;simp only[wH,aE,aK,bW,aS,oN,aEG _ (Nat.le_of_lt hi)];rw[if_pos Z,if_pos Z,if_pos Z,if_pos Z,if_pos Z,bC i Z];rw[aO7 (λi=>aB .i64 (a.getD i 0+aB .i64 (k*b.getD i 0))) hi]
  ·simp only[wH,aE,aS];rw[if_neg Z,aM3]; rfl
 unfold vB; dsimp only;simp only[aE,pG,aS,oN];rw[if_pos Z,if_pos Z,if_pos Z,hloop,aD]
def neg(r:List Int):List Int:=dM (List.replicate r.length 0) r
theorem aFZ(r:List Int):(neg r).length=r.length:=by unfold neg; rw[HC,List.length_replicate]
theorem a5X(r:List Int):aQ8 (List.replicate r.length 0) r (-1)=neg r:=by
 unfold aQ8 neg dM;refine List.map_congr_left λi hi=>?_
 have hi:=List.mem_range.1 hi;rw[List.length_replicate]at hi;have h0:(List.replicate r.length (0:Int)).getD i 0=0:=by rw[oQ,List.getElem?_replicate_of_lt hi]; rfl
 rw[h0,Int.zero_add,bGB,show (-1:Int)*r.getD i 0=0-r.getD i 0 by omega]
def isZ(r:List Int):Bool:=decide (∀ i,i<r.length->r.getD i 0=0)
theorem aXM(r:List Int):isZ r=((List.range r.length).find? λi=>decide (¬ r.getD i 0=0)).isNone:=by
 unfold isZ;cases h:(List.range r.length).find? λi=>decide (¬ r.getD i 0=0)with
 | none =>
  refine oT λi hi=>?_
  have:=List.find?_eq_none.1 h i (List.mem_range.2 hi);simpa using this
 | some j =>
  refine oF λhall=>?_
  have h1:=List.find?_some h;have h2:=List.mem_range.1 (List.mem_of_find?_eq_some h);have:=hall j h2;simp only[decide_eq_true_eq]at h1;exact h1 this
theorem LP {r:List Int}(h:r.length<=1048576):vN (r,())=some (isZ r,()):=by
 have hloop:AK (r,0,())=some ((((List.range r.length).find? λi=>decide (¬ r.getD i 0=0)).map λi=>.inl (false,())).getD (.inr ())):=by
  rw[<- xQ];refine qI (N:=2^64) (step:=tA) (λi=>(r,(i:Int),())) (λi=>if ¬ r.getD i 0=0 then some (.inl (false,())) else none) r.length (.inr ()) Z ?_ ?_
  ·intro i hi;simp only[tA,aE,bP,aK,pG,aS,oN];rw[if_pos Z,if_pos Z,bC i Z]
   by_cases h:¬ r.getD i 0=0
   ·rw[if_pos h,if_pos h]
   ·rw[if_neg h,if_neg h]
  ·simp only[tA,aE,aS];rw[if_neg Z]
 unfold vN; dsimp only;rw[hloop,aD,aXM];cases (List.range r.length).find? λi=>decide (¬ r.getD i 0=0) <;> rfl
theorem aIL(v:Int):M6 (v,())=some (decide (¬ v=0),()):=by
 unfold M6; dsimp only;rw[bP,pG]
theorem aBX {r:List Int}(h:r.length<=1048576):OD (r,())=some (isZ r,()):=by
 have hloop:mZ (r,(),(r.length:Int),0,())=some ((((List.range r.length).find? λi=>decide (¬ r.getD i 0=0)).map λi:Nat=>.inl ((i:Int),())).getD (.inr ())):=by
  rw[<- xQ (λi=>¬ r.getD i 0=0) (λi:Nat=>Sum.inl ((i:Int),()))];refine qI (N:=2^64) (step:=iN) (λi=>(r,(),(r.length:Int),(i:Int),())) (λi=>if ¬ r.getD i 0=0 then some (.inl ((i:Int),())) else none) r.length (.inr ()) Z ?_ ?_
  ·intro i hi;simp only[iN,aE,bP,aK,pG,aS,oN];rw[if_pos Z,if_pos Z,aIL,aD,bC i Z,aS]
   by_cases h:¬ r.getD i 0=0
   ·rw[if_pos h,if_pos h]
   ·rw[if_neg h,if_neg h]
  ·simp only[iN,aE,aS];rw[if_neg Z]
 have h70:lQ (r,(),())=some ((((List.range r.length).find? λi=>decide (¬ r.getD i 0=0)).map λi:Nat=>(i:Int)).getD (-1),()):=by
  unfold lQ; dsimp only;rw[hloop,aD];cases (List.range r.length).find? λi=>decide (¬ r.getD i 0=0) <;> rfl
 unfold OD; dsimp only;unfold pO; dsimp only;rw[h70,aD,aXM];cases (List.range r.length).find? λi=>decide (¬ r.getD i 0=0)with
 | none=>rfl
 | some i =>
  show (aC (some (!(ltI ((i:Nat):Int) 0),())) λy1=>bif y1.1 then some (false,()) else some (true,()))=_;rw[aD,aAB]; rfl
def pU:List (List Int)->List (List Int)->List (List Int)
 | out,[]=>out
 | out,r::l=>pU (if isZ r then out else CL (neg r) (CL r out)) l
def NL(l:List (List Int)):List (List Int):=l.flatMap λr=>if isZ r then [] else [r,neg r]
theorem aHH:∀ (l:List (List Int)) {out},SI out->SI (pU out l)
 | [],_,h=>h
 | r::l,out,h=>by
  unfold pU;refine aHH l ?_;split
  ·exact h
  ·exact aL4 _ (aL4 _ h)
theorem WL(z:List Int):∀ (l out:List (List Int)),z∈pU out l↔z∈out\/z∈NL l
 | [],out=>by simp[pU,NL]
 | r::l,out=>by
  unfold pU;rw[WL z l];simp only[NL,List.flatMap_cons,List.mem_append]
  by_cases h:isZ r
  ·rw[if_pos h,if_pos h]; simp
  ·rw[if_neg h,if_neg h,KQ,KQ];simp only[List.mem_cons,List.not_mem_nil,or_false];constructor
   ·rintro((h|h|h)|h)
    ·exact .inr (.inl (.inr h))
    ·exact .inr (.inl (.inl h))
    ·exact .inl h
    ·exact .inr (.inr h)
   ·rintro(h|(h|h)|h)
    ·exact .inl (.inr (.inr h))
    ·exact .inl (.inr (.inl h))
    ·exact .inl (.inl h)
    ·exact .inr h
theorem YD:∀ (l out:List (List Int)),(pU out l).length<=out.length+2*l.length
 | [],out=>by simp[pU]
 | r::l,out=>by
  unfold pU;have:=YD l (if isZ r then out else CL (neg r) (CL r out));have h2:(if isZ r then out else CL (neg r) (CL r out)).length<=out.length+2:=by
   split
   ·omega
   ·have a:=EO (neg r) (CL r out);have b:=EO r out;omega
  simp only[List.length_cons]; omega
theorem aYI {l:List (List Int)}(out:List (List Int)){i:Nat}(h:i<l.length):pU out (l.take (i+1))=(if isZ (l.getD i []) then pU out (l.take i) else CL (neg (l.getD i [])) (CL (l.getD i []) (pU out (l.take i)))):=by
 have hs:∀ (a b:List (List Int)) (out:List (List Int)),pU out (a++b)=pU (pU out a) b:=by
  intro a
  induction a with
  | nil=>intro b out; rfl
  | cons r a ih=>intro b out; simp only[List.cons_append,pU]; exact ih b _
 rw[List.take_add_one,hs,List.getElem?_eq_getElem h,show l.getD i []=l[i]by rw[oQ,List.getElem?_eq_getElem h]; rfl];rfl
def Rws(n:Nat) (l:List (List Int)):Prop:=∀ y∈l,y.length<=n
theorem aCX {n:Nat}{l:List (List Int)}(h:Rws n l):Rws n (NL l):=by
 intro y hy;obtain⟨r,hr,hy⟩:=List.mem_flatMap.1 hy;split at hy
 ·cases hy
 ·rcases List.mem_cons.1 hy with rfl|hy
  ·exact h _ hr
  ·rw[List.mem_singleton.1 hy,aFZ]; exact h _ hr
theorem a2T {n:Nat}{l out:List (List Int)}(h:Rws n l)(ho:Rws n out):Rws n (pU out l):=by
 intro y hy;rcases(WL y l out).1 hy with hy|hy
 ·exact ho y hy
 ·exact aCX h y hy
theorem a68 {n:Nat}{l:List (List Int)}(h:Rws n l)(i:Nat):Rws n (l.take i):=λy hy=>h y (List.mem_of_mem_take hy)
theorem VY {l:List (List Int)}(h1:l.length<=1000)(h2:Rws 1000 l):wD (l,())=some (pU [] l,()):=by
 have hloop:vY (l,[],0,())=some (pU [] l,()):=by
  refine bH (N:=2^64) (step:=qC) (λi=>(l,pU [] (l.take i),(i:Int),())) l.length (pU [] l,()) Z ?_ ?_
  ·intro i hi;have hr:=h2 _ (eV hi);have hc:=YD (l.take i) [];have hct:=a2T (a68 h2 i) (n:=1000) (out:=[]) (λy hy=>by cases hy);have hti:(l.take i).length<=1000:=by rw[List.length_take]; omega
   simp only[List.length_nil,Nat.zero_add]at hc;rw[aYI [] hi];simp only[qC,aE,aK,pG,cT,aS,oN];rw[if_pos Z,if_pos Z,LP Z,aD,bC i Z];cases hz:isZ (l.getD i [])with
   | true=>simp only[oC,if_true]
   | false =>
    simp only[oD];have e1:=tQ (l:=pU [] (l.take i)) (x:=l.getD i []) Z (λy hy=>oR (hct y hy) Z) Z;have e2:=KI (a:=List.replicate (l.getD i []).length 0) (b:=l.getD i []) (by rw[List.length_replicate]; omega) (by rw[List.length_replicate]; omega);have e3:=tQ (l:=CL (l.getD i []) (pU [] (l.take i))) (x:=neg (l.getD i [])) (by have:=EO (l.getD i []) (pU [] (l.take i)); omega) (λy hy=>by
     rcases(KQ _ y _).1 hy with rfl|hy
     ·omega
     ·exact oR (hct y hy) Z) (by rw[aFZ]; omega)
    rw[if_pos Z,if_pos Z,e1,aD,if_pos Z,if_pos Z,if_pos Z,if_pos Z,if_pos Z,e2,aD];change (aC (iW (CL (l.getD i []) (pU [] (l.take i)),neg (l.getD i []),())) _)=_;rw[e3,aD]; rfl
  ·simp only[qC,aE,aS];rw[if_neg Z,List.take_length]
 unfold wD; dsimp only;rw[hloop,aD]
theorem aT0(v:Int):W6 (v,())=some (decide (-1000000000<=v/\v<=1000000000),()):=by
 unfold W6; dsimp only;simp only[aE,pG,aS]
 by_cases h:¬ v < -1000000000
 ·rw[if_pos h]
  by_cases h2:v<=1000000000
  ·rw[oT (show -1000000000<=v/\v<=1000000000 by omega),oT (show ¬ 1000000000<v by omega)]
  ·rw[oF (show ¬ (-1000000000<=v/\v<=1000000000)by omega),oF (show ¬ ¬ 1000000000<v by omega)]
 ·rw[if_neg h,oF Z]
def okE(v:Int):Prop:=-1000000000<=v/\v<=1000000000
instance (v:Int):Decidable (okE v):=by unfold okE; infer_instance
theorem aLQ(v:Int):KC (v,())=some (decide (¬ okE v),()):=by
 unfold KC; dsimp only;rw[aT0,aD]
 by_cases h:okE v
 ·rw[oF (not_not_intro h)];unfold okE at h;rw[oT h]; rfl
 ·rw[oT h];unfold okE at h;rw[oF h]; rfl
def rc(r:List Int):Int:=if 64<r.length then 4 else if (∀ i,i<r.length->okE (r.getD i 0)) then 0 else 4
theorem NB {r:List Int}(h:r.length<=1048576):vO (r,())=some (rc r,()):=by
 have hloop:iL (r,(),(r.length:Int),0,())=some ((((List.range r.length).find? λi=>decide (¬ okE (r.getD i 0))).map λi:Nat=>.inl ((i:Int),())).getD (.inr ())):=by
  rw[<- xQ (λi=>¬ okE (r.getD i 0)) (λi:Nat=>Sum.inl ((i:Int),()))];refine qI (N:=2^64) (step:=bU) (λi=>(r,(),(r.length:Int),(i:Int),())) (λi=>if ¬ okE (r.getD i 0) then some (.inl ((i:Int),())) else none) r.length (.inr ()) Z ?_ ?_
  ·intro i hi;simp only[bU,aE,bP,aK,pG,aS,oN];rw[if_pos Z,if_pos Z,aLQ,aD,bC i Z,aS]
   by_cases h:¬ okE (r.getD i 0)
   ·rw[if_pos h,if_pos h]
   ·rw[if_neg h,if_neg h]
  ·simp only[bU,aE,aS];rw[if_neg Z]
 have h70:iF (r,(),())=some ((((List.range r.length).find? λi=>decide (¬ okE (r.getD i 0))).map λi:Nat=>(i:Int)).getD (-1),()):=by
  unfold iF; dsimp only;rw[hloop,aD];cases (List.range r.length).find? λi=>decide (¬ okE (r.getD i 0)) <;> rfl
 unfold vO rc; dsimp only;simp only[aE,aS]
 by_cases h64:64<r.length
 ·rw[if_pos h64,if_pos Z]
 ·rw[if_neg h64,if_neg Z];unfold jV; dsimp only;rw[h70,aD];cases hf:(List.range r.length).find? λi=>decide (¬ okE (r.getD i 0))with
  | none =>
   rw[if_pos (λi hi=>by
    have:=List.find?_eq_none.1 hf i (List.mem_range.2 hi);simpa using this)]
   rfl
  | some i =>
   rw[if_neg (λhall=>by
    have h1:=List.find?_some hf;have h2:=List.mem_range.1 (List.mem_of_find?_eq_some hf);simp only[decide_eq_true_eq]at h1;exact h1 (hall i h2))]
   show (aC (some (!(ltI ((i:Nat):Int) 0),())) λy1=>bif y1.1 then some (4,()) else some (0,()))=_;rw[aD,aAB]; rfl
def aD5(n:Int) (l:List (List Int)) (i:Nat):Option Int:=if ¬ rc (l.getD i [])=0 then some (rc (l.getD i [])) else if ¬ ((l.getD i []).length:Int)=n then some 5 else none
def W8(n:Int) (l:List (List Int)):Int:=if n<0\/12<n then 3 else ((List.range l.length).findSome? (aD5 n l)).getD 0
theorem aJB {n:Int}{l:List (List Int)}(h1:l.length<=1048576)(h2:Rws 1048576 l):xT (l,n,())=some (((List.range l.length).findSome? (aD5 n l)).getD 0,()):=by
 have hloop:BS (n,l,(l.length:Int),0,())=some (((List.range l.length).findSome? λi=>(aD5 n l i).map λe=>.inl (e,())).getD (.inr ())):=by
  refine qI (N:=2^64) (step:=lH) (λi=>(n,l,(l.length:Int),(i:Int),())) (λi=>(aD5 n l i).map λe=>.inl (e,())) l.length (.inr ()) Z ?_ ?_
  ·intro i hi;simp only[lH,aE,bP,aK,pG,aS,oN];rw[if_pos Z,if_pos Z,NB (h2 _ (eV hi)),aD,bC i Z];unfold aD5
   by_cases h:¬ rc (l.getD i [])=0
   ·rw[if_pos h,if_pos h]; rfl
   ·rw[if_neg h,if_neg h]
    by_cases h3:¬ ((l.getD i []).length:Int)=n
    ·rw[if_pos h3,if_pos h3]; rfl
    ·rw[if_neg h3,if_neg h3]; rfl
  ·simp only[lH,aE,aS];rw[if_neg Z]
 unfold xT; dsimp only;rw[hloop,aD,KG];cases (List.range l.length).findSome? (aD5 n l) <;> rfl
theorem P9 {n:Int}{l:List (List Int)}(h1:l.length<=1048576)(h2:Rws 1048576 l):zZ (n,l,())=some (W8 n l,()):=by
 unfold zZ W8; dsimp only;simp only[aE,aS]
 by_cases h:n<0
 ·rw[if_pos h,if_pos (.inl h)]
 ·rw[if_neg h]
  by_cases h3:12<n
  ·rw[if_pos h3,if_pos (.inr h3)]
  ·rw[if_neg h3,if_neg Z,aJB h1 h2,aD]
theorem a9K(r:List Int):rc r=0\/rc r=4:=by
 unfold rc;split
 ·exact .inr rfl
 ·split
  ·exact .inl rfl
  ·exact .inr rfl
theorem aCP {n:Int} {l:List (List Int)} (h:W8 n l=0):0<=n/\n<=12/\∀ y∈l,rc y=0/\(y.length:Int)=n:=by
 unfold W8 at h;split at h
 ·cases h
 ·refine⟨by omega,by omega,λy hy=>?_⟩;obtain⟨i,hi,rfl⟩:=List.getElem_of_mem hy;have hg:l.getD i []=l[i]:=by rw[oQ,List.getElem?_eq_getElem hi]; rfl
  cases hf:(List.range l.length).findSome? (aD5 n l)with
  | none =>
   have:=List.findSome?_eq_none_iff.1 hf i (List.mem_range.2 hi);unfold aD5 at this;rw[hg]at this;split at this
   ·cases this
   ·rename_i h1;split at this
    ·cases this
    next h2=>exact⟨Decidable.not_not.1 h1,Decidable.not_not.1 h2⟩
  | some e =>
   rw[hf]at h;obtain⟨j,-,hj⟩:=List.exists_of_findSome?_eq_some hf;change e=0 at h;subst h;unfold aD5 at hj;split at hj
   next h1=>exact(h1 (oB hj)).elim
   ·split at hj
    ·cases hj
    ·cases hj
set_option maxHeartbeats 4000000
abbrev ltC:List Int->List Int->Bool:=λx y=>decide (cmpL x y<0)
theorem aRE {l:List (List Int)}(hs:∀ x∈l,x.length<=1048576)(h1:l.length<4611686018427387904):aOS (t:=.int .i64) D64 ltC l=some (aEN ltC l):=by
 cases l with
 | nil=>rfl
 | cons x r =>
  show aI2 (t:=.int .i64) D64 ltC (x::r)=_;unfold aI2;have:(Nat.blt 0 (x::r).length&&Nat.blt (x::r).length 4611686018427387904&&(x::r).all D64)=true:=by
   rw[bW,bW,oT (show 0<(x::r).length by simp),oT h1,Bool.true_and,Bool.true_and,List.all_eq_true];exact λy hy=>Nat.ble_eq_true_of_le (hs y hy)
  have h2:(bif Nat.blt 0 (x::r).length&&Nat.blt (x::r).length 4611686018427387904&&(x::r).all D64 then some (aEN ltC (x::r)) else none)=some (aEN ltC (x::r)):=by rw[this]; rfl
  exact h2
theorem aR9 {l:List (List Int)}(hs:aQK l):aQK (aEN ltC l) :=
 ⟨by rw[aXR]; exact hs.1,λx hx=>hs.2 x ((IK l).mem_iff.1 hx)⟩
theorem a9M {l:List (List Int)} (h:Rws 1000 l):Lib.compact (aEN ltC (NL l))=pU [] l:=by
 refine aRO (aMT (TT loL _ λx hx=>Nat.ble_eq_true_of_le (oR (aCX h x hx) Z))) (aHH l (by simp[SI])) λx=>?_
 rw[a1T,(IK _).mem_iff,WL]; simp
theorem XM:∀ l:List (List Int),(NL l).length<=2*l.length
 | []=>by simp[NL]
 | r::l=>by
  have:=XM l;unfold NL at this ⊢;rw[List.flatMap_cons,oH,List.length_cons];split
  ·simp only[List.length_nil]; omega
  ·simp only[List.length_cons,List.length_nil]; omega
theorem aY8 {l:List (List Int)}{i:Nat}(h:i<l.length):NL (l.take (i+1))=NL (l.take i)++(if isZ (l.getD i []) then [] else [l.getD i [],neg (l.getD i [])]):=by
 unfold NL;rw[List.take_add_one,List.flatMap_append,List.getElem?_eq_getElem h,show l.getD i []=l[i]by rw[oQ,List.getElem?_eq_getElem h]; rfl];simp
theorem aJV {r:List Int}(h:isZ r=false):0<r.length:=by
 rcases Nat.eq_zero_or_pos r.length with h0|h0
 ·unfold isZ at h;rw[oT (λi hi=>by omega)]at h;cases h
 ·exact h0
theorem CG {r:List Int}(h:0<r.length)(h2:r.length<=1048576):fR (r,())=some (r,()):=by
 unfold fR; dsimp only;rw[bW,cT,oT h,oT h2]; rfl
theorem W2 {n:Int}{l:List (List Int)}(h1:l.length<=1000)(h0:0<=n/\n<=12)(h2:∀ y∈l,(y.length:Int)=n):BW (n,[],l,(l.length:Int),0,())=some (NL l,()):=by
 refine bH (N:=2^64) (step:=uR) (λi=>(n,NL (l.take i),l,(l.length:Int),(i:Int),())) l.length (NL l,()) Z ?_ ?_
 ·intro i hi;have hr:=h2 _ (eV hi);have hc:=XM (l.take i);have hti:(l.take i).length<=1000:=by rw[List.length_take]; omega
  rw[aY8 hi];simp only[uR,aE,aK,pG,cT,aS,oN];rw[if_pos Z,if_pos Z,aBX Z,aD,bC i Z];cases hz:isZ (l.getD i [])with
  | true=>simp only[oC,if_true,List.append_nil]
  | false =>
   simp only[oD];have hn:n.toNat=(l.getD i []).length:=Z
   have e2:=GF (a:=List.replicate (l.getD i []).length 0) (b:=l.getD i []) (-1) (by rw[List.length_replicate]; omega) (by rw[List.length_replicate]; omega);rw[CG (aJV hz) Z,aD,if_pos Z,if_pos Z,if_pos Z,hn,e2,aD,a5X];simp only[List.length_cons,List.length_nil];rw[if_pos Z,if_pos Z]; rfl
 ·simp only[uR,aE,aS];rw[if_neg Z,List.take_length]
theorem aBI {n:Int} {l:List (List Int)} (h1:l.length<=1000) (h2:Rws 1000 l):mK (n,l,())=some (if ¬ W8 n l=0 then ([],W8 n l,()) else if 60<(pU [] l).length then ([],4,()) else (pU [] l,0,())):=by
 unfold mK; dsimp only;rw[P9 Z (λy hy=>oR (h2 y hy) Z),aD];simp only[bP,pG,aS]
 by_cases he:W8 n l=0
 ·obtain⟨g1,g2,g3⟩:=aCP he;have hfl:=XM l;have hsh:aQK (NL l):=⟨by omega,λy hy=>oR (aCX h2 y hy) Z⟩;rw[if_neg (not_not_intro he),if_neg (not_not_intro he),W2 h1 ⟨g1,g2⟩ (λy hy=>(g3 y hy).2),aD,aRE (λy hy=>oR (aCX h2 y hy) Z) (Nat.lt_of_le_of_lt hfl Z),aD,a8I (aR9 hsh),aD,a9M h2];simp only[aE,aS]
  by_cases h60:60<(pU [] l).length
  ·rw[if_pos h60,if_pos Z]
  ·rw[if_neg h60,if_neg Z]
 ·rw[if_pos he,if_pos he]
def aIF(n:Int) (l:List (List Int)):Int:=if ¬ W8 n l=0 then W8 n l else if 60<(pU [] l).length then 4 else 0
theorem YB {n:Int}{l:List (List Int)}(h1:l.length<=1000)(h2:Rws 1000 l):mK (n,l,())=some (if aIF n l=0 then (pU [] l,0,()) else ([],aIF n l,())):=by
 rw[aBI h1 h2];unfold aIF
 by_cases he:¬ W8 n l=0
 ·rw[if_pos he,if_pos he,if_neg he]
 ·rw[if_neg he,if_neg he]
  by_cases h60:60<(pU [] l).length
  ·rw[if_pos h60,if_pos h60]; rfl
  ·rw[if_neg h60,if_neg h60]; rfl
theorem wF(a b:List Int) (ha:a.length<=9223372036854775806):nW (a,b,())=some (decide (a=b),()):=by
 unfold nW; dsimp only;simp only[bP,pG,aS]
 by_cases hl:a.length=b.length
 ·rw[if_neg Z];have hloop:zQ (a,b,0,())=some ((((List.range a.length).find? λi=>decide (¬ a.getD i 0=b.getD i 0)).map λi:Nat=>.inl (false,())).getD (.inr ())):=by
   rw[<- xQ (λi=>¬ a.getD i 0=b.getD i 0) (λi:Nat=>Sum.inl (false,()))];refine qI (N:=2^64) (step:=tB) (λi=>(a,b,(i:Int),())) (λi=>if ¬ a.getD i 0=b.getD i 0 then some (.inl (false,())) else none) a.length (.inr ()) Z ?_ ?_
   ·intro i hi;simp only[tB,aE,bP,aK,aS,pG,oN];rw[if_pos Z,if_pos Z,if_pos Z,bC i Z]
    by_cases h:¬ a.getD i 0=b.getD i 0
    ·rw[if_pos h,if_pos h]
    ·rw[if_neg h,if_neg h]
   ·simp only[tB,aE,aS];rw[if_neg Z]
  have h61:=CB a b ha;rw[hloop,aD];cases hf:(List.range a.length).find? λi=>decide (¬ a.getD i 0=b.getD i 0)with
  | none =>
   have:a=b:=by
    apply List.ext_getElem hl;intro i g1 g2;have:=List.find?_eq_none.1 hf i (List.mem_range.2 g1);simp only[decide_eq_true_eq,Decidable.not_not]at this;rw[oQ,oQ,List.getElem?_eq_getElem g1,List.getElem?_eq_getElem g2]at this;exact this
   rw[oT this]; rfl
  | some j =>
   have h1:=List.find?_some hf;simp only[decide_eq_true_eq]at h1;rw[oF (λh=>h1 (by rw[h]))]; rfl
 ·rw[if_pos Z,oF (λh=>hl (by rw[h]))]
theorem ZV(a b:List (List Int)) (ha:a.length<=9223372036854775806) (hs:Rws 9223372036854775806 a):vE (a,b,())=some (decide (a=b),()):=by
 unfold vE; dsimp only;simp only[bP,pG,aS]
 by_cases hl:a.length=b.length
 ·rw[if_neg Z];have hloop:zV (a,b,0,())=some ((((List.range a.length).find? λi=>decide (¬ a.getD i []=b.getD i [])).map λi:Nat=>.inl (false,())).getD (.inr ())):=by
   rw[<- xQ (λi=>¬ a.getD i []=b.getD i []) (λi:Nat=>Sum.inl (false,()))];refine qI (N:=2^64) (step:=s8) (λi=>(a,b,(i:Int),())) (λi=>if ¬ a.getD i []=b.getD i [] then some (.inl (false,())) else none) a.length (.inr ()) Z ?_ ?_
   ·intro i hi;simp only[s8,aE,bP,aK,aS,pG,oN];rw[if_pos Z,if_pos Z,if_pos Z,wF _ _ (hs _ (eV hi)),aD,bC i Z,aS]
    by_cases h:a.getD i []=b.getD i []
    ·rw[if_pos h,if_neg (not_not_intro h)]
    ·rw[if_neg h,if_pos h]
   ·simp only[s8,aE,aS];rw[if_neg Z]
  rw[hloop,aD];cases hf:(List.range a.length).find? λi=>decide (¬ a.getD i []=b.getD i [])with
  | none =>
   have:a=b:=by
    apply List.ext_getElem hl;intro i g1 g2;have:=List.find?_eq_none.1 hf i (List.mem_range.2 g1);simp only[decide_eq_true_eq,Decidable.not_not]at this;rw[oQ,oQ,List.getElem?_eq_getElem g1,List.getElem?_eq_getElem g2]at this;exact this
   rw[oT this]; rfl
  | some j =>
   have h1:=List.find?_some hf;simp only[decide_eq_true_eq]at h1;rw[oF (λh=>h1 (by rw[h]))]; rfl
 ·rw[if_pos Z,oF (λh=>hl (by rw[h]))]
end Go.PM
namespace Go.PM
open Go Go.RowKit Go.Proofs Go.Lz
theorem bDM(p:Int×List (Int×Int×Int×Int)×Bool):BV (p,())=some (decide (p.2.1.length<=3),()):=by
 obtain⟨a,b,c⟩:=p;have:(!(ltI 3 (b.length:Int)))=decide (b.length<=3):=by
  rw[aE]
  by_cases h:b.length<=3
  ·rw[oT h,oF Z]; rfl
  ·rw[oF h,oT Z]; rfl
 simp only[BV,this]
theorem bBT {x:List Int}(h:rc x=0):x.length<=64/\∀ a∈x,a.natAbs<=1000000000:=by
 unfold rc at h;split at h
 ·cases h
 ·split at h
  next h1 h2=>
   refine⟨by omega,λa ha=>?_⟩;obtain⟨i,hi,rfl⟩:=List.getElem_of_mem ha;have:=h2 i hi;have e:x.getD i 0=x[i]:=by simp[List.getD,hi]
   rw[e]at this;have h3:=this.1;have h4:=this.2;omega
  ·cases h
theorem a8W {x:List Int}(h1:x.length<=64)(h2:∀ a∈x,a.natAbs<=1000000000):rc x=0:=by
 unfold rc;rw[if_neg Z,if_pos];intro i hi;have e:x.getD i 0=x[i]:=by simp[List.getD,hi]
 rw[e];have:=h2 _ (List.getElem_mem hi);constructor <;> omega
section
variable {ps:List Int} {n d r:Nat} {C K:Nat->V}
end
theorem wf_u8 {x}(h:(Lit.int .u8 x).wf=true):0<=x/\x<256:=by
 simp only[Lit.wf,oA,decide_eq_true_eq]at h;have h1:IntKind.u8.min=0:=by rfl
 have h2:IntKind.u8.max=255:=by rfl
 omega
theorem wf_i8 {x}(h:(Lit.int .i8 x).wf=true) : -128<=x/\x<128:=by
 simp only[Lit.wf,oA,decide_eq_true_eq]at h;have h1:IntKind.i8.min = -128:=by rfl
 have h2:IntKind.i8.max=127:=by rfl
 omega
theorem bGA {v:Int×Int×Int×Int}(h:WF (.prod (.int .i8) (.prod (.int .i8) (.prod (.int .i8) (.int .i8)))) v):I8 v:=λi hi=>by
 obtain⟨a1,a2,a3,a4⟩:=h;rcases(show i=0\/i=1\/i=2\/i=3 by omega)with rfl|rfl|rfl|rfl
 ·exact wf_i8 a1
 ·exact wf_i8 a2
 ·exact wf_i8 a3
 ·exact wf_i8 a4
end Go.PM
namespace Go.PM
open Go Go.RowKit Go.Proofs Tryz
set_option maxHeartbeats 4000000
def dP(x:aM [.list (.list (.int .i64))]):Option (List (List Int)):=match x with
 | (v0,()) =>
  bif Nat.blt 0 v0.length then bif Nat.ble v0.length 1048576 then some v0 else none else none
def rT:Code:=cQ f47
abbrev zR:Env:=DW []
theorem JH:eS Tryz.prog zR:=aR trivial
def yX(id:Nat):Option eE:=none
theorem ID:bB rT=[]:=Y
theorem JG:∀ x,aR4 Tryz.prog zR f47 (aP f47) yX rT [.list (.list (.int .i64))] 2 39 (.list (.int .i64)) x=dP x:=by
 rintro⟨v0,⟨⟩⟩
 kernel_rfl
theorem KX:aGM Tryz.prog 47 [.list (.list (.int .i64))] 39 (.list (.int .i64)) dP:=aL9 aZ JH func47 (c:=rT) Y (keep:=aP f47) (lt:=yX) (t:=2) Y (aQ ID trivial) JG
abbrev AM:Shr:=(47,aZI [.list (.list (.int .i64))] 39 (.list (.int .i64)) dP)
theorem JP:pV Tryz.prog AM:=aG1 KX
end Go.PM
namespace Go.PM
open Go Go.RowKit
section
variable {P:Program} {cl:Callee} {n0:Nat->Prop} {nt:Nat} {wi w:World} {Gi G:Gd} {μi μ:Mp} {F:Frm} {H:Heap} {a:Act}
theorem I.fresh (hW:aO n0 G μ H w) (hF:cZ w G μ nt F a):I n0 w G aG nt F H a w :=
 ⟨G,μ,⟨YV,rfl,rfl,rfl,oM _,λ_ _ _=>rfl,λ_ h=>.inl h⟩,hW,hF⟩
def kS(sl:List Nat) (ex:Ex) (F:Frm) (H:Heap):Option (Ex×List PV×Heap):=some (ex,sl.map (bM F),H)
theorem a1B F t:∀ sl:List Nat,bM (sl.zip (sl.map (bM F))) t=bM F t\/bM (sl.zip (sl.map (bM F))) t=.junk
 | []=>.inr rfl
 | s::sl=>by
  show bM ((s,bM F s)::sl.zip (sl.map (bM F))) t=bM F t\/bM ((s,bM F s)::sl.zip (sl.map (bM F))) t=.junk;rw[bT]
  by_cases hs:t=s
  ·grind
  ·rw[if_neg hs]; exact a1B F t sl
theorem cZ.l8 (h:cZ w G μ nt F a)(sl:List Nat):cZ w G μ nt (sl.zip (sl.map (bM F))) a:=⟨h.size,λt=>by
 rcases a1B F t sl with h1|h1
 ·rw[h1]; exact h.slot t
 ·rw[h1,VR]; simp,h.defers⟩
theorem Ext.a86 {w' G' μ'}(e:Ext n0 w G aG w' G' μ'):Ext n0 w G aG w' G' aG :=
 ⟨⟨e.good,λ_ _ h=>h,λ_ _ h=>h,e.room,e.row,λ_ _ _=>rfl⟩,e.os,e.tape,e.output,e.size,e.old,e.new⟩
theorem a27 {E:Env} {keep:Nat} (hcl:dA P (eY P E)) (hP:P.follows .mixedOrders=true) {c:Code} {sl:List Nat} {ex:Ex} {ps:List PV} {H':Heap} (hl:bB c=[]) (h:l4 P E nt keep (λ_=>none) c F H (kS sl)=some (ex,ps,H')) (hW:aO n0 G μ H w) (hF:cZ w G μ nt F a) :
  c.wp P (λe a' w'=>e=ex.to/\∃ G' μ',Ext n0 w G aG w' G' aG/\aO n0 G' μ' H' w'/\cZ w' G' μ' nt (sl.zip ps) a') a w:=by
 obtain⟨⟨ex1,F1,H1⟩,h1,h2⟩:=k8 hcl hP c _ _ _ _ (by rw[hl]; intro a ha; cases ha) h;simp only[kS,oJ,oP]at h1;obtain⟨rfl,rfl,rfl⟩:=h1;refine wp_mono (h2 n0 w G aG a w (λr=>⟨rfl,rfl⟩) (I.fresh hW hF)) ?_;rintro e a' w' ⟨rfl,G',μ',e',hW',hF'⟩;exact⟨rfl,G',μ',e'.a86,hW',hF'.l8 sl⟩
end
open Go Go.RowKit Go.Proofs Tryz
set_option maxHeartbeats 4000000
abbrev TmJ:Ty:=.prod (.list (.int .i64)) (.prod LN LN)
abbrev iJ(n:Int):PV:=.lit (.int .i64 n)
abbrev bJ(b:Bool):PV:=.lit (.bool b)
abbrev rJ(l:List Int):PV:=q9 (.int .i64) l none
abbrev lJ(l:List (List Int)):PV:=q9 mF l none
abbrev aPO:Type:=aM [.list mF,.bool]
abbrev KsJ:List Kd:=[.list mF,.ptr LN,.ptr LN,.ptr TmJ]
def aWU(g:FuncId):List PV->Option (List (List Int)×List (List Int)×TmJ.den×List PV)
 | [.clo (.func h) [] [p1,p2,p3,.iptr cs]]=>bif Nat.beq h g&&dV (.iptr cs) then match aLF [.ptr LN,.ptr LN,.ptr TmJ] [p1,p2,p3]with
  | some (c,cl,t,())=>some (c,cl,t,cs)
  | none=>none else none
 | _=>none
def aQA(rec:List (List Int)->Option aPO) (c cl:List (List Int)) (t:TmJ.den) (notes:List (List Int)) (x:List Int):Option (Option aPO) :=
 aC (dD (t,x,())) λy =>
  bif !(eqI y.2.1 0) then some none else
  bif aF (notes.length:Int) c.length then aC (BL (y.1,c.getD (notes.length:Int).toNat [],())) λb =>
  bif b.1 then aC (jX (cl,notes,x,())) λf =>
  bif f.1 then aC (dP (notes,())) λn=>aC (fR (x,())) λx2 =>
  bif Nat.ble n.length 1048576 then aC (rec (n++[x2.1])) λo=>bif o.2.1 then some (some (o.1,true,())) else some none
  else none else some none else some none else none
def aB1(one:List Int->Option (Option aPO)):List (List Int)->Option aPO
 | []=>some ([],false,())
 | x::l=>aC (one x) λr=>match r with
  | some z=>some z
  | none=>aB1 one l
def juF(g:FuncId):Nat->List (List Int)->List (List Int)->List (List Int)->TmJ.den->List PV->Option aPO
 | 0,notes,c,cl,t,cs=>bif eqI (notes.length:Int) (c.length:Int) then some (notes,true,()) else
  bif Nat.ble cl.length 1048576 then aB1 (aQA (λ_=>none) c cl t notes) cl else none
 | m+1,notes,c,cl,t,cs=>bif eqI (notes.length:Int) (c.length:Int) then some (notes,true,()) else
  bif Nat.ble cl.length 1048576 then aB1 (aQA (λn=>match aWU g cs with
   | some (c',cl',t',cs')=>juF g m n c' cl' t' cs'
   | none=>none) c cl t notes) cl else none
abbrev gJ:FuncId:=45
def cJ:Code:=cQ f45
abbrev ntJ:Nat:=f45.ntmps
abbrev kpJ:Nat:=aP f45
def qL:Code->Code
 | .seq x _=>x
 | c=>c
def qR:Code->Code
 | .seq _ y=>y
 | c=>c
def qB:Code->Code
 | .block _ c=>c
 | .loop c=>c
 | c=>c
def cJ0:Code:=qL cJ
def cJ1:Code:=qL (qR cJ)
def cJ2:Code:=qL (qR (qR cJ))
def cJ4:Code:=qL (qL (qR (qR (qR cJ))))
def cJb:Code:=qB (qB (qR (qL (qR (qR (qR cJ))))))
def bF8:Code:=qL (qR (qR (qR (qR cJ))))
def cJ5:Code:=qL cJb
def cJi:Code:=qB (qL (qR (qR cJb)))
def cJ6:Code:=qL cJi
def cJ7:Code:=qL (qR cJi)
def cJ8:Code:=qL (qR (qR cJi))
def cJ9:Code:=qR (qR (qR cJi))
def bDU:Code:=qR (qR (qR cJb))
theorem bE4:cJ=.seq cJ0 (.seq cJ1 (.seq cJ2 (.seq (.seq cJ4 (.block 0 (.loop cJb))) (.seq bF8 .ret)))):=by rfl
theorem a8E:cJb=.seq cJ5 (.seq (.cond (.tmp 25) .skip (.exit 0)) (.seq (.block 1 (.seq cJ6 (.seq cJ7 (.seq cJ8 cJ9)))) bDU)):=by rfl
def a1A:Env:=MT [MP,aFH,zF,wT] [AM]
theorem aWZ:eS Tryz.prog a1A:=mM ⟨GR,UZ,BO,tT,trivial⟩ ⟨JP,trivial⟩
def EJ(R:List PV->Option Res):Env:=⟨λh qs=>bif Nat.beq h gJ then R qs else a1A.pure h qs,a1A.shr,a1A.sh⟩
def RJ:Nat->List PV->Option Res
 | 0,_=>none
 | m+1,[q0,q1,q2,q3,.iptr cs]=>match aLF KsJ [q0,q1,q2,q3]with
  | some (n,c,cl,t,())=>some ⟨aPO,juF gJ m n c cl t cs,XH [.list mF,.bool]⟩
  | none=>none
 | _+1,_=>none
def kJ(sl:List Nat) (ex:Ex) (F:Frm) (_:Heap):Option (Ex×List PV):=some (ex,sl.map (bM F))
section
variable (R:List PV->Option Res) (notes c cl:List (List Int)) (t:TmJ.den) (cs:List PV) (x:List Int) (i:Int)
abbrev pJ:List PV:=[lJ notes,.iptr (enc LN c),.iptr (enc LN cl),.iptr (enc TmJ t),.iptr cs]
theorem bGY:l4 Tryz.prog (EJ R) ntJ kpJ (λ_=>none) cJ0 (start kpJ 0 (pJ notes c cl t cs)) [] (kJ [0,1,2,3,4])=some (.normal,pJ notes c cl t cs):=Y
abbrev FJ0:Frm:=[0,1,2,3,4].zip (pJ notes c cl t cs)
theorem bG1:l4 Tryz.prog (EJ R) ntJ kpJ (λ_=>none) cJ1 (FJ0 notes c cl t cs) [] (kJ [0,1,2,3,4,8])=some (.normal,pJ notes c cl t cs++[iJ notes.length]):=Y
abbrev FJ1:Frm:=[0,1,2,3,4,8].zip (pJ notes c cl t cs++[iJ notes.length])
theorem bG4:l4 Tryz.prog (EJ R) ntJ kpJ (λ_=>none) cJ2 (FJ1 notes c cl t cs) [] (kJ [0,1,2,3,4,8,6,7])=bif eqI (notes.length:Int) (c.length:Int) then some (.ret,pJ notes c cl t cs++[iJ notes.length,lJ notes,bJ true]) else some (.normal,pJ notes c cl t cs++[iJ notes.length,.junk,.junk]):=Y
theorem bHD:l4 Tryz.prog (EJ R) ntJ kpJ (λ_=>none) cJ4 (FJ1 notes c cl t cs) [] (kJ [0,1,2,3,4,8,22,23,24])=some (.normal,pJ notes c cl t cs++[iJ notes.length,lJ cl,iJ cl.length,iJ 0]):=Y
abbrev FJ4:Frm:=[0,1,2,3,4,8,22,23,24].zip (pJ notes c cl t cs++[iJ notes.length,lJ cl,iJ cl.length,iJ i])
theorem bFO:l4 Tryz.prog (EJ R) ntJ kpJ (λ_=>none) cJ5 (FJ4 notes c cl t cs i) [] (kJ [0,1,2,3,4,8,22,23,24,25])=some (.normal,pJ notes c cl t cs++[iJ notes.length,lJ cl,iJ cl.length,iJ i,bJ (ltI i cl.length)]):=Y
theorem bG5:l4 Tryz.prog (EJ R) ntJ kpJ (λ_=>none) cJ6 (FJ4 notes c cl t cs i) [] (kJ [0,1,2,3,4,8,22,23,24,10])=bif aF i cl.length then some (.normal,pJ notes c cl t cs++[iJ notes.length,lJ cl,iJ cl.length,iJ i,rJ (cl.getD i.toNat [])]) else none:=Y
abbrev FJ6:Frm:=[0,1,2,3,4,8,22,23,24,10].zip (pJ notes c cl t cs++[iJ notes.length,lJ cl,iJ cl.length,iJ i,rJ x])
theorem bGU:l4 Tryz.prog (EJ R) ntJ kpJ (λ_=>none) cJ7 (FJ6 notes c cl t cs x i) [] (kJ [0,1,2,3,4,8,22,23,24,10,11,12])=aC (dD (t,x,())) λy=>some (.normal,pJ notes c cl t cs++[iJ notes.length,lJ cl,iJ cl.length,iJ i,rJ x,rJ y.1,iJ y.2.1]):=Y
abbrev FJ7(y:List Int)(e:Int):Frm:=[0,1,2,3,4,8,22,23,24,10,11,12].zip (pJ notes c cl t cs++[iJ notes.length,lJ cl,iJ cl.length,iJ i,rJ x,rJ y,iJ e])
theorem bHF(y:List Int)(e:Int):l4 Tryz.prog (EJ R) ntJ kpJ (λ_=>none) cJ8 (FJ7 notes c cl t cs x i y e) [] (kJ [0,1,2,3,4,8,22,23,24,10]) =
  bif !(eqI e 0) then some (.exit 1,pJ notes c cl t cs++[iJ notes.length,lJ cl,iJ cl.length,iJ i,rJ x]) else
  bif aF (notes.length:Int) c.length then aC (BL (y,c.getD (notes.length:Int).toNat [],())) λb =>
  bif b.1 then aC (jX (cl,notes,x,())) λf =>
  bif f.1 then some (.normal,pJ notes c cl t cs++[iJ notes.length,lJ cl,iJ cl.length,iJ i,rJ x]) else some (.exit 1,pJ notes c cl t cs++[iJ notes.length,lJ cl,iJ cl.length,iJ i,rJ x])
  else some (.exit 1,pJ notes c cl t cs++[iJ notes.length,lJ cl,iJ cl.length,iJ i,rJ x]) else none:=Y
abbrev aUO(c' cl':List (List Int))(t':TmJ.den)(cs':List PV):List PV:=[.clo (.func gJ) [] [.iptr (enc LN c'),.iptr (enc LN cl'),.iptr (enc TmJ t'),.iptr cs']]
theorem bFX:l4 Tryz.prog (EJ R) ntJ kpJ (λ_=>none) bDU (FJ4 notes c cl t cs i) [] (kJ [0,1,2,3,4,8,22,23,24])=some (.normal,pJ notes c cl t cs++[iJ notes.length,lJ cl,iJ cl.length,iJ (aB .i64 (i+1))]):=Y
theorem bFU:l4 Tryz.prog (EJ R) ntJ kpJ (λ_=>none) bF8 [] [] (kJ [6,7])=some (.normal,[.lit (.slice none 0 0),bJ false]):=Y
end
theorem bHG:∀ (notes c cl:List (List Int)) (t:TmJ.den) (x:List Int) (i:Int) (m:Nat) (c' cl':List (List Int)) (t':TmJ.den) (cs':List PV),l4 Tryz.prog (EJ (RJ (m+1))) ntJ kpJ (λ_=>none) cJ9 (FJ6 notes c cl t (aUO c' cl' t' cs') x i) [] (kJ [0,1,2,3,4,8,22,23,24,6,7]) =
  aC (dP (notes,())) λn=>aC (fR (x,())) λx2 =>
  bif Nat.ble n.length 1048576 then bif dV (.iptr cs')&&true then aC (juF gJ m (n++[x2.1]) c' cl' t' cs') λo =>
   bif o.2.1 then some (.ret,pJ notes c cl t (aUO c' cl' t' cs')++[iJ notes.length,lJ cl,iJ cl.length,iJ i,lJ o.1,bJ true])
   else some (.normal,pJ notes c cl t (aUO c' cl' t' cs')++[iJ notes.length,lJ cl,iJ cl.length,iJ i,.junk,.junk]) else none else none:=by
 intro notes c cl t x i m c' cl' t' cs'
 kernel_rfl
end Go.PM
namespace Go.PM
open Go Go.RowKit Go.Proofs Tryz
set_option maxHeartbeats 4000000
section
variable {n0:Nat->Prop} {w0 w:World} {G0 G:Gd} {μ:Mp} {H:Heap} {F:Frm} {a:Act} {nt kp:Nat}
theorem aO.forget (hW:aO n0 G μ H w):aO n0 G aG [] w :=
 ⟨λr k b h=>by simp at h,λr k g h=>by simp at h,λr s k l b h=>by simp at h,hW.lt,λ_ _=>⟨rfl,rfl⟩,hW.base,hW.rows.rel (λ_ _=>False) (λ_ _ _ h=>h.elim) (λr k' hr=>by simp at hr)⟩
def nrj:PV->Bool
 | .junk=>true
 | p=>dR p
theorem a9B {p v}(h:nrj p=true)(hv:VR w G μ p v):VR w G aG p v:=by
 unfold nrj at h;split at h
 ·rw[VR]; trivial
 ·exact nC _ _ h hv
theorem aTM:∀ (sl:List Nat) (ps:List PV),ps.all nrj=true->∀ t,nrj (bM (sl.zip ps) t)=true
 | [],ps,_,t=>rfl
 | s::sl,[],_,t=>rfl
 | s::sl,p::ps,h,t=>by
  simp only[List.all_cons,oA]at h;show nrj (bM ((s,p)::sl.zip ps) t)=true;rw[bT];split
  ·exact h.1
  ·exact aTM sl ps h.2 t
def SJ(nt:Nat) (n0:Nat->Prop) (w0:World) (G0:Gd) (F:Frm) (a:Act) (w:World):Prop :=
 ∃ G,Ext n0 w0 G0 aG w G aG/\aO n0 G aG [] w/\cZ w G aG nt F a
theorem SJ.piece {E:Env}(hE:eS Tryz.prog E){c:Code}{sl:List Nat}{ex:Ex}{ps:List PV}(hl:bB c=[])(h:l4 Tryz.prog E nt kp (λ_=>none) c F [] (kJ sl)=some (ex,ps))(hn:ps.all nrj=true)(hS:SJ nt n0 w0 G0 F a w):c.wp Tryz.prog (λe a' w'=>e=ex.to/\SJ nt n0 w0 G0 (sl.zip ps) a' w') a w:=by
 obtain⟨G,e0,hW,hF⟩:=hS;obtain⟨⟨ex1,F1,H1⟩,h1,h2⟩:=k8 hE.callee aZ.mixed c _ _ _ _ (by rw[hl]; intro a ha; cases ha) h;simp only[kJ,oJ,oP]at h1;obtain⟨rfl,rfl⟩:=h1;refine wp_mono (h2 n0 w G aG a w (λr=>⟨rfl,rfl⟩) (I.fresh hW hF)) ?_;rintro e a' w' ⟨rfl,G',μ',e',hW',hF'⟩;have hF2:=hF'.l8 sl;exact⟨rfl,G',e0.trans e'.a86,hW'.forget,⟨hF2.size,λt=>a9B (aTM _ _ hn t) (hF2.slot t),hF2.defers⟩⟩
theorem SJ.l8 (h:SJ nt n0 w0 G0 F a w)(sl:List Nat):SJ nt n0 w0 G0 (sl.zip (sl.map (bM F))) a w:=by
 obtain⟨G,E,hW,hF⟩:=h;exact⟨G,E,hW,hF.l8 sl⟩
theorem SJ.lit {t v}(h:SJ nt n0 w0 G0 F a w)(hf:bM F t=.lit v):a.eval (.tmp t)=v:=by
 obtain⟨G,E,hW,hF⟩:=h;have:=cC hF (.tmp t);rw[show ev F (.tmp t)=.lit v from hf,VR]at this;exact this
theorem bAQ {cs c cl t cs' v}(h:aWU gJ cs=some (c,cl,t,cs'))(hv:VR w G aG (.iptr cs) v):VR w G aG (.iptr (aUO c cl t cs')) v:=by
 unfold aWU at h;split at h
 next hh p1 p2 p3 cs1=>
  obtain⟨hb,h⟩:=aJ h;simp only[oA]at hb;split at h
  next c1 cl1 t1 hd=>
   simp only[oJ,oP]at h;obtain⟨rfl,rfl,rfl,rfl⟩:=h;obtain rfl:=oE hb.1;rw[VR]at hv ⊢;obtain⟨b,off,rfl,hg,hc⟩:=hv;refine⟨b,off,rfl,hg,?_⟩;rw[aL]at hc ⊢;obtain⟨⟨u,hu,hclo⟩,hn⟩:=hc;refine⟨⟨u,hu,?_⟩,hn⟩;rw[VR]at hclo ⊢;obtain⟨fs,vs,rfl,hfs,hvs⟩:=hclo;refine⟨fs,vs,rfl,hfs,?_⟩;rw[VRs]at hvs; obtain⟨v1,r1,e1,q1,hvs⟩:=hvs;rw[VRs]at hvs; obtain⟨v2,r2,rfl,q2,hvs⟩:=hvs;rw[VRs]at hvs; obtain⟨v3,r3,rfl,q3,hvs⟩:=hvs
   have h3:=EF [.ptr LN,.ptr LN,.ptr TmJ] hd (vs:=[v1,v2,v3]) (by
    rw[VRs]; refine⟨v1,_,rfl,q1,?_⟩;rw[VRs]; refine⟨v2,_,rfl,q2,?_⟩;rw[VRs]; refine⟨v3,_,rfl,q3,?_⟩;rw[VRs])
   change VRs w G aG [.iptr (enc LN c1),.iptr (enc LN cl1),.iptr (enc TmJ t1)] [v1,v2,v3]at h3;rw[VRs]at h3; obtain⟨u1,s1,f1,z1,h3⟩:=h3;rw[VRs]at h3; obtain⟨u2,s2,rfl,z2,h3⟩:=h3;rw[VRs]at h3; obtain⟨u3,s3,rfl,z3,h3⟩:=h3;simp only[List.cons.injEq]at f1;obtain⟨rfl,rfl,rfl,_⟩:=f1;rw[VRs]; refine⟨v1,_,e1,z1,?_⟩;rw[VRs]; refine⟨v2,_,rfl,z2,?_⟩;rw[VRs]; exact⟨v3,_,rfl,z3,hvs⟩
  ·cases h
 ·cases h
end
theorem a7N {cs c cl t cs'}(h:aWU gJ cs=some (c,cl,t,cs')):dV (.iptr cs')=true:=by
 unfold aWU at h;split at h
 ·obtain⟨hb,h⟩:=aJ h;simp only[oA]at hb;split at h
  ·simp only[oJ,oP]at h;obtain⟨rfl,rfl,rfl,rfl⟩:=h;exact hb.2
  ·cases h
 ·cases h
theorem a7I {R:List PV->Option Res}(hR:∀ qs r,R qs=some r->∀ y,r.val=some y->o3 Tryz.prog gJ qs (r.out y)):eS Tryz.prog (EJ R) where
 pure:=λh qs r hr y hy=>by
  unfold EJ at hr; dsimp only at hr;cases hb:Nat.beq h gJ with
  | true=>rw[hb,oC]at hr; obtain rfl:=oE hb; exact hR qs r hr y hy
  | false=>rw[hb,oD]at hr; exact aWZ.pure h qs r hr y hy
 shr:=aWZ.shr
theorem bFR:f45.body=some cJ:=Y
theorem bGW(p q:PV):o9 Tryz.prog ([6,7].zip [p,q]) [] f45.results.toList=some [p,q]:=Y
theorem aZG {w:World}{G:Nat->Prop}{p q:PV}{y:aPO}(hd:aLD [.list mF,.bool] (.tuple [p,q])=some y){a' w'}(hS:SJ ntJ (uF w) w (Gd.of G) ([6,7].zip [p,q]) a' w') :
  a'.defers=[]/\∃ v,(results f45 a'.tmps).run Tryz.prog w'=.ok v w'/\∃ v' G',Ending.returned v=.returned v'/\Ext (uF w) w (Gd.of G) aG w' (Gd.of G') aG/\(∀ b,G' b->b<w'.heap.size)/\VR w' (Gd.of G') aG (XH [.list mF,.bool] y) v':=by
 obtain⟨G1,E,hW1,hF1⟩:=hS;obtain⟨ws,h3,h4⟩:=lK (P:=Tryz.prog) hW1 hF1 (bGW p q);have hres:(results f45 a'.tmps).run Tryz.prog w'=.ok (if hh:ws.toArray.size=1 then ws.toArray[0] else .tuple ws.toArray) w':=by
  rw[wA,Array.mapM_eq_mapM_toList];simp only[Sem.run_bind,Sem.run_map,h3,Result.andThen_ok,Sem.run_pure]
 have hvr:=T4 hd (mT h4);refine⟨hF1.defers,_,hres,_,G1.ok,rfl,?_,hW1.lt,EX (G:=G1) (G':=Gd.of G1.ok) (λb h=>h) _ _ _ rfl hvr⟩;exact {
  good:=λc hc=>⟨(E.good c hc).1,(E.good c hc).2⟩
  map:=λ_ _ h=>h
  len:=λ_ _ h=>h
  sh:=λ_ _ h=>(by cases h)
  room:=E.room
  row:=λ_ _ h=>h
  os:=E.os
  tape:=E.tape
  output:=E.output
  size:=E.size
  old:=E.old
  new:=E.new }
theorem bDG(m:Nat)(IH:∀ m',m=m'+1->∀ notes c cl t cs y,juF gJ m' notes c cl t cs=some y->o3 Tryz.prog gJ (pJ notes c cl t cs) (XH [.list mF,.bool] y)):∀ qs r,RJ m qs=some r->∀ z,r.val=some z->o3 Tryz.prog gJ qs (r.out z):=by
 intro qs r hr z hz;unfold RJ at hr;split at hr
 ·cases hr
 next m' q0 q1 q2 q3 cs1=>
  split at hr
  next n1 c1 cl1 t1 hd=>
   obtain rfl:=oB hr;intro w G vs hlt hv;refine IH m' rfl n1 c1 cl1 t1 cs1 z hz w G vs hlt ?_;rw[VRs]at hv; obtain⟨v0,r0,e0,p0,hv⟩:=hv;rw[VRs]at hv; obtain⟨v1,r1,rfl,p1,hv⟩:=hv;rw[VRs]at hv; obtain⟨v2,r2,rfl,p2,hv⟩:=hv;rw[VRs]at hv; obtain⟨v3,r3,rfl,p3,hv⟩:=hv;have h3:=EF KsJ hd (vs:=[v0,v1,v2,v3]) (by
    rw[VRs]; refine⟨v0,_,rfl,p0,?_⟩;rw[VRs]; refine⟨v1,_,rfl,p1,?_⟩;rw[VRs]; refine⟨v2,_,rfl,p2,?_⟩;rw[VRs]; refine⟨v3,_,rfl,p3,?_⟩;rw[VRs])
   change VRs w (Gd.of G) aG [lJ n1,.iptr (enc LN c1),.iptr (enc LN cl1),.iptr (enc TmJ t1)] [v0,v1,v2,v3]at h3;rw[e0];exact VRs.append (ps:=[lJ n1,.iptr (enc LN c1),.iptr (enc LN cl1),.iptr (enc TmJ t1)]) h3 hv
  ·cases hr
 ·cases hr
theorem a06(m:Nat)(IH:∀ m',m=m'+1->∀ notes c cl t cs y,juF gJ m' notes c cl t cs=some y->o3 Tryz.prog gJ (pJ notes c cl t cs) (XH [.list mF,.bool] y)) :
  ∀ notes c cl t cs y,juF gJ m notes c cl t cs=some y->o3 Tryz.prog gJ (pJ notes c cl t cs) (XH [.list mF,.bool] y):=by
 intro notes c cl t cs y hy;have hE:=a7I (bDG m IH);obtain⟨rec,cs0,hcs,hrec,hj⟩:∃ (rec:List (List Int)->Option aPO) (cs0:List PV),(∀ (w:World) (G:Gd) v,VR w G aG (.iptr cs) v->VR w G aG (.iptr cs0) v) /\
   (∀ n o,rec n=some o->∃ m' c' cl' t' cs',m=m'+1/\cs0=aUO c' cl' t' cs'/\dV (.iptr cs')=true/\juF gJ m' n c' cl' t' cs'=some o) /\
   (bif eqI (notes.length:Int) (c.length:Int) then some (notes,true,()) else bif Nat.ble cl.length 1048576 then aB1 (aQA rec c cl t notes) cl else none)=some y:=by
  cases m with
  | zero=>exact⟨λ_=>none,cs,λ_ _ _ h=>h,λn o h=>(by cases h),hy⟩
  | succ m' =>
   cases hd:aWU gJ cs with
   | none =>
    refine⟨λ_=>none,cs,λ_ _ _ h=>h,λn o h=>(by cases h),?_⟩;unfold juF at hy;rw[hd]at hy;exact hy
   | some z =>
    obtain⟨c',cl',t',cs'⟩:=z;refine⟨λn=>juF gJ m' n c' cl' t' cs',aUO c' cl' t' cs',λw G v h=>bAQ hd h,λn o h=>⟨m',c',cl',t',cs',rfl,rfl,a7N hd,h⟩,?_⟩;unfold juF at hy;rw[hd]at hy;exact hy
 intro w G vs hlt hv;have hv:VRs w (Gd.of G) aG (pJ notes c cl t cs0) vs.toList:=by
  unfold pJ at hv ⊢;rw[VRs]at hv; obtain⟨v0,r0,e0,p0,hv⟩:=hv;rw[VRs]at hv; obtain⟨v1,r1,rfl,p1,hv⟩:=hv;rw[VRs]at hv; obtain⟨v2,r2,rfl,p2,hv⟩:=hv;rw[VRs]at hv; obtain⟨v3,r3,rfl,p3,hv⟩:=hv;rw[VRs]at hv; obtain⟨v4,r4,rfl,p4,hv⟩:=hv;rw[VRs]; refine⟨v0,_,e0,p0,?_⟩;rw[VRs]; refine⟨v1,_,rfl,p1,?_⟩;rw[VRs]; refine⟨v2,_,rfl,p2,?_⟩;rw[VRs]; refine⟨v3,_,rfl,p3,?_⟩;rw[VRs]; exact⟨v4,_,rfl,hcs _ _ _ p4,hv⟩
 refine⟨enters func45 Y Y _ _,calls_of_wp func45 bFR ?_⟩;have hW0:aO (uF w) (Gd.of G) aG [] w:=⟨λr k b h=>by simp at h,λr k g h=>by simp at h,λr s k l b h=>by simp at h,hlt,λ_ _=>⟨rfl,rfl⟩,λ_ h=>h,rQ.none _ _ (λ_=>rfl) _ _ (λr k h=>by simp at h)⟩;have hF0:cZ w (Gd.of G) aG ntJ (start kpJ 0 (pJ notes c cl t cs0)) ⟨vs++Array.replicate (ntJ-vs.size) undef,[]⟩:=mE hv (by show 5<=ntJ; exact oL Y)
 suffices h:cJ.wp Tryz.prog (λe a' w'=>e=.ret/\∃ p q,aLD [.list mF,.bool] (.tuple [p,q])=some y/\SJ ntJ (uF w) w (Gd.of G) ([6,7].zip [p,q]) a' w') ⟨vs++Array.replicate (ntJ-vs.size) undef,[]⟩ w by
  refine wp_mono h ?_;rintro e a' w' ⟨rfl,p,q,hd,hS⟩;exact aZG hd hS
 have hS0:SJ ntJ (uF w) w (Gd.of G) (start kpJ 0 (pJ notes c cl t cs0)) ⟨vs++Array.replicate (ntJ-vs.size) undef,[]⟩ w:=⟨Gd.of G,Ext.refl _ _ _ _,hW0,hF0⟩;rw[bE4];refine wp_seq (wp_mono (hS0.piece hE Y (bGY _ _ _ _ _ _) rfl) ?_);rintro e1 a1 w1 ⟨rfl,hS1⟩;refine wp_seq (wp_mono (hS1.piece hE Y (bG1 _ _ _ _ _ _) rfl) ?_);rintro e2 a2 w2 ⟨rfl,hS2⟩;have h2:=bG4 (RJ m) notes c cl t cs0
 cases hc:eqI (notes.length:Int) (c.length:Int)with
 | true =>
  rw[hc,oC]at h2 hj;obtain rfl:=oB hj;refine wp_seq (wp_mono (hS2.piece hE Y h2 rfl) ?_);rintro e3 a3 w3 ⟨rfl,hS3⟩;exact⟨rfl,lJ notes,bJ true,by kernel_rfl,hS3.l8 [6,7]⟩
 | false =>
  rw[hc,oD]at h2 hj;obtain⟨hlen,hj⟩:=aJ hj;have hlen:=oL hlen;refine wp_seq (wp_mono (hS2.piece hE Y h2 rfl) ?_);rintro e3 a3 w3 ⟨rfl,hS3⟩;refine wp_seq (wp_seq (wp_mono ((hS3.l8 [0,1,2,3,4,8]).piece hE Y (bHD _ _ _ _ _ _) rfl) ?_));rintro e4 a4 w4 ⟨rfl,hS4⟩;refine wp_block (wp_loop_ghost (λk a w'=>∃ (rest:List (List Int)) (i:Nat),k=rest.length/\aB1 (aQA rec c cl t notes) rest=some y/\cl.drop i=rest/\i<=cl.length/\SJ ntJ (uF w) w (Gd.of G) (FJ4 notes c cl t cs0 i) a w') cl.length ⟨cl,0,rfl,hj,rfl,Nat.zero_le _,hS4⟩ ?_)
  rintro k a5 w5 ⟨rest,i,rfl,ht,hd,hi,hS5⟩;cases rest with
  | nil =>
   have hge:cl.length<=i:=List.drop_eq_nil_iff.1 hd;obtain rfl:=oB ht;have hlt2:ltI (i:Int) (cl.length:Int)=false:=by rw[aE]; exact oF Z
   rw[a8E];refine wp_seq (wp_mono (hS5.piece hE Y (bFO _ _ _ _ _ _ _) rfl) ?_);rintro e6 a6 w6 ⟨rfl,hS6⟩;refine wp_seq (wp_cond_false ?_ (wp_exit ?_))
   ·have:=hS6.lit (t:=25) (v:=.bool (ltI (i:Int) (cl.length:Int))) rfl;rw[hlt2]at this; exact this
   ·refine wp_seq (wp_mono ((hS6.l8 []).piece hE Y (bFU _) rfl) ?_);rintro e7 a7 w7 ⟨rfl,hS7⟩;exact wp_ret ⟨rfl,_,_,by kernel_rfl,hS7⟩
  | cons x rest =>
   have hlt2:i<cl.length:=by
    rcases oG i cl.length with h|h
    ·exact h
    ·rw[List.drop_eq_nil_of_le h]at hd; cases hd
   have hdr:=List.drop_eq_getElem_cons hlt2;rw[hd]at hdr;obtain⟨rfl,hd2⟩:=List.cons.inj hdr;have hltI:ltI (i:Int) (cl.length:Int)=true:=by rw[aE]; exact oT Z
   have hix:aF (i:Int) cl.length=true:=by rw[aK]; exact oT Z
   have hgx:cl.getD (i:Int).toNat []=cl[i]:=by rw[oN,oQ,List.getElem?_eq_getElem hlt2]; rfl
   simp only[aB1]at ht;obtain⟨r,hr,ht⟩:=mR ht;unfold aQA at hr;obtain⟨y1,hy1,hr⟩:=mR hr;rw[a8E];refine wp_seq (wp_mono (hS5.piece hE Y (bFO _ _ _ _ _ _ _) rfl) ?_);rintro e6 a6 w6 ⟨rfl,hS6⟩;refine wp_seq (wp_cond_true ?_ (wp_skip ?_))
   ·have:=hS6.lit (t:=25) (v:=.bool (ltI (i:Int) (cl.length:Int))) rfl;rw[hltI]at this; exact this
   have h6:=bG5 (RJ m) notes c cl t cs0 i;rw[hix,oC,hgx]at h6;have h7:=bGU (RJ m) notes c cl t cs0 cl[i] i;rw[hy1,aD]at h7;have h8:=bHF (RJ m) notes c cl t cs0 cl[i] i y1.1 y1.2.1
   -- the end of the round
   have next:∀ {Q:Exit->Act->World->Prop} a' w',aB1 (aQA rec c cl t notes) rest=some y->SJ ntJ (uF w) w (Gd.of G) (FJ4 notes c cl t cs0 i) a' w'->(∀ a'' w'',SJ ntJ (uF w) w (Gd.of G) (FJ4 notes c cl t cs0 ((i+1:Nat):Int)) a'' w''->Q .normal a'' w'')->bDU.wp Tryz.prog Q a' w':=by
    intro Q a' w' hs hS hQ;have h12:=bFX (RJ m) notes c cl t cs0 i;rw[wrap64 Z Z]at h12;refine wp_mono (hS.piece hE Y h12 rfl) ?_;rintro e a'' w'' ⟨rfl,hS'⟩;exact hQ a'' w'' hS'
   refine wp_seq (wp_block (wp_seq (wp_mono ((hS6.l8 [0,1,2,3,4,8,22,23,24]).piece hE Y h6 rfl) ?_)));rintro e7 a7 w7 ⟨rfl,hS7⟩;refine wp_seq (wp_mono (hS7.piece hE Y h7 rfl) ?_);rintro e8 a8 w8 ⟨rfl,hS8⟩;cases he:eqI y1.2.1 0 with
   | false =>
    rw[he]at hr h8;simp only[Bool.not_false,oC]at hr h8;obtain rfl:=oB hr;refine wp_seq (wp_mono (hS8.piece hE Y h8 rfl) ?_);rintro e9 a9 w9 ⟨rfl,hS9⟩;exact next a9 w9 ht (hS9.l8 [0,1,2,3,4,8,22,23,24]) λa'' w'' hS'=>⟨rest.length,by simp,rest,i+1,rfl,ht,hd2.symm,hlt2,hS'⟩
   | true =>
    rw[he]at hr h8;simp only[Bool.not_true,oD]at hr h8;obtain⟨hk,hr⟩:=aJ hr;obtain⟨b1,hb1,hr⟩:=mR hr;rw[hk,oC,hb1,aD]at h8;cases hbb:b1.1 with
    | false =>
     rw[hbb,oD]at hr h8;obtain rfl:=oB hr;refine wp_seq (wp_mono (hS8.piece hE Y h8 rfl) ?_);rintro e9 a9 w9 ⟨rfl,hS9⟩;exact next a9 w9 ht (hS9.l8 [0,1,2,3,4,8,22,23,24]) λa'' w'' hS'=>⟨rest.length,by simp,rest,i+1,rfl,ht,hd2.symm,hlt2,hS'⟩
    | true =>
     rw[hbb,oC]at hr h8;obtain⟨f1,hf1,hr⟩:=mR hr;rw[hf1,aD]at h8;cases hff:f1.1 with
     | false =>
      rw[hff,oD]at hr h8;obtain rfl:=oB hr;refine wp_seq (wp_mono (hS8.piece hE Y h8 rfl) ?_);rintro e9 a9 w9 ⟨rfl,hS9⟩;exact next a9 w9 ht (hS9.l8 [0,1,2,3,4,8,22,23,24]) λa'' w'' hS'=>⟨rest.length,by simp,rest,i+1,rfl,ht,hd2.symm,hlt2,hS'⟩
     | true =>
      rw[hff,oC]at hr h8;obtain⟨n1,hn1,hr⟩:=mR hr;obtain⟨x2,hx2,hr⟩:=mR hr;obtain⟨hl1,hr⟩:=aJ hr;obtain⟨o,ho,hr⟩:=mR hr;obtain⟨m',c',cl',t',cs',rfl,rfl,hnr,hju⟩:=hrec _ _ ho;have h9:=bHG notes c cl t cl[i] i m' c' cl' t' cs';rw[hn1,aD,hx2,aD,hl1,oC,hnr,Bool.and_true,oC,hju,aD]at h9;refine wp_seq (wp_mono (hS8.piece hE Y h8 rfl) ?_);rintro e9 a9 w9 ⟨rfl,hS9⟩;cases hoo:o.2.1 with
      | true =>
       rw[hoo,oC]at hr h9;obtain rfl:=oB hr;obtain rfl:=oB ht;refine wp_mono (hS9.piece hE Y h9 rfl) ?_;rintro e10 a10 w10 ⟨rfl,hS10⟩;exact⟨rfl,lJ o.1,bJ true,by kernel_rfl,hS10.l8 [6,7]⟩
      | false =>
       rw[hoo,oD]at hr h9;obtain rfl:=oB hr;refine wp_mono (hS9.piece hE Y h9 rfl) ?_;rintro e10 a10 w10 ⟨rfl,hS10⟩;exact next a10 w10 ht (hS10.l8 [0,1,2,3,4,8,22,23,24]) λa'' w'' hS'=>⟨rest.length,by simp,rest,i+1,rfl,ht,hd2.symm,hlt2,hS'⟩
theorem bC7:∀ m notes c cl t cs y,juF gJ m notes c cl t cs=some y->o3 Tryz.prog gJ (pJ notes c cl t cs) (XH [.list mF,.bool] y)
 | 0=>a06 0 (λm' h=>by cases h)
 | m+1=>a06 (m+1) (λm' h=>by cases h; exact bC7 m)
end Go.PM
namespace Go.PM
open Go Go.RowKit Go.Proofs Tryz
set_option maxHeartbeats 4000000
def cK:Code:=cQ f18
abbrev ntK:Nat:=f18.ntmps
abbrev kpK:Nat:=aP f18
def cK0:Code:=qL cK
def cK1:Code:=qL (qR cK)
def cK4:Code:=qL (qR (qR cK))
def cK5:Code:=qL (qR (qR (qR cK)))
def cK7:Code:=qL (qR (qR (qR (qR cK))))
def bFN:Code:=qL (qR (qR (qR (qR (qR cK)))))
def bEY:Code:=qL (qR (qR (qR (qR (qR (qR cK))))))
def bFH:Code:=qL (qR (qR (qR (qR (qR (qR (qR cK)))))))
def bFY:Code:=qL (qR (qR (qR (qR (qR (qR (qR (qR cK))))))))
theorem bF2:cK=.seq cK0 (.seq cK1 (.seq cK4 (.seq cK5 (.seq cK7 (.seq bFN (.seq bEY (.seq bFH (.seq bFY .ret)))))))):=by rfl
def EK:Env:=DW [UK,DJ,SU]
theorem aEH:eS Tryz.prog EK:=aR ⟨aBB,EA,LI,trivial⟩
def OX(c cl:List (List Int)) (t:TmJ.den):Nat->List PV
 | 0=>[]
 | n+1=>aUO c cl t (OX c cl t n)
abbrev bkT(t:TmJ.den):Blk:=⟨enc TmJ t,33,false,false,none⟩
abbrev bkC(c:List (List Int)):Blk:=⟨[lJ c],50,false,false,none⟩
abbrev bkL(cl:List (List Int)):Blk:=⟨[lJ cl],25,false,false,none⟩
abbrev tyF:Nat:=88
abbrev bkA:Blk:=⟨[.clo (.func gJ) [] [.hptr 1 0,.hptr 2 0,.hptr 0 0,.hptr 3 0]],tyF,false,false,none⟩
section
variable (t:TmJ.den) (l c cl:List (List Int)) (e:Int)
theorem bHC:l4 Tryz.prog EK ntK kpK (λ_=>none) cK0 (start kpK 0 [.agg (enc TmJ t),lJ l,lJ c]) [] (kS [1,3,5])=some (.normal,[lJ l,.hptr 0 0,.hptr 1 0],[some (bkT t),some (bkC c)]):=Y
theorem bHB:l4 Tryz.prog EK ntK kpK (λ_=>none) cK1 ([1,3,5].zip [lJ l,.hptr 0 0,.hptr 1 0]) [some (bkT t),some (bkC c)] (kS [1,3,5,6,7,8])=aC (rO (t,())) λy =>
  bif !(eqI y.1 0) then some (.ret,[lJ l,.hptr 0 0,.hptr 1 0,.lit (.slice none 0 0),bJ false,iJ y.1],[some (bkT t),some (bkC c)]) else some (.normal,[lJ l,.hptr 0 0,.hptr 1 0,.junk,.junk,.junk],[some (bkT t),some (bkC c)]):=Y
theorem bG3:l4 Tryz.prog EK ntK kpK (λ_=>none) cK4 ([1,3,5].zip [lJ l,.hptr 0 0,.hptr 1 0]) [some (bkT t),some (bkC c)] (kS [3,5,10,8])=aC (mK ((t.1.length:Int),l,())) λy =>
  some (.normal,[.hptr 0 0,.hptr 1 0,.hptr 2 0,iJ y.2.1],[some (bkT t),some (bkC c),some (bkL y.1)]):=Y
abbrev HK:Heap:=[some (bkT t),some (bkC c),some (bkL cl)]
theorem bG2:l4 Tryz.prog EK ntK kpK (λ_=>none) cK5 ([3,5,10,8].zip [.hptr 0 0,.hptr 1 0,.hptr 2 0,iJ e]) (HK t c cl) (kS [3,5,10,6,7,8]) =
  bif !(eqI e 0) then some (.ret,[.hptr 0 0,.hptr 1 0,.hptr 2 0,.lit (.slice none 0 0),bJ false,iJ e],HK t c cl) else some (.normal,[.hptr 0 0,.hptr 1 0,.hptr 2 0,.junk,.junk,iJ e],HK t c cl):=Y
theorem bG7:l4 Tryz.prog EK ntK kpK (λ_=>none) cK7 ([3,5,10].zip [.hptr 0 0,.hptr 1 0,.hptr 2 0]) (HK t c cl) (kS [3,5,10,6,7,8])=aC (xG ((t.2.2.length:Int),c,())) λy =>
  bif !(eqI y.1 0) then some (.ret,[.hptr 0 0,.hptr 1 0,.hptr 2 0,.lit (.slice none 0 0),bJ false,iJ y.1],HK t c cl) else some (.normal,[.hptr 0 0,.hptr 1 0,.hptr 2 0,.junk,.junk,.junk],HK t c cl):=Y
theorem bGK:l4 Tryz.prog EK ntK kpK (λ_=>none) bFN ([3,5,10].zip [.hptr 0 0,.hptr 1 0,.hptr 2 0]) (HK t c cl) (kS [3,5,10,12])=some (.normal,[.hptr 0 0,.hptr 1 0,.hptr 2 0,.hptr 3 0],HK t c cl++[some ⟨[.lit .nilFunc],tyF,false,false,none⟩]):=Y
theorem bFT:l4 Tryz.prog EK ntK kpK (λ_=>none) bEY ([3,5,10,12].zip [.hptr 0 0,.hptr 1 0,.hptr 2 0,.hptr 3 0]) (HK t c cl++[some ⟨[.lit .nilFunc],tyF,false,false,none⟩]) (kS [3,5,10,12])=some (.normal,[.hptr 0 0,.hptr 1 0,.hptr 2 0,.hptr 3 0],HK t c cl++[some bkA]):=Y
theorem bGO:l4 Tryz.prog (EJ (RJ 8)) ntK kpK (λ_=>none) bFH [(3,.iptr (enc TmJ t)),(12,.iptr (OX c cl t 8))] [] (kJ [6,7]) =
  bif !(ltI (t.1.length:Int) 0) then bif !(ltI (t.1.length:Int) (t.1.length:Int)) then bif !(ltI 1048576 (t.1.length:Int)) then aC (juF gJ 7 [List.replicate (t.1.length:Int).toNat 0] c cl t (OX c cl t 7)) λo=>some (.normal,[lJ o.1,bJ o.2.1]) else none else none else none:=Y
theorem bGQ(b:Bool):l4 Tryz.prog (EJ (RJ 8)) ntK kpK (λ_=>none) bFY ([6,7].zip [lJ l,bJ b]) [] (kJ [6,7,8])=some (.normal,[lJ l,bJ b,iJ 0]):=Y
end
def vD(x:aM [.agg TmJ,.list mF,.list mF]):Option (aM [.list mF,.bool,.int .i64]):=match x with
 | (v0,v1,v2,()) =>
  aC (rO (v0,())) λy1 =>
  bif !(eqI y1.1 0) then some ([],false,y1.1,())
  else aC (mK ((v0.1.length:Int),v1,())) λy2 =>
  bif !(eqI y2.2.1 0) then some ([],false,y2.2.1,())
  else aC (xG ((v0.2.2.length:Int),v2,())) λy3 =>
  bif !(eqI y3.1 0) then some ([],false,y3.1,())
  else bif !(ltI (v0.1.length:Int) 0) then bif !(ltI (v0.1.length:Int) (v0.1.length:Int)) then bif !(ltI 1048576 (v0.1.length:Int)) then
   aC (juF gJ 7 [List.replicate (v0.1.length:Int).toNat 0] v2 y2.1 v0 (OX v2 y2.1 v0 7)) λo=>some (o.1,o.2.1,0,()) else none else none else none
section
variable {n0:Nat->Prop} {w0 w:World} {G0 G:Gd} {μ:Mp} {H:Heap} {F:Frm} {a:Act} {nt kp:Nat}
def SK(nt:Nat)(n0:Nat->Prop)(w0:World)(G0:Gd)(H:Heap)(F:Frm)(a:Act)(w:World):Prop :=
 ∃ G μ,Ext n0 w0 G0 aG w G aG/\aO n0 G μ H w/\cZ w G μ nt F a
theorem SK.piece {E:Env}(hE:eS Tryz.prog E){c:Code}{sl:List Nat}{ex:Ex}{ps:List PV}{H':Heap}(hl:bB c=[])(h:l4 Tryz.prog E nt kp (λ_=>none) c F H (kS sl)=some (ex,ps,H'))(hS:SK nt n0 w0 G0 H F a w):c.wp Tryz.prog (λe a' w'=>e=ex.to/\SK nt n0 w0 G0 H' (sl.zip ps) a' w') a w:=by
 obtain⟨G,μ,e0,hW,hF⟩:=hS;refine wp_mono (a27 hE.callee aZ.mixed hl h hW hF) ?_;rintro e a' w' ⟨rfl,G',μ',e',hW',hF'⟩;exact⟨rfl,G',μ',e0.trans e',hW',hF'⟩
theorem SK.l8 (h:SK nt n0 w0 G0 H F a w)(sl:List Nat):SK nt n0 w0 G0 H (sl.zip (sl.map (bM F))) a w:=by
 obtain⟨G,μ,E,hW,hF⟩:=h;exact⟨G,μ,E,hW,hF.l8 sl⟩
theorem SK.forget {sl:List Nat}{ps:List PV}(hn:ps.all nrj=true)(h:SK nt n0 w0 G0 H (sl.zip ps) a w):SJ nt n0 w0 G0 (sl.zip ps) a w:=by
 obtain⟨G,μ,E,hW,hF⟩:=h;exact⟨G,E,hW.forget,hF.size,λt=>a9B (aTM _ _ hn t) (hF.slot t),hF.defers⟩
theorem SK.shut {t:TmJ.den} {c cl:List (List Int)} (n:Nat) (h:SK nt n0 w0 G0 (HK t c cl++[some bkA]) ([3,5,10,12].zip [.hptr 0 0,.hptr 1 0,.hptr 2 0,.hptr 3 0]) a w) :
  SJ nt n0 w0 G0 [(3,.iptr (enc TmJ t)),(12,.iptr (OX c cl t n))] a w:=by
 obtain⟨G,μ,E,hW,hF⟩:=h;obtain⟨x0,hW0⟩:=xI hW (r:=0) (k:=bkT t) rfl rfl;obtain⟨x1,hW1⟩:=xI hW0 (r:=1) (k:=bkC c) rfl rfl;obtain⟨x2,hW2⟩:=xI hW1 (r:=2) (k:=bkL cl) rfl rfl;obtain⟨x3,hW3⟩:=xI hW2 (r:=3) (k:=bkA) rfl rfl;have mo:=((x0.trans x1).trans x2).trans x3;obtain⟨G4,hG4⟩:∃ G4:Gd,G4=((((G.or λx=>μ.loc 0=some x).or λx=>μ.loc 1=some x).or λx=>μ.loc 2=some x).or λx=>μ.loc 3=some x):=⟨_,rfl⟩;rw[<- hG4]at mo hW3
 have good:∀ r b,r<4->μ.loc r=some b->G4 b:=by
  intro r b hr hb;rw[hG4];obtain rfl|rfl|rfl|rfl:r=0\/r=1\/r=2\/r=3:=Z
  ·exact .inl (.inl (.inl (.inr hb)))
  ·exact .inl (.inl (.inr hb))
  ·exact .inl (.inr hb)
  ·exact .inr hb
 have hm:Mono w G μ w G4 μ:=mo.toMono;have ptr:∀ r v (k:Blk),r<4->(HK t c cl++[some bkA])[r]?=some (some k)->VR w G μ (.hptr r 0) v->dR.noRefs k.cells=true->VR w G4 aG (.iptr k.cells) v:=by
  intro r v k hr hk hv hn;rw[VR]at hv; rw[VR];obtain⟨b,hb,rfl⟩:=hv;obtain⟨_,_,q1,_⟩:=hW.blk r k b hk hb;exact⟨b,_,rfl,good r b hr hb,by rw[Nat.add_zero]; exact nR hn (aL.mono hm rfl _ _ q1)⟩
 have s3:=hF.slot 3;have s5:=hF.slot 5;have s10:=hF.slot 10;have s12:=hF.slot 12;have s3:VR w G μ (.hptr 0 0) (a.tmps.getD 3 undef):=s3;have s12:VR w G μ (.hptr 3 0) (a.tmps.getD 12 undef):=s12;have p3:=ptr 0 _ (bkT t) Z rfl s3 rfl;have hcap:∀ n v,VR w G μ (.hptr 3 0) v->VR w G4 aG (.iptr (OX c cl t n)) v:=by
  intro n
  induction n with
  | zero =>
   intro v hv;rw[VR]at hv; rw[VR];obtain⟨b,hb,rfl⟩:=hv;exact⟨b,_,rfl,good 3 b Z hb,by show aL _ _ _ _ _ []; rw[aL]; trivial⟩
  | succ n ih =>
   intro v hv;rw[VR]at hv; rw[VR];obtain⟨b,hb,rfl⟩:=hv;obtain⟨_,_,q1,_⟩:=hW.blk 3 bkA b rfl hb;refine⟨b,_,rfl,good 3 b Z hb,?_⟩;rw[Nat.add_zero];rw[aL]at q1;obtain⟨⟨u,hu,hclo⟩,_⟩:=q1;show aL _ _ _ _ _ (aUO c cl t (OX c cl t n));rw[aL];refine⟨⟨u,hu,?_⟩,by rw[aL]; trivial⟩;rw[VR]at hclo; rw[VR];obtain⟨fs,vs,rfl,hfs,hvs⟩:=hclo;refine⟨fs,vs,rfl,(by rw[VRs]at hfs ⊢; exact hfs),?_⟩;rw[VRs]at hvs; obtain⟨v1,r1,e1,q1,hvs⟩:=hvs
   rw[VRs]at hvs; obtain⟨v2,r2,rfl,q2,hvs⟩:=hvs;rw[VRs]at hvs; obtain⟨v3,r3,rfl,q3,hvs⟩:=hvs;rw[VRs]at hvs; obtain⟨v4,r4,rfl,q4,hvs⟩:=hvs;rw[VRs]; refine⟨v1,_,e1,ptr 1 _ (bkC c) Z rfl q1 rfl,?_⟩;rw[VRs]; refine⟨v2,_,rfl,ptr 2 _ (bkL cl) Z rfl q2 rfl,?_⟩;rw[VRs]; refine⟨v3,_,rfl,ptr 0 _ (bkT t) Z rfl q3 rfl,?_⟩;rw[VRs]; refine⟨v4,_,rfl,ih v4 q4,?_⟩;rw[VRs]at hvs ⊢; exact hvs
 refine⟨G4,E.trans ⟨⟨mo.good,λ_ _ h=>h,λ_ _ h=>h,mo.room,mo.row,λ_ _ _=>rfl⟩,mo.os,mo.tape,mo.output,mo.size,mo.old,mo.new⟩,hW3.forget,hF.size,λs=>?_,hF.defers⟩;rw[bT];split
 next hs=> subst hs; exact p3
 ·rw[bT];split
  next hs=> subst hs; exact hcap n _ s12
  ·show VR _ _ _ (bM [] s) _;rw[show bM [] s=PV.junk from rfl,VR]; trivial
end
theorem bCU:f18.body=some cK:=Y
theorem bGZ(p q r:PV):o9 Tryz.prog ([6,7,8].zip [p,q,r]) [] f18.results.toList=some [p,q,r]:=Y
theorem aZP {w:World}{G:Nat->Prop}{p q r:PV}{y:aM [.list mF,.bool,.int .i64]}(hd:aLD [.list mF,.bool,.int .i64] (.tuple [p,q,r])=some y){a' w'}(hS:SJ ntK (uF w) w (Gd.of G) ([6,7,8].zip [p,q,r]) a' w') :
  a'.defers=[]/\∃ v,(results f18 a'.tmps).run Tryz.prog w'=.ok v w'/\∃ v' G',Ending.returned v=.returned v'/\Ext (uF w) w (Gd.of G) aG w' (Gd.of G') aG/\(∀ b,G' b->b<w'.heap.size)/\VR w' (Gd.of G') aG (XH [.list mF,.bool,.int .i64] y) v':=by
 obtain⟨G1,E,hW1,hF1⟩:=hS;obtain⟨ws,h3,h4⟩:=lK (P:=Tryz.prog) hW1 hF1 (bGZ p q r);have hres:(results f18 a'.tmps).run Tryz.prog w'=.ok (if hh:ws.toArray.size=1 then ws.toArray[0] else .tuple ws.toArray) w':=by
  rw[wA,Array.mapM_eq_mapM_toList];simp only[Sem.run_bind,Sem.run_map,h3,Result.andThen_ok,Sem.run_pure]
 have hvr:=T4 hd (mT h4);refine⟨hF1.defers,_,hres,_,G1.ok,rfl,?_,hW1.lt,EX (G:=G1) (G':=Gd.of G1.ok) (λb h=>h) _ _ _ rfl hvr⟩;exact {
  good:=λc hc=>⟨(E.good c hc).1,(E.good c hc).2⟩
  map:=λ_ _ h=>h
  len:=λ_ _ h=>h
  sh:=λ_ _ h=>(by cases h)
  room:=E.room
  row:=λ_ _ h=>h
  os:=E.os
  tape:=E.tape
  output:=E.output
  size:=E.size
  old:=E.old
  new:=E.new }
theorem aG6:ZR Tryz.prog 18 [.agg TmJ,.list mF,.list mF] [.list mF,.bool,.int .i64] vD:=by
 rintro⟨t,l,c,⟨⟩⟩ z hz;unfold vD at hz;dsimp only at hz;obtain⟨y1,hy1,hz⟩:=mR hz;intro w G vs hlt hv;refine⟨enters func18 Y Y _ _,calls_of_wp func18 bCU ?_⟩;have hW0:aO (uF w) (Gd.of G) aG [] w:=⟨λr k b h=>by simp at h,λr k g h=>by simp at h,λr s k l b h=>by simp at h,hlt,λ_ _=>⟨rfl,rfl⟩,λ_ h=>h,rQ.none _ _ (λ_=>rfl) _ _ (λr k h=>by simp at h)⟩;have hF0:cZ w (Gd.of G) aG ntK (start kpK 0 [.agg (enc TmJ t),lJ l,lJ c]) ⟨vs++Array.replicate (ntK-vs.size) undef,[]⟩:=mE hv (by show 3<=ntK; exact oL Y)
 suffices h:cK.wp Tryz.prog (λe a' w'=>e=.ret/\∃ p q r,aLD [.list mF,.bool,.int .i64] (.tuple [p,q,r])=some z/\SJ ntK (uF w) w (Gd.of G) ([6,7,8].zip [p,q,r]) a' w') ⟨vs++Array.replicate (ntK-vs.size) undef,[]⟩ w by
  refine wp_mono h ?_;rintro e a' w' ⟨rfl,p,q,r,hd,hS⟩;exact aZP hd hS
 have hS0:SK ntK (uF w) w (Gd.of G) [] (start kpK 0 [.agg (enc TmJ t),lJ l,lJ c]) ⟨vs++Array.replicate (ntK-vs.size) undef,[]⟩ w:=⟨Gd.of G,aG,Ext.refl _ _ _ _,hW0,hF0⟩;rw[bF2];refine wp_seq (wp_mono (hS0.piece aEH Y (bHC t l c)) ?_);rintro e1 a1 w1 ⟨rfl,hS1⟩;have h1:=bHB t l c;rw[hy1,aD]at h1;cases c1:eqI y1.1 0 with
 | false =>
  rw[c1]at h1 hz;simp only[Bool.not_false,oC]at h1 hz;obtain rfl:=oB hz;refine wp_seq (wp_mono (hS1.piece aEH Y h1) ?_);rintro e2 a2 w2 ⟨rfl,hS2⟩;exact⟨rfl,_,_,_,by kernel_rfl,(hS2.l8 [6,7,8]).forget rfl⟩
 | true =>
 rw[c1]at h1 hz;simp only[Bool.not_true,oD]at h1 hz;obtain⟨y2,hy2,hz⟩:=mR hz;refine wp_seq (wp_mono (hS1.piece aEH Y h1) ?_);rintro e2 a2 w2 ⟨rfl,hS2⟩;have h4:=bG3 t l c;rw[hy2,aD]at h4;refine wp_seq (wp_mono ((hS2.l8 [1,3,5]).piece aEH Y h4) ?_);rintro e3 a3 w3 ⟨rfl,hS3⟩;have h5:=bG2 t c y2.1 y2.2.1;cases c2:eqI y2.2.1 0 with
 | false =>
  rw[c2]at h5 hz;simp only[Bool.not_false,oC]at h5 hz;obtain rfl:=oB hz;refine wp_seq (wp_mono (hS3.piece aEH Y h5) ?_);rintro e4 a4 w4 ⟨rfl,hS4⟩;exact⟨rfl,_,_,_,by kernel_rfl,(hS4.l8 [6,7,8]).forget rfl⟩
 | true =>
 rw[c2]at h5 hz;simp only[Bool.not_true,oD]at h5 hz;obtain⟨y3,hy3,hz⟩:=mR hz;refine wp_seq (wp_mono (hS3.piece aEH Y h5) ?_);rintro e4 a4 w4 ⟨rfl,hS4⟩;have h7:=bG7 t c y2.1;rw[hy3,aD]at h7;cases c3:eqI y3.1 0 with
 | false =>
  rw[c3]at h7 hz;simp only[Bool.not_false,oC]at h7 hz;obtain rfl:=oB hz;refine wp_seq (wp_mono ((hS4.l8 [3,5,10]).piece aEH Y h7) ?_);rintro e5 a5 w5 ⟨rfl,hS5⟩;exact⟨rfl,_,_,_,by kernel_rfl,(hS5.l8 [6,7,8]).forget rfl⟩
 | true =>
 rw[c3]at h7 hz;simp only[Bool.not_true,oD]at h7 hz;obtain⟨k1,hz⟩:=aJ hz;obtain⟨k2,hz⟩:=aJ hz;obtain⟨k3,hz⟩:=aJ hz;obtain⟨o,ho,hz⟩:=mR hz;obtain rfl:=oB hz;refine wp_seq (wp_mono ((hS4.l8 [3,5,10]).piece aEH Y h7) ?_);rintro e5 a5 w5 ⟨rfl,hS5⟩;refine wp_seq (wp_mono ((hS5.l8 [3,5,10]).piece aEH Y (bGK t c y2.1)) ?_);rintro e6 a6 w6 ⟨rfl,hS6⟩;refine wp_seq (wp_mono (hS6.piece aEH Y (bFT t c y2.1)) ?_)
 rintro e7 a7 w7 ⟨rfl,hS7⟩;have hR:∀ qs r,RJ 8 qs=some r->∀ z,r.val=some z->o3 Tryz.prog gJ qs (r.out z):=bDG 8 λm' _=>bC7 m'
 have h12:=bGO t c y2.1;rw[k1,k2,k3,ho]at h12;refine wp_seq (wp_mono ((hS7.shut 8).piece (a7I hR) Y h12 rfl) ?_);rintro e8 a8 w8 ⟨rfl,hS8⟩;refine wp_seq (wp_mono (hS8.piece (a7I hR) Y (bGQ o.1 o.2.1) rfl) ?_);rintro e9 a9 w9 ⟨rfl,hS9⟩;exact wp_ret ⟨rfl,_,_,_,by kernel_rfl,hS9⟩
abbrev W7:Ent:=⟨18,[.agg TmJ,.list mF,.list mF],[.list mF,.bool,.int .i64],vD⟩
theorem aC7:Ent.OK Tryz.prog W7:=aG6
end Go.PM
namespace Go.PM
open Go Go.RowKit Go.Proofs
def aD8(n:Int)(c:List (List Int))(i:Nat):Option Int :=
 if ¬ rc (c.getD i [])=0 then some (rc (c.getD i [])) else if ¬ ((c.getD i []).length:Int)=n then some 5 else
  if i=0 then (if isZ (c.getD i []) then none else some 7) else if ¬ cmpL (c.getD (i-1) []) (c.getD i [])<0 then some 6 else none
def aOG(n:Int)(c:List (List Int)):Int:=if n<0\/12<n then 3 else if c.length=0 then 13 else if 6<c.length then 4 else ((List.range c.length).findSome? (aD8 n c)).getD 0
theorem aL2 {n:Int}{c:List (List Int)}(h1:c.length<=1000)(h2:Rws 1000 c):HP (n,c,())=some (aOG n c,()):=by
 have hloop:AX (n,c,0,())=some (((List.range c.length).findSome? λi=>(aD8 n c i).map λe=>.inl (e,())).getD (.inr ())):=by
  refine qI (N:=2^64) (step:=mH) (λi=>(n,c,(i:Int),())) (λi=>(aD8 n c i).map λe=>.inl (e,())) c.length (.inr ()) Z ?_ ?_
  ·intro i hi;have hr:=h2 _ (eV hi);simp only[mH,aE,bP,aK,pG,aS,oN];rw[if_pos Z,if_pos Z,NB Z,aD,bC i Z];unfold aD8
   by_cases h:¬ rc (c.getD i [])=0
   ·rw[if_pos h,if_pos h]; rfl
   ·rw[if_neg h,if_neg h,if_pos Z]
    by_cases h3:¬ ((c.getD i []).length:Int)=n
    ·rw[if_pos h3,if_pos h3]; rfl
    ·rw[if_neg h3,if_neg h3]
     by_cases h4:i=0
     ·subst h4;rw[if_pos Z,if_pos rfl,if_pos Z,LP Z,aD];cases hz:isZ (c.getD 0 [])with
      | true=>rfl
      | false=>rfl
     ·have w1:aB .i64 ((i:Int)-1)=((i-1:Nat):Int):=by rw[wrap64 Z Z]; omega
      have hr':=h2 _ (eV (l:=c) (i:=i-1) Z);rw[if_neg (show ¬ ((i:Int)=0)by omega),if_neg h4,if_pos Z,w1,oN,if_pos Z,if_pos Z,CI _ _ Z Z,aD]
      by_cases h5:¬ cmpL (c.getD (i-1) []) (c.getD i [])<0
      ·rw[if_pos h5,if_pos h5]; rfl
      ·rw[if_neg h5,if_neg h5]; rfl
  ·simp only[mH,aE,aS];rw[if_neg Z]
 unfold HP aOG; dsimp only;simp only[aE,bP,aS]
 by_cases h:n<0
 ·rw[if_pos h,if_pos (.inl h)]
 ·rw[if_neg h]
  by_cases h3:12<n
  ·rw[if_pos h3,if_pos (.inr h3)]
  ·rw[if_neg h3,if_neg (show ¬ (n<0\/12<n)by omega)]
   by_cases h4:c.length=0
   ·rw[if_pos h4,if_pos Z]
   ·rw[if_neg h4,if_neg Z]
    by_cases h5:6<c.length
    ·rw[if_pos h5,if_pos Z]
    ·rw[if_neg h5,if_neg Z,hloop,aD,KG];cases (List.range c.length).findSome? (aD8 n c) <;> rfl
theorem aA3 {n:Int}{c:List (List Int)}(h1:c.length<=1000)(h2:Rws 1000 c):xG (n,c,())=some (aOG n c,()):=by
 have hloop:BA (n,c,c,(c.length:Int),0,())=some (((List.range c.length).findSome? λi=>(aD8 n c i).map λe=>.inl (e,())).getD (.inr ())):=by
  refine qI (N:=2^64) (step:=uJ) (λi=>(n,c,c,(c.length:Int),(i:Int),())) (λi=>(aD8 n c i).map λe=>.inl (e,())) c.length (.inr ()) Z ?_ ?_
  ·intro i hi;have hr:=h2 _ (eV hi);simp only[uJ,aE,bP,aK,pG,aS,oN];rw[if_pos Z,if_pos Z,NB Z,aD,bC i Z];unfold aD8
   by_cases h:¬ rc (c.getD i [])=0
   ·rw[if_pos h,if_pos h]; rfl
   ·rw[if_neg h,if_neg h]
    by_cases h3:¬ ((c.getD i []).length:Int)=n
    ·rw[if_pos h3,if_pos h3]; rfl
    ·rw[if_neg h3,if_neg h3]
     by_cases h4:i=0
     ·subst h4;rw[if_pos Z,if_pos rfl,aBX Z,aD];cases hz:isZ (c.getD 0 [])with
      | true=>rfl
      | false=>rfl
     ·have w1:aB .i64 ((i:Int)-1)=((i-1:Nat):Int):=by rw[wrap64 Z Z]; omega
      have hr':=h2 _ (eV (l:=c) (i:=i-1) Z);rw[if_neg (show ¬ ((i:Int)=0)by omega),if_neg h4,if_pos Z,w1,oN,if_pos Z,CI _ _ Z Z,aD]
      by_cases h5:¬ cmpL (c.getD (i-1) []) (c.getD i [])<0
      ·rw[if_pos h5,if_pos h5]; rfl
      ·rw[if_neg h5,if_neg h5]; rfl
  ·simp only[uJ,aE,aS];rw[if_neg Z]
 unfold xG aOG; dsimp only;simp only[aE,bP,aS]
 by_cases h:n<0
 ·rw[if_pos h,if_pos (.inl h)]
 ·rw[if_neg h]
  by_cases h3:12<n
  ·rw[if_pos h3,if_pos (.inr h3)]
  ·rw[if_neg h3,if_neg (show ¬ (n<0\/12<n)by omega)]
   by_cases h4:c.length=0
   ·rw[if_pos h4,if_pos Z]
   ·rw[if_neg h4,if_neg Z]
    by_cases h5:6<c.length
    ·rw[if_pos h5,if_pos Z]
    ·rw[if_neg h5,if_neg Z,hloop,aD,KG];cases (List.range c.length).findSome? (aD8 n c) <;> rfl
theorem aBU {l:List (List Int)} {x:List Int} (h1:l.length<=1000) (h2:Rws 1000 l):DK (l,x,())=some (decide (x∈l),()):=by
 have hloop:BM (l,x,0,())=some ((((List.range l.length).find? λi=>decide (l.getD i []=x)).map λi:Nat=>.inl (true,())).getD (.inr ())):=by
  rw[<- xQ (λi=>l.getD i []=x) (λi:Nat=>Sum.inl (true,()))];refine qI (N:=2^64) (step:=uK) (λi=>(l,x,(i:Int),())) (λi=>if l.getD i []=x then some (.inl (true,())) else none) l.length (.inr ()) Z ?_ ?_
  ·intro i hi;have hr:=h2 _ (eV hi);simp only[uK,aE,aK,aS,oN];rw[if_pos Z,if_pos Z,wF _ _ Z,aD,bC i Z,aS]
   by_cases h:l.getD i []=x
   ·rw[if_pos h,if_pos h]
   ·rw[if_neg h,if_neg h]
  ·simp only[uK,aE,aS];rw[if_neg Z]
 unfold DK; dsimp only;rw[hloop,aD];cases hf:(List.range l.length).find? λi=>decide (l.getD i []=x)with
 | none =>
  rw[oF]
  ·rfl
  ·intro hx;obtain⟨i,hi,rfl⟩:=List.getElem_of_mem hx;have:=List.find?_eq_none.1 hf i (List.mem_range.2 hi);rw[oQ,List.getElem?_eq_getElem hi]at this;simp at this
 | some j =>
  have h1:=List.find?_some hf;have h2:=List.mem_range.1 (List.mem_of_find?_eq_some hf);simp only[decide_eq_true_eq]at h1;rw[oT (h1 ▸ eV h2)]; rfl
theorem bDT:∀ s:Nat,s<300->IntKind.wrap .i64 (Int.fdiv (IntKind.wrap .u64 (aB .i64 (s:Int))) (2^(min 1 (IntKind.bits .u64))))=((s/2:Nat):Int):=by decide +kernel
theorem aIB {l:List (List Int)}{x:List Int}(h1:l.length<=100)(h2:Rws 1000 l)(hs:SI l)(hx:x.length<=1000):∀ (d i j N:Nat),j-i<=d->i<=j->j<=l.length->d<N->(∀ k,k<i->cmpL (l.getD k []) x<0)->(∀ k,j<=k->k<l.length->¬ cmpL (l.getD k []) x<0) ->
  ∃ i',i'<=l.length/\aW bL N (l,x,(),(l.length:Int),(i:Int),(j:Int),())=some (l,x,(),(l.length:Int),(i':Int),())/\(∀ k,k<i'->cmpL (l.getD k []) x<0)/\(∀ k,i'<=k->k<l.length->¬ cmpL (l.getD k []) x<0)
 | d,i,j,N,hd,hij,hj,hN,ha,hb=>by
  obtain⟨N,rfl⟩:∃ m,N=m+1:=⟨N-1,by omega⟩
  by_cases he:i<j
  ·obtain⟨d,rfl⟩:∃ e,d=e+1:=⟨d-1,by omega⟩;have hm:(i+j)/2<l.length:=Z
   have hmid:=bDT (i+j) Z;have ho:∀ k k',k<k'->k'<l.length->cmpL (l.getD k []) (l.getD k' [])<0:=by
    intro k k' hk hk';have:=List.pairwise_iff_getElem.1 hs k k' Z hk' hk;rw[oQ,oQ,List.getElem?_eq_getElem (show k<l.length by omega),List.getElem?_eq_getElem hk'];exact this
   have hst:bL (l,x,(),(l.length:Int),(i:Int),(j:Int),())=if cmpL (l.getD ((i+j)/2) []) x<0 then some (.inl (l,x,(),(l.length:Int),(((i+j)/2+1:Nat):Int),(j:Int),())) else some (.inl (l,x,(),(l.length:Int),(i:Int),(((i+j)/2:Nat):Int),())):=by
    simp only[bL];rw[show (i:Int)+(j:Int)=((i+j:Nat):Int)by omega,hmid];simp only[aE,aK,aS,oN];rw[if_pos Z,if_pos Z,CI _ _ (oR (h2 _ (eV hm)) Z) Z,aD,bC _ Z]
   rw[bV,hst]
   by_cases hc:cmpL (l.getD ((i+j)/2) []) x<0
   ·rw[if_pos hc];refine aIB h1 h2 hs hx d _ _ N Z Z hj Z ?_ hb;intro k hk;rcases oG k ((i+j)/2)with h|h
    ·exact H4 (ho k _ h hm) hc
    ·rwa[show k=(i+j)/2 by omega]
   ·rw[if_neg hc];refine aIB h1 h2 hs hx d _ _ N Z Z Z Z ha ?_;intro k hk hkl h;rcases oG ((i+j)/2) k with h'|h'
    ·exact hc (H4 (ho _ k h' hkl) h)
    ·rw[show k=(i+j)/2 by omega]at h; exact hc h
  ·refine⟨i,by omega,?_,ha,λk hk hkl=>hb k Z hkl⟩;rw[bV];simp only[bL,aE,aS];rw[if_neg Z]
theorem bEN {l:List (List Int)}{x:List Int}(h1:l.length<=100)(h2:Rws 1000 l)(hs:SI l)(hx:x.length<=1000):∃ i,cN (l,x,(),())=some (i,decide (x∈l),()):=by
 obtain⟨i,hi,hl,ha,hb⟩:=aIB h1 h2 hs hx l.length 0 l.length (2^64) Z Z Z Z (λk hk=>by omega) (λk hk hk'=>by omega);have hl':dO (l,x,(),(l.length:Int),0,(l.length:Int),())=some (l,x,(),(l.length:Int),(i:Int),()):=hl;unfold cN; dsimp only;rw[hl',aD];dsimp only;simp only[aE,aK,bP,aS,oN]
 by_cases hn:i<l.length
 ·rw[if_pos Z,if_pos Z,CI _ _ (oR (h2 _ (eV hn)) Z) Z,aD];refine⟨i,?_⟩;have:decide (cmpL (l.getD i []) x=0)=decide (x∈l):=by
   by_cases h0:cmpL (l.getD i []) x=0
   ·rw[oT h0,oT];have:=aMF h0;rw[<- this]; exact eV hn
   ·rw[oF h0,oF];intro hm;obtain⟨k,hk,rfl⟩:=List.getElem_of_mem hm;have hg:∀ k (hk:k<l.length),l.getD k []=l[k]:=λk hk=>by rw[oQ,List.getElem?_eq_getElem hk]; rfl
    rcases Nat.lt_trichotomy k i with h|h|h
    ·have:=ha k h;rw[hg k hk,IL]at this; omega
    ·subst h;exact h0 (by rw[hg k hk,IL])
    ·have:=List.pairwise_iff_getElem.1 hs i k hn hk h;exact hb i (oM _) hn (by rw[hg i hn]; exact this)
  dsimp only;rw[this]
 ·rw[if_neg Z];refine⟨i,?_⟩;rw[oF];intro hm;obtain⟨k,hk,rfl⟩:=List.getElem_of_mem hm;have:=ha k Z;rw[oQ,List.getElem?_eq_getElem hk]at this;change cmpL l[k] l[k]<0 at this;rw[IL]at this; omega
theorem bD4(a b:Int):aB .i64 (a+aB .i64 (-1*b))=aB .i64 (a-b):=by
 rw[SD,SD,SD,IntKind.wrap_i64,IntKind.wrap_i64,IntKind.wrap_i64];omega
theorem aO4(a b:List Int):aQ8 a b (-1)=dM a b:=by
 unfold aQ8 dM;exact List.map_congr_left λi _=>bD4 _ _
def aV5(cl notes:List (List Int)) (x:List Int):Bool:=((List.range notes.length).find? λi=>decide (¬ dM x (notes.getD i [])∈cl)).isNone
theorem bDO {cl:List (List Int)}{x y:List Int}(h1:cl.length<=100)(h2:Rws 1000 cl)(hs:SI cl)(hx:x.length<=1000)(hy:x.length<=y.length):nK (y,cl,x,())=some (decide (¬ dM x y∈cl),()):=by
 obtain⟨i,hi⟩:=bEN h1 h2 hs (x:=dM x y) (by rw[HC]; omega);unfold nK; dsimp only;rw[GF (-1) hy Z,aD,aO4];dsimp only;rw[hi,aD]
 by_cases h:dM x y∈cl
 ·rw[oT h,oF (not_not_intro h)]; rfl
 ·rw[oF h,oT h]; rfl
theorem aDD {cl notes:List (List Int)}{x:List Int}(h1:cl.length<=100)(h2:Rws 1000 cl)(hs:SI cl)(hx:x.length<=1000)(hn:notes.length<=1000)(hy:∀ y∈notes,x.length<=y.length):jX (cl,notes,x,())=some (aV5 cl notes x,()):=by
 have hloop:fS (notes,(cl,x,()),(notes.length:Int),0,())=some ((((List.range notes.length).find? λi=>decide (¬ dM x (notes.getD i [])∈cl)).map λi:Nat=>.inl ((i:Int),())).getD (.inr ())):=by
  rw[<- xQ (λi=>¬ dM x (notes.getD i [])∈cl) (λi:Nat=>Sum.inl ((i:Int),()))];refine qI (N:=2^64) (step:=dJ) (λi=>(notes,(cl,x,()),(notes.length:Int),(i:Int),())) (λi=>if ¬ dM x (notes.getD i [])∈cl then some (.inl ((i:Int),())) else none) notes.length (.inr ()) Z ?_ ?_
  ·intro i hi;simp only[dJ,aE,aK,aS,oN];rw[if_pos Z,if_pos Z,bDO h1 h2 hs hx (hy _ (eV hi)),aD,bC i Z,aS]
   by_cases h:¬ dM x (notes.getD i [])∈cl
   ·rw[if_pos h,if_pos h]
   ·rw[if_neg h,if_neg h]
  ·simp only[dJ,aE,aS];rw[if_neg Z]
 have h65:eF (notes,(cl,x,()),())=some ((((List.range notes.length).find? λi=>decide (¬ dM x (notes.getD i [])∈cl)).map λi:Nat=>(i:Int)).getD (-1),()):=by
  unfold eF; dsimp only;rw[hloop,aD];cases (List.range notes.length).find? λi=>decide (¬ dM x (notes.getD i [])∈cl) <;> rfl
 unfold jX aV5; dsimp only;unfold gC; dsimp only;rw[h65,aD];cases (List.range notes.length).find? λi=>decide (¬ dM x (notes.getD i [])∈cl)with
 | none=>rfl
 | some i =>
  show (aC (some (!(ltI ((i:Nat):Int) 0),())) λy1=>bif y1.1 then some (false,()) else some (true,()))=_;rw[aD,aAB]; rfl
open Go Go.RowKit Go.Proofs Go.Lz
theorem a1D(c cl:List (List Int))(t:TmJ.den):∀ m,dV (.iptr (OX c cl t m))=true
 | 0=>Y
 | m+1=>by
  have ih:=a1D c cl t m;have e:dV (.iptr (OX c cl t (m+1)))=(dV (.iptr (OX c cl t m))&&true&&true):=by cases hh:dV (.iptr (OX c cl t m)) <;> simp[OX,aUO,dV,dV.noRows]at hh ⊢ <;> simp[hh] <;> exact⟨by kernel_rfl,by kernel_rfl,by kernel_rfl⟩
  rw[e,ih]; rfl
theorem a7W(c cl:List (List Int))(t:TmJ.den)(m:Nat):aWU gJ (OX c cl t (m+1))=some (c,cl,t,OX c cl t m):=by
 have e:aWU gJ (OX c cl t (m+1))=bif dV (.iptr (OX c cl t m)) then some (c,cl,t,OX c cl t m) else none:=Y
 rw[e,a1D]; rfl
theorem bCN(m:Nat)(notes c cl:List (List Int))(t:TmJ.den):juF gJ (m+1) notes c cl t (OX c cl t (m+1))=bif eqI (notes.length:Int) (c.length:Int) then some (notes,true,()) else
  bif Nat.ble cl.length 1048576 then aB1 (aQA (λn=>juF gJ m n c cl t (OX c cl t m)) c cl t notes) cl else none:=by
 rw[juF,a7W]
def trJ(t:TmJ.den) (x:List Int):List Int×Int:=match dD (t,x,())with
 | some y=>(y.1,y.2.1)
 | none=>([],1)
def RwC(n:Nat) (cl:List (List Int)):Prop:=cl.length<=100/\SI cl/\∀ x∈cl,x.length=n/\0<n/\∀ a∈x,a.natAbs<=1000000000
section
variable {ps:List Int} {n d r:Nat} {C K:Nat->V}
theorem a9E(h:RT ps n d r C K){cl c notes:List (List Int)}(hcl:RwC n cl)(hk:notes.length<c.length)(hk6:c.length<=6)(h0:0<notes.length)(hn:∀ y∈notes,y.length=n){x:List Int}(hx:x∈cl)(rec:List (List Int)->Option aPO) :
  aQA rec c cl (ps,(Mr d n C,Mr r n K)) notes x=if (trJ (ps,(Mr d n C,Mr r n K)) x).2=0/\(trJ (ps,(Mr d n C,Mr r n K)) x).1=c.getD notes.length []/\aV5 cl notes x=true then
   aC (rec (notes++[x])) λo=>bif o.2.1 then some (some (o.1,true,())) else some none else some none:=by
 have n4:=h.n4;obtain⟨hc1,hc2,hc3⟩:=hcl;obtain⟨hxl,hx0,hxb⟩:=hc3 x hx;obtain⟨y,e,t1,t2,t3⟩:=aZ2 h x hxl hxb;have hR:Rws 1000 cl:=λz hz=>by have:=(hc3 z hz).1; omega
 have e1:aF (notes.length:Int) c.length=true:=by rw[aK]; exact oT Z
 have e2:=aDD (cl:=cl) (notes:=notes) (x:=x) hc1 hR hc2 Z Z (λz hz=>by have:=hn z hz; omega);have e3:dP (notes,())=some notes:=by
  unfold dP; dsimp only;rw[bW,oT h0,cT,oT Z]; rfl
 have e4:=CG (r:=x) Z Z;have e5:Nat.ble notes.length 1048576=true:=by rw[cT]; exact oT Z
 unfold aQA trJ;rw[t1,aD];dsimp only
 by_cases he:e=0
 ·have e6:eqI e 0=true:=by rw[bP]; exact oT he
  have hyl:=t2 he;have e7:=VD y (c.getD notes.length []) Z;rw[e6,Bool.not_true,oD,e1,oC,oN,e7,aD]
  by_cases hy:y=c.getD notes.length []
  ·rw[oT hy,oC,e2,aD];cases hf:aV5 cl notes x with
   | false=>rw[oD,if_neg ze]
   | true=>rw[oC,e3,aD,e4,aD,e5,oC,if_pos ⟨he,hy,rfl⟩]
  ·rw[oF hy,oD,if_neg (λg=>hy g.2.1)]
 ·have e6:eqI e 0=false:=by rw[bP]; exact oF he
  rw[e6,Bool.not_false,oC,if_neg (λg=>he g.1)]
theorem bCY {x:List Int}(hx:∀ a∈x,a.natAbs<=1000000000):∀ a∈neg x,a.natAbs<=1000000000:=by
 intro a ha;unfold neg dM at ha;obtain⟨i,hi,rfl⟩:=List.mem_map.1 ha;have hi:=List.mem_range.1 hi;rw[List.length_replicate]at hi;have e:x.getD i 0=x[i]:=by simp[List.getD,hi]
 have:=hx _ (List.getElem_mem hi);have e2:(List.replicate x.length (0:Int)).getD i 0=0:=by simp[List.getD,hi]
 rw[e,e2,wrap64 Z Z];omega
theorem bBU {l:List (List Int)} (hn:n<=4) (he:aIF (n:Int) l=0):RwC n (pU [] l):=by
 have hC:W8 n l=0:=by
  unfold aIF at he;split at he
  ·exact he
  next h=> exact Decidable.not_not.1 h
 have h60:(pU [] l).length<=60:=by
  unfold aIF at he;rw[if_neg (by simp[hC])]at he;split at he
  ·cases he
  ·omega
 obtain⟨_,_,hg⟩:=aCP hC;refine⟨by omega,aHH l (by simp[SI]),λx hx=>?_⟩;rcases(WL x l []).1 hx with hx|hx
 ·simp at hx
 ·unfold NL at hx;obtain⟨y,hy,hxy⟩:=List.mem_flatMap.1 hx;obtain⟨g1,g2⟩:=hg y hy;have hyb:=(bBT g1).2;cases hz:isZ y with
  | true=>rw[hz]at hxy; simp at hxy
  | false =>
   have h0:=aJV hz;rw[hz]at hxy;simp only[Bool.false_eq_true,if_false,List.mem_cons,List.not_mem_nil,or_false]at hxy;rcases hxy with rfl|rfl
   ·exact⟨by omega,by omega,hyb⟩
   ·exact⟨by rw[aFZ]; omega,by omega,bCY hyb⟩
theorem a8T(h:RT ps n d r C K) {l c:List (List Int)} (h1:l.length<=1000) (h2:Rws 1000 l) (h3:c.length<=1000) (h4:Rws 1000 c) :
  vD ((ps,(Mr d n C,Mr r n K)),l,c,())=if ¬ aIF n l=0 then some ([],false,aIF n l,()) else if ¬ aOG r c=0 then some ([],false,aOG r c,()) else
   aC (juF gJ 7 [List.replicate n 0] c (pU [] l) (ps,(Mr d n C,Mr r n K)) (OX c (pU [] l) (ps,(Mr d n C,Mr r n K)) 7)) λo=>some (o.1,o.2.1,0,()):=by
 have n4:=h.n4;have e0:eqI 0 0=true:=O
 have t2:=YB (n:=(n:Int)) (l:=l) h1 h2;have t3:=aA3 (n:=(r:Int)) (c:=c) h3 h4;have e1:((Mr r n K).length:Int)=(r:Int):=by rw[tK]
 have e2:(ps.length:Int)=(n:Int):=by rw[h.len]
 unfold vD;dsimp only;rw[h.check,aD,e0,Bool.not_true,oD,e2,t2]
 by_cases he:aIF n l=0
 ·rw[if_pos he,aD,if_neg (by simp[he])];dsimp only;rw[e0,Bool.not_true,oD,e1,t3,aD];dsimp only
  by_cases hh:aOG r c=0
  ·have f1:ltI (n:Int) 0=false:=by rw[aE]; exact oF Z
   have f2:ltI (n:Int) (n:Int)=false:=by rw[aE]; exact oF Z
   have f3:ltI 1048576 (n:Int)=false:=by rw[aE]; exact oF Z
   rw[if_neg (by simp[hh]),hh,e0,Bool.not_true,oD,f1,f2,f3,oN];rfl
  ·have f1:eqI (aOG r c) 0=false:=by rw[bP]; exact oF hh
   rw[if_pos hh,f1]; rfl
 ·have f1:eqI (aIF n l) 0=false:=by rw[bP]; exact oF he
  rw[if_neg he,aD,if_pos he];dsimp only;rw[f1]; rfl
end
end Go.PM
namespace Go.PM
open Go Go.RowKit Go.Proofs Tryz
set_option maxHeartbeats 4000000
abbrev cV:List (Nat×Kd):=[(2,.bown 25 39 (.list (.int .i64))),(4,.own 39 (.list (.int .i64))),(6,.clo 74 [(.list (.list (.int .i64)))])]
abbrev fH:List (Ex×List (Nat×Kd)):=[(.normal,[(2,.bown 25 39 (.list (.int .i64)))])]
def n8(x:Shape.den cV)(e:aM [.list (.int .i64)]):Option (Shape.den cV⊕cD fH):=match x,e with
 | (v2,v4,v6,()),(e0,()) =>
  bif Nat.ble [e0].length 1048576 then bif Nat.ble v2.length 1048576 then some (.inl ((v2++[e0]),v4,(v6.1,()),())) else none else none
def B3(x:Shape.den cV):aBD [(.list (.list (.int .i64)))]:=match x with
 | (v2,v4,v6,())=>(v6.1,())
def o6(x:Shape.den cV):Option (cD fH):=aW0 cV fH (λx=>fV (B3 x)) n8 x
def rL(x:aM [.nil0,.clo 74 [(.list (.list (.int .i64)))]]):Option (List (List Int)):=match x with
 | (v0,v1,()) =>
  aC (o6 ([],[],(v1.1,()),())) λz1 =>
  some z1.1
def BH:Code:=cQ f109
abbrev HZ:Env:=DW []
theorem LB:eS Tryz.prog HZ:=aR trivial
def dF:Code:=aQV BH 0
def aBH:Code:=inLoop dF
def GH(id:Nat):Option eE:=none
def GK(id:Nat):Option eE:=bif Nat.beq id 3 then some ⟨cV,fH,o6⟩ else none
theorem U8:cA aBH=3:=Y
theorem IQ:dF=.rangeFunc (aB0 dF) (aNQ dF) (CK dF) (inLoop dF):=Y
theorem VU:∀ y e,aFP Tryz.prog HZ 13 (UC f109) GH GK (aNQ dF).toList (CK dF) (inLoop dF) [.list (.int .i64)] cV fH y e=n8 y e:=by
 rintro⟨v2,v4,v6,⟨⟩⟩ ⟨e0,⟨⟩⟩
 kernel_rfl
theorem XL:∀ x,aRB 74 [(.list (.list (.int .i64)))] cV (aB0 dF) x=some (B3 x):=by
 rintro⟨v2,v4,v6,⟨⟩⟩
 kernel_rfl
theorem XG:TW Tryz.prog 13 false [] dF ⟨cV,fH,o6⟩:=aCW LB aZ IQ func74 (c:=cQ f74) Y bHH Y (M4 (l:=[]) Y trivial) XL VU
theorem X2:pS BH=[dF]:=Y
theorem Z3:∀ x,a0T Tryz.prog HZ f109 (UC f109) GH GK BH [.nil0,.clo 74 [(.list (.list (.int .i64)))]] 4 39 (.list (.int .i64)) x=rL x:=by
 rintro⟨v0,v1,⟨⟩⟩
 kernel_rfl
theorem aDF:aGM Tryz.prog 109 [.nil0,.clo 74 [(.list (.list (.int .i64)))]] 39 (.list (.int .i64)) rL:=a7J aZ LB func109 (c:=BH) Y (keep:=UC f109) (lt:=GH) (rt:=GK) (t:=4) Y (M4 X2 ⟨XO IQ U8 rfl XG,trivial⟩) Z3
abbrev RR:Shr:=(109,aZI [.nil0,.clo 74 [(.list (.list (.int .i64)))]] 39 (.list (.int .i64)) rL)
theorem ZZ:pV Tryz.prog RR:=aG1 aDF
def KK(x:aM [.clo 74 [(.list (.list (.int .i64)))]]):Option (List (List Int)):=match x with
 | (v0,()) =>
  aC (rL ((),(v0.1,()),())) λy1 =>
  some y1
def YL:Code:=cQ f73
abbrev aGH:Env:=MT [] [RR]
theorem aLN:eS Tryz.prog aGH:=mM trivial ⟨ZZ,trivial⟩
def aEI(id:Nat):Option eE:=none
theorem aIU:bB YL=[]:=Y
theorem aLI:∀ x,aR4 Tryz.prog aGH f73 (aP f73) aEI YL [.clo 74 [(.list (.list (.int .i64)))]] 2 39 (.list (.int .i64)) x=KK x:=by
 rintro⟨v0,⟨⟩⟩
 kernel_rfl
theorem aP8:aGM Tryz.prog 73 [.clo 74 [(.list (.list (.int .i64)))]] 39 (.list (.int .i64)) KK:=aL9 aZ aLN func73 (c:=YL) Y (keep:=aP f73) (lt:=aEI) (t:=2) Y (aQ aIU trivial) aLI
abbrev aG0:Shr:=(73,aZI [.clo 74 [(.list (.list (.int .i64)))]] 39 (.list (.int .i64)) KK)
theorem aLE:pV Tryz.prog aG0:=aG1 aP8
def u9(x:aM [.clo 74 [(.list (.list (.int .i64)))],.fn 36]):Option (List (List Int)):=match x with
 | (v0,v1,()) =>
  aC (KK ((v0.1,()),())) λy1 =>
  aC (aOS (t:=(.int .i64)) D64 (λx y=>decide (cmpL x y<0)) y1) λy2 =>
  some y2
def MK:Code:=cQ f39
abbrev WU:Env:=MT [] [bDJ,aG0]
theorem aC5:eS Tryz.prog WU:=mM trivial ⟨a1Y,aLE,trivial⟩
def T9(id:Nat):Option eE:=none
theorem aA5:bB MK=[]:=Y
theorem aDL:∀ x,aR4 Tryz.prog WU f39 (aP f39) T9 MK [.clo 74 [(.list (.list (.int .i64)))],.fn 36] 4 39 (.list (.int .i64)) x=u9 x:=by
 rintro⟨v0,v1,⟨⟩⟩
 kernel_rfl
theorem aHD:aGM Tryz.prog 39 [.clo 74 [(.list (.list (.int .i64)))],.fn 36] 39 (.list (.int .i64)) u9:=aL9 aZ aC5 func39 (c:=MK) Y (keep:=aP f39) (lt:=T9) (t:=4) Y (aQ aA5 trivial) aDL
abbrev WX:Shr:=(39,aZI [.clo 74 [(.list (.list (.int .i64)))],.fn 36] 39 (.list (.int .i64)) u9)
theorem aDR:pV Tryz.prog WX:=aG1 aHD
abbrev DC:List (Nat×Kd):=[(7,.list (.list (.int .i64))),(8,.own 39 (.list (.int .i64))),(29,.list (.list (.int .i64))),(30,.int .i64),(31,.int .i64)]
abbrev LL:List (Ex×List (Nat×Kd)):=[(.ret,[(4,.list (.list (.int .i64))),(5,.int .i64)]),(.exit 0,[(8,.own 39 (.list (.int .i64)))])]
def kQ(x:Shape.den DC):Option (Shape.den DC⊕cD LL):=match x with
 | (v7,v8,v29,v30,v31,()) =>
  bif ltI v31 v30 then
   bif aF v31 v29.length then bif aF 0 v7.length then aC (vB ((v29.getD v31.toNat []),(v7.getD 0 []),(-1),())) λy7 =>
   aC (vO (y7.1,())) λy8 =>
   bif !(eqI y8.1 0) then
    some (.inr (.inl ([],y8.1,())))
   else bif Nat.ble [y7.1].length 1048576 then bif Nat.ble v8.length 1048576 then some (.inl (v7,(v8++[y7.1]),v29,v30,(aB .i64 (v31+1)),())) else none else none else none else none
  else some (.inr (.inr ((v8,()))))
def zM(x:Shape.den DC):Option (cD LL):=aW kQ (2^64) x
def B5(x:aM [.int .i64,.list (.list (.int .i64))]):Option (aM [.list (.list (.int .i64)),.int .i64]):=match x with
 | (v0,v1,()) =>
  aC (zZ (v0,v1,())) λy1 =>
  bif !(eqI y1.1 0) then
   some ([],y1.1,())
  else bif eqI (v1.length:Int) 0 then
   some ([],13,())
  else aC (rK (v1,())) λy2 =>
  aC (u9 ((y2.1.1,()),(),())) λy3 =>
  aC (bO y3 ((),())) λy4 =>
  bif ltI 6 (y4.1.length:Int) then
   some ([],4,())
  else aC (zM (y4.1,[],y4.1,(y4.1.length:Int),0,())) λz9 =>
  mY z9 (λa10=>some (a10.1,a10.2.1,())) λb11 =>
  some (b11.1,0,())
abbrev aE2:Env:=MT [MG,MD,aMU,AO] [WX,jP]
theorem Z7:eS Tryz.prog aE2:=mM ⟨GP,P4,M8,JE,trivial⟩ ⟨aDR,o5,trivial⟩
abbrev RC:Ent:=⟨17,[.int .i64,.list (.list (.int .i64))],[.list (.list (.int .i64)),.int .i64],B5⟩
theorem Z1:Ent.OK Tryz.prog RC:=oU Z7 func17 11 (lp:=zM) rfl Y (by rintro⟨v7,v8,v29,v30,v31,⟨⟩⟩; kernel_rfl) (by rintro⟨v0,v1,⟨⟩⟩; kernel_rfl)
end Go.PM
namespace Go.PM
open Go Go.RowKit Go.Proofs Tryz
def K4(l:List (List Int)):List (List Int):=l.foldl (λout x=>CL x out) []
theorem aNC:∀ (l:List (List Int)) {out},SI out->SI (l.foldl (λout x=>CL x out) out)
 | [],_,h=>h
 | x::l,out,h=>aNC l (aL4 x h)
theorem aKJ(z:List Int):∀ (l:List (List Int)) (out),z∈l.foldl (λout x=>CL x out) out↔z∈out\/z∈l
 | [],out=>ze
 | x::l,out=>by
  rw[List.foldl_cons,aKJ z l,KQ,List.mem_cons];constructor
  ·rintro((h|h)|h)
   ·exact .inr (.inl h)
   ·exact .inl h
   ·exact .inr (.inr h)
  ·rintro(h|h|h)
   ·exact .inl (.inr h)
   ·exact .inl (.inl h)
   ·exact .inr h
theorem a11(l:List (List Int)):SI (K4 l):=aNC l (by simp[SI])
theorem V8(l:List (List Int))(z:List Int):z∈K4 l↔z∈l:=by unfold K4; rw[aKJ]; simp
theorem aAQ:∀ (l:List (List Int)) (out),(l.foldl (λout x=>CL x out) out).length<=out.length+l.length
 | [],out=>ze
 | x::l,out=>by
  have a:=aAQ l (CL x out);have b:=EO x out;rw[List.foldl_cons,List.length_cons]; omega
theorem aAU(l:List (List Int)):(K4 l).length<=l.length:=by
 have:=aAQ l [];unfold K4;simpa using this
theorem norm_eq {l:List (List Int)}(h:Rws 1000 l):Lib.compact (aEN ltC l)=K4 l:=by
 refine aRO (aMT (TT loL _ λx hx=>Nat.ble_eq_true_of_le (oR (h x hx) Z))) (a11 l) λx=>?_
 rw[a1T,(IK _).mem_iff,V8]
theorem TX(x y:Int)(a c:List Int):dM (x::a) (y::c)=aB .i64 (x-y)::dM a c:=by
 unfold dM;rw[List.length_cons,List.range_succ_eq_map,List.map_cons,List.map_map];rfl
theorem aQ1:∀ {a b c:List Int},a.length=b.length->a.length<=c.length->(∀ v∈a,okE v)->(∀ v∈b,okE v)->(∀ v∈c,okE v)->cmpL (dM a c) (dM b c)=cmpL a b
 | [],[],c,_,_,_,_,_=>rfl
 | [],y::b,c,h,_,_,_,_=>by simp at h
 | x::a,[],c,h,_,_,_,_=>by simp at h
 | x::a,y::b,[],_,h,_,_,_=>by simp at h
 | x::a,y::b,z::c,h1,h2,ha,hb,hc=>by
  rw[TX,TX];simp only[List.length_cons]at h1 h2;have ih:=aQ1 (a:=a) (b:=b) (c:=c) Z Z (λv hv=>ha v (by simp[hv])) (λv hv=>hb v (by simp[hv])) (λv hv=>hc v (by simp[hv]));have e1:=ha x ze;have e2:=hb y ze;have e3:=hc z ze;unfold okE at e1 e2 e3;rw[wrap64 Z Z,wrap64 Z Z];unfold cmpL;rw[ih]
  by_cases g1:x<y
  ·rw[if_pos g1,if_pos Z]
  ·rw[if_neg g1,if_neg Z]
   by_cases g2:y<x
   ·rw[if_pos g2,if_pos Z]
   ·rw[if_neg g2,if_neg Z]
theorem aMZ:∀ {a:List Int} {n:Nat},a.length<=n->(∀ v∈a,okE v)->dM a (List.replicate n 0)=a
 | [],_,_,_=>rfl
 | x::a,0,h,_=>by simp at h
 | x::a,n+1,h,ha=>by
  have e1:=ha x ze;unfold okE at e1;rw[List.replicate_succ,TX,aMZ (a:=a) (by simp only[List.length_cons]at h; omega) (λv hv=>ha v (by simp[hv])),wrap64 Z Z,Int.sub_zero]
theorem aMI:∀ (a:List Int),dM a a=List.replicate a.length 0
 | []=>rfl
 | x::a=>by rw[TX,aMI a,Int.sub_self,List.length_cons,List.replicate_succ]; rfl
theorem a7B {r:List Int}(h:rc r=0):r.length<=64/\∀ v∈r,okE v:=by
 unfold rc at h;split at h
 ·cases h
 ·split at h
  next h1 h2=>refine⟨by omega,λv hv=>?_⟩;obtain⟨i,hi,rfl⟩:=List.getElem_of_mem hv;have:=h2 i hi;rwa[oQ,List.getElem?_eq_getElem hi]at this
  ·cases h
theorem a07 {n:Int}{l:List (List Int)}(h:0<=n/\n<=12)(hl:∀ y∈l,rc y=0/\(y.length:Int)=n):W8 n l=0:=by
 unfold W8;rw[if_neg Z,List.findSome?_eq_none_iff.2]
 ·rfl
 ·intro i hi;obtain⟨a,b⟩:=hl _ (eV (List.mem_range.1 hi));unfold aD5;rw[if_neg (not_not_intro a),if_neg (not_not_intro b)]
def due(s:List (List Int)):List (List Int):=s.map λx=>dM x (s.getD 0 [])
def aHP(s:List (List Int)):Prop:=∀ i,i<s.length->rc (dM (s.getD i []) (s.getD 0 []))=0
instance (s:List (List Int)):Decidable (aHP s):=by unfold aHP; infer_instance
theorem aVH {s:List (List Int)}{i:Nat}(h:i<s.length)(x0:List Int):(s.take (i+1)).map (λx=>dM x x0)=(s.take i).map (λx=>dM x x0)++[dM (s.getD i []) x0]:=by rw[List.take_add_one,List.map_append,List.getElem?_eq_getElem h,show s.getD i []=s[i]by rw[oQ,List.getElem?_eq_getElem h]; rfl]; rfl
def aX3(n:Int) (l:List (List Int)):Int:=if ¬ W8 n l=0 then W8 n l else if l.length=0 then 13 else if 6<(K4 l).length then 4 else if aHP (K4 l) then 0 else 4
theorem a2Z {s:List (List Int)}(h:¬ aHP s):∃ j,j<s.length/\rc (dM (s.getD j []) (s.getD 0 []))=4/\∀ i,i<j->rc (dM (s.getD i []) (s.getD 0 []))=0:=by
 cases hf:(List.range s.length).find? (λi=>decide (¬ rc (dM (s.getD i []) (s.getD 0 []))=0))with
 | none =>
  exfalso;apply h;intro i hi;have:=List.find?_eq_none.1 hf i (List.mem_range.2 hi);simpa using this
 | some j =>
  obtain⟨a,b,c⟩:=aNU _ _ hf;refine⟨j,b,?_,λi hi=>by simpa using c i hi⟩;have a:¬ rc (dM (s.getD j []) (s.getD 0 []))=0:=by simpa using a
  exact(a9K _).resolve_left a
theorem bFQ(v2 v4:List (List Int))(v6:aBD [(.list (.list (.int .i64)))]):a9I cV fH (v2,v4,v6,())=some (v2,()):=Y
theorem a0Y(v4:List (List Int))(v6:aBD [(.list (.list (.int .i64)))]):∀ (l out:List (List Int)),out.length+l.length<=1048576 ->
  aEJ n8 (a9I cV fH) (l.map λx=>(x,())) (out,v4,v6,())=some (out++l,())
 | [],out,_=>by
  show a9I cV fH (out,v4,v6,())=_;rw[bFQ,List.append_nil]
 | x::l,out,hl=>by
  simp only[List.length_cons]at hl;have hst:n8 (out,v4,v6,()) (x,())=some (.inl (out++[x],v4,v6,())):=by
   simp only[n8,cT,aS,List.length_cons,List.length_nil];rw[if_pos Z,if_pos Z]
  rw[List.map_cons];unfold aEJ;rw[hst];have:=a0Y v4 v6 l (out++[x]) (by rw[oH,List.length_cons,List.length_nil]; omega);rw[List.append_assoc]at this;exact this
theorem bD8 {l:List (List Int)}(h:l.length<=1048576):rL ((),(l,()),())=some l:=by
 have hg:(λx=>fV (B3 x)) ([],[],(l,()),())=some (l.map λx=>(x,())):=by
  show (bif Nat.ble l.length 1048576 then some (l.map λx=>(x,())) else none)=_;rw[cT,oT h]; rfl
 have hl:o6 ([],[],(l,()),())=some (l,()):=by
  unfold o6 aW0;rw[hg];exact a0Y [] (l,()) l [] (by simpa using h)
 unfold rL; dsimp only;rw[hl,aD]
theorem bEP {l:List (List Int)}(h1:l.length<=1000)(h2:Rws 1000 l):u9 ((l,()),(),())=some (aEN ltC l):=by
 have hs:aQK l:=⟨by omega,λy hy=>by have:=h2 y hy; omega⟩;unfold u9 KK; dsimp only;rw[bD8 Z,aD,aD];have:=aRE (l:=l) (λy hy=>by have:=h2 y hy; omega) Z;rw[this,aD]
theorem VI {s:List (List Int)}(h1:s.length<=1000){m:Nat}(hm:m<=1000)(h2:∀ y∈s,y.length=m) :
  zM (s,[],s,(s.length:Int),0,())=some (if aHP s then .inr (due s,()) else .inl ([],4,())):=by
 have hstep:∀ i,i<s.length->∀ out:List (List Int),out.length<=1000->kQ (s,out,s,(s.length:Int),(i:Int),())=if ¬ rc (dM (s.getD i []) (s.getD 0 []))=0 then some (.inr (.inl ([],rc (dM (s.getD i []) (s.getD 0 [])),()))) else some (.inl (s,out++[dM (s.getD i []) (s.getD 0 [])],s,(s.length:Int),((i+1:Nat):Int),())):=by
  intro i hi out ho;have e1:=h2 _ (eV hi);have e2:=h2 _ (eV (l:=s) (i:=0) Z);simp only[kQ,aE,bP,aK,cT,pG,aS,oN,List.length_cons,List.length_nil];rw[if_pos Z,if_pos Z,if_pos Z,GF (-1) Z Z,aD,aO4];dsimp only;rw[NB (by rw[HC]; omega),aD]
  by_cases h:rc (dM (s.getD i []) (s.getD 0 []))=0
  ·rw[if_neg (not_not_intro h),if_neg (not_not_intro h),if_pos Z,if_pos Z,bC i Z]
  ·rw[if_pos h,if_pos h]
 have hlen:∀ i,((s.take i).map λx=>dM x (s.getD 0 [])).length<=1000:=λi=>by rw[List.length_map,List.length_take]; omega
 by_cases h:aHP s
 ·rw[if_pos h];refine bH (N:=2^64) (step:=kQ) (λi=>(s,(s.take i).map (λx=>dM x (s.getD 0 [])),s,(s.length:Int),(i:Int),())) s.length (.inr (due s,())) Z ?_ ?_
  ·intro i hi;rw[hstep i hi _ (hlen i),if_neg (not_not_intro (h i hi)),aVH hi]
  ·simp only[kQ,aE,aS];rw[if_neg Z,List.take_length]; rfl
 ·rw[if_neg h];obtain⟨j,hj,hb,hg⟩:=a2Z h;have hsteps:=T7 (step:=kQ) (λi=>(s,(s.take i).map (λx=>dM x (s.getD 0 [])),s,(s.length:Int),(i:Int),())) (2^64-j-1+1) j 0 (λi _ hi=>by
   rw[hstep i Z _ (hlen i),if_neg (not_not_intro (hg i Z)),aVH Z])
  have e:j+(2^64-j-1+1)=2^64:=Z
  rw[e,Nat.zero_add]at hsteps;refine Eq.trans hsteps ?_;rw[bV,hstep j hj _ (hlen j),hb]; rfl
theorem Z5 {n:Int}{l:List (List Int)}(h1:l.length<=1000)(h2:Rws 1000 l):B5 (n,l,())=some (if aX3 n l=0 then (due (K4 l),0,()) else ([],aX3 n l,())):=by
 unfold B5 aX3; dsimp only;rw[P9 Z (λy hy=>oR (h2 y hy) Z),aD];simp only[bP,pG,aS]
 by_cases hC:W8 n l=0
 ·obtain⟨g1,g2,g3⟩:=aCP hC;have hlen:=aAU l;have hrow:∀ y∈K4 l,y.length=n.toNat:=λy hy=>by
   have:=(g3 y ((V8 l y).1 hy)).2;omega
  rw[if_neg (not_not_intro hC),if_neg (not_not_intro hC)]
  by_cases h0:l.length=0
  ·rw[if_pos Z,if_pos h0]; rfl
  ·rw[if_neg Z,if_neg h0];have h48:rK (l,())=some ((l,()),()):=rfl;rw[h48,aD];dsimp only;rw[bEP h1 h2,aD,a8I (aR9 ⟨by omega,λy hy=>by have:=h2 y hy; omega⟩),aD,norm_eq h2];simp only[aE,aS]
   by_cases h6:6<(K4 l).length
   ·rw[if_pos Z,if_pos h6]; rfl
   ·rw[if_neg Z,if_neg h6,VI Z Z hrow,aD]
    by_cases hd:aHP (K4 l)
    ·rw[if_pos hd,if_pos hd,lM]; rfl
    ·rw[if_neg hd,if_neg hd,I3]; rfl
 ·rw[if_pos hC,if_pos hC,if_neg hC]
theorem a2Q {n:Int} {l:List (List Int)} (h:aX3 n l=0):W8 n l=0/\l.length≠0/\(K4 l).length<=6/\aHP (K4 l):=by
 unfold aX3 at h
 by_cases hC:W8 n l=0
 ·rw[if_neg (not_not_intro hC)]at h
  by_cases h0:l.length=0
  ·rw[if_pos h0]at h; omega
  ·rw[if_neg h0]at h
   by_cases h6:6<(K4 l).length
   ·rw[if_pos h6]at h; omega
   ·rw[if_neg h6]at h
    by_cases hd:aHP (K4 l)
    ·exact⟨hC,h0,by omega,hd⟩
    ·rw[if_neg hd]at h; omega
 ·rw[if_pos hC]at h; exact absurd h hC
theorem aFE(s:List (List Int)):(due s).length=s.length:=by simp[due]
theorem a56 {s:List (List Int)}{i:Nat}(h:i<s.length):(due s).getD i []=dM (s.getD i []) (s.getD 0 []):=by
 unfold due;rw[oQ,List.getElem?_map,List.getElem?_eq_getElem h,show s.getD i []=s[i]by rw[oQ,List.getElem?_eq_getElem h]; rfl]; rfl
theorem a5A {n:Int}{l:List (List Int)}(h:aX3 n l=0):(∀ y∈due (K4 l),rc y=0/\(y.length:Int)=n)/\SI (due (K4 l))/\(due (K4 l)).getD 0 []=List.replicate n.toNat 0/\0<(due (K4 l)).length/\(due (K4 l)).length<=6/\(due (K4 l)).length=(K4 l).length:=by
 obtain⟨hC,h0,h6,hd⟩:=a2Q h;obtain⟨g1,g2,g3⟩:=aCP hC;have hs:=a11 l;have g4:∀ y∈K4 l,rc y=0/\(y.length:Int)=n:=λy hy=>g3 y ((V8 l y).1 hy)
 have hne:0<(K4 l).length:=by
  obtain⟨x,hx⟩:=List.exists_mem_of_length_pos (l:=l) Z;exact List.length_pos_of_mem ((V8 l x).2 hx)
 generalize K4 l=s at *;have hx0:=g4 _ (eV (l:=s) (i:=0) hne);have hm:∀ y∈due s,rc y=0/\(y.length:Int)=n:=by
  intro y hy;obtain⟨x,hx,rfl⟩:=List.mem_map.1 hy;obtain⟨i,hi,rfl⟩:=List.getElem_of_mem hx;have e:=hd i hi;rw[oQ,List.getElem?_eq_getElem hi]at e;exact⟨e,by rw[HC]; exact(g4 _ (List.getElem_mem hi)).2⟩
 have hSI:SI (due s):=by
  unfold SI due;refine List.pairwise_map.2 (List.Pairwise.imp_of_mem ?_ hs);intro a b ha hb hab;have ea:=g4 a ha;have eb:=g4 b hb;rw[aQ1 Z Z (a7B ea.1).2 (a7B eb.1).2 (a7B hx0.1).2];exact hab
 have hz:(due s).getD 0 []=List.replicate n.toNat 0:=by
  rw[a56 hne,aMI]
  congr 1; omega
 exact⟨hm,hSI,hz,by rw[aFE]; exact hne,by rw[aFE]; exact h6,aFE s⟩
theorem a3U {n:Int} {c:List (List Int)} (h0:0<=n/\n<=12) (hc:∀ y∈c,rc y=0/\(y.length:Int)=n) (hs:SI c) (hz:c.getD 0 []=List.replicate n.toNat 0) (h1:0<c.length) (h6:c.length<=6):aOG n c=0:=by
 unfold aOG;rw[if_neg Z,if_neg Z,if_neg Z];refine aQE λi hi=>?_
 have hm:=hc _ (eV hi);unfold aD8;rw[if_neg (not_not_intro hm.1),if_neg (not_not_intro hm.2)]
 by_cases hi0:i=0
 ·subst hi0;rw[if_pos rfl,hz,if_pos];unfold isZ;rw[decide_eq_true_eq];intro j hj;rw[List.length_replicate]at hj;simp[List.getD,hj]
 ·rw[if_neg hi0,if_neg];rw[Decidable.not_not];have:=List.pairwise_iff_getElem.1 hs (i-1) i Z hi Z;have e1:c.getD (i-1) []=c[i-1]:=by rw[oQ,List.getElem?_eq_getElem Z]; rfl
  have e2:c.getD i []=c[i]:=by rw[oQ,List.getElem?_eq_getElem hi]; rfl
  rw[e1,e2]; exact this
set_option maxHeartbeats 4000000
abbrev lU:List (Nat×Kd):=[(1,.list (.list (.int .i64))),(2,.list (.list (.int .i64))),(3,.box 33 (.prod (.list (.int .i64)) (.prod (.list (.list (.int .i64))) (.list (.list (.int .i64)))))),(8,.own 3 (.int .i64)),(9,.int .i64),(12,.int .i64)]
abbrev lL:List (Ex×List (Nat×Kd)):=[(.ret,[(6,.list (.list (.int .i64))),(7,.bool)]),(.exit 2,[(1,.list (.list (.int .i64))),(2,.list (.list (.int .i64))),(3,.box 33 (.prod (.list (.int .i64)) (.prod (.list (.list (.int .i64))) (.list (.list (.int .i64)))))),(8,.own 3 (.int .i64)),(9,.int .i64)])]
def jY(x:Shape.den lU):Option (Shape.den lU⊕cD lL):=match x with
 | (v1,v2,v3,v8,v9,v12,()) =>
  bif ltI v12 (v1.length:Int) then
   bif aF v12 v1.length then aC (dD ((v3.1,(v3.2.1,v3.2.2)),(v1.getD v12.toNat []),())) λy7 =>
   bif aF 2 v2.length then aC (nW (y7.1,(v2.getD 2 []),())) λy8 =>
   bif y8.1 then
    bif aF v12 v1.length then bif aF v9 v1.length then aC (uG ((v1.getD v12.toNat []),(v1.getD v9.toNat []),())) λy9 =>
    aC (DK (v1,y9.1,())) λy10 =>
    bif y10.1 then
     bif aF v9 v1.length then bif aF v12 v1.length then some (.inr (.inl ([v8,(v1.getD v9.toNat []),(v1.getD v12.toNat [])],true,()))) else none else none
    else some (.inl (v1,v2,(v3.1,(v3.2.1,v3.2.2)),v8,v9,(aB .i64 (v12+1)),())) else none else none
   else some (.inl (v1,v2,(v3.1,(v3.2.1,v3.2.2)),v8,v9,(aB .i64 (v12+1)),())) else none else none
  else some (.inr (.inr ((v1,v2,(v3.1,(v3.2.1,v3.2.2)),v8,v9,()))))
def nH(x:Shape.den lU):Option (cD lL):=aW jY (2^64) x
abbrev lY:List (Nat×Kd):=[(1,.list (.list (.int .i64))),(2,.list (.list (.int .i64))),(3,.box 33 (.prod (.list (.int .i64)) (.prod (.list (.list (.int .i64))) (.list (.list (.int .i64)))))),(8,.own 3 (.int .i64)),(9,.int .i64)]
abbrev jH:List (Ex×List (Nat×Kd)):=[(.ret,[(6,.list (.list (.int .i64))),(7,.bool)]),(.exit 0,[])]
def j4(x:Shape.den lY):Option (Shape.den lY⊕cD jH):=match x with
 | (v1,v2,v3,v8,v9,()) =>
  bif ltI v9 (v1.length:Int) then
   bif aF v9 v1.length then aC (dD ((v3.1,(v3.2.1,v3.2.2)),(v1.getD v9.toNat []),())) λy14 =>
   bif aF 1 v2.length then aC (nW (y14.1,(v2.getD 1 []),())) λy15 =>
   bif y15.1 then
    bif eqI (v2.length:Int) 2 then
     bif aF v9 v1.length then some (.inr (.inl ([v8,(v1.getD v9.toNat [])],true,()))) else none
    else aC (nH (v1,v2,(v3.1,(v3.2.1,v3.2.2)),v8,v9,0,())) λz16 =>
    mY z16 (λa17=>some (.inr (.inl (a17.1,a17.2.1,())))) λb18 =>
    some (.inl (b18.1,b18.2.1,(b18.2.2.1.1,(b18.2.2.1.2.1,b18.2.2.1.2.2)),b18.2.2.2.1,(aB .i64 (b18.2.2.2.2.1+1)),()))
   else some (.inl (v1,v2,(v3.1,(v3.2.1,v3.2.2)),v8,(aB .i64 (v9+1)),())) else none else none
  else some (.inr (.inr ((()))))
def sD(x:Shape.den lY):Option (cD jH):=aW j4 (2^64) x
def mG(x:aM [.agg (.prod (.list (.int .i64)) (.prod (.list (.list (.int .i64))) (.list (.list (.int .i64))))),.list (.list (.int .i64)),.list (.list (.int .i64))]):Option (aM [.list (.list (.int .i64)),.bool]):=match x with
 | (v0,v1,v2,()) =>
  bif !(ltI (v0.1.length:Int) 0) then bif !(ltI (v0.1.length:Int) (v0.1.length:Int)) then bif !(ltI 1048576 (v0.1.length:Int)) then bif eqI (v2.length:Int) 1 then
   some ([(List.replicate ((v0.1.length:Int).toNat) (0:Ty.den (.int .i64)))],true,())
  else aC (sD (v1,v2,(v0.1,(v0.2.1,v0.2.2)),(List.replicate ((v0.1.length:Int).toNat) (0:Ty.den (.int .i64))),0,())) λz19 =>
  mY z19 (λa20=>some (a20.1,a20.2.1,())) λb21 =>
  some ([],false,()) else none else none else none
def PZ:Code:=cQ f19
abbrev GC:Env:=DW [R2,UJ,PW,zF]
theorem BR:eS Tryz.prog GC:=aR ⟨C2,aB8,J6,BO,trivial⟩
def rF:Code:=iH PZ 0
def CV:Code:=iH rF 0
def ED(id:Nat):Option eE:=bif Nat.beq id 12 then some ⟨lU,lL,nH⟩ else bif Nat.beq id 5 then some ⟨lY,jH,sD⟩ else none
theorem TB:∀ x,jQ Tryz.prog GC 97 (aP f19) ED CV lU lL x=jY x:=by
 rintro⟨v1,v2,v3,v8,v9,v12,⟨⟩⟩
 kernel_rfl
theorem VC:eJ Tryz.prog 97 CV ⟨lU,lL,nH⟩:=fG BR.callee aZ.mixed _ (aQ (l:=[]) Y trivial) TB
theorem TM:∀ x,jQ Tryz.prog GC 97 (aP f19) ED rF lY jH x=j4 x:=by
 rintro⟨v1,v2,v3,v8,v9,⟨⟩⟩
 kernel_rfl
theorem XS:bB rF=[CV]:=Y
theorem U3:eJ Tryz.prog 97 rF ⟨lY,jH,sD⟩:=fG BR.callee aZ.mixed _ (aQ XS ⟨fB (i:=12) Y rfl VC,trivial⟩) TM
abbrev PU:Ent:=⟨19,[.agg (.prod (.list (.int .i64)) (.prod (.list (.list (.int .i64))) (.list (.list (.int .i64))))),.list (.list (.int .i64)),.list (.list (.int .i64))],[.list (.list (.int .i64)),.bool],mG⟩
theorem Y5:Ent.OK Tryz.prog PU:=aE3 aZ BR func19 (c:=PZ) Y (keep:=aP f19) (lt:=ED) (aQ (l:=[rF]) Y ⟨fB (i:=5) Y rfl U3,trivial⟩) (by rintro⟨v0,v1,v2,⟨⟩⟩; kernel_rfl)
abbrev eH:List (Nat×Kd):=[(1,.list (.prod (.int .i8) (.prod (.int .i8) (.prod (.int .i8) (.int .i8))))),(5,.box 45 (.prod (.int .u8) (.int .u8))),(7,.box 33 (.prod (.list (.int .i64)) (.prod (.list (.list (.int .i64))) (.list (.list (.int .i64)))))),(8,.own 39 (.list (.int .i64))),(9,.int .i64)]
abbrev gQ:List (Ex×List (Nat×Kd)):=[(.exit 0,[(5,.box 45 (.prod (.int .u8) (.int .u8))),(7,.box 33 (.prod (.list (.int .i64)) (.prod (.list (.list (.int .i64))) (.list (.list (.int .i64)))))),(8,.own 39 (.list (.int .i64)))])]
def fO(x:Shape.den eH):Option (Shape.den eH⊕cD gQ):=match x with
 | (v1,v5,v7,v8,v9,()) =>
  bif ltI v9 (v1.length:Int) then
   bif aF v9 v1.length then aC (lR (v7.1,((v1.getD v9.toNat (0,(0,(0,0)))).1,((v1.getD v9.toNat (0,(0,(0,0)))).2.1,((v1.getD v9.toNat (0,(0,(0,0)))).2.2.1,(v1.getD v9.toNat (0,(0,(0,0)))).2.2.2))),())) λy7 =>
   bif Nat.ble [y7.1].length 1048576 then bif Nat.ble v8.length 1048576 then some (.inl (v1,(v5.1,v5.2),(v7.1,(v7.2.1,v7.2.2)),(v8++[y7.1]),(aB .i64 (v9+1)),())) else none else none else none
  else some (.inr (((v5.1,v5.2),(v7.1,(v7.2.1,v7.2.2)),v8,())))
def jU(x:Shape.den eH):Option (cD gQ):=aW fO (2^64) x
abbrev eG:List (Nat×Kd):=[(5,.box 45 (.prod (.int .u8) (.int .u8))),(7,.box 33 (.prod (.list (.int .i64)) (.prod (.list (.list (.int .i64))) (.list (.list (.int .i64)))))),(8,.list (.list (.int .i64))),(10,.list (.list (.int .i64))),(11,.list (.list (.int .i64))),(12,.int .i64)]
abbrev gR:List (Ex×List (Nat×Kd)):=[(.ret,[(6,.bool)]),(.exit 2,[(7,.box 33 (.prod (.list (.int .i64)) (.prod (.list (.list (.int .i64))) (.list (.list (.int .i64)))))),(8,.list (.list (.int .i64))),(10,.list (.list (.int .i64))),(11,.list (.list (.int .i64)))])]
def bA(x:Shape.den eG):Option (Shape.den eG⊕cD gR):=match x with
 | (v5,v7,v8,v10,v11,v12,()) =>
  bif ltI v12 2 then
   bif eqI v12 0 then
    bif eqI (v10.length:Int) 0 then none else bif aF ((IntKind.wrap .i64 v5.1).tmod (v10.length:Int)) v10.length then aC (dD ((v7.1,(v7.2.1,v7.2.2)),(v10.getD (((IntKind.wrap .i64 v5.1).tmod (v10.length:Int)).toNat) []),())) λy14 =>
    bif !(eqI y14.2.1 0) then
     some (.inr (.inl (true,())))
    else aC (iW (v11,y14.1,())) λy15 =>
    some (.inl ((v5.1,v5.2),(v7.1,(v7.2.1,v7.2.2)),v8,v10,y15.1,(aB .i64 (v12+1)),())) else none
   else bif eqI v12 1 then bif eqI (v10.length:Int) 0 then none else bif aF ((IntKind.wrap .i64 v5.2).tmod (v10.length:Int)) v10.length then aC (dD ((v7.1,(v7.2.1,v7.2.2)),(v10.getD (((IntKind.wrap .i64 v5.2).tmod (v10.length:Int)).toNat) []),())) λy16 =>
   bif !(eqI y16.2.1 0) then
    some (.inr (.inl (true,())))
   else aC (iW (v11,y16.1,())) λy17 =>
   some (.inl ((v5.1,v5.2),(v7.1,(v7.2.1,v7.2.2)),v8,v10,y17.1,(aB .i64 (v12+1)),())) else none else none
  else some (.inr (.inr (((v7.1,(v7.2.1,v7.2.2)),v8,v10,v11,()))))
def fN(x:Shape.den eG):Option (cD gR):=aW bA (2^64) x
def dY(x:aM [.agg (.prod (.int .u8) (.prod (.list (.prod (.int .i8) (.prod (.int .i8) (.prod (.int .i8) (.int .i8))))) .bool)),.list (.prod (.int .i8) (.prod (.int .i8) (.prod (.int .i8) (.int .i8)))),.agg (.prod (.int .u8) (.int .u8))]):Option (aM [.bool]):=match x with
 | (v0,v1,v2,()) =>
  aC (fL (())) λy1 =>
  bif y1.1 then
   aC (BV ((v0.1,(v0.2.1,v0.2.2)),())) λy2 =>
   bif y2.1 then
    bif ltI 5 (v1.length:Int) then
     aC (fL (())) λy3 =>
     some (y3.1,())
    else bif eqI (v1.length:Int) 0 then
     aC (fL (())) λy4 =>
     some (y4.1,())
    else aC (B2 ((v0.1,(v0.2.1,v0.2.2)),())) λy5 =>
    aC (jU (v1,(v2.1,v2.2),(y5.1.1,(y5.1.2.1,y5.1.2.2)),[],0,())) λz8 =>
    aC (wD (z8.2.2.1,())) λy9 =>
    bif eqI (y9.1.length:Int) 0 then
     some (true,())
    else bif !(ltI (z8.2.1.2.2.length:Int) 0) then bif !(ltI (z8.2.1.2.2.length:Int) (z8.2.1.2.2.length:Int)) then bif !(ltI 1048576 (z8.2.1.2.2.length:Int)) then aC (fN ((z8.1.1,z8.1.2),(z8.2.1.1,(z8.2.1.2.1,z8.2.1.2.2)),z8.2.2.1,y9.1,[(List.replicate ((z8.2.1.2.2.length:Int).toNat) (0:Ty.den (.int .i64)))],0,())) λz18 =>
    mY z18 (λa19=>some (a19.1,())) λb20 =>
    aC (B5 ((b20.1.2.2.length:Int),b20.2.2.2.1,())) λy21 =>
    bif !(eqI y21.2.1 0) then
     some (false,())
    else aC (vD ((b20.1.1,(b20.1.2.1,b20.1.2.2)),b20.2.1,y21.1,())) λy22 =>
    aC (mG ((b20.1.1,(b20.1.2.1,b20.1.2.2)),b20.2.2.1,y21.1,())) λy23 =>
    aC (vE (y22.1,y23.1,())) λy24 =>
    bif y24.1 then
     bif y22.2.1 then
      bif y23.2.1 then
       some (eqI y22.2.2.1 0,())
      else some (false,())
     else bif y23.2.1 then
      some (false,())
     else some (eqI y22.2.2.1 0,())
    else some (false,()) else none else none else none
   else aC (fL (())) λy25 =>
   some (y25.1,())
  else aC (fL (())) λy26 =>
  some (y26.1,())
def tY:Code:=cQ f4
abbrev tR:Env:=DW [W7,RC,JW,RI,RL,LA,PU,NG,PY,RG,zF]
theorem qT:eS Tryz.prog tR:=aR ⟨aC7,Z1,F9,ZT,ZQ,VX,Y5,I7,XW,K7,BO,trivial⟩
def rS:Code:=iH tY 0
def rI:Code:=iH tY 1
def sN(id:Nat):Option eE:=bif Nat.beq id 6 then some ⟨eH,gQ,jU⟩ else bif Nat.beq id 14 then some ⟨eG,gR,fN⟩ else none
theorem IC:∀ x,jQ Tryz.prog tR 129 (aP f4) sN rS eH gQ x=fO x:=by
 rintro⟨v1,v5,v7,v8,v9,⟨⟩⟩
 kernel_rfl
theorem JQ:eJ Tryz.prog 129 rS ⟨eH,gQ,jU⟩:=fG qT.callee aZ.mixed _ (aQ (l:=[]) Y trivial) IC
theorem H8:∀ x,jQ Tryz.prog tR 129 (aP f4) sN rI eG gR x=bA x:=by
 rintro⟨v5,v7,v8,v10,v11,v12,⟨⟩⟩
 kernel_rfl
theorem JK:eJ Tryz.prog 129 rI ⟨eG,gR,fN⟩:=fG qT.callee aZ.mixed _ (aQ (l:=[]) Y trivial) H8
theorem OM:ZR Tryz.prog 4 [.agg (.prod (.int .u8) (.prod (.list (.prod (.int .i8) (.prod (.int .i8) (.prod (.int .i8) (.int .i8))))) .bool)),.list (.prod (.int .i8) (.prod (.int .i8) (.prod (.int .i8) (.int .i8)))),.agg (.prod (.int .u8) (.int .u8))] [.bool] dY:=aE3 aZ qT func4 (c:=tY) Y (keep:=aP f4) (lt:=sN) (aQ (l:=[rS,rI]) Y ⟨fB (i:=6) Y rfl JQ,fB (i:=14) Y rfl JK,trivial⟩) (by rintro⟨v0,v1,v2,⟨⟩⟩; kernel_rfl)
end Go.PM
namespace Go.PM
open Go Go.RowKit Go.Proofs Go.Lz
set_option maxHeartbeats 4000000
theorem aNZ {τ:Type}(h:List Int->Option τ)(l:List (List Int)):(List.range l.length).findSome? (λi=>h (l.getD i []))=l.findSome? h:=by
 have e:(List.range l.length).map (λi=>l.getD i [])=l:=by
  apply List.ext_getElem ze;intro i h1 h2;simp[List.getD,h2]
 conv=>rhs; rw[<- e]
 rw[List.findSome?_map];rfl
theorem aJO {one:List Int->Option (Option aPO)}{g:List Int->Option (List (List Int))}:∀ {l:List (List Int)},(∀ x∈l,one x=some ((g x).map λo=>(o,true,())))->aB1 one l=some (match l.findSome? g with|some o=>(o,true,())|none=>([],false,()))
 | [],_=>rfl
 | x::l,h=>by
  have hx:=h x List.mem_cons_self;simp only[aB1,hx,aD,List.findSome?_cons];cases g x with
  | some o=>rfl
  | none=>exact aJO λy hy=>h y (List.mem_cons_of_mem _ hy)
theorem a01 {cl notes:List (List Int)}{x:List Int}:aV5 cl notes x=true↔∀ i,i<notes.length->dM x (notes.getD i [])∈cl:=by
 unfold aV5;rw[Option.isNone_iff_eq_none,List.find?_eq_none];simp only[List.mem_range,decide_eq_true_eq,Decidable.not_not]
def SmC(n:Nat) (cl:List (List Int)):Prop:=cl.length<=100/\SI cl/\∀ x∈cl,x.length=n/\0<n/\∀ a∈x,a.natAbs<=9
theorem SmC.rw {n cl}(h:SmC n cl):RwC n cl:=⟨h.1,h.2.1,λx hx=>⟨(h.2.2 x hx).1,(h.2.2 x hx).2.1,λa ha=>by have:=(h.2.2 x hx).2.2 a ha; omega⟩⟩
section
variable {ps:List Int} {n d r:Nat} {C K:Nat->V}
theorem aRT(hn:n<=4)(hk:Big r n K 960000){x:List Int}(hl:x.length=n)(hx:∀ a∈x,a.natAbs<=9):∀ i,i<r->(dot n (kG x) (K i)).natAbs<=34560000:=by
 intro i hi;have:=aSK (n:=n) (a:=kG x) (b:=K i) (E:=9) (F:=960000) (λj hj=>by
  unfold kG;have e:x.getD j 0=x[j]:=by simp[List.getD,show j<x.length by omega]
  rw[e]; exact hx _ (List.getElem_mem _)) (λj hj=>hk i hi j hj)
 have h2:n*(9*960000)<=4*(9*960000):=Nat.mul_le_mul_right _ hn;omega
theorem FG(h:RT ps n d r C K)(hk:Big r n K 960000){x:List Int}(hl:x.length=n)(hx:∀ a∈x,a.natAbs<=9) :
  dD ((ps,(Mr d n C,Mr r n K)),x,())=some (tmp n r K x,0,()) :=
 aRR h x hl (λa ha=>by have:=hx a ha; omega) (λi hi=>by have:=aRT h.n4 hk hl hx i hi; omega)
theorem aCS(x:List Int):(tmp n r K x).length=r:=by unfold tmp; rw[IP]
def g2(n r:Nat) (K:Nat->V) (cl c:List (List Int)) (x y:List Int):Option (List (List Int)):=if tmp n r K y=c.getD 2 []/\dM y x∈cl then some [List.replicate n 0,x,y] else none
def g1(n r:Nat)(K:Nat->V)(cl c:List (List Int))(x:List Int):Option (List (List Int)):=if tmp n r K x=c.getD 1 [] then (if c.length=2 then some [List.replicate n 0,x] else cl.findSome? (g2 n r K cl c x)) else none
theorem aZR {m:Nat}{notes c cl:List (List Int)}{t:TmJ.den}{cs:List PV}(h:notes.length=c.length):juF gJ m notes c cl t cs=some (notes,true,()):=by
 have e:eqI (notes.length:Int) (c.length:Int)=true:=by rw[bP]; exact oT Z
 cases m with
 | zero=>rw[juF,e]; rfl
 | succ m=>rw[juF,e]; rfl
theorem a1O {m:Nat}{notes c cl:List (List Int)}{t:TmJ.den}(h:¬ notes.length=c.length)(hcl:cl.length<=100):juF gJ (m+1) notes c cl t (OX c cl t (m+1))=aB1 (aQA (λn=>juF gJ m n c cl t (OX c cl t m)) c cl t notes) cl:=by
 have e:eqI (notes.length:Int) (c.length:Int)=false:=by rw[bP]; exact oF Z
 have e5:Nat.ble cl.length 1048576=true:=by rw[cT]; exact oT Z
 rw[bCN,e,oD,e5,oC]
theorem aKQ(hn:n<=4){x:List Int}(hl:x.length=n)(hx:∀ a∈x,a.natAbs<=9):dM x (List.replicate n 0)=x:=aMZ Z λv hv=>by
 have:=hx v hv;unfold okE; omega
theorem ju2(h:RT ps n d r C K)(hk:Big r n K 960000){cl c:List (List Int)}(hcl:SmC n cl)(h3:c.length=3){x:List Int}(hx:x∈cl)(m:Nat) :
  juF gJ (m+1) [List.replicate n 0,x] c cl (ps,(Mr d n C,Mr r n K)) (OX c cl (ps,(Mr d n C,Mr r n K)) (m+1))=some (match cl.findSome? (g2 n r K cl c x)with|some o=>(o,true,())|none=>([],false,())):=by
 rw[a1O (by simp; omega) hcl.1];refine aJO λy hy=>?_
 obtain⟨hyl,hn0,hys⟩:=hcl.2.2 y hy;have hxl:=(hcl.2.2 x hx).1;rw[a9E h hcl.rw (by simp; omega) Z ze (λz hz=>by
  simp only[List.mem_cons,List.not_mem_nil,or_false]at hz;rcases hz with rfl|rfl
  ·simp
  ·exact hxl) hy]
 have ht:trJ (ps,(Mr d n C,Mr r n K)) y=(tmp n r K y,0):=by unfold trJ; rw[FG h hk hyl hys]
 rw[ht];have hf:aV5 cl [List.replicate n 0,x] y=true↔dM y x∈cl:=by
  rw[a01];constructor
  ·intro g; exact g 1 ze
  ·intro g i hi;rcases(show i=0\/i=1 by simp at hi; omega)with rfl|rfl
   ·show dM y (List.replicate n 0)∈cl;rw[aKQ h.n4 hyl hys]; exact hy
   ·exact g
 have hlen:([List.replicate n 0,x]:List (List Int)).length=2:=rfl;unfold g2;rw[hlen]
 by_cases hc:tmp n r K y=c.getD 2 []/\dM y x∈cl
 ·rw[if_pos ⟨rfl,hc.1,hf.2 hc.2⟩,if_pos hc,aZR (by simp; omega),aD];rfl
 ·rw[if_neg (λq=>hc ⟨q.2.1,hf.1 q.2.2⟩),if_neg hc];rfl
theorem ju1(h:RT ps n d r C K)(hk:Big r n K 960000){cl c:List (List Int)}(hcl:SmC n cl)(h3:c.length=2\/c.length=3)(m:Nat) :
  juF gJ (m+2) [List.replicate n 0] c cl (ps,(Mr d n C,Mr r n K)) (OX c cl (ps,(Mr d n C,Mr r n K)) (m+2))=some (match cl.findSome? (g1 n r K cl c)with|some o=>(o,true,())|none=>([],false,())):=by
 rw[a1O (by simp; omega) hcl.1];refine aJO λx hx=>?_
 obtain⟨hxl,hn0,hxs⟩:=hcl.2.2 x hx;rw[a9E h hcl.rw (by simp; omega) Z ze (λz hz=>by rw[List.mem_singleton.1 hz]; simp) hx];have ht:trJ (ps,(Mr d n C,Mr r n K)) x=(tmp n r K x,0):=by unfold trJ; rw[FG h hk hxl hxs]
 rw[ht];have hf:aV5 cl [List.replicate n 0] x=true:=by
  rw[a01];intro i hi;obtain rfl:i=0:=by simp at hi; omega
  show dM x (List.replicate n 0)∈cl;rw[aKQ h.n4 hxl hxs]; exact hx
 have hlen:([List.replicate n 0]:List (List Int)).length=1:=rfl;unfold g1;rw[hlen]
 by_cases hc:tmp n r K x=c.getD 1 []
 ·rw[if_pos ⟨rfl,hc,hf⟩,if_pos hc];show aC (juF gJ (m+1) [List.replicate n 0,x] c cl _ _) _=_
  by_cases h2:c.length=2
  ·rw[if_pos h2,aZR (by simp; omega),aD]; rfl
  ·rw[if_neg h2,ju2 h hk hcl Z hx m,aD];cases cl.findSome? (g2 n r K cl c x)with
   | some o=>rfl
   | none=>rfl
 ·rw[if_neg (λq=>hc q.2.1),if_neg hc]; rfl
theorem bEU(h:RT ps n d r C K) (hk:Big r n K 960000) {cl c:List (List Int)} (hcl:SmC n cl) (h3:c.length=3) {i:Nat} (hi:i<cl.length) :
  nH (cl,c,(ps,(Mr d n C,Mr r n K)),List.replicate n 0,(i:Int),0,())=some (match cl.findSome? (g2 n r K cl c (cl.getD i []))with|some o=>.inl (o,true,())|none=>.inr (cl,c,(ps,(Mr d n C,Mr r n K)),List.replicate n 0,(i:Int),())):=by
 have n4:=h.n4;have hR:Rws 1000 cl:=λz hz=>by have:=(hcl.2.2 z hz).1; omega
 have hxm:cl.getD i []∈cl:=eV hi;have hx:=hcl.2.2 _ hxm;have key:=qI (N:=2^64) (step:=jY) (λk=>(cl,c,(ps,(Mr d n C,Mr r n K)),List.replicate n 0,(i:Int),(k:Int),()))
  (λk=>(g2 n r K cl c (cl.getD i []) (cl.getD k [])).map λo=>.inl (o,true,())) cl.length (.inr (cl,c,(ps,(Mr d n C,Mr r n K)),List.replicate n 0,(i:Int),())) (by have:=hcl.1; omega) ?_ ?_
 ·unfold nH;have key:aW jY (2^64) (cl,c,(ps,(Mr d n C,Mr r n K)),List.replicate n 0,(i:Int),0,())=_:=key;rw[key,aNZ (λy=>(g2 n r K cl c (cl.getD i []) y).map λo=>Sum.inl (o,true,()))];have e:∀ l:List (List Int),l.findSome? (λy=>(g2 n r K cl c (cl.getD i []) y).map λo=>(Sum.inl (o,true,()):cD lL))=(l.findSome? (g2 n r K cl c (cl.getD i []))).map λo=>Sum.inl (o,true,()):=by
   intro l
   induction l with
   | nil=>rfl
   | cons y l ih =>
    rw[List.findSome?_cons,List.findSome?_cons];cases g2 n r K cl c (cl.getD i []) y with
    | some o=>rfl
    | none=>exact ih
  rw[e];cases cl.findSome? (g2 n r K cl c (cl.getD i []))with
  | some o=>rfl
  | none=>rfl
 ·intro k hkl;have hym:cl.getD k []∈cl:=eV hkl;have hy:=hcl.2.2 _ hym;have t1:=FG h hk hy.1 hy.2.2;have t2:=wF (tmp n r K (cl.getD k [])) (c.getD 2 []) (by rw[aCS]; have:=(Hn.FI h.hk.choose_spec h.wk).1; omega);have t3:=KI (a:=cl.getD k []) (b:=cl.getD i []) Z Z;have t4:=aBU (l:=cl) (x:=dM (cl.getD k []) (cl.getD i [])) (by have:=hcl.1; omega) hR;have e1:ltI (k:Int) (cl.length:Int)=true:=by rw[aE]; exact oT Z
  have e2:aF (k:Int) cl.length=true:=by rw[aK]; exact oT Z
  have e3:aF (i:Int) cl.length=true:=by rw[aK]; exact oT Z
  have e4:aF 2 c.length=true:=by rw[aK]; exact oT Z
  have e5:=bC k (by have:=hcl.1; omega);simp only[jY,e1,e2,e3,e4,e5,oN,oC,t1,t2,t3,t4,aD];unfold g2
  by_cases q1:tmp n r K (cl.getD k [])=c.getD 2 []
  ·by_cases q2:dM (cl.getD k []) (cl.getD i [])∈cl
   ·rw[oT q1,oT q2,if_pos ⟨q1,q2⟩]; rfl
   ·rw[oT q1,oF q2,if_neg (λq=>q2 q.2)]; rfl
  ·rw[oF q1,if_neg (λq=>q1 q.1)]; rfl
 ·have e1:ltI (cl.length:Int) (cl.length:Int)=false:=by rw[aE]; exact oF Z
  simp only[jY,e1,oD]
theorem bDK(h:RT ps n d r C K)(hk:Big r n K 960000){cl c:List (List Int)}(hcl:SmC n cl)(h3:c.length=2\/c.length=3) :
  mG ((ps,(Mr d n C,Mr r n K)),cl,c,())=some (match cl.findSome? (g1 n r K cl c)with|some o=>(o,true,())|none=>([],false,())):=by
 have n4:=h.n4;have key:=qI (N:=2^64) (step:=j4) (λk=>(cl,c,(ps,(Mr d n C,Mr r n K)),List.replicate n 0,(k:Int),()))
  (λk=>(g1 n r K cl c (cl.getD k [])).map λo=>.inl (o,true,())) cl.length (.inr ()) (by have:=hcl.1; omega) ?_ ?_
 ·have key:aW j4 (2^64) (cl,c,(ps,(Mr d n C,Mr r n K)),List.replicate n 0,0,())=_:=key;rw[aNZ (λy=>(g1 n r K cl c y).map λo=>(Sum.inl (o,true,()):cD jH))]at key;have e:∀ l:List (List Int),l.findSome? (λy=>(g1 n r K cl c y).map λo=>(Sum.inl (o,true,()):cD jH))=(l.findSome? (g1 n r K cl c)).map λo=>Sum.inl (o,true,()):=by
   intro l
   induction l with
   | nil=>rfl
   | cons y l ih =>
    rw[List.findSome?_cons,List.findSome?_cons];cases g1 n r K cl c y with
    | some o=>rfl
    | none=>exact ih
  rw[e]at key;have f0:(ps.length:Int)=(n:Int):=by rw[h.len]
  have f1:ltI (n:Int) 0=false:=by rw[aE]; exact oF Z
  have f2:ltI (n:Int) (n:Int)=false:=by rw[aE]; exact oF Z
  have f3:ltI 1048576 (n:Int)=false:=by rw[aE]; exact oF Z
  have f4:eqI (c.length:Int) 1=false:=by rw[bP]; exact oF Z
  simp only[mG,sD,f0,f1,f2,f3,f4,oN,oC,oD,Bool.not_false];rw[key,aD];cases cl.findSome? (g1 n r K cl c)with
  | some o=>rfl
  | none=>rfl
 ·intro k hkl;have hxm:cl.getD k []∈cl:=eV hkl;have hx:=hcl.2.2 _ hxm;have t1:=FG h hk hx.1 hx.2.2;have t2:=wF (tmp n r K (cl.getD k [])) (c.getD 1 []) (by rw[aCS]; have:=(Hn.FI h.hk.choose_spec h.wk).1; omega);have e1:ltI (k:Int) (cl.length:Int)=true:=by rw[aE]; exact oT Z
  have e2:aF (k:Int) cl.length=true:=by rw[aK]; exact oT Z
  have e4:aF 1 c.length=true:=by rw[aK]; exact oT Z
  have e5:=bC k (by have:=hcl.1; omega);simp only[j4,e1,e2,e4,e5,oN,oC,t1,t2,aD];unfold g1
  by_cases q1:tmp n r K (cl.getD k [])=c.getD 1 []
  ·rw[oT q1,if_pos q1,oC]
   by_cases q2:c.length=2
   ·have e6:eqI (c.length:Int) 2=true:=by rw[bP]; exact oT Z
    rw[e6,if_pos q2]; rfl
   ·have e6:eqI (c.length:Int) 2=false:=by rw[bP]; exact oF Z
    rw[e6,if_neg q2,oD,bEU h hk hcl Z hkl,aD];cases cl.findSome? (g2 n r K cl c (cl.getD k []))with
    | some o=>rfl
    | none=>simp only[lM,e5,Option.map_none]
  ·rw[oF q1,if_neg q1]; rfl
 ·have e1:ltI (cl.length:Int) (cl.length:Int)=false:=by rw[aE]; exact oF Z
  simp only[j4,e1,oD]
end
end Go.PM
namespace Go.PM
open Go Go.RowKit Go.Proofs Go.Lz
set_option maxHeartbeats 4000000
theorem a74 {x:List Int}(hx:∀ a∈x,a.natAbs<=9):∀ a∈neg x,a.natAbs<=9:=by
 intro a ha;unfold neg dM at ha;obtain⟨i,hi,rfl⟩:=List.mem_map.1 ha;have hi:=List.mem_range.1 hi;rw[List.length_replicate]at hi;have e:x.getD i 0=x[i]:=by simp[List.getD,hi]
 have:=hx _ (List.getElem_mem hi);have e2:(List.replicate x.length (0:Int)).getD i 0=0:=by simp[List.getD,hi]
 rw[e,e2,wrap64 Z Z];omega
theorem aZE {n:Nat} (hn:n<=4) {l:List (List Int)} (h5:l.length<=5) (hl:∀ x∈l,x.length=n/\∀ a∈x,a.natAbs<=9):aIF (n:Int) l=0/\SmC n (pU [] l):=by
 have hC:W8 (n:Int) l=0:=a07 Z λy hy=>⟨a8W (by have:=(hl y hy).1; omega) (λa ha=>by have:=(hl y hy).2 a ha; omega),by have:=(hl y hy).1; omega⟩
 have hlen:=YD l [];simp only[List.length_nil]at hlen;have hD:aIF (n:Int) l=0:=by
  unfold aIF;rw[if_neg (not_not_intro hC),if_neg Z]
 refine⟨hD,by omega,aHH l (by simp[SI]),λx hx=>?_⟩;have hr:=(bBU hn hD).2.2 x hx;refine⟨hr.1,hr.2.1,?_⟩;rcases(WL x l []).1 hx with hx|hx
 ·simp at hx
 ·unfold NL at hx;obtain⟨y,hy,hxy⟩:=List.mem_flatMap.1 hx;have g:=(hl y hy).2;cases hz:isZ y with
  | true=>rw[hz]at hxy; simp at hxy
  | false =>
   rw[hz]at hxy;simp only[Bool.false_eq_true,if_false,List.mem_cons,List.not_mem_nil,or_false]at hxy;rcases hxy with rfl|rfl
   ·exact g
   ·exact a74 g
theorem aXY {r:Nat}(hr:r<=4){u v:List Int}(m1:u.length=r/\∀ a∈u,a.natAbs<=34560000)(m2:v.length=r/\∀ a∈v,a.natAbs<=34560000):rc (dM u v)=0:=by
 refine a8W (by rw[HC]; omega) λa ha=>?_
 unfold dM at ha;obtain⟨j,hj,rfl⟩:=List.mem_map.1 ha;have hj:=List.mem_range.1 hj;have hv:j<v.length:=Z
 have e1:u.getD j 0=u[j]:=by simp[List.getD,hj]
 have e2:v.getD j 0=v[j]:=by simp[List.getD,hv]
 have b1:=m1.2 _ (List.getElem_mem hj);have b2:=m2.2 _ (List.getElem_mem hv);rw[e1,e2,wrap64 Z Z];omega
theorem aZM {r:Nat} (hr:r<=4) {T:List (List Int)} (h0:0<T.length) (h3:T.length<=3) (hT:∀ y∈T,y.length=r/\∀ a∈y,a.natAbs<=34560000):aX3 (r:Int) T=0:=by
 have hC:W8 (r:Int) T=0:=a07 Z λy hy=>⟨a8W (by have:=(hT y hy).1; omega) (λa ha=>by have:=(hT y hy).2 a ha; omega),by have:=(hT y hy).1; omega⟩
 have hlen:=aAU T;unfold aX3;rw[if_neg (not_not_intro hC),if_neg Z,if_neg Z,if_pos];intro i hi;have m1:=hT _ ((V8 T _).1 (eV hi));have m2:=hT _ ((V8 T _).1 (eV (l:=K4 T) (i:=0) Z));exact aXY hr m1 m2
section
variable {ps:List Int} {n d r:Nat} {C K:Nat->V}
theorem bDW(h:RT ps n d r C K){cl c:List (List Int)}(h1:c.length=1):mG ((ps,(Mr d n C,Mr r n K)),cl,c,())=some ([List.replicate n 0],true,()):=by
 have n4:=h.n4;have f0:(ps.length:Int)=(n:Int):=by rw[h.len]
 have f1:ltI (n:Int) 0=false:=by rw[aE]; exact oF Z
 have f2:ltI (n:Int) (n:Int)=false:=by rw[aE]; exact oF Z
 have f3:ltI 1048576 (n:Int)=false:=by rw[aE]; exact oF Z
 have f4:eqI (c.length:Int) 1=true:=by rw[bP]; exact oT Z
 simp only[mG,f0,f1,f2,f3,f4,oN,oC,Bool.not_false]
theorem both(h:RT ps n d r C K) (hk:Big r n K 960000) {cl c:List (List Int)} (hcl:SmC n cl) (h0:0<c.length) (h3:c.length<=3) :
  ∃ o b,juF gJ 7 [List.replicate n 0] c cl (ps,(Mr d n C,Mr r n K)) (OX c cl (ps,(Mr d n C,Mr r n K)) 7)=some (o,b,())/\mG ((ps,(Mr d n C,Mr r n K)),cl,c,())=some (o,b,())/\o.length<=3/\Rws 1000 o:=by
 have n4:=h.n4;have hz:Rws 1000 [List.replicate n (0:Int)]:=λy hy=>by rw[List.mem_singleton.1 hy,List.length_replicate]; omega
 by_cases h1:c.length=1
 ·exact⟨_,_,aZR (by simp[h1]),bDW h h1,by simp,hz⟩
 ·have h23:c.length=2\/c.length=3:=Z
  have a1:=ju1 h hk hcl h23 5;have a2:=bDK h hk hcl h23;cases hf:cl.findSome? (g1 n r K cl c)with
  | none =>
   rw[hf]at a1 a2;exact⟨_,_,a1,a2,by simp,λy hy=>by simp at hy⟩
  | some o =>
   rw[hf]at a1 a2;refine⟨_,_,a1,a2,?_⟩;obtain⟨x,hx,hg⟩:=List.exists_of_findSome?_eq_some hf;have hxl:=(hcl.2.2 x hx).1;unfold g1 at hg;split at hg
   ·split at hg
    ·obtain rfl:=oB hg;refine⟨by simp,λy hy=>?_⟩;simp only[List.mem_cons,List.not_mem_nil,or_false]at hy;rcases hy with rfl|rfl
     ·simp; omega
     ·omega
    ·obtain⟨y,hy,hg⟩:=List.exists_of_findSome?_eq_some hg;have hyl:=(hcl.2.2 y hy).1;unfold g2 at hg;split at hg
     ·obtain rfl:=oB hg;refine⟨by simp,λz hz=>?_⟩;simp only[List.mem_cons,List.not_mem_nil,or_false]at hz;rcases hz with rfl|rfl|rfl
      ·simp; omega
      ·omega
      ·omega
     ·cases hg
   ·cases hg
def ivJ(n:Nat) (t:Int×Int×Int×Int):List Int:=(List.range n).map λi=>(KW t i).tmod 10
theorem bEO(n:Nat)(t:Int×Int×Int×Int):(ivJ n t).length=n/\∀ a∈ivJ n t,a.natAbs<=9:=by
 refine⟨by simp[ivJ],λa ha=>?_⟩;obtain⟨i,_,rfl⟩:=List.mem_map.1 ha;have h1:=Int.tmod_lt_of_pos (KW t i) (b:=10) Z;have h2:=Int.lt_tmod_of_pos (KW t i) (b:=10) Z;omega
theorem aYC(h:RT ps n d r C K){l:List (Int×Int×Int×Int)}(h5:l.length<=5)(hl:∀ t∈l,I8 t)(pk:Int×Int) :
  jU (l,(pk.1,pk.2),(ps,(Mr d n C,Mr r n K)),[],0,())=some ((pk.1,pk.2),(ps,(Mr d n C,Mr r n K)),l.map (ivJ n),()):=by
 have n4:=h.n4;refine bH (N:=2^64) (step:=fO) (λi=>(l,(pk.1,pk.2),(ps,(Mr d n C,Mr r n K)),(l.take i).map (ivJ n),(i:Int),())) l.length _ Z ?_ ?_
 ·intro i hi;have e1:ltI (i:Int) (l.length:Int)=true:=by rw[aE]; exact oT Z
  have e2:aF (i:Int) l.length=true:=by rw[aK]; exact oT Z
  have e3:l.getD i (0,(0,(0,0)))=l[i]:=by simp[List.getD,hi]
  have hm:=hl _ (List.getElem_mem hi);have t1:=aKC ps (by rw[h.len]; omega) l[i] hm;rw[h.len]at t1;have t1:lR (ps,(l[i].1,(l[i].2.1,(l[i].2.2.1,l[i].2.2.2))),())=some (ivJ n l[i],()):=t1;have e4:Nat.ble ((l.take i).map (ivJ n)).length 1048576=true:=by rw[cT]; exact oT (by simp; omega)
  have e5:∀ y:List Int,Nat.ble [y].length 1048576=true:=λ_=>rfl
  have e6:=bC i Z;have e7:(l.take (i+1)).map (ivJ n)=(l.take i).map (ivJ n)++[ivJ n l[i]]:=by rw[List.take_succ_eq_append_getElem hi,List.map_append]; rfl
  simp only[fO,e1,e2,oN,e3,t1,e4,e5,e6,e7,aD,oC]
 ·have e1:ltI (l.length:Int) (l.length:Int)=false:=by rw[aE]; exact oF Z
  simp only[fO,e1,oD,List.take_length]
theorem aZ9(h:RT ps n d r C K)(hk:Big r n K 960000){all js:List (List Int)}(hcl:SmC n all)(h0:0<all.length)(pk:Int×Int)(hpk:(0<=pk.1/\pk.1<256)/\(0<=pk.2/\pk.2<256)) :
  ∃ T:List (List Int),0<T.length/\T.length<=3/\(∀ y∈T,y.length=r/\∀ a∈y,a.natAbs<=34560000) /\
   fN ((pk.1,pk.2),(ps,(Mr d n C,Mr r n K)),js,all,[List.replicate r 0],0,())=some (.inr ((ps,(Mr d n C,Mr r n K)),js,all,T,())):=by
 have n4:=h.n4;have r4:=(Hn.FI h.hk.choose_spec h.wk).1;have h100:=hcl.1;have ind:∀ k:Int,0<=k->k<256->IntKind.wrap .i64 k=k/\0<=k.tmod (all.length:Int)/\k.tmod (all.length:Int)<(all.length:Int):=λk g1 g2 =>
  ⟨TZ Z Z,Int.tmod_nonneg _ g1,Int.tmod_lt_of_pos _ Z⟩
 obtain⟨a1,a2,a3⟩:=ind pk.1 hpk.1.1 hpk.1.2;obtain⟨b1,b2,b3⟩:=ind pk.2 hpk.2.1 hpk.2.2;have row:∀ k:Int,0<=k.tmod (all.length:Int)->k.tmod (all.length:Int)<(all.length:Int)->all.getD (k.tmod (all.length:Int)).toNat []∈all:=λk g1 g2=>eV Z
 have m1:=row pk.1 a2 a3;have m2:=row pk.2 b2 b3;generalize hx1:all.getD (pk.1.tmod (all.length:Int)).toNat []=x1 at m1;generalize hx2:all.getD (pk.2.tmod (all.length:Int)).toNat []=x2 at m2;have q1:=hcl.2.2 x1 m1;have q2:=hcl.2.2 x2 m2;have t1:=FG h hk q1.1 q1.2.2;have t2:=FG h hk q2.1 q2.2.2;have big:∀ x:List Int,x.length=n->(∀ a∈x,a.natAbs<=9)->∀ a∈tmp n r K x,a.natAbs<=34560000:=λx g1 g2=>aZJ (aRT n4 hk g1 g2)
 have hz:∀ y∈[List.replicate r (0:Int)],y.length=r/\∀ a∈y,a.natAbs<=34560000:=λy hy=>by
  rw[List.mem_singleton.1 hy];exact⟨List.length_replicate,λa ha=>by rw[List.eq_of_mem_replicate ha]; decide⟩
 have hT1:∀ y∈CL (tmp n r K x1) [List.replicate r 0],y.length=r/\∀ a∈y,a.natAbs<=34560000:=λy hy=>by
  rcases(KQ _ _ _).1 hy with rfl|hy
  ·exact⟨aCS x1,big x1 q1.1 q1.2.2⟩
  ·exact hz y hy
 have hT2:∀ y∈CL (tmp n r K x2) (CL (tmp n r K x1) [List.replicate r 0]),y.length=r/\∀ a∈y,a.natAbs<=34560000:=λy hy=>by
  rcases(KQ _ _ _).1 hy with rfl|hy
  ·exact⟨aCS x2,big x2 q2.1 q2.2.2⟩
  ·exact hT1 y hy
 have l1:=EO (tmp n r K x1) [List.replicate r 0];have l2:=EO (tmp n r K x2) (CL (tmp n r K x1) [List.replicate r 0]);simp only[List.length_cons,List.length_nil]at l1;have i1:=tQ (l:=[List.replicate r 0]) (x:=tmp n r K x1) ze (λy hy=>by have:=(hz y hy).1; omega) (by rw[aCS]; omega);have i2:=tQ (l:=CL (tmp n r K x1) [List.replicate r 0]) (x:=tmp n r K x2) Z (λy hy=>by have:=(hT1 y hy).1; omega) (by rw[aCS]; omega)
 have e0:eqI 0 0=true:=O
 have e10:eqI 1 0=false:=O
 have e11:eqI 1 1=true:=O
 have z0:ltI 0 2=true:=O
 have z1:ltI 1 2=true:=O
 have z2:ltI 2 2=false:=O
 have el:eqI (all.length:Int) 0=false:=by rw[bP]; exact oF Z
 have o1:aF (pk.1.tmod (all.length:Int)) all.length=true:=by rw[aK]; exact oT ⟨a2,a3⟩
 have o2:aF (pk.2.tmod (all.length:Int)) all.length=true:=by rw[aK]; exact oT ⟨b2,b3⟩
 have w0:aB .i64 (0+1)=1:=O
 have w1:aB .i64 (1+1)=2:=O
 have s1:bA ((pk.1,pk.2),(ps,(Mr d n C,Mr r n K)),js,all,[List.replicate r 0],0,())=some (.inl ((pk.1,pk.2),(ps,(Mr d n C,Mr r n K)),js,all,CL (tmp n r K x1) [List.replicate r 0],1,())):=by simp only[bA,z0,e0,el,a1,o1,hx1,t1,i1,w0,aD,oC,oD,Bool.not_true]
 have s2:bA ((pk.1,pk.2),(ps,(Mr d n C,Mr r n K)),js,all,CL (tmp n r K x1) [List.replicate r 0],1,())=some (.inl ((pk.1,pk.2),(ps,(Mr d n C,Mr r n K)),js,all,CL (tmp n r K x2) (CL (tmp n r K x1) [List.replicate r 0]),2,())):=by simp only[bA,z1,e0,e10,e11,el,b1,o2,hx2,t2,i2,w1,aD,oC,oD,Bool.not_true]
 have s3:∀ T,bA ((pk.1,pk.2),(ps,(Mr d n C,Mr r n K)),js,all,T,2,())=some (.inr (.inr ((ps,(Mr d n C,Mr r n K)),js,all,T,()))):=λT=>by simp only[bA,z2,oD]
 refine⟨_,?_,by omega,hT2,?_⟩
 ·exact List.length_pos_of_mem ((KQ _ _ _).2 (.inl rfl))
 ·unfold fN;show aW bA (18446744073709551613+1+1+1) _=_;rw[bV,s1];show aW bA (18446744073709551613+1+1) _=_;rw[bV,s2];show aW bA (18446744073709551613+1) _=_;rw[bV,s3]
end
theorem a3A(p:Int×List (Int×Int×Int×Int)×Bool)(hp:(0<=p.1/\p.1<256)/\∀ t∈p.2.1,I8 t)(l:List (Int×Int×Int×Int))(hl:∀ t∈l,I8 t)(pk:Int×Int)(hpk:(0<=pk.1/\pk.1<256)/\(0<=pk.2/\pk.2<256)):dY (p,l,pk,())=some (true,()):=by
 obtain⟨a,b,m⟩:=p;have hf:=bDM (a,(b,m));have kn:fL (())=some (true,()):=rfl;have e0:eqI 0 0=true:=O
 by_cases c1:b.length<=3
 case neg =>
  rw[oF c1]at hf;simp only[dY,kn,hf,aD,oC,oD]
 rw[oT c1]at hf
 by_cases c2:l.length<=5
 case neg =>
  have e2:ltI 5 (l.length:Int)=true:=by rw[aE]; exact oT Z
  simp only[dY,kn,hf,e2,aD,oC]
 have e2:ltI 5 (l.length:Int)=false:=by rw[aE]; exact oF Z
 by_cases c3:l.length=0
 ·have e3:eqI (l.length:Int) 0=true:=by rw[bP]; exact oT Z
  simp only[dY,kn,hf,e2,e3,aD,oC,oD]
 have e3:eqI (l.length:Int) 0=false:=by rw[bP]; exact oF Z
 obtain⟨d,r,C,K,m1,rt,hk,_⟩:=a99 a hp.1.1 hp.1.2 b c1 hp.2 m;generalize L12.getD (a%10).toNat []=ps at m1 rt hk;generalize ps.length=n at m1 rt hk;have n4:=rt.n4;have r4:=(Hn.FI rt.hk.choose_spec rt.wk).1;have er:((Mr r n K).length:Int)=(r:Int):=by rw[tK]
 have l0:=aYC rt c2 hl pk;have hj:∀ x∈l.map (ivJ n),x.length=n/\∀ a∈x,a.natAbs<=9:=λx hx=>by
  obtain⟨t,_,rfl⟩:=List.mem_map.1 hx;exact bEO n t
 have hj5:(l.map (ivJ n)).length<=5:=by simpa using c2
 generalize l.map (ivJ n)=js at l0 hj hj5;obtain⟨hD,hcl⟩:=aZE n4 hj5 hj;have hRj:Rws 1000 js:=λy hy=>by have:=(hj y hy).1; omega
 have t6:=VY (l:=js) Z hRj
 by_cases c4:(pU [] js).length=0
 ·have e4:eqI ((pU [] js).length:Int) 0=true:=by rw[bP]; exact oT Z
  simp only[dY,kn,hf,e2,e3,m1,l0,t6,e4,aD,oC,oD]
 have e4:eqI ((pU [] js).length:Int) 0=false:=by rw[bP]; exact oF Z
 obtain⟨T,T0,T3,hT,l1⟩:=aZ9 rt hk (js:=js) hcl Z pk hpk;have hN:=aZM (oR r4 n4) T0 T3 hT;have hRT:Rws 1000 T:=λy hy=>by have:=(hT y hy).1; omega
 have t7:=Z5 (n:=(r:Int)) (l:=T) Z hRT;rw[if_pos hN]at t7;obtain⟨dm,ds,dz,d0,d6,dl⟩:=a5A hN;have dl3:=aAU T;generalize due (K4 T)=c at t7 dm ds dz d0 d6 dl;have hH:aOG (r:Int) c=0:=a3U Z dm ds dz d0 d6;have hRc:Rws 1000 c:=λy hy=>by have:=(dm y hy).2; omega
 have tj:=a8T rt (l:=js) (c:=c) Z hRj Z hRc;rw[if_neg (not_not_intro hD),if_neg (not_not_intro hH)]at tj;obtain⟨o,q,u1,u2,u3,u4⟩:=both rt hk hcl (c:=c) d0 Z;rw[u1,aD]at tj;have t8:=ZV o o Z (λy hy=>by have:=u4 y hy; omega);rw[oT rfl]at t8;have k2:ltI (r:Int) 0=false:=by rw[aE]; exact oF Z
 have k3:ltI (r:Int) (r:Int)=false:=by rw[aE]; exact oF Z
 have k4:ltI 1048576 (r:Int)=false:=by rw[aE]; exact oF Z
 simp only[dY,kn,hf,e2,e3,m1,l0,t6,e4,tK,k2,k3,k4,oN,aD,oC,oD,Bool.not_false];rw[l1];simp only[aD,lM,tK,t7,e0,Bool.not_true,oD,tj,u2,t8,oC];cases q with
 | true=>rfl
 | false=>rfl
end Go.PM
