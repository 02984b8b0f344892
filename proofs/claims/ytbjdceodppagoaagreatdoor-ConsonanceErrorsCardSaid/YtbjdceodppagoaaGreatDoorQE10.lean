/- Texts of one proof, joined (10). -/
import Derived.Shelf.Slices.CompactI
import Derived.Test.YtbjdceodppagoaaGreatDoorQE9
set_option linter.unusedSimpArgs false
set_option linter.unusedVariables false
set_option maxRecDepth 100000
noncomputable section
namespace Go.PM
open Go Go.RowKit Go.Proofs
theorem D3 {τ:Type}(p:Nat->Prop) [DecidablePred p](g:Nat->τ):∀ l:List Nat,(l.findSome? λi=>if p i then some (g i) else none)=(l.find? λi=>decide (p i)).map g
 | []=>rfl
 | i::l=>by
  rw[List.findSome?_cons,List.find?_cons]
  by_cases h:p i
  ·simp[h]
  ·simp[h,D3 p g l]
theorem M7(a b:List Int) (ha:a.length<=9223372036854775806):dL (a,b,())=some (decide (a=b),()):=by
 unfold dL;simp only[bZ,rP,aY]
 by_cases hl:a.length=b.length
 ·rw[if_neg Z];have:aX bO (2^64) (a,b,(a.length:Int),0,())=_:=vG (N:=2^64) (step:=bO) (λi=>(a,b,(a.length:Int),(i:Int),())) (λi=>if ¬ a.getD i 0=b.getD i 0 then some (.inl (false,())) else none) a.length (.inr ()) Z (by
   intro i hi;simp only[bO,aE,bZ,aK,aY,rP,oN];rw[if_pos Z,if_pos ⟨by omega,by omega⟩,if_pos ⟨by omega,by omega⟩,bI i Z]
   by_cases h:¬ a.getD i 0=b.getD i 0
   ·rw[if_pos h,if_pos h]
   ·rw[if_neg h,if_neg h]) (by
   simp only[bO,aE,aY];rw[if_neg Z])
  unfold iE;rw[this,D3 (λi=>¬ a.getD i 0=b.getD i 0),aD];cases hf:(List.range a.length).find? λi=>decide (¬ a.getD i 0=b.getD i 0)with
  | none =>
   have hall:∀ i,i<a.length->a.getD i 0=b.getD i 0:=by
    intro i hi;have:=List.find?_eq_none.1 hf i (List.mem_range.2 hi);simpa using this
   have:a=b:=by
    apply List.ext_getElem hl;intro i h1 h2;have:=hall i h1;rw[oQ,oQ,List.getElem?_eq_getElem h1,List.getElem?_eq_getElem h2]at this;exact this
   rw[oT this]; rfl
  | some i =>
   have h1:=List.find?_some hf;have:¬ a=b:=λe=>by subst e; simp at h1
   rw[oF this]; rfl
 ·rw[if_pos Z,oF];rintro rfl; exact hl rfl
theorem TL(a b:List Int)(ha:a.length<=9223372036854775806):xO (a,b,())=some (decide (a=b),()):=by
 unfold xO; dsimp only;rw[M7 a b ha,aD]
theorem aMS {σ τ:Type} {step:σ->Option (σ⊕τ)} (R:Nat->σ->Prop) (out:σ->τ) (m:Nat) (h:∀ i x,i<m->R i x->∃ y,step x=some (.inl y)/\R (i+1) y) (he:∀ x,R m x->step x=some (.inr (out x))) :
  ∀ (k j:Nat) (N:Nat) (x:σ),j+k=m->k<N->R j x->∃ y,R m y/\aX step N x=some (out y)
 | 0,j,N,x,hj,hN,hr=>by
  have:j=m:=Z
  subst this;obtain⟨N,rfl⟩:∃ n,N=n+1:=⟨N-1,by omega⟩;exact⟨x,hr,by rw[cM,he x hr]⟩
 | k+1,j,N,x,hj,hN,hr=>by
  obtain⟨N,rfl⟩:∃ n,N=n+1:=⟨N-1,by omega⟩;obtain⟨y,h1,h2⟩:=h j x Z hr;obtain⟨z,h3,h4⟩:=aMS R out m h he k (j+1) N y Z Z h2;exact⟨z,h3,by rw[cM,h1]; exact h4⟩
theorem YL(j:Nat):(!(ltI (j:Int) 0))=true:=by rw[aE,oF Z]; rfl
def aSY(l:List (List Int)):Prop:=l.length<=4611686018427387904/\∀ x∈l,x.length<=9223372036854775806
theorem sV {l:List (List Int)}{i:Nat}(h:i<l.length):l.getD i []∈l:=by rw[oQ,List.getElem?_eq_getElem h]; exact List.getElem_mem h
theorem uK {l:List (List Int)}{i:Nat}(h:i<l.length):l.toArray[i]! =l.getD i []:=by rw[getElem!_pos l.toArray i (by simpa using h),oQ,List.getElem?_eq_getElem h]; simp
theorem a0N {l:List (List Int)} (hs:aSY l) {j:Nat} (hj0:0<j) (hj:j<l.length) (hall:∀ i,i<j->Lib.keeps l.toArray i=true) (hdup:Lib.keeps l.toArray j=false) :
  ∃ (dk:List (List Int)) (kk:Nat),Lib.CompInv l.toArray l.length kk dk.toArray/\cO (l,(),(j:Int),(j,l.length-j),1,())=some (dk,(kk:Int),()):=by
 obtain⟨y,⟨dk,kk,rfl,hI⟩,hy⟩:=aMS (step:=cL) (λi x=>∃ (dk:List (List Int)) (kk:Nat),x=(dk,(),(kk:Int),(j,l.length-j),((i+1:Nat):Int),())/\Lib.CompInv l.toArray (j+1+i) kk dk.toArray)
  (λx=>(x.1,x.2.2.1,())) (l.length-j-1) (by
   rintro i x hi ⟨dk,kk,rfl,hI⟩;have hsz:dk.length=l.length:=by have:=hI.size; simpa using this
   have hlt:=hI.lt;have hm:j+(i+1)<l.length:=Z
   have g1:dk.getD (j+(i+1)) []=l.getD (j+(i+1)) []:=by
    have:=hI.high (j+(i+1)) Z;rwa[uK Z,uK hm]at this
   have g2:dk.getD (j+i) []=l.getD (j+i) []:=by
    have:=hI.high (j+i) Z;rwa[uK Z,uK Z]at this
   have hk1:=hs.1;have w1:aB .i64 (((i+1:Nat):Int)-1)=((i:Nat):Int):=by rw[wrap64 Z Z]; omega
   simp only[cL,aE,aK,bT,aY,oN,w1,g1,g2];rw[if_pos Z,if_pos Z,if_pos Z,if_pos Z,if_pos Z,TL _ _ (hs.2 _ (sV hm)),aD,aY,bI (i+1) Z]
   by_cases he:l.getD (j+(i+1)) []=l.getD (j+i) []
   ·rw[if_pos he];refine⟨_,rfl,dk,kk,rfl,?_⟩;have hneg:Lib.keeps l.toArray (j+1+i)=false:=by
     refine Lib.keeps_neg Z ?_;rw[uK Z,uK Z,show j+1+i=j+(i+1)by omega,show j+(i+1)-1=j+i by omega,he]
    exact hI.skip hneg
   ·rw[if_neg he,if_pos Z,if_pos Z,if_pos Z,if_pos Z,bI kk Z];refine⟨_,rfl,_,kk+1,rfl,?_⟩;have hpos:Lib.keeps l.toArray (j+1+i)=true:=by
     refine Lib.keeps_pos ?_;rw[uK Z,uK Z,show j+1+i=j+(i+1)by omega,show j+(i+1)-1=j+i by omega];exact he
    have:=hI.keep (by simp; omega) hpos;rw[uK Z,show j+1+i=j+(i+1)by omega]at this;rw[show j+1+(i+1)=j+(i+1)+1 by omega];simpa using this) (by
   rintro x ⟨dk,kk,rfl,hI⟩;simp only[cL,aE,aY];rw[if_neg Z]) (l.length-j-1) 0 (2^64) (l,(),(j:Int),(j,l.length-j),1,()) Z (by have:=hs.1; omega) ⟨l,j,rfl,by
    rw[Nat.add_zero];exact Lib.CompInv.start hall hdup⟩
 rw[show j+1+(l.length-j-1)=l.length by omega]at hI;exact⟨dk,kk,hI,hy⟩
theorem aR5 {l dk:List (List Int)}{kk:Nat}(h:Lib.CompInv l.toArray l.length kk dk.toArray):dk.take kk=Lib.compact l:=by
 have hsz:dk.length=l.length:=by have:=h.size; simpa using this
 have hlt:=h.lt;have hlen:(Lib.compact l).length=kk:=h.len;apply List.ext_getElem
 ·rw[List.length_take,hlen]; omega
 ·intro i h1 h2;have hi:i<kk:=by rw[List.length_take]at h1; omega
  have:=h.low i hi;change (Lib.compact l)[i]?=_ at this;rw[List.getElem?_eq_getElem h2,getElem!_pos dk.toArray i (by simp; omega)]at this;rw[List.getElem_take];have:=oB this;rw[this]; simp
theorem aW6(p:Nat->Bool):∀ (m:Nat) {j:Nat},(List.range m).find? p=some j->p j=true/\j<m/\∀ i,i<j->p i=false:=by
 intro m j h;have h1:=List.find?_some h;have h2:=List.mem_range.1 (List.mem_of_find?_eq_some h);refine⟨h1,h2,λi hi=>?_⟩;obtain⟨-,xs,ys,hab,hn⟩:=List.find?_eq_some_iff_append.1 h;have hlen:xs.length=j:=by
  have:(List.range m)[xs.length]?=some j:=by rw[hab]; simp
  rw[List.getElem?_range (by have:=oZ List.length hab; simp at this; omega)]at this;exact oB this
 have him:i∈xs:=by
  have h3:xs=(List.range m).take xs.length:=by rw[hab]; simp
  rw[h3,hlen,List.take_range];exact List.mem_range.2 Z
 simpa using hn i him
theorem bAZ {l:List (List Int)}(hs:aSY l):cD l ((),())=some (Lib.compact l,()):=by
 have hk1:=hs.1;unfold cD; dsimp only;rw[aE,aY]
 by_cases h2:(l.length:Int)<2
 ·rw[if_pos h2,Lib.compact_all l (λj hj=>Lib.keeps_lt_one _ j Z)]
 rw[if_neg h2]
 -- the first loop
 have key:∀ j,0<j->j<l.length->(l.getD j []=l.getD (j-1) []↔Lib.keeps l.toArray j=false):=by
  intro j h0 hj;constructor
  ·intro h;exact Lib.keeps_neg h0 (by rw[uK hj,uK Z,h])
  ·intro h
   by_cases he:l.getD j []=l.getD (j-1) []
   ·exact he
   ·have:=Lib.keeps_pos (d:=l.toArray) (m:=j) (by rw[uK hj,uK Z]; exact he);rw[h]at this; cases this
 have step:∀ j,0<j->j<l.length->bB (l,(),(j:Int),())=if l.getD j []=l.getD (j-1) [] then
   (aC (cO (l,(),(j:Int),(j,l.length-j),1,())) λz6 =>
    bif !(ltI z6.2.1 0) then bif Nat.ble z6.2.1.toNat z6.1.length then bif Nat.ble z6.1.length z6.1.length then bif Nat.blt z6.2.1.toNat z6.1.length then bif Nat.ble (z6.2.1.toNat+(z6.1.length-z6.2.1.toNat)) z6.1.length then bif !(ltI z6.2.1 0) then bif Nat.ble 0 z6.2.1.toNat then bif Nat.ble z6.2.1.toNat ((clr z6.1 z6.2.1.toNat (z6.1.length-z6.2.1.toNat) []).length) then bif Nat.blt 0 ((clr z6.1 z6.2.1.toNat (z6.1.length-z6.2.1.toNat) []).length) then some (.inr (.inl ((clr z6.1 z6.2.1.toNat (z6.1.length-z6.2.1.toNat) []),(0,(z6.2.1.toNat-0)),()))) else none else none else none else none else none else none else none else none else none)
   else some (.inl (l,(),((j+1:Nat):Int),())):=by
  intro j h0 hj;have w1:aB .i64 ((j:Int)-1)=((j-1:Nat):Int):=by rw[wrap64 Z Z]; omega
  simp only[bB];rw[aE,oT (show (j:Int)<(l.length:Int)by omega),oC,aK,oT (show 0<=(j:Int)/\(j:Int)<(l.length:Int)by omega),oC,oN,bT,oT hj,oC,w1,aK,oT (show 0<=((j-1:Nat):Int)/\((j-1:Nat):Int)<(l.length:Int)by omega),oC,oN,bT,oT (show j-1<l.length by omega),oC,TL _ _ (hs.2 _ (sV hj)),aD]
  by_cases he:l.getD j []=l.getD (j-1) []
  ·rw[if_pos he,oT he,oC,YL,oC,dF,oT (show j<=l.length by omega),oC,dF,oT (oM l.length),oC,oC]
  ·rw[if_neg he,oF he,oD,bI j Z]
 cases hf:(List.range (l.length-1)).find? (λi=>!(Lib.keeps l.toArray (i+1)))with
 | none =>
  have hall:∀ i,i<l.length->Lib.keeps l.toArray i=true:=by
   intro i hi;cases i with
   | zero=>exact Lib.keeps_lt_one _ 0 Z
   | succ i =>
    have:=List.find?_eq_none.1 hf i (List.mem_range.2 Z);simpa using this
  have hl:cH (l,(),1,())=some (.inr (l,())):=by
   refine bL (N:=2^64) (step:=bB) (λi=>(l,(),((i+1:Nat):Int),())) (l.length-1) (.inr (l,())) Z ?_ ?_
   ·intro i hi;rw[step (i+1) Z Z,if_neg];intro he;have:=(key (i+1) Z Z).1 he;rw[hall (i+1) Z]at this; cases this
   ·simp only[bB];rw[aE,oF Z,oD]
  rw[hl,Lib.compact_all l hall]; rfl
 | some j =>
  obtain⟨hj1,hj2,hj3⟩:=aW6 _ _ hf;have hdup:Lib.keeps l.toArray (j+1)=false:=by simpa using hj1
  have hall:∀ i,i<j+1->Lib.keeps l.toArray i=true:=by
   intro i hi;cases i with
   | zero=>exact Lib.keeps_lt_one _ 0 Z
   | succ i =>
    have:=hj3 i Z;simpa using this
  obtain⟨dk,kk,hI,hin⟩:=a0N hs (Nat.succ_pos j) Z hall hdup;have hsz:dk.length=l.length:=by have:=hI.size; simpa using this
  have hlt:=hI.lt;have hclr:(clr dk kk (l.length-kk) []).length=l.length:=by simp only[clr,oH,List.length_take,List.length_replicate,List.length_drop]; omega
  have hl:cH (l,(),1,())=some (.inl (clr dk kk (l.length-kk) [],(0,kk-0),())):=by
   have hsteps:=ZJ (step:=bB) (λi=>(l,(),((i+1:Nat):Int),())) (2^64-j-1+1) j 0 (λi _ hi=>by
    rw[step (i+1) Z Z,if_neg];intro he;have:=(key (i+1) Z Z).1 he;rw[hall (i+1) Z]at this; cases this)
   have e:j+(2^64-j-1+1)=2^64:=Z
   rw[e,show 0+j+1=j+1 by omega]at hsteps;refine Eq.trans hsteps ?_;rw[cM,step (j+1) Z Z,if_pos ((key (j+1) Z Z).2 hdup),hin,aD];dsimp only;rw[YL,oN,hsz,hclr];simp only[dF,bT,oC];rw[oT (show kk<=l.length by omega),oT (oM l.length),oT hlt,oT (show kk+(l.length-kk)<=l.length by omega),oT (Nat.zero_le kk),oT (show 0<l.length by omega)];rfl
  rw[hl,aD];simp only[KP,Nat.sub_zero,List.drop_zero];have:(clr dk kk (l.length-kk) []).take kk=dk.take kk:=by
   unfold clr;rw[List.take_append_of_le_length (by rw[List.length_take]; omega),List.take_take,Nat.min_self]
  rw[this,aR5 hI]
theorem DU {l:List (List Int)}{i:Nat}(h:i<l.length):l.toArray[i]! =l[i]:=by rw[getElem!_pos l.toArray i (by simpa using h)]; simp
theorem a8W(l:List (List Int))(x:List Int):x∈Lib.compact l↔x∈l:=by
 constructor
 ·intro h;unfold Lib.compact Lib.compactUpTo at h;obtain⟨i,hi,rfl⟩:=List.mem_map.1 h;have hl:=List.mem_range.1 (List.mem_filter.1 hi).1;rw[DU hl]; exact List.getElem_mem hl
 ·intro h;obtain⟨i,hi,rfl⟩:=List.getElem_of_mem h;have key:∀ i (hi:i<l.length),l[i]∈Lib.compact l:=by
   intro i
   induction i with
   | zero =>
    intro hi;unfold Lib.compact Lib.compactUpTo;refine List.mem_map.2 ⟨0,List.mem_filter.2 ⟨List.mem_range.2 hi,by simp[Lib.keeps]⟩,DU hi⟩
   | succ i ih =>
    intro hi
    by_cases he:l[i+1]=l[i]' Z
    ·rw[he]; exact ih Z
    ·unfold Lib.compact Lib.compactUpTo;refine List.mem_map.2 ⟨i+1,List.mem_filter.2 ⟨List.mem_range.2 hi,?_⟩,DU hi⟩;refine Lib.keeps_pos ?_;rw[DU hi,Nat.add_sub_cancel,DU Z]; exact he
  exact key i hi
theorem a0D {l:List (List Int)}(h:l.Pairwise (λa b=>decide (cmpL b a<0)=false)):(Lib.compact l).Nodup:=by
 unfold Lib.compact Lib.compactUpTo;refine List.pairwise_map.2 ?_;have hp:((List.range l.length).filter (Lib.keeps l.toArray)).Pairwise λi j=>i<j:=List.Pairwise.filter _ List.pairwise_lt_range
 refine List.Pairwise.imp_of_mem ?_ hp;intro i j hi hj hij he;obtain⟨hi1,hi2⟩:=List.mem_filter.1 hi;obtain⟨hj1,hj2⟩:=List.mem_filter.1 hj;have hi1:=List.mem_range.1 hi1;have hj1:=List.mem_range.1 hj1;simp only[Lib.keeps,decide_eq_true_eq]at hj2;have h2:l.toArray[j]!≠l.toArray[j-1]!:=by
  rcases hj2 with h2|h2
  ·omega
  ·exact h2
 rw[DU hj1,DU (i:=j-1) Z]at h2;rw[DU hi1,DU hj1]at he;have ord:∀ i j (hij:i<j) (hj:j<l.length),¬ cmpL l[j] (l[i]' Z)<0:=λi j hij hj=>by
  have:=List.pairwise_iff_getElem.1 h i j Z hj hij;simpa using this
 have a1:=ord (j-1) j Z hj1;have a2:cmpL (l[j-1]' Z) l[j]<0:=by
  by_cases h3:cmpL (l[j-1]' Z) l[j]<0
  ·exact h3
  ·exact(h2 (PU a1 h3)).elim
 rcases oG i (j-1)with h3|h3
 ·have a3:=ord i (j-1) h3 Z;rw[he]at a3;exact a3 a2
 ·have:i=j-1:=Z
  subst this;exact h2 he.symm
def SI(l:List (List Int)):Prop:=l.Pairwise λa b=>cmpL a b<0
theorem aU6 {l:List (List Int)}(h:SI l):l.Nodup:=by
 refine List.Pairwise.imp (λ{a b} h e=>?_) h;rw[e,GX]at h;omega
theorem a1D {l l':List (List Int)}(h:SI l)(h':SI l')(hm:∀ x,x∈l↔x∈l'):l=l' :=
 List.Perm.eq_of_pairwise (le:=λa b=>cmpL a b<0) (λa b _ _ h1 h2=>(a0E h1 h2).elim) h h' ((List.perm_ext_iff_of_nodup (aU6 h) (aU6 h')).2 hm)
theorem aWN {l:List (List Int)}(h:l.Pairwise (λa b=>decide (cmpL b a<0)=false)):SI (Lib.compact l):=by
 have s:(Lib.compact l).Pairwise (λa b=>decide (cmpL b a<0)=false):=by
  unfold Lib.compact Lib.compactUpTo;refine List.pairwise_map.2 ?_;have hp:((List.range l.length).filter (Lib.keeps l.toArray)).Pairwise λi j=>i<j:=List.Pairwise.filter _ List.pairwise_lt_range
  refine List.Pairwise.imp_of_mem ?_ hp;intro i j hi hj hij;have hi1:=List.mem_range.1 (List.mem_filter.1 hi).1;have hj1:=List.mem_range.1 (List.mem_filter.1 hj).1;rw[DU hi1,DU hj1];exact List.pairwise_iff_getElem.1 h i j hi1 hj1 hij
 refine List.Pairwise.imp (λ{a b} h=>?_) (List.pairwise_and_iff.2 ⟨s,a0D h⟩);obtain⟨h1,h2⟩:=h;simp only[decide_eq_false_iff_not]at h1
 by_cases h3:cmpL a b<0
 ·exact h3
 ·exact(h2 (PU h3 h1)).elim
def PH(x:List Int):List (List Int)->List (List Int)
 | []=>[x]
 | y::r=>if cmpL x y=0 then y::r else if cmpL x y<0 then x::y::r else y::PH x r
theorem aAA(x z:List Int):∀ l,z∈PH x l↔z=x\/z∈l
 | []=>by simp[PH]
 | y::r=>by
  unfold PH
  by_cases h0:cmpL x y=0
  ·rw[if_pos h0,aKF h0]; simp
  ·rw[if_neg h0]
   by_cases h1:cmpL x y<0
   ·rw[if_pos h1]; simp
   ·rw[if_neg h1,List.mem_cons,aAA x z r,List.mem_cons];constructor
    ·rintro(h|h|h)
     ·exact .inr (.inl h)
     ·exact .inl h
     ·exact .inr (.inr h)
    ·rintro(h|h|h)
     ·exact .inr (.inl h)
     ·exact .inl h
     ·exact .inr (.inr h)
theorem aRU(x:List Int):∀ {l},SI l->SI (PH x l)
 | [],_=>by simp[PH,SI]
 | y::r,h=>by
  unfold SI at h;obtain⟨hy,hr⟩:=List.pairwise_cons.1 h;unfold PH
  by_cases h0:cmpL x y=0
  ·rw[if_pos h0]; exact h
  ·rw[if_neg h0]
   by_cases h1:cmpL x y<0
   ·rw[if_pos h1];refine List.pairwise_cons.2 ⟨λz hz=>?_,h⟩;rcases List.mem_cons.1 hz with rfl|hz
    ·exact h1
    ·exact GJ h1 (hy z hz)
   ·rw[if_neg h1];refine List.pairwise_cons.2 ⟨λz hz=>?_,aRU x hr⟩;rcases(aAA x z r).1 hz with rfl|hz
    ·exact a0Q h0 h1
    ·exact hy z hz
theorem S0(x:List Int):∀ l,(PH x l).length<=l.length+1
 | []=>by simp[PH]
 | y::r=>by
  unfold PH;split
  ·simp
  ·split
   ·simp
   ·have:=S0 x r;simp only[List.length_cons]; omega
theorem a23 {α:Type}(d:α)(pre:List α)(y:α)(r:List α):(pre++y::r).getD pre.length d=y:=by rw[oQ,List.getElem?_append_right (oM _),Nat.sub_self]; rfl
theorem DJ {x:List Int}(hx:x.length<=9223372036854775806):∀ (suf pre:List (List Int)) (N:Nat),pre.length+suf.length<=1000000->(∀ y∈suf,y.length<=9223372036854775806)->suf.length<N ->
  ∃ z,aX l7 N (pre++suf,x,pre,(pre.length:Int),())=some z/\(mH z (λa4=>some (a4.1,())) λb5=>bif Nat.ble [b5.1].length 1048576 then bif Nat.ble b5.2.1.length 1048576 then some ((b5.2.1++[b5.1]),()) else none else none)=(some (pre++PH x suf,()):Option (aM [.list (.list (.int .i64))]))
 | [],pre,N,hl,_,hN=>by
  obtain⟨n,rfl⟩:∃ n,N=n+1:=⟨N-1,by omega⟩;refine⟨.inr (x,pre,()),?_,?_⟩
  ·rw[cM];simp only[l7,List.append_nil,aE,aY];rw[if_neg Z]
  ·simp only[List.length_nil,Nat.add_zero]at hl;simp only[pY,dF,aY,List.length_cons,List.length_nil];rw[if_pos Z,if_pos Z]; rfl
 | y::r,pre,N,hl,hs,hN=>by
  obtain⟨n,rfl⟩:∃ n,N=n+1:=⟨N-1,by omega⟩;simp only[List.length_cons]at hl hN;have hlen:(pre++y::r).length=pre.length+(r.length+1):=ze
  have hst:l7 (pre++y::r,x,pre,(pre.length:Int),())=if cmpL x y=0 then some (.inr (.inl (pre++y::r,()))) else if cmpL x y<0 then some (.inr (.inl (pre++x::y::r,()))) else some (.inl (pre++y::r,x,pre++[y],((pre.length+1:Nat):Int),())):=by
   simp only[l7,aE,bZ,aK,dF,rP,aY,oN,a23];rw[if_pos Z,if_pos Z,BQ x y hx (hs y ze),aD];have hd:((pre++y::r).drop pre.length).take ((pre++y::r).length-pre.length)=y::r:=by
    rw[List.drop_left,hlen,Nat.add_sub_cancel_left];exact List.take_of_length_le ze
   dsimp only
   by_cases h0:cmpL x y=0
   ·rw[if_pos h0,if_pos h0]
   ·rw[if_neg h0,if_neg h0]
    by_cases h1:cmpL x y<0
    ·rw[if_pos h1,if_pos h1,hd];simp only[List.length_cons,oH,List.length_nil];rw[if_pos Z,if_pos Z,if_pos Z,if_pos Z,if_pos Z,if_pos Z,if_pos Z,List.append_assoc]; rfl
    ·rw[if_neg h1,if_neg h1];simp only[List.length_cons,List.length_nil];rw[if_pos Z,if_pos Z,if_pos Z,bI _ Z]
  rw[cM,hst];unfold PH
  by_cases h0:cmpL x y=0
  ·rw[if_pos h0,if_pos h0]; exact⟨_,rfl,rfl⟩
  ·rw[if_neg h0,if_neg h0]
   by_cases h1:cmpL x y<0
   ·rw[if_pos h1,if_pos h1]; exact⟨_,rfl,rfl⟩
   ·rw[if_neg h1,if_neg h1];have:=DJ hx r (pre++[y]) n (by simp only[oH,List.length_cons,List.length_nil]; omega) (λz hz=>hs z (by simp[hz])) Z;simp only[List.append_assoc,List.cons_append,List.nil_append,oH,List.length_cons,List.length_nil]at this;exact this
theorem HS {l:List (List Int)}{x:List Int}(hl:l.length<=1000000)(hs:∀ y∈l,y.length<=9223372036854775806)(hx:x.length<=9223372036854775806):nR (l,x,())=some (PH x l,()):=by
 obtain⟨z,h1,h2⟩:=DJ hx l [] (2^64) (by simpa using hl) hs Z;unfold nR; dsimp only;have h1':vV (l,x,[],0,())=some z:=h1;rw[h1',aD,h2]; rfl
theorem bBR(x:Int) : -9223372036854775808<=aB .i64 x/\aB .i64 x<9223372036854775808:=by
 rw[QU,IntKind.wrap_i64];omega
theorem bCZ(x:Int):aB .i64 (aB .i64 x)=aB .i64 x:=wrap64 (bBR x).1 (bBR x).2
def QP(f:Nat->Int) (n i:Nat):List Int:=(List.range i).map f++List.replicate (n-i) 0
theorem aCN(f:Nat->Int){n i:Nat}(h:i<=n):(QP f n i).length=n:=by simp only[QP,oH,List.length_map,List.length_range,List.length_replicate]; omega
theorem aIN(f:Nat->Int)(n:Nat):QP f n 0=List.replicate n 0:=by simp[QP]
theorem aKZ(f:Nat->Int)(n:Nat):QP f n n=(List.range n).map f:=by simp[QP]
theorem aMZ(f:Nat->Int){n i:Nat}(h:i<n):(QP f n i).set i (f i)=QP f n (i+1):=by
 unfold QP;rw[List.set_append_right _ _ ze];simp only[List.length_map,List.length_range,Nat.sub_self];obtain⟨k,hk⟩:∃ k,n-i=k+1:=⟨n-i-1,by omega⟩;rw[hk,List.replicate_succ,List.set_cons_zero,show n-(i+1)=k by omega,List.range_succ,List.map_append,List.append_assoc]; rfl
def zQ(a b:List Int):List Int:=(List.range a.length).map λi=>aB .i64 (a.getD i 0-b.getD i 0)
def aOS(a b:List Int)(k:Int):List Int:=(List.range a.length).map λi=>aB .i64 (a.getD i 0+aB .i64 (k*b.getD i 0))
theorem aB9(a b:List Int):(zQ a b).length=a.length:=by simp[zQ]
theorem WT {a b:List Int}(h1:a.length<=b.length)(h2:a.length<=1048576):yS (a,b,())=some (zQ a b,()):=by
 have hloop:yG (a,b,List.replicate a.length 0,0,())=some (zQ a b,()):=by
  rw[<- aIN (λi=>aB .i64 (a.getD i 0-b.getD i 0))];refine bL (N:=2^64) (step:=rR) (λi=>(a,b,QP (λi=>aB .i64 (a.getD i 0-b.getD i 0)) a.length i,(i:Int),())) a.length _ Z ?_ ?_
  ·intro i hi;simp only[rR,aE,aK,bT,aY,oN,aCN _ (Nat.le_of_lt hi)];rw[if_pos Z,if_pos Z,if_pos Z,if_pos Z,if_pos Z,bI i Z];rw[aMZ (λi=>aB .i64 (a.getD i 0-b.getD i 0)) hi]
  ·simp only[rR,aE,aY];rw[if_neg Z,aKZ]; rfl
 unfold yS; dsimp only;simp only[aE,rP,aY,oN];rw[if_pos Z,if_pos Z,if_pos Z,hloop,aD]
theorem N6 {a b:List Int}(k:Int)(h1:a.length<=b.length)(h2:a.length<=1048576):zX (a,b,k,())=some (aOS a b k,()):=by
 have hloop:B4 (a,b,k,List.replicate a.length 0,(a.length:Int),0,())=some (aOS a b k,()):=by
  rw[<- aIN (λi=>aB .i64 (a.getD i 0+aB .i64 (k*b.getD i 0)))];refine bL (N:=2^64) (step:=vN) (λi=>(a,b,k,QP (λi=>aB .i64 (a.getD i 0+aB .i64 (k*b.getD i 0))) a.length i,(a.length:Int),(i:Int),())) a.length _ Z ?_ ?_
  ·intro i hi;simp only[vN,aE,aK,bT,aY,oN,aCN _ (Nat.le_of_lt hi)];rw[if_pos Z,if_pos Z,if_pos Z,if_pos Z,if_pos Z,bI i Z];rw[aMZ (λi=>aB .i64 (a.getD i 0+aB .i64 (k*b.getD i 0))) hi]
  ·simp only[vN,aE,aY];rw[if_neg Z,aKZ]; rfl
 unfold zX; dsimp only;simp only[aE,rP,aY,oN];rw[if_pos Z,if_pos Z,if_pos Z,hloop,aD]
def neg(r:List Int):List Int:=zQ (List.replicate r.length 0) r
theorem aD7(r:List Int):(neg r).length=r.length:=by unfold neg; rw[aB9,List.length_replicate]
theorem a2Q(r:List Int):aOS (List.replicate r.length 0) r (-1)=neg r:=by
 unfold aOS neg zQ;refine List.map_congr_left λi hi=>?_
 have hi:=List.mem_range.1 hi;rw[List.length_replicate]at hi;have h0:(List.replicate r.length (0:Int)).getD i 0=0:=by rw[oQ,List.getElem?_replicate_of_lt hi]; rfl
 rw[h0,Int.zero_add,bCZ,show (-1:Int)*r.getD i 0=0-r.getD i 0 by omega]
def isZ(r:List Int):Bool:=decide (∀ i,i<r.length->r.getD i 0=0)
theorem aVA(r:List Int):isZ r=((List.range r.length).find? λi=>decide (¬ r.getD i 0=0)).isNone:=by
 unfold isZ;cases h:(List.range r.length).find? λi=>decide (¬ r.getD i 0=0)with
 | none =>
  refine oT λi hi=>?_
  have:=List.find?_eq_none.1 h i (List.mem_range.2 hi);simpa using this
 | some j =>
  refine oF λhall=>?_
  have h1:=List.find?_some h;have h2:=List.mem_range.1 (List.mem_of_find?_eq_some h);have:=hall j h2;simp only[decide_eq_true_eq]at h1;exact h1 this
theorem J5 {r:List Int}(h:r.length<=1048576):uT (r,())=some (isZ r,()):=by
 have hloop:zU (r,0,())=some ((((List.range r.length).find? λi=>decide (¬ r.getD i 0=0)).map λi=>.inl (false,())).getD (.inr ())):=by
  rw[<- D3];refine vG (N:=2^64) (step:=sN) (λi=>(r,(i:Int),())) (λi=>if ¬ r.getD i 0=0 then some (.inl (false,())) else none) r.length (.inr ()) Z ?_ ?_
  ·intro i hi;simp only[sN,aE,bZ,aK,rP,aY,oN];rw[if_pos Z,if_pos Z,bI i Z]
   by_cases h:¬ r.getD i 0=0
   ·rw[if_pos h,if_pos h]
   ·rw[if_neg h,if_neg h]
  ·simp only[sN,aE,aY];rw[if_neg Z]
 unfold uT; dsimp only;rw[hloop,aD,aVA];cases (List.range r.length).find? λi=>decide (¬ r.getD i 0=0) <;> rfl
theorem aGO(v:Int):LH (v,())=some (decide (¬ v=0),()):=by
 unfold LH; dsimp only;rw[bZ,rP]
theorem Z8 {r:List Int}(h:r.length<=1048576):MO (r,())=some (isZ r,()):=by
 have hloop:mT (r,(),(r.length:Int),0,())=some ((((List.range r.length).find? λi=>decide (¬ r.getD i 0=0)).map λi:Nat=>.inl ((i:Int),())).getD (.inr ())):=by
  rw[<- D3 (λi=>¬ r.getD i 0=0) (λi:Nat=>Sum.inl ((i:Int),()))];refine vG (N:=2^64) (step:=iO) (λi=>(r,(),(r.length:Int),(i:Int),())) (λi=>if ¬ r.getD i 0=0 then some (.inl ((i:Int),())) else none) r.length (.inr ()) Z ?_ ?_
  ·intro i hi;simp only[iO,aE,bZ,aK,rP,aY,oN];rw[if_pos Z,if_pos Z,aGO,aD,bI i Z,aY]
   by_cases h:¬ r.getD i 0=0
   ·rw[if_pos h,if_pos h]
   ·rw[if_neg h,if_neg h]
  ·simp only[iO,aE,aY];rw[if_neg Z]
 have h70:lP (r,(),())=some ((((List.range r.length).find? λi=>decide (¬ r.getD i 0=0)).map λi:Nat=>(i:Int)).getD (-1),()):=by
  unfold lP; dsimp only;rw[hloop,aD];cases (List.range r.length).find? λi=>decide (¬ r.getD i 0=0) <;> rfl
 unfold MO; dsimp only;unfold o9; dsimp only;rw[h70,aD,aVA];cases (List.range r.length).find? λi=>decide (¬ r.getD i 0=0)with
 | none=>rfl
 | some i =>
  show (aC (some (!(ltI ((i:Nat):Int) 0),())) λy1=>bif y1.1 then some (false,()) else some (true,()))=_;rw[aD,YL]; rfl
def pU:List (List Int)->List (List Int)->List (List Int)
 | out,[]=>out
 | out,r::l=>pU (if isZ r then out else PH (neg r) (PH r out)) l
def N5(l:List (List Int)):List (List Int):=l.flatMap λr=>if isZ r then [] else [r,neg r]
theorem aMA:∀ (l:List (List Int)) {out},SI out->SI (pU out l)
 | [],_,h=>h
 | r::l,out,h=>by
  unfold pU;refine aMA l ?_;split
  ·exact h
  ·exact aRU _ (aRU _ h)
theorem aAT(z:List Int):∀ (l out:List (List Int)),z∈pU out l↔z∈out\/z∈N5 l
 | [],out=>by simp[pU,N5]
 | r::l,out=>by
  unfold pU;rw[aAT z l];simp only[N5,List.flatMap_cons,List.mem_append]
  by_cases h:isZ r
  ·rw[if_pos h,if_pos h]; simp
  ·rw[if_neg h,if_neg h,aAA,aAA];simp only[List.mem_cons,List.not_mem_nil,or_false];constructor
   ·rintro((h|h|h)|h)
    ·exact .inr (.inl (.inr h))
    ·exact .inr (.inl (.inl h))
    ·exact .inl h
    ·exact .inr (.inr h)
   ·rintro(h|(h|h)|h)
    ·exact .inl (.inr (.inr h))
    ·exact .inl (.inr (.inl h))
    ·exact .inl (.inl h)
    ·exact .inr h
theorem aE7:∀ (l out:List (List Int)),(pU out l).length<=out.length+2*l.length
 | [],out=>by simp[pU]
 | r::l,out=>by
  unfold pU;have:=aE7 l (if isZ r then out else PH (neg r) (PH r out));have h2:(if isZ r then out else PH (neg r) (PH r out)).length<=out.length+2:=by
   split
   ·omega
   ·have a:=S0 (neg r) (PH r out);have b:=S0 r out;omega
  simp only[List.length_cons]; omega
theorem aV4 {l:List (List Int)}(out:List (List Int)){i:Nat}(h:i<l.length):pU out (l.take (i+1))=(if isZ (l.getD i []) then pU out (l.take i) else PH (neg (l.getD i [])) (PH (l.getD i []) (pU out (l.take i)))):=by
 have hs:∀ (a b:List (List Int)) (out:List (List Int)),pU out (a++b)=pU (pU out a) b:=by
  intro a
  induction a with
  | nil=>intro b out; rfl
  | cons r a ih=>intro b out; simp only[List.cons_append,pU]; exact ih b _
 rw[List.take_add_one,hs,List.getElem?_eq_getElem h,show l.getD i []=l[i]by rw[oQ,List.getElem?_eq_getElem h]; rfl];rfl
def Rws(n:Nat) (l:List (List Int)):Prop:=∀ y∈l,y.length<=n
theorem aA4 {n:Nat}{l:List (List Int)}(h:Rws n l):Rws n (N5 l):=by
 intro y hy;obtain⟨r,hr,hy⟩:=List.mem_flatMap.1 hy;split at hy
 ·cases hy
 ·rcases List.mem_cons.1 hy with rfl|hy
  ·exact h _ hr
  ·rw[List.mem_singleton.1 hy,aD7]; exact h _ hr
theorem aZ4 {n:Nat}{l out:List (List Int)}(h:Rws n l)(ho:Rws n out):Rws n (pU out l):=by
 intro y hy;rcases(aAT y l out).1 hy with hy|hy
 ·exact ho y hy
 ·exact aA4 h y hy
theorem a3S {n:Nat}{l:List (List Int)}(h:Rws n l)(i:Nat):Rws n (l.take i):=λy hy=>h y (List.mem_of_mem_take hy)
theorem T4 {l:List (List Int)}(h1:l.length<=1000)(h2:Rws 1000 l):vJ (l,())=some (pU [] l,()):=by
 have hloop:vE (l,[],0,())=some (pU [] l,()):=by
  refine bL (N:=2^64) (step:=pR) (λi=>(l,pU [] (l.take i),(i:Int),())) l.length (pU [] l,()) Z ?_ ?_
  ·intro i hi;have hr:=h2 _ (sV hi);have hc:=aE7 (l.take i) [];have hct:=aZ4 (a3S h2 i) (n:=1000) (out:=[]) (λy hy=>by cases hy);have hti:(l.take i).length<=1000:=by rw[List.length_take]; omega
   simp only[List.length_nil,Nat.zero_add]at hc;rw[aV4 [] hi];simp only[pR,aE,aK,rP,dF,aY,oN];rw[if_pos Z,if_pos Z,J5 Z,aD,bI i Z];cases hz:isZ (l.getD i [])with
   | true=>simp only[oC,if_true]
   | false =>
    simp only[oD];have e1:=HS (l:=pU [] (l.take i)) (x:=l.getD i []) Z (λy hy=>oR (hct y hy) Z) Z;have e2:=WT (a:=List.replicate (l.getD i []).length 0) (b:=l.getD i []) (by rw[List.length_replicate]; omega) (by rw[List.length_replicate]; omega);have e3:=HS (l:=PH (l.getD i []) (pU [] (l.take i))) (x:=neg (l.getD i [])) (by have:=S0 (l.getD i []) (pU [] (l.take i)); omega) (λy hy=>by
     rcases(aAA _ y _).1 hy with rfl|hy
     ·omega
     ·exact oR (hct y hy) Z) (by rw[aD7]; omega)
    rw[if_pos Z,if_pos Z,e1,aD,if_pos Z,if_pos Z,if_pos Z,if_pos Z,if_pos Z,e2,aD];change (aC (nR (PH (l.getD i []) (pU [] (l.take i)),neg (l.getD i []),())) _)=_;rw[e3,aD]; rfl
  ·simp only[pR,aE,aY];rw[if_neg Z,List.take_length]
 unfold vJ; dsimp only;rw[hloop,aD]
theorem aRG(v:Int):VE (v,())=some (decide (-1000000000<=v/\v<=1000000000),()):=by
 unfold VE; dsimp only;simp only[aE,rP,aY]
 by_cases h:¬ v < -1000000000
 ·rw[if_pos h]
  by_cases h2:v<=1000000000
  ·rw[oT (show -1000000000<=v/\v<=1000000000 by omega),oT (show ¬ 1000000000<v by omega)]
  ·rw[oF (show ¬ (-1000000000<=v/\v<=1000000000)by omega),oF (show ¬ ¬ 1000000000<v by omega)]
 ·rw[if_neg h,oF Z]
def okE(v:Int):Prop:=-1000000000<=v/\v<=1000000000
instance (v:Int):Decidable (okE v):=by unfold okE; infer_instance
theorem aJR(v:Int):I2 (v,())=some (decide (¬ okE v),()):=by
 unfold I2; dsimp only;rw[aRG,aD]
 by_cases h:okE v
 ·rw[oF (not_not_intro h)];unfold okE at h;rw[oT h]; rfl
 ·rw[oT h];unfold okE at h;rw[oF h]; rfl
def rc(r:List Int):Int:=if 64<r.length then 4 else if (∀ i,i<r.length->okE (r.getD i 0)) then 0 else 4
theorem LL {r:List Int}(h:r.length<=1048576):uU (r,())=some (rc r,()):=by
 have hloop:iL (r,(),(r.length:Int),0,())=some ((((List.range r.length).find? λi=>decide (¬ okE (r.getD i 0))).map λi:Nat=>.inl ((i:Int),())).getD (.inr ())):=by
  rw[<- D3 (λi=>¬ okE (r.getD i 0)) (λi:Nat=>Sum.inl ((i:Int),()))];refine vG (N:=2^64) (step:=bR) (λi=>(r,(),(r.length:Int),(i:Int),())) (λi=>if ¬ okE (r.getD i 0) then some (.inl ((i:Int),())) else none) r.length (.inr ()) Z ?_ ?_
  ·intro i hi;simp only[bR,aE,bZ,aK,rP,aY,oN];rw[if_pos Z,if_pos Z,aJR,aD,bI i Z,aY]
   by_cases h:¬ okE (r.getD i 0)
   ·rw[if_pos h,if_pos h]
   ·rw[if_neg h,if_neg h]
  ·simp only[bR,aE,aY];rw[if_neg Z]
 have h70:iG (r,(),())=some ((((List.range r.length).find? λi=>decide (¬ okE (r.getD i 0))).map λi:Nat=>(i:Int)).getD (-1),()):=by
  unfold iG; dsimp only;rw[hloop,aD];cases (List.range r.length).find? λi=>decide (¬ okE (r.getD i 0)) <;> rfl
 unfold uU rc; dsimp only;simp only[aE,aY]
 by_cases h64:64<r.length
 ·rw[if_pos h64,if_pos Z]
 ·rw[if_neg h64,if_neg Z];unfold jS; dsimp only;rw[h70,aD];cases hf:(List.range r.length).find? λi=>decide (¬ okE (r.getD i 0))with
  | none =>
   rw[if_pos (λi hi=>by
    have:=List.find?_eq_none.1 hf i (List.mem_range.2 hi);simpa using this)]
   rfl
  | some i =>
   rw[if_neg (λhall=>by
    have h1:=List.find?_some hf;have h2:=List.mem_range.1 (List.mem_of_find?_eq_some hf);simp only[decide_eq_true_eq]at h1;exact h1 (hall i h2))]
   show (aC (some (!(ltI ((i:Nat):Int) 0),())) λy1=>bif y1.1 then some (4,()) else some (0,()))=_;rw[aD,YL]; rfl
def UW(n:Int) (l:List (List Int)) (i:Nat):Option Int:=if ¬ rc (l.getD i [])=0 then some (rc (l.getD i [])) else if ¬ ((l.getD i []).length:Int)=n then some 5 else none
def aFK(n:Int) (l:List (List Int)):Int:=if n<0\/12<n then 3 else ((List.range l.length).findSome? (UW n l)).getD 0
theorem aHG {n:Int}{l:List (List Int)}(h1:l.length<=1048576)(h2:Rws 1048576 l):xB (l,n,())=some (((List.range l.length).findSome? (UW n l)).getD 0,()):=by
 have hloop:AZ (n,l,(l.length:Int),0,())=some (((List.range l.length).findSome? λi=>(UW n l i).map λe=>.inl (e,())).getD (.inr ())):=by
  refine vG (N:=2^64) (step:=lK) (λi=>(n,l,(l.length:Int),(i:Int),())) (λi=>(UW n l i).map λe=>.inl (e,())) l.length (.inr ()) Z ?_ ?_
  ·intro i hi;simp only[lK,aE,bZ,aK,rP,aY,oN];rw[if_pos Z,if_pos Z,LL (h2 _ (sV hi)),aD,bI i Z];unfold UW
   by_cases h:¬ rc (l.getD i [])=0
   ·rw[if_pos h,if_pos h]; rfl
   ·rw[if_neg h,if_neg h]
    by_cases h3:¬ ((l.getD i []).length:Int)=n
    ·rw[if_pos h3,if_pos h3]; rfl
    ·rw[if_neg h3,if_neg h3]; rfl
  ·simp only[lK,aE,aY];rw[if_neg Z]
 unfold xB; dsimp only;rw[hloop,aD,EL];cases (List.range l.length).findSome? (UW n l) <;> rfl
theorem aBY {n:Int}{l:List (List Int)}(h1:l.length<=1048576)(h2:Rws 1048576 l):EH (n,l,())=some (aFK n l,()):=by
 unfold EH aFK; dsimp only;simp only[aE,aY]
 by_cases h:n<0
 ·rw[if_pos h,if_pos (.inl h)]
 ·rw[if_neg h]
  by_cases h3:12<n
  ·rw[if_pos h3,if_pos (.inr h3)]
  ·rw[if_neg h3,if_neg Z,aHG h1 h2,aD]
theorem WY {n:Int}{l:List (List Int)}(h1:l.length<=1048576)(h2:Rws 1048576 l):yM (n,l,())=some (aFK n l,()):=by
 have hloop:xN (n,l,0,())=some (((List.range l.length).findSome? λi=>(UW n l i).map λe=>.inl (e,())).getD (.inr ())):=by
  refine vG (N:=2^64) (step:=rK) (λi=>(n,l,(i:Int),())) (λi=>(UW n l i).map λe=>.inl (e,())) l.length (.inr ()) Z ?_ ?_
  ·intro i hi;simp only[rK,aE,bZ,aK,rP,aY,oN];rw[if_pos Z,if_pos Z,LL (h2 _ (sV hi)),aD,bI i Z];unfold UW
   by_cases h:¬ rc (l.getD i [])=0
   ·rw[if_pos h,if_pos h]; rfl
   ·rw[if_neg h,if_neg h,if_pos Z]
    by_cases h3:¬ ((l.getD i []).length:Int)=n
    ·rw[if_pos h3,if_pos h3]; rfl
    ·rw[if_neg h3,if_neg h3]; rfl
  ·simp only[rK,aE,aY];rw[if_neg Z]
 unfold yM aFK; dsimp only;simp only[aE,aY]
 by_cases h:n<0
 ·rw[if_pos h,if_pos (.inl h)]
 ·rw[if_neg h]
  by_cases h3:12<n
  ·rw[if_pos h3,if_pos (.inr h3)]
  ·rw[if_neg h3,if_neg Z,hloop,aD,EL];cases (List.range l.length).findSome? (UW n l) <;> rfl
theorem aO3 {n:Int} {l:List (List Int)} (h:aFK n l=0):0<=n/\n<=12/\∀ y∈l,rc y=0/\(y.length:Int)=n:=by
 unfold aFK at h;split at h
 ·cases h
 ·refine⟨by omega,by omega,λy hy=>?_⟩;obtain⟨i,hi,rfl⟩:=List.getElem_of_mem hy;have hg:l.getD i []=l[i]:=by rw[oQ,List.getElem?_eq_getElem hi]; rfl
  cases hf:(List.range l.length).findSome? (UW n l)with
  | none =>
   have:=List.findSome?_eq_none_iff.1 hf i (List.mem_range.2 hi);unfold UW at this;rw[hg]at this;split at this
   ·cases this
   ·rename_i h1;split at this
    ·cases this
    next h2=>exact⟨Decidable.not_not.1 h1,Decidable.not_not.1 h2⟩
  | some e =>
   rw[hf]at h;obtain⟨j,-,hj⟩:=List.exists_of_findSome?_eq_some hf;change e=0 at h;subst h;unfold UW at hj;split at hj
   next h1=>exact(h1 (oB hj)).elim
   ·split at hj
    ·cases hj
    ·cases hj
set_option maxHeartbeats 4000000
abbrev ltC:List Int->List Int->Bool:=λx y=>decide (cmpL x y<0)
theorem a0Z {l:List (List Int)}(hs:∀ x∈l,x.length<=1048576)(h1:l.length<4611686018427387904):aRZ (t:=.int .i64) D64 ltC l=some (aGG ltC l):=by
 cases l with
 | nil=>rfl
 | cons x r =>
  show aG6 (t:=.int .i64) D64 ltC (x::r)=_;unfold aG6;have:(Nat.blt 0 (x::r).length&&Nat.blt (x::r).length 4611686018427387904&&(x::r).all D64)=true:=by
   rw[bT,bT,oT (show 0<(x::r).length by simp),oT h1,Bool.true_and,Bool.true_and,List.all_eq_true];exact λy hy=>Nat.ble_eq_true_of_le (hs y hy)
  have h2:(bif Nat.blt 0 (x::r).length&&Nat.blt (x::r).length 4611686018427387904&&(x::r).all D64 then some (aGG ltC (x::r)) else none)=some (aGG ltC (x::r)):=by rw[this]; rfl
  exact h2
theorem a1Z {l:List (List Int)}(hs:aSY l):aSY (aGG ltC l) :=
 ⟨by rw[aVF]; exact hs.1,λx hx=>hs.2 x ((KA l).mem_iff.1 hx)⟩
theorem a6C {l:List (List Int)} (h:Rws 1000 l):Lib.compact (aGG ltC (N5 l))=pU [] l:=by
 refine a1D (aWN (YT loL _ λx hx=>Nat.ble_eq_true_of_le (oR (aA4 h x hx) Z))) (aMA l (by simp[SI])) λx=>?_
 rw[a8W,(KA _).mem_iff,aAT]; simp
theorem VU:∀ l:List (List Int),(N5 l).length<=2*l.length
 | []=>by simp[N5]
 | r::l=>by
  have:=VU l;unfold N5 at this ⊢;rw[List.flatMap_cons,oH,List.length_cons];split
  ·simp only[List.length_nil]; omega
  ·simp only[List.length_cons,List.length_nil]; omega
theorem aWW {l:List (List Int)}{i:Nat}(h:i<l.length):N5 (l.take (i+1))=N5 (l.take i)++(if isZ (l.getD i []) then [] else [l.getD i [],neg (l.getD i [])]):=by
 unfold N5;rw[List.take_add_one,List.flatMap_append,List.getElem?_eq_getElem h,show l.getD i []=l[i]by rw[oQ,List.getElem?_eq_getElem h]; rfl];simp
theorem aH2 {r:List Int}(h:isZ r=false):0<r.length:=by
 rcases Nat.eq_zero_or_pos r.length with h0|h0
 ·unfold isZ at h;rw[oT (λi hi=>by omega)]at h;cases h
 ·exact h0
theorem BO {r:List Int}(h:0<r.length)(h2:r.length<=1048576):fM (r,())=some (r,()):=by
 unfold fM; dsimp only;rw[bT,dF,oT h,oT h2]; rfl
theorem VA {n:Int}{l:List (List Int)}(h1:l.length<=1000)(h0:0<=n/\n<=12)(h2:∀ y∈l,(y.length:Int)=n):A8 (n,[],l,(l.length:Int),0,())=some (N5 l,()):=by
 refine bL (N:=2^64) (step:=tZ) (λi=>(n,N5 (l.take i),l,(l.length:Int),(i:Int),())) l.length (N5 l,()) Z ?_ ?_
 ·intro i hi;have hr:=h2 _ (sV hi);have hc:=VU (l.take i);have hti:(l.take i).length<=1000:=by rw[List.length_take]; omega
  rw[aWW hi];simp only[tZ,aE,aK,rP,dF,aY,oN];rw[if_pos Z,if_pos Z,Z8 Z,aD,bI i Z];cases hz:isZ (l.getD i [])with
  | true=>simp only[oC,if_true,List.append_nil]
  | false =>
   simp only[oD];have hn:n.toNat=(l.getD i []).length:=Z
   have e2:=N6 (a:=List.replicate (l.getD i []).length 0) (b:=l.getD i []) (-1) (by rw[List.length_replicate]; omega) (by rw[List.length_replicate]; omega);rw[BO (aH2 hz) Z,aD,if_pos Z,if_pos Z,if_pos Z,hn,e2,aD,a2Q];simp only[List.length_cons,List.length_nil];rw[if_pos Z,if_pos Z]; rfl
 ·simp only[tZ,aE,aY];rw[if_neg Z,List.take_length]
theorem ZU {n:Int} {l:List (List Int)} (h1:l.length<=1000) (h2:Rws 1000 l):iN (n,l,())=some (if ¬ aFK n l=0 then ([],aFK n l,()) else if 60<(pU [] l).length then ([],4,()) else (pU [] l,0,())):=by
 unfold iN; dsimp only;rw[aBY Z (λy hy=>oR (h2 y hy) Z),aD];simp only[bZ,rP,aY]
 by_cases he:aFK n l=0
 ·obtain⟨g1,g2,g3⟩:=aO3 he;have hfl:=VU l;have hsh:aSY (N5 l):=⟨by omega,λy hy=>oR (aA4 h2 y hy) Z⟩;rw[if_neg (not_not_intro he),if_neg (not_not_intro he),VA h1 ⟨g1,g2⟩ (λy hy=>(g3 y hy).2),aD,a0Z (λy hy=>oR (aA4 h2 y hy) Z) (Nat.lt_of_le_of_lt hfl Z),aD,bAZ (a1Z hsh),aD,a6C h2];simp only[aE,aY]
  by_cases h60:60<(pU [] l).length
  ·rw[if_pos h60,if_pos Z]
  ·rw[if_neg h60,if_neg Z]
 ·rw[if_pos he,if_pos he]
def LQ(n:Int) (l:List (List Int)):Int:=if ¬ aFK n l=0 then aFK n l else if 60<(pU [] l).length then 4 else 0
theorem UR {n:Int}{l:List (List Int)}(h1:l.length<=1000)(h2:Rws 1000 l):wM (n,l,())=some (LQ n l,()):=by
 unfold wM LQ; dsimp only;rw[WY Z (λy hy=>oR (h2 y hy) Z),aD];simp only[bZ,rP,aY]
 by_cases he:¬ aFK n l=0
 ·rw[if_pos he,if_pos he]
 ·rw[if_neg he,if_neg he,T4 h1 h2,aD];simp only[aE,aY]
  by_cases h60:60<(pU [] l).length
  ·rw[if_pos h60,if_pos Z]
  ·rw[if_neg h60,if_neg Z]
theorem AU {n:Int}{l:List (List Int)}(h1:l.length<=1000)(h2:Rws 1000 l):iN (n,l,())=some (if LQ n l=0 then (pU [] l,0,()) else ([],LQ n l,())):=by
 rw[ZU h1 h2];unfold LQ
 by_cases he:¬ aFK n l=0
 ·rw[if_pos he,if_pos he,if_neg he]
 ·rw[if_neg he,if_neg he]
  by_cases h60:60<(pU [] l).length
  ·rw[if_pos h60,if_pos h60]; rfl
  ·rw[if_neg h60,if_neg h60]; rfl
theorem MQ {l:List (List Int)} (h:l.length<=9223372036854775807):∃ b,wN (l,())=some (b,())/\(b=true->l.length<=40/\Rws 14 l):=by
 have hloop:BI (l,0,())=some ((((List.range l.length).find? λi=>decide (14<(l.getD i []).length)).map λi:Nat=>.inl (false,())).getD (.inr (l,()))):=by
  rw[<- D3 (λi=>14<(l.getD i []).length) (λi:Nat=>Sum.inl (false,()))];refine vG (N:=2^64) (step:=tW) (λi=>(l,(i:Int),())) (λi=>if 14<(l.getD i []).length then some (.inl (false,())) else none) l.length (.inr (l,())) Z ?_ ?_
  ·intro i hi;simp only[tW,aE,aK,aY,oN];rw[if_pos Z,if_pos Z,bI i Z]
   by_cases h:14<(l.getD i []).length
   ·rw[if_pos h,if_pos Z]
   ·rw[if_neg h,if_neg Z]
  ·simp only[tW,aE,aY];rw[if_neg Z]
 unfold wN; dsimp only;rw[hloop,aD];cases hf:(List.range l.length).find? λi=>decide (14<(l.getD i []).length)with
 | some j=>exact⟨false,rfl,λh=>by cases h⟩
 | none =>
  refine⟨!(ltI 40 (l.length:Int)),rfl,λhb=>⟨?_,?_⟩⟩
  ·rw[aE,rP,decide_eq_true_eq]at hb; omega
  ·intro y hy;obtain⟨i,hi,rfl⟩:=List.getElem_of_mem hy;have:=List.find?_eq_none.1 hf i (List.mem_range.2 hi);rw[oQ,List.getElem?_eq_getElem hi]at this;simp only[decide_eq_true_eq,Option.getD_some]at this;omega
end Go.PM
namespace Go.PM
open Go Go.RowKit Go.Proofs Tryz
set_option maxHeartbeats 4000000
abbrev zK:List (Nat×Kd):=[(2,.box 33 (.prod (.list (.int .i64)) (.prod (.list (.list (.int .i64))) (.list (.list (.int .i64)))))),(9,.own 39 (.list (.int .i64))),(30,.list (.list (.int .i64))),(31,.int .i64),(32,.int .i64)]
abbrev HD:List (Ex×List (Nat×Kd)):=[(.ret,[(4,.list (.list (.int .i64))),(5,.int .i64)]),(.exit 0,[(2,.box 33 (.prod (.list (.int .i64)) (.prod (.list (.list (.int .i64))) (.list (.list (.int .i64)))))),(9,.own 39 (.list (.int .i64)))])]
def R2(x:Shape.den zK):Option (Shape.den zK⊕dB HD):=match x with
 | (v2,v9,v30,v31,v32,()) =>
  bif ltI v32 v31 then
   bif aF v32 v30.length then aC (gV ((v2.1,(v2.2.1,v2.2.2)),(v30.getD v32.toNat []),())) λy4 =>
   bif !(eqI y4.2.1 0) then
    some (.inr (.inl ([],y4.2.1,())))
   else bif Nat.ble [y4.1].length 1048576 then bif Nat.ble v9.length 1048576 then some (.inl ((v2.1,(v2.2.1,v2.2.2)),(v9++[y4.1]),v30,v31,(aB .i64 (v32+1)),())) else none else none else none
  else some (.inr (.inr (((v2.1,(v2.2.1,v2.2.2)),v9,()))))
def EY(x:Shape.den zK):Option (dB HD):=aX R2 (2^64) x
def kV(x:aM [.agg (.prod (.list (.int .i64)) (.prod (.list (.list (.int .i64))) (.list (.list (.int .i64))))),.list (.list (.int .i64))]):Option (aM [.list (.list (.int .i64)),.int .i64]):=match x with
 | (v0,v1,()) =>
  aC (dT ((v0.1,(v0.2.1,v0.2.2)),())) λy1 =>
  bif !(eqI y1.1 0) then
   some ([],y1.1,())
  else aC (iN ((v0.1.length:Int),v1,())) λy2 =>
  bif !(eqI y2.2.1 0) then
   some ([],y2.2.1,())
  else aC (EY ((v0.1,(v0.2.1,v0.2.2)),[],v1,(v1.length:Int),0,())) λz5 =>
  mH z5 (λa6=>some (a6.1,a6.2.1,())) λb7 =>
  aC (iN ((b7.1.2.2.length:Int),b7.2.1,())) λy8 =>
  some (y8.1,y8.2.1,())
abbrev YW:Ent:=⟨10,[.agg (.prod (.list (.int .i64)) (.prod (.list (.list (.int .i64))) (.list (.list (.int .i64))))),.list (.list (.int .i64))],[.list (.list (.int .i64)),.int .i64],kV⟩
theorem UJ:Ent.OK Tryz.prog YW:=oU (aP (oV wQ (oV vM (oV I7 oW)))) func10 9 (lp:=EY) rfl Y (by rintro⟨v2,v9,v30,v31,v32,⟨⟩⟩; kernel_rfl) (by rintro⟨v0,v1,⟨⟩⟩; kernel_rfl)
end Go.PM
namespace Go.PM
open Go Go.RowKit Go.Proofs Go.Lz
theorem bAF(p:Int×List (Int×Int×Int×Int)×Bool):A4 (p,())=some (decide (p.2.1.length<=3),()):=by
 obtain⟨a,b,c⟩:=p;have:(!(ltI 3 (b.length:Int)))=decide (b.length<=3):=by
  rw[aE]
  by_cases h:b.length<=3
  ·rw[oT h,oF Z]; rfl
  ·rw[oF h,oT Z]; rfl
 simp only[A4,this]
theorem a8K {x:List Int}(h:rc x=0):x.length<=64/\∀ a∈x,a.natAbs<=1000000000:=by
 unfold rc at h;split at h
 ·cases h
 ·split at h
  next h1 h2=>
   refine⟨by omega,λa ha=>?_⟩;obtain⟨i,hi,rfl⟩:=List.getElem_of_mem ha;have:=h2 i hi;have e:x.getD i 0=x[i]:=by simp[List.getD,hi]
   rw[e]at this;have h3:=this.1;have h4:=this.2;omega
  ·cases h
section
variable {ps:List Int} {n d r:Nat} {C K:Nat->V}
end
theorem wf_u8 {x}(h:(Lit.int .u8 x).wf=true):0<=x/\x<256:=by
 simp only[Lit.wf,oA,decide_eq_true_eq]at h;have h1:IntKind.u8.min=0:=by rfl
 have h2:IntKind.u8.max=255:=by rfl
 omega
theorem wf_i8 {x}(h:(Lit.int .i8 x).wf=true) : -128<=x/\x<128:=by
 simp only[Lit.wf,oA,decide_eq_true_eq]at h;have h1:IntKind.i8.min = -128:=by rfl
 have h2:IntKind.i8.max=127:=by rfl
 omega
theorem bDW {v:Int×Int×Int×Int}(h:WF (.prod (.int .i8) (.prod (.int .i8) (.prod (.int .i8) (.int .i8)))) v):I8 v:=λi hi=>by
 obtain⟨a1,a2,a3,a4⟩:=h;rcases(show i=0\/i=1\/i=2\/i=3 by omega)with rfl|rfl|rfl|rfl
 ·exact wf_i8 a1
 ·exact wf_i8 a2
 ·exact wf_i8 a3
 ·exact wf_i8 a4
end Go.PM
namespace Go.PM
open Go Go.RowKit Go.Proofs Tryz
set_option maxHeartbeats 4000000
def dS(x:aM [.list (.list (.int .i64))]):Option (List (List Int)):=match x with
 | (v0,()) =>
  bif Nat.blt 0 v0.length then bif Nat.ble v0.length 1048576 then some v0 else none else none
def rC:Code:=dN f47
abbrev zB:Env:=FN []
theorem HY:fX Tryz.prog zB:=aP trivial
def yI(id:Nat):Option eY:=none
theorem GP:bA rC=[]:=Y
theorem HX:∀ x,aZI Tryz.prog zB f47 (aQ f47) yI rC [.list (.list (.int .i64))] 2 39 (.list (.int .i64)) x=dS x:=by
 rintro⟨v0,⟨⟩⟩
 kernel_rfl
theorem JK:aTH Tryz.prog 47 [.list (.list (.int .i64))] 39 (.list (.int .i64)) dS:=aZQ bH HY func47 (c:=rC) Y (keep:=aQ f47) (lt:=yI) (t:=2) Y (aT GP trivial) HX
abbrev zW:Shr:=(47,a8J [.list (.list (.int .i64))] 39 (.list (.int .i64)) dS)
theorem IA:qU Tryz.prog zW:=aY4 JK
end Go.PM
namespace Go.PM
open Go Go.RowKit
section
variable {P:Program} {cl:Callee} {n0:Nat->Prop} {nt:Nat} {wi w:World} {Gi G:Gd} {μi μ:Mp} {F:Frm} {H:Heap} {a:Act}
theorem I.fresh (hW:aO n0 G μ H w) (hF:dO w G μ nt F a):I n0 w G aG nt F H a w :=
 ⟨G,μ,⟨W6,rfl,rfl,rfl,oM _,λ_ _ _=>rfl,λ_ h=>.inl h⟩,hW,hF⟩
def kS(sl:List Nat) (ex:Ex) (F:Frm) (H:Heap):Option (Ex×List PV×Heap):=some (ex,sl.map (bM F),H)
theorem aYS F t:∀ sl:List Nat,bM (sl.zip (sl.map (bM F))) t=bM F t\/bM (sl.zip (sl.map (bM F))) t=.junk
 | []=>.inr rfl
 | s::sl=>by
  show bM ((s,bM F s)::sl.zip (sl.map (bM F))) t=bM F t\/bM ((s,bM F s)::sl.zip (sl.map (bM F))) t=.junk;rw[bQ]
  by_cases hs:t=s
  ·grind
  ·rw[if_neg hs]; exact aYS F t sl
theorem dO.l5 (h:dO w G μ nt F a)(sl:List Nat):dO w G μ nt (sl.zip (sl.map (bM F))) a:=⟨h.size,λt=>by
 rcases aYS F t sl with h1|h1
 ·rw[h1]; exact h.slot t
 ·rw[h1,VR]; simp,h.defers⟩
theorem Ext.a5R {w' G' μ'}(e:Ext n0 w G aG w' G' μ'):Ext n0 w G aG w' G' aG :=
 ⟨⟨e.good,λ_ _ h=>h,λ_ _ h=>h,e.room,e.row,λ_ _ _=>rfl⟩,e.os,e.tape,e.output,e.size,e.old,e.new⟩
theorem a0C {E:Env} {keep:Nat} (hcl:dH P (fJ P E)) (hP:P.follows .mixedOrders=true) {c:Code} {sl:List Nat} {ex:Ex} {ps:List PV} {H':Heap} (hl:bA c=[]) (h:lX P E nt keep (λ_=>none) c F H (kS sl)=some (ex,ps,H')) (hW:aO n0 G μ H w) (hF:dO w G μ nt F a) :
  c.wp P (λe a' w'=>e=ex.to/\∃ G' μ',Ext n0 w G aG w' G' aG/\aO n0 G' μ' H' w'/\dO w' G' μ' nt (sl.zip ps) a') a w:=by
 obtain⟨⟨ex1,F1,H1⟩,h1,h2⟩:=kY hcl hP c _ _ _ _ (by rw[hl]; intro a ha; cases ha) h;simp only[kS,oJ,oP]at h1;obtain⟨rfl,rfl,rfl⟩:=h1;refine wp_mono (h2 n0 w G aG a w (λr=>⟨rfl,rfl⟩) (I.fresh hW hF)) ?_;rintro e a' w' ⟨rfl,G',μ',e',hW',hF'⟩;exact⟨rfl,G',μ',e'.a5R,hW',hF'.l5 sl⟩
end
open Go Go.RowKit Go.Proofs Tryz
set_option maxHeartbeats 4000000
abbrev TmJ:Ty:=.prod (.list (.int .i64)) (.prod J4 J4)
abbrev iJ(n:Int):PV:=.lit (.int .i64 n)
abbrev bJ(b:Bool):PV:=.lit (.bool b)
abbrev rJ(l:List Int):PV:=s9 (.int .i64) l none
abbrev lJ(l:List (List Int)):PV:=s9 mC l none
abbrev aNG:Type:=aM [.list mC,.bool]
abbrev KsJ:List Kd:=[.list mC,.ptr J4,.ptr J4,.ptr TmJ]
def aUH(g:FuncId):List PV->Option (List (List Int)×List (List Int)×TmJ.den×List PV)
 | [.clo (.func h) [] [p1,p2,p3,.iptr cs]]=>bif Nat.beq h g&&dZ (.iptr cs) then match aJI [.ptr J4,.ptr J4,.ptr TmJ] [p1,p2,p3]with
  | some (c,cl,t,())=>some (c,cl,t,cs)
  | none=>none else none
 | _=>none
def aSK(rec:List (List Int)->Option aNG) (c cl:List (List Int)) (t:TmJ.den) (notes:List (List Int)) (x:List Int):Option (Option aNG) :=
 aC (gV (t,x,())) λy =>
  bif !(eqI y.2.1 0) then some none else
  bif aF (notes.length:Int) c.length then aC (xO (y.1,c.getD (notes.length:Int).toNat [],())) λb =>
  bif b.1 then aC (jU (cl,notes,x,())) λf =>
  bif f.1 then aC (dS (notes,())) λn=>aC (fM (x,())) λx2 =>
  bif Nat.ble n.length 1048576 then aC (rec (n++[x2.1])) λo=>bif o.2.1 then some (some (o.1,true,())) else some none
  else none else some none else some none else none
def aCO(one:List Int->Option (Option aNG)):List (List Int)->Option aNG
 | []=>some ([],false,())
 | x::l=>aC (one x) λr=>match r with
  | some z=>some z
  | none=>aCO one l
def juF(g:FuncId):Nat->List (List Int)->List (List Int)->List (List Int)->TmJ.den->List PV->Option aNG
 | 0,notes,c,cl,t,cs=>bif eqI (notes.length:Int) (c.length:Int) then some (notes,true,()) else
  bif Nat.ble cl.length 1048576 then aCO (aSK (λ_=>none) c cl t notes) cl else none
 | m+1,notes,c,cl,t,cs=>bif eqI (notes.length:Int) (c.length:Int) then some (notes,true,()) else
  bif Nat.ble cl.length 1048576 then aCO (aSK (λn=>match aUH g cs with
   | some (c',cl',t',cs')=>juF g m n c' cl' t' cs'
   | none=>none) c cl t notes) cl else none
abbrev gJ:FuncId:=45
def cJ:Code:=dN f45
abbrev ntJ:Nat:=f45.ntmps
abbrev kpJ:Nat:=aQ f45
def qL:Code->Code
 | .seq x _=>x
 | c=>c
def qR:Code->Code
 | .seq _ y=>y
 | c=>c
def qB:Code->Code
 | .block _ c=>c
 | .loop c=>c
 | c=>c
def cJ0:Code:=qL cJ
def cJ1:Code:=qL (qR cJ)
def cJ2:Code:=qL (qR (qR cJ))
def cJ4:Code:=qL (qL (qR (qR (qR cJ))))
def cJb:Code:=qB (qB (qR (qL (qR (qR (qR cJ))))))
def bCX:Code:=qL (qR (qR (qR (qR cJ))))
def cJ5:Code:=qL cJb
def cJi:Code:=qB (qL (qR (qR cJb)))
def cJ6:Code:=qL cJi
def cJ7:Code:=qL (qR cJi)
def cJ8:Code:=qL (qR (qR cJi))
def cJ9:Code:=qR (qR (qR cJi))
def bAN:Code:=qR (qR (qR cJb))
theorem bBU:cJ=.seq cJ0 (.seq cJ1 (.seq cJ2 (.seq (.seq cJ4 (.block 0 (.loop cJb))) (.seq bCX .ret)))):=by rfl
theorem a4X:cJb=.seq cJ5 (.seq (.cond (.tmp 25) .skip (.exit 0)) (.seq (.block 1 (.seq cJ6 (.seq cJ7 (.seq cJ8 cJ9)))) bAN)):=by rfl
def aYR:Env:=PI [K3,aDP,OC,vZ] [zW]
theorem aUN:fX Tryz.prog aYR:=pN ⟨FH,LF,I7,tB,trivial⟩ ⟨IA,trivial⟩
def EJ(R:List PV->Option Res):Env:=⟨λh qs=>bif Nat.beq h gJ then R qs else aYR.pure h qs,aYR.shr,aYR.sh⟩
def RJ:Nat->List PV->Option Res
 | 0,_=>none
 | m+1,[q0,q1,q2,q3,.iptr cs]=>match aJI KsJ [q0,q1,q2,q3]with
  | some (n,c,cl,t,())=>some ⟨aNG,juF gJ m n c cl t cs,VN [.list mC,.bool]⟩
  | none=>none
 | _+1,_=>none
def kJ(sl:List Nat) (ex:Ex) (F:Frm) (_:Heap):Option (Ex×List PV):=some (ex,sl.map (bM F))
section
variable (R:List PV->Option Res) (notes c cl:List (List Int)) (t:TmJ.den) (cs:List PV) (x:List Int) (i:Int)
abbrev pJ:List PV:=[lJ notes,.iptr (enc J4 c),.iptr (enc J4 cl),.iptr (enc TmJ t),.iptr cs]
theorem bDO:lX Tryz.prog (EJ R) ntJ kpJ (λ_=>none) cJ0 (start kpJ 0 (pJ notes c cl t cs)) [] (kJ [0,1,2,3,4])=some (.normal,pJ notes c cl t cs):=Y
abbrev FJ0:Frm:=[0,1,2,3,4].zip (pJ notes c cl t cs)
theorem bDR:lX Tryz.prog (EJ R) ntJ kpJ (λ_=>none) cJ1 (FJ0 notes c cl t cs) [] (kJ [0,1,2,3,4,8])=some (.normal,pJ notes c cl t cs++[iJ notes.length]):=Y
abbrev FJ1:Frm:=[0,1,2,3,4,8].zip (pJ notes c cl t cs++[iJ notes.length])
theorem bDU:lX Tryz.prog (EJ R) ntJ kpJ (λ_=>none) cJ2 (FJ1 notes c cl t cs) [] (kJ [0,1,2,3,4,8,6,7])=bif eqI (notes.length:Int) (c.length:Int) then some (.ret,pJ notes c cl t cs++[iJ notes.length,lJ notes,bJ true]) else some (.normal,pJ notes c cl t cs++[iJ notes.length,.junk,.junk]):=Y
theorem bD4:lX Tryz.prog (EJ R) ntJ kpJ (λ_=>none) cJ4 (FJ1 notes c cl t cs) [] (kJ [0,1,2,3,4,8,22,23,24])=some (.normal,pJ notes c cl t cs++[iJ notes.length,lJ cl,iJ cl.length,iJ 0]):=Y
abbrev FJ4:Frm:=[0,1,2,3,4,8,22,23,24].zip (pJ notes c cl t cs++[iJ notes.length,lJ cl,iJ cl.length,iJ i])
theorem bCD:lX Tryz.prog (EJ R) ntJ kpJ (λ_=>none) cJ5 (FJ4 notes c cl t cs i) [] (kJ [0,1,2,3,4,8,22,23,24,25])=some (.normal,pJ notes c cl t cs++[iJ notes.length,lJ cl,iJ cl.length,iJ i,bJ (ltI i cl.length)]):=Y
theorem bDV:lX Tryz.prog (EJ R) ntJ kpJ (λ_=>none) cJ6 (FJ4 notes c cl t cs i) [] (kJ [0,1,2,3,4,8,22,23,24,10])=bif aF i cl.length then some (.normal,pJ notes c cl t cs++[iJ notes.length,lJ cl,iJ cl.length,iJ i,rJ (cl.getD i.toNat [])]) else none:=Y
abbrev FJ6:Frm:=[0,1,2,3,4,8,22,23,24,10].zip (pJ notes c cl t cs++[iJ notes.length,lJ cl,iJ cl.length,iJ i,rJ x])
theorem bDK:lX Tryz.prog (EJ R) ntJ kpJ (λ_=>none) cJ7 (FJ6 notes c cl t cs x i) [] (kJ [0,1,2,3,4,8,22,23,24,10,11,12])=aC (gV (t,x,())) λy=>some (.normal,pJ notes c cl t cs++[iJ notes.length,lJ cl,iJ cl.length,iJ i,rJ x,rJ y.1,iJ y.2.1]):=Y
abbrev FJ7(y:List Int)(e:Int):Frm:=[0,1,2,3,4,8,22,23,24,10,11,12].zip (pJ notes c cl t cs++[iJ notes.length,lJ cl,iJ cl.length,iJ i,rJ x,rJ y,iJ e])
theorem bD6(y:List Int)(e:Int):lX Tryz.prog (EJ R) ntJ kpJ (λ_=>none) cJ8 (FJ7 notes c cl t cs x i y e) [] (kJ [0,1,2,3,4,8,22,23,24,10]) =
  bif !(eqI e 0) then some (.exit 1,pJ notes c cl t cs++[iJ notes.length,lJ cl,iJ cl.length,iJ i,rJ x]) else
  bif aF (notes.length:Int) c.length then aC (xO (y,c.getD (notes.length:Int).toNat [],())) λb =>
  bif b.1 then aC (jU (cl,notes,x,())) λf =>
  bif f.1 then some (.normal,pJ notes c cl t cs++[iJ notes.length,lJ cl,iJ cl.length,iJ i,rJ x]) else some (.exit 1,pJ notes c cl t cs++[iJ notes.length,lJ cl,iJ cl.length,iJ i,rJ x])
  else some (.exit 1,pJ notes c cl t cs++[iJ notes.length,lJ cl,iJ cl.length,iJ i,rJ x]) else none:=Y
abbrev aR6(c' cl':List (List Int))(t':TmJ.den)(cs':List PV):List PV:=[.clo (.func gJ) [] [.iptr (enc J4 c'),.iptr (enc J4 cl'),.iptr (enc TmJ t'),.iptr cs']]
theorem bCL:lX Tryz.prog (EJ R) ntJ kpJ (λ_=>none) bAN (FJ4 notes c cl t cs i) [] (kJ [0,1,2,3,4,8,22,23,24])=some (.normal,pJ notes c cl t cs++[iJ notes.length,lJ cl,iJ cl.length,iJ (aB .i64 (i+1))]):=Y
theorem bCI:lX Tryz.prog (EJ R) ntJ kpJ (λ_=>none) bCX [] [] (kJ [6,7])=some (.normal,[.lit (.slice none 0 0),bJ false]):=Y
end
theorem bD7:∀ (notes c cl:List (List Int)) (t:TmJ.den) (x:List Int) (i:Int) (m:Nat) (c' cl':List (List Int)) (t':TmJ.den) (cs':List PV),lX Tryz.prog (EJ (RJ (m+1))) ntJ kpJ (λ_=>none) cJ9 (FJ6 notes c cl t (aR6 c' cl' t' cs') x i) [] (kJ [0,1,2,3,4,8,22,23,24,6,7]) =
  aC (dS (notes,())) λn=>aC (fM (x,())) λx2 =>
  bif Nat.ble n.length 1048576 then bif dZ (.iptr cs')&&true then aC (juF gJ m (n++[x2.1]) c' cl' t' cs') λo =>
   bif o.2.1 then some (.ret,pJ notes c cl t (aR6 c' cl' t' cs')++[iJ notes.length,lJ cl,iJ cl.length,iJ i,lJ o.1,bJ true])
   else some (.normal,pJ notes c cl t (aR6 c' cl' t' cs')++[iJ notes.length,lJ cl,iJ cl.length,iJ i,.junk,.junk]) else none else none:=by
 intro notes c cl t x i m c' cl' t' cs'
 kernel_rfl
end Go.PM
namespace Go.PM
open Go Go.RowKit Go.Proofs Tryz
set_option maxHeartbeats 4000000
section
variable {n0:Nat->Prop} {w0 w:World} {G0 G:Gd} {μ:Mp} {H:Heap} {F:Frm} {a:Act} {nt kp:Nat}
theorem aO.forget (hW:aO n0 G μ H w):aO n0 G aG [] w :=
 ⟨λr k b h=>by simp at h,λr k g h=>by simp at h,λr s k l b h=>by simp at h,hW.lt,λ_ _=>⟨rfl,rfl⟩,hW.base,hW.rows.rel (λ_ _=>False) (λ_ _ _ h=>h.elim) (λr k' hr=>by simp at hr)⟩
def nrj:PV->Bool
 | .junk=>true
 | p=>dW p
theorem a5V {p v}(h:nrj p=true)(hv:VR w G μ p v):VR w G aG p v:=by
 unfold nrj at h;split at h
 ·rw[VR]; trivial
 ·exact nV _ _ h hv
theorem aQ1:∀ (sl:List Nat) (ps:List PV),ps.all nrj=true->∀ t,nrj (bM (sl.zip ps) t)=true
 | [],ps,_,t=>rfl
 | s::sl,[],_,t=>rfl
 | s::sl,p::ps,h,t=>by
  simp only[List.all_cons,oA]at h;show nrj (bM ((s,p)::sl.zip ps) t)=true;rw[bQ];split
  ·exact h.1
  ·exact aQ1 sl ps h.2 t
def SJ(nt:Nat) (n0:Nat->Prop) (w0:World) (G0:Gd) (F:Frm) (a:Act) (w:World):Prop :=
 ∃ G,Ext n0 w0 G0 aG w G aG/\aO n0 G aG [] w/\dO w G aG nt F a
theorem SJ.piece {E:Env}(hE:fX Tryz.prog E){c:Code}{sl:List Nat}{ex:Ex}{ps:List PV}(hl:bA c=[])(h:lX Tryz.prog E nt kp (λ_=>none) c F [] (kJ sl)=some (ex,ps))(hn:ps.all nrj=true)(hS:SJ nt n0 w0 G0 F a w):c.wp Tryz.prog (λe a' w'=>e=ex.to/\SJ nt n0 w0 G0 (sl.zip ps) a' w') a w:=by
 obtain⟨G,e0,hW,hF⟩:=hS;obtain⟨⟨ex1,F1,H1⟩,h1,h2⟩:=kY hE.callee bH.mixed c _ _ _ _ (by rw[hl]; intro a ha; cases ha) h;simp only[kJ,oJ,oP]at h1;obtain⟨rfl,rfl⟩:=h1;refine wp_mono (h2 n0 w G aG a w (λr=>⟨rfl,rfl⟩) (I.fresh hW hF)) ?_;rintro e a' w' ⟨rfl,G',μ',e',hW',hF'⟩;have hF2:=hF'.l5 sl;exact⟨rfl,G',e0.trans e'.a5R,hW'.forget,⟨hF2.size,λt=>a5V (aQ1 _ _ hn t) (hF2.slot t),hF2.defers⟩⟩
theorem SJ.l5 (h:SJ nt n0 w0 G0 F a w)(sl:List Nat):SJ nt n0 w0 G0 (sl.zip (sl.map (bM F))) a w:=by
 obtain⟨G,E,hW,hF⟩:=h;exact⟨G,E,hW,hF.l5 sl⟩
theorem SJ.lit {t v}(h:SJ nt n0 w0 G0 F a w)(hf:bM F t=.lit v):a.eval (.tmp t)=v:=by
 obtain⟨G,E,hW,hF⟩:=h;have:=cE hF (.tmp t);rw[show ev F (.tmp t)=.lit v from hf,VR]at this;exact this
theorem a7H {cs c cl t cs' v}(h:aUH gJ cs=some (c,cl,t,cs'))(hv:VR w G aG (.iptr cs) v):VR w G aG (.iptr (aR6 c cl t cs')) v:=by
 unfold aUH at h;split at h
 next hh p1 p2 p3 cs1=>
  obtain⟨hb,h⟩:=aJ h;simp only[oA]at hb;split at h
  next c1 cl1 t1 hd=>
   simp only[oJ,oP]at h;obtain⟨rfl,rfl,rfl,rfl⟩:=h;obtain rfl:=oE hb.1;rw[VR]at hv ⊢;obtain⟨b,off,rfl,hg,hc⟩:=hv;refine⟨b,off,rfl,hg,?_⟩;rw[aL]at hc ⊢;obtain⟨⟨u,hu,hclo⟩,hn⟩:=hc;refine⟨⟨u,hu,?_⟩,hn⟩;rw[VR]at hclo ⊢;obtain⟨fs,vs,rfl,hfs,hvs⟩:=hclo;refine⟨fs,vs,rfl,hfs,?_⟩;rw[VRs]at hvs; obtain⟨v1,r1,e1,q1,hvs⟩:=hvs;rw[VRs]at hvs; obtain⟨v2,r2,rfl,q2,hvs⟩:=hvs;rw[VRs]at hvs; obtain⟨v3,r3,rfl,q3,hvs⟩:=hvs
   have h3:=DI [.ptr J4,.ptr J4,.ptr TmJ] hd (vs:=[v1,v2,v3]) (by
    rw[VRs]; refine⟨v1,_,rfl,q1,?_⟩;rw[VRs]; refine⟨v2,_,rfl,q2,?_⟩;rw[VRs]; refine⟨v3,_,rfl,q3,?_⟩;rw[VRs])
   change VRs w G aG [.iptr (enc J4 c1),.iptr (enc J4 cl1),.iptr (enc TmJ t1)] [v1,v2,v3]at h3;rw[VRs]at h3; obtain⟨u1,s1,f1,z1,h3⟩:=h3;rw[VRs]at h3; obtain⟨u2,s2,rfl,z2,h3⟩:=h3;rw[VRs]at h3; obtain⟨u3,s3,rfl,z3,h3⟩:=h3;simp only[List.cons.injEq]at f1;obtain⟨rfl,rfl,rfl,_⟩:=f1;rw[VRs]; refine⟨v1,_,e1,z1,?_⟩;rw[VRs]; refine⟨v2,_,rfl,z2,?_⟩;rw[VRs]; exact⟨v3,_,rfl,z3,hvs⟩
  ·cases h
 ·cases h
end
theorem a4E {cs c cl t cs'}(h:aUH gJ cs=some (c,cl,t,cs')):dZ (.iptr cs')=true:=by
 unfold aUH at h;split at h
 ·obtain⟨hb,h⟩:=aJ h;simp only[oA]at hb;split at h
  ·simp only[oJ,oP]at h;obtain⟨rfl,rfl,rfl,rfl⟩:=h;exact hb.2
  ·cases h
 ·cases h
theorem a38 {R:List PV->Option Res}(hR:∀ qs r,R qs=some r->∀ y,r.val=some y->nP Tryz.prog gJ qs (r.out y)):fX Tryz.prog (EJ R) where
 pure:=λh qs r hr y hy=>by
  unfold EJ at hr; dsimp only at hr;cases hb:Nat.beq h gJ with
  | true=>rw[hb,oC]at hr; obtain rfl:=oE hb; exact hR qs r hr y hy
  | false=>rw[hb,oD]at hr; exact aUN.pure h qs r hr y hy
 shr:=aUN.shr
theorem bCF:f45.body=some cJ:=Y
theorem bDM(p q:PV):qT Tryz.prog ([6,7].zip [p,q]) [] f45.results.toList=some [p,q]:=Y
theorem aW4 {w:World}{G:Nat->Prop}{p q:PV}{y:aNG}(hd:aJH [.list mC,.bool] (.tuple [p,q])=some y){a' w'}(hS:SJ ntJ (tM w) w (Gd.of G) ([6,7].zip [p,q]) a' w') :
  a'.defers=[]/\∃ v,(results f45 a'.tmps).run Tryz.prog w'=.ok v w'/\∃ v' G',Ending.returned v=.returned v'/\Ext (tM w) w (Gd.of G) aG w' (Gd.of G') aG/\(∀ b,G' b->b<w'.heap.size)/\VR w' (Gd.of G') aG (VN [.list mC,.bool] y) v':=by
 obtain⟨G1,E,hW1,hF1⟩:=hS;obtain⟨ws,h3,h4⟩:=mQ (P:=Tryz.prog) hW1 hF1 (bDM p q);have hres:(results f45 a'.tmps).run Tryz.prog w'=.ok (if hh:ws.toArray.size=1 then ws.toArray[0] else .tuple ws.toArray) w':=by
  rw[yD,Array.mapM_eq_mapM_toList];simp only[Sem.run_bind,Sem.run_map,h3,Result.andThen_ok,Sem.run_pure]
 have hvr:=SE hd (pC h4);refine⟨hF1.defers,_,hres,_,G1.ok,rfl,?_,hW1.lt,DX (G:=G1) (G':=Gd.of G1.ok) (λb h=>h) _ _ _ rfl hvr⟩;exact {
  good:=λc hc=>⟨(E.good c hc).1,(E.good c hc).2⟩
  map:=λ_ _ h=>h
  len:=λ_ _ h=>h
  sh:=λ_ _ h=>(by cases h)
  room:=E.room
  row:=λ_ _ h=>h
  os:=E.os
  tape:=E.tape
  output:=E.output
  size:=E.size
  old:=E.old
  new:=E.new }
theorem bAC(m:Nat)(IH:∀ m',m=m'+1->∀ notes c cl t cs y,juF gJ m' notes c cl t cs=some y->nP Tryz.prog gJ (pJ notes c cl t cs) (VN [.list mC,.bool] y)):∀ qs r,RJ m qs=some r->∀ z,r.val=some z->nP Tryz.prog gJ qs (r.out z):=by
 intro qs r hr z hz;unfold RJ at hr;split at hr
 ·cases hr
 next m' q0 q1 q2 q3 cs1=>
  split at hr
  next n1 c1 cl1 t1 hd=>
   obtain rfl:=oB hr;intro w G vs hlt hv;refine IH m' rfl n1 c1 cl1 t1 cs1 z hz w G vs hlt ?_;rw[VRs]at hv; obtain⟨v0,r0,e0,p0,hv⟩:=hv;rw[VRs]at hv; obtain⟨v1,r1,rfl,p1,hv⟩:=hv;rw[VRs]at hv; obtain⟨v2,r2,rfl,p2,hv⟩:=hv;rw[VRs]at hv; obtain⟨v3,r3,rfl,p3,hv⟩:=hv;have h3:=DI KsJ hd (vs:=[v0,v1,v2,v3]) (by
    rw[VRs]; refine⟨v0,_,rfl,p0,?_⟩;rw[VRs]; refine⟨v1,_,rfl,p1,?_⟩;rw[VRs]; refine⟨v2,_,rfl,p2,?_⟩;rw[VRs]; refine⟨v3,_,rfl,p3,?_⟩;rw[VRs])
   change VRs w (Gd.of G) aG [lJ n1,.iptr (enc J4 c1),.iptr (enc J4 cl1),.iptr (enc TmJ t1)] [v0,v1,v2,v3]at h3;rw[e0];exact VRs.append (ps:=[lJ n1,.iptr (enc J4 c1),.iptr (enc J4 cl1),.iptr (enc TmJ t1)]) h3 hv
  ·cases hr
 ·cases hr
theorem aYO(m:Nat)(IH:∀ m',m=m'+1->∀ notes c cl t cs y,juF gJ m' notes c cl t cs=some y->nP Tryz.prog gJ (pJ notes c cl t cs) (VN [.list mC,.bool] y)) :
  ∀ notes c cl t cs y,juF gJ m notes c cl t cs=some y->nP Tryz.prog gJ (pJ notes c cl t cs) (VN [.list mC,.bool] y):=by
 intro notes c cl t cs y hy;have hE:=a38 (bAC m IH);obtain⟨rec,cs0,hcs,hrec,hj⟩:∃ (rec:List (List Int)->Option aNG) (cs0:List PV),(∀ (w:World) (G:Gd) v,VR w G aG (.iptr cs) v->VR w G aG (.iptr cs0) v) /\
   (∀ n o,rec n=some o->∃ m' c' cl' t' cs',m=m'+1/\cs0=aR6 c' cl' t' cs'/\dZ (.iptr cs')=true/\juF gJ m' n c' cl' t' cs'=some o) /\
   (bif eqI (notes.length:Int) (c.length:Int) then some (notes,true,()) else bif Nat.ble cl.length 1048576 then aCO (aSK rec c cl t notes) cl else none)=some y:=by
  cases m with
  | zero=>exact⟨λ_=>none,cs,λ_ _ _ h=>h,λn o h=>(by cases h),hy⟩
  | succ m' =>
   cases hd:aUH gJ cs with
   | none =>
    refine⟨λ_=>none,cs,λ_ _ _ h=>h,λn o h=>(by cases h),?_⟩;unfold juF at hy;rw[hd]at hy;exact hy
   | some z =>
    obtain⟨c',cl',t',cs'⟩:=z;refine⟨λn=>juF gJ m' n c' cl' t' cs',aR6 c' cl' t' cs',λw G v h=>a7H hd h,λn o h=>⟨m',c',cl',t',cs',rfl,rfl,a4E hd,h⟩,?_⟩;unfold juF at hy;rw[hd]at hy;exact hy
 intro w G vs hlt hv;have hv:VRs w (Gd.of G) aG (pJ notes c cl t cs0) vs.toList:=by
  unfold pJ at hv ⊢;rw[VRs]at hv; obtain⟨v0,r0,e0,p0,hv⟩:=hv;rw[VRs]at hv; obtain⟨v1,r1,rfl,p1,hv⟩:=hv;rw[VRs]at hv; obtain⟨v2,r2,rfl,p2,hv⟩:=hv;rw[VRs]at hv; obtain⟨v3,r3,rfl,p3,hv⟩:=hv;rw[VRs]at hv; obtain⟨v4,r4,rfl,p4,hv⟩:=hv;rw[VRs]; refine⟨v0,_,e0,p0,?_⟩;rw[VRs]; refine⟨v1,_,rfl,p1,?_⟩;rw[VRs]; refine⟨v2,_,rfl,p2,?_⟩;rw[VRs]; refine⟨v3,_,rfl,p3,?_⟩;rw[VRs]; exact⟨v4,_,rfl,hcs _ _ _ p4,hv⟩
 refine⟨enters func45 Y Y _ _,calls_of_wp func45 bCF ?_⟩;have hW0:aO (tM w) (Gd.of G) aG [] w:=⟨λr k b h=>by simp at h,λr k g h=>by simp at h,λr s k l b h=>by simp at h,hlt,λ_ _=>⟨rfl,rfl⟩,λ_ h=>h,rA.none _ _ (λ_=>rfl) _ _ (λr k h=>by simp at h)⟩;have hF0:dO w (Gd.of G) aG ntJ (start kpJ 0 (pJ notes c cl t cs0)) ⟨vs++Array.replicate (ntJ-vs.size) undef,[]⟩:=pK hv (by show 5<=ntJ; exact oL Y)
 suffices h:cJ.wp Tryz.prog (λe a' w'=>e=.ret/\∃ p q,aJH [.list mC,.bool] (.tuple [p,q])=some y/\SJ ntJ (tM w) w (Gd.of G) ([6,7].zip [p,q]) a' w') ⟨vs++Array.replicate (ntJ-vs.size) undef,[]⟩ w by
  refine wp_mono h ?_;rintro e a' w' ⟨rfl,p,q,hd,hS⟩;exact aW4 hd hS
 have hS0:SJ ntJ (tM w) w (Gd.of G) (start kpJ 0 (pJ notes c cl t cs0)) ⟨vs++Array.replicate (ntJ-vs.size) undef,[]⟩ w:=⟨Gd.of G,Ext.refl _ _ _ _,hW0,hF0⟩;rw[bBU];refine wp_seq (wp_mono (hS0.piece hE Y (bDO _ _ _ _ _ _) rfl) ?_);rintro e1 a1 w1 ⟨rfl,hS1⟩;refine wp_seq (wp_mono (hS1.piece hE Y (bDR _ _ _ _ _ _) rfl) ?_);rintro e2 a2 w2 ⟨rfl,hS2⟩;have h2:=bDU (RJ m) notes c cl t cs0
 cases hc:eqI (notes.length:Int) (c.length:Int)with
 | true =>
  rw[hc,oC]at h2 hj;obtain rfl:=oB hj;refine wp_seq (wp_mono (hS2.piece hE Y h2 rfl) ?_);rintro e3 a3 w3 ⟨rfl,hS3⟩;exact⟨rfl,lJ notes,bJ true,by kernel_rfl,hS3.l5 [6,7]⟩
 | false =>
  rw[hc,oD]at h2 hj;obtain⟨hlen,hj⟩:=aJ hj;have hlen:=oL hlen;refine wp_seq (wp_mono (hS2.piece hE Y h2 rfl) ?_);rintro e3 a3 w3 ⟨rfl,hS3⟩;refine wp_seq (wp_seq (wp_mono ((hS3.l5 [0,1,2,3,4,8]).piece hE Y (bD4 _ _ _ _ _ _) rfl) ?_));rintro e4 a4 w4 ⟨rfl,hS4⟩;refine wp_block (wp_loop_ghost (λk a w'=>∃ (rest:List (List Int)) (i:Nat),k=rest.length/\aCO (aSK rec c cl t notes) rest=some y/\cl.drop i=rest/\i<=cl.length/\SJ ntJ (tM w) w (Gd.of G) (FJ4 notes c cl t cs0 i) a w') cl.length ⟨cl,0,rfl,hj,rfl,Nat.zero_le _,hS4⟩ ?_)
  rintro k a5 w5 ⟨rest,i,rfl,ht,hd,hi,hS5⟩;cases rest with
  | nil =>
   have hge:cl.length<=i:=List.drop_eq_nil_iff.1 hd;obtain rfl:=oB ht;have hlt2:ltI (i:Int) (cl.length:Int)=false:=by rw[aE]; exact oF Z
   rw[a4X];refine wp_seq (wp_mono (hS5.piece hE Y (bCD _ _ _ _ _ _ _) rfl) ?_);rintro e6 a6 w6 ⟨rfl,hS6⟩;refine wp_seq (wp_cond_false ?_ (wp_exit ?_))
   ·have:=hS6.lit (t:=25) (v:=.bool (ltI (i:Int) (cl.length:Int))) rfl;rw[hlt2]at this; exact this
   ·refine wp_seq (wp_mono ((hS6.l5 []).piece hE Y (bCI _) rfl) ?_);rintro e7 a7 w7 ⟨rfl,hS7⟩;exact wp_ret ⟨rfl,_,_,by kernel_rfl,hS7⟩
  | cons x rest =>
   have hlt2:i<cl.length:=by
    rcases oG i cl.length with h|h
    ·exact h
    ·rw[List.drop_eq_nil_of_le h]at hd; cases hd
   have hdr:=List.drop_eq_getElem_cons hlt2;rw[hd]at hdr;obtain⟨rfl,hd2⟩:=List.cons.inj hdr;have hltI:ltI (i:Int) (cl.length:Int)=true:=by rw[aE]; exact oT Z
   have hix:aF (i:Int) cl.length=true:=by rw[aK]; exact oT Z
   have hgx:cl.getD (i:Int).toNat []=cl[i]:=by rw[oN,oQ,List.getElem?_eq_getElem hlt2]; rfl
   simp only[aCO]at ht;obtain⟨r,hr,ht⟩:=mM ht;unfold aSK at hr;obtain⟨y1,hy1,hr⟩:=mM hr;rw[a4X];refine wp_seq (wp_mono (hS5.piece hE Y (bCD _ _ _ _ _ _ _) rfl) ?_);rintro e6 a6 w6 ⟨rfl,hS6⟩;refine wp_seq (wp_cond_true ?_ (wp_skip ?_))
   ·have:=hS6.lit (t:=25) (v:=.bool (ltI (i:Int) (cl.length:Int))) rfl;rw[hltI]at this; exact this
   have h6:=bDV (RJ m) notes c cl t cs0 i;rw[hix,oC,hgx]at h6;have h7:=bDK (RJ m) notes c cl t cs0 cl[i] i;rw[hy1,aD]at h7;have h8:=bD6 (RJ m) notes c cl t cs0 cl[i] i y1.1 y1.2.1
   -- the end of the round
   have next:∀ {Q:Exit->Act->World->Prop} a' w',aCO (aSK rec c cl t notes) rest=some y->SJ ntJ (tM w) w (Gd.of G) (FJ4 notes c cl t cs0 i) a' w'->(∀ a'' w'',SJ ntJ (tM w) w (Gd.of G) (FJ4 notes c cl t cs0 ((i+1:Nat):Int)) a'' w''->Q .normal a'' w'')->bAN.wp Tryz.prog Q a' w':=by
    intro Q a' w' hs hS hQ;have h12:=bCL (RJ m) notes c cl t cs0 i;rw[wrap64 Z Z]at h12;refine wp_mono (hS.piece hE Y h12 rfl) ?_;rintro e a'' w'' ⟨rfl,hS'⟩;exact hQ a'' w'' hS'
   refine wp_seq (wp_block (wp_seq (wp_mono ((hS6.l5 [0,1,2,3,4,8,22,23,24]).piece hE Y h6 rfl) ?_)));rintro e7 a7 w7 ⟨rfl,hS7⟩;refine wp_seq (wp_mono (hS7.piece hE Y h7 rfl) ?_);rintro e8 a8 w8 ⟨rfl,hS8⟩;cases he:eqI y1.2.1 0 with
   | false =>
    rw[he]at hr h8;simp only[Bool.not_false,oC]at hr h8;obtain rfl:=oB hr;refine wp_seq (wp_mono (hS8.piece hE Y h8 rfl) ?_);rintro e9 a9 w9 ⟨rfl,hS9⟩;exact next a9 w9 ht (hS9.l5 [0,1,2,3,4,8,22,23,24]) λa'' w'' hS'=>⟨rest.length,by simp,rest,i+1,rfl,ht,hd2.symm,hlt2,hS'⟩
   | true =>
    rw[he]at hr h8;simp only[Bool.not_true,oD]at hr h8;obtain⟨hk,hr⟩:=aJ hr;obtain⟨b1,hb1,hr⟩:=mM hr;rw[hk,oC,hb1,aD]at h8;cases hbb:b1.1 with
    | false =>
     rw[hbb,oD]at hr h8;obtain rfl:=oB hr;refine wp_seq (wp_mono (hS8.piece hE Y h8 rfl) ?_);rintro e9 a9 w9 ⟨rfl,hS9⟩;exact next a9 w9 ht (hS9.l5 [0,1,2,3,4,8,22,23,24]) λa'' w'' hS'=>⟨rest.length,by simp,rest,i+1,rfl,ht,hd2.symm,hlt2,hS'⟩
    | true =>
     rw[hbb,oC]at hr h8;obtain⟨f1,hf1,hr⟩:=mM hr;rw[hf1,aD]at h8;cases hff:f1.1 with
     | false =>
      rw[hff,oD]at hr h8;obtain rfl:=oB hr;refine wp_seq (wp_mono (hS8.piece hE Y h8 rfl) ?_);rintro e9 a9 w9 ⟨rfl,hS9⟩;exact next a9 w9 ht (hS9.l5 [0,1,2,3,4,8,22,23,24]) λa'' w'' hS'=>⟨rest.length,by simp,rest,i+1,rfl,ht,hd2.symm,hlt2,hS'⟩
     | true =>
      rw[hff,oC]at hr h8;obtain⟨n1,hn1,hr⟩:=mM hr;obtain⟨x2,hx2,hr⟩:=mM hr;obtain⟨hl1,hr⟩:=aJ hr;obtain⟨o,ho,hr⟩:=mM hr;obtain⟨m',c',cl',t',cs',rfl,rfl,hnr,hju⟩:=hrec _ _ ho;have h9:=bD7 notes c cl t cl[i] i m' c' cl' t' cs';rw[hn1,aD,hx2,aD,hl1,oC,hnr,Bool.and_true,oC,hju,aD]at h9;refine wp_seq (wp_mono (hS8.piece hE Y h8 rfl) ?_);rintro e9 a9 w9 ⟨rfl,hS9⟩;cases hoo:o.2.1 with
      | true =>
       rw[hoo,oC]at hr h9;obtain rfl:=oB hr;obtain rfl:=oB ht;refine wp_mono (hS9.piece hE Y h9 rfl) ?_;rintro e10 a10 w10 ⟨rfl,hS10⟩;exact⟨rfl,lJ o.1,bJ true,by kernel_rfl,hS10.l5 [6,7]⟩
      | false =>
       rw[hoo,oD]at hr h9;obtain rfl:=oB hr;refine wp_mono (hS9.piece hE Y h9 rfl) ?_;rintro e10 a10 w10 ⟨rfl,hS10⟩;exact next a10 w10 ht (hS10.l5 [0,1,2,3,4,8,22,23,24]) λa'' w'' hS'=>⟨rest.length,by simp,rest,i+1,rfl,ht,hd2.symm,hlt2,hS'⟩
theorem a92:∀ m notes c cl t cs y,juF gJ m notes c cl t cs=some y->nP Tryz.prog gJ (pJ notes c cl t cs) (VN [.list mC,.bool] y)
 | 0=>aYO 0 (λm' h=>by cases h)
 | m+1=>aYO (m+1) (λm' h=>by cases h; exact a92 m)
end Go.PM
namespace Go.PM
open Go Go.RowKit Go.Proofs Tryz
set_option maxHeartbeats 4000000
def cK:Code:=dN f18
abbrev ntK:Nat:=f18.ntmps
abbrev kpK:Nat:=aQ f18
def cK0:Code:=qL cK
def cK1:Code:=qL (qR cK)
def cK4:Code:=qL (qR (qR cK))
def cK5:Code:=qL (qR (qR (qR cK)))
def cK7:Code:=qL (qR (qR (qR (qR cK))))
def bCC:Code:=qL (qR (qR (qR (qR (qR cK)))))
def bBO:Code:=qL (qR (qR (qR (qR (qR (qR cK))))))
def bB7:Code:=qL (qR (qR (qR (qR (qR (qR (qR cK)))))))
def bCM:Code:=qL (qR (qR (qR (qR (qR (qR (qR (qR cK))))))))
theorem bCR:cK=.seq cK0 (.seq cK1 (.seq cK4 (.seq cK5 (.seq cK7 (.seq bCC (.seq bBO (.seq bB7 (.seq bCM .ret)))))))):=by rfl
def EK:Env:=FN [SU,CP,Q9]
theorem aCP:fX Tryz.prog EK:=aP ⟨ZO,wQ,vM,trivial⟩
def RM(c cl:List (List Int)) (t:TmJ.den):Nat->List PV
 | 0=>[]
 | n+1=>aR6 c cl t (RM c cl t n)
abbrev bkT(t:TmJ.den):Blk:=⟨enc TmJ t,33,false,false,none⟩
abbrev bkC(c:List (List Int)):Blk:=⟨[lJ c],50,false,false,none⟩
abbrev bkL(cl:List (List Int)):Blk:=⟨[lJ cl],25,false,false,none⟩
abbrev tyF:Nat:=88
abbrev bkA:Blk:=⟨[.clo (.func gJ) [] [.hptr 1 0,.hptr 2 0,.hptr 0 0,.hptr 3 0]],tyF,false,false,none⟩
section
variable (t:TmJ.den) (l c cl:List (List Int)) (e:Int)
theorem bD3:lX Tryz.prog EK ntK kpK (λ_=>none) cK0 (start kpK 0 [.agg (enc TmJ t),lJ l,lJ c]) [] (kS [1,3,5])=some (.normal,[lJ l,.hptr 0 0,.hptr 1 0],[some (bkT t),some (bkC c)]):=Y
theorem bD2:lX Tryz.prog EK ntK kpK (λ_=>none) cK1 ([1,3,5].zip [lJ l,.hptr 0 0,.hptr 1 0]) [some (bkT t),some (bkC c)] (kS [1,3,5,6,7,8])=aC (dT (t,())) λy =>
  bif !(eqI y.1 0) then some (.ret,[lJ l,.hptr 0 0,.hptr 1 0,.lit (.slice none 0 0),bJ false,iJ y.1],[some (bkT t),some (bkC c)]) else some (.normal,[lJ l,.hptr 0 0,.hptr 1 0,.junk,.junk,.junk],[some (bkT t),some (bkC c)]):=Y
theorem bDT:lX Tryz.prog EK ntK kpK (λ_=>none) cK4 ([1,3,5].zip [lJ l,.hptr 0 0,.hptr 1 0]) [some (bkT t),some (bkC c)] (kS [3,5,10,8])=aC (iN ((t.1.length:Int),l,())) λy =>
  some (.normal,[.hptr 0 0,.hptr 1 0,.hptr 2 0,iJ y.2.1],[some (bkT t),some (bkC c),some (bkL y.1)]):=Y
abbrev HK:Heap:=[some (bkT t),some (bkC c),some (bkL cl)]
theorem bDS:lX Tryz.prog EK ntK kpK (λ_=>none) cK5 ([3,5,10,8].zip [.hptr 0 0,.hptr 1 0,.hptr 2 0,iJ e]) (HK t c cl) (kS [3,5,10,6,7,8]) =
  bif !(eqI e 0) then some (.ret,[.hptr 0 0,.hptr 1 0,.hptr 2 0,.lit (.slice none 0 0),bJ false,iJ e],HK t c cl) else some (.normal,[.hptr 0 0,.hptr 1 0,.hptr 2 0,.junk,.junk,iJ e],HK t c cl):=Y
theorem bDY:lX Tryz.prog EK ntK kpK (λ_=>none) cK7 ([3,5,10].zip [.hptr 0 0,.hptr 1 0,.hptr 2 0]) (HK t c cl) (kS [3,5,10,6,7,8])=aC (wO ((t.2.2.length:Int),c,())) λy =>
  bif !(eqI y.1 0) then some (.ret,[.hptr 0 0,.hptr 1 0,.hptr 2 0,.lit (.slice none 0 0),bJ false,iJ y.1],HK t c cl) else some (.normal,[.hptr 0 0,.hptr 1 0,.hptr 2 0,.junk,.junk,.junk],HK t c cl):=Y
theorem bC9:lX Tryz.prog EK ntK kpK (λ_=>none) bCC ([3,5,10].zip [.hptr 0 0,.hptr 1 0,.hptr 2 0]) (HK t c cl) (kS [3,5,10,12])=some (.normal,[.hptr 0 0,.hptr 1 0,.hptr 2 0,.hptr 3 0],HK t c cl++[some ⟨[.lit .nilFunc],tyF,false,false,none⟩]):=Y
theorem bCH:lX Tryz.prog EK ntK kpK (λ_=>none) bBO ([3,5,10,12].zip [.hptr 0 0,.hptr 1 0,.hptr 2 0,.hptr 3 0]) (HK t c cl++[some ⟨[.lit .nilFunc],tyF,false,false,none⟩]) (kS [3,5,10,12])=some (.normal,[.hptr 0 0,.hptr 1 0,.hptr 2 0,.hptr 3 0],HK t c cl++[some bkA]):=Y
theorem bDD:lX Tryz.prog (EJ (RJ 8)) ntK kpK (λ_=>none) bB7 [(3,.iptr (enc TmJ t)),(12,.iptr (RM c cl t 8))] [] (kJ [6,7]) =
  bif !(ltI (t.1.length:Int) 0) then bif !(ltI (t.1.length:Int) (t.1.length:Int)) then bif !(ltI 1048576 (t.1.length:Int)) then aC (juF gJ 7 [List.replicate (t.1.length:Int).toNat 0] c cl t (RM c cl t 7)) λo=>some (.normal,[lJ o.1,bJ o.2.1]) else none else none else none:=Y
theorem bDF(b:Bool):lX Tryz.prog (EJ (RJ 8)) ntK kpK (λ_=>none) bCM ([6,7].zip [lJ l,bJ b]) [] (kJ [6,7,8])=some (.normal,[lJ l,bJ b,iJ 0]):=Y
end
def fT(x:aM [.agg TmJ,.list mC,.list mC]):Option (aM [.list mC,.bool,.int .i64]):=match x with
 | (v0,v1,v2,()) =>
  aC (dT (v0,())) λy1 =>
  bif !(eqI y1.1 0) then some ([],false,y1.1,())
  else aC (iN ((v0.1.length:Int),v1,())) λy2 =>
  bif !(eqI y2.2.1 0) then some ([],false,y2.2.1,())
  else aC (wO ((v0.2.2.length:Int),v2,())) λy3 =>
  bif !(eqI y3.1 0) then some ([],false,y3.1,())
  else bif !(ltI (v0.1.length:Int) 0) then bif !(ltI (v0.1.length:Int) (v0.1.length:Int)) then bif !(ltI 1048576 (v0.1.length:Int)) then
   aC (juF gJ 7 [List.replicate (v0.1.length:Int).toNat 0] v2 y2.1 v0 (RM v2 y2.1 v0 7)) λo=>some (o.1,o.2.1,0,()) else none else none else none
section
variable {n0:Nat->Prop} {w0 w:World} {G0 G:Gd} {μ:Mp} {H:Heap} {F:Frm} {a:Act} {nt kp:Nat}
def SK(nt:Nat)(n0:Nat->Prop)(w0:World)(G0:Gd)(H:Heap)(F:Frm)(a:Act)(w:World):Prop :=
 ∃ G μ,Ext n0 w0 G0 aG w G aG/\aO n0 G μ H w/\dO w G μ nt F a
theorem SK.piece {E:Env}(hE:fX Tryz.prog E){c:Code}{sl:List Nat}{ex:Ex}{ps:List PV}{H':Heap}(hl:bA c=[])(h:lX Tryz.prog E nt kp (λ_=>none) c F H (kS sl)=some (ex,ps,H'))(hS:SK nt n0 w0 G0 H F a w):c.wp Tryz.prog (λe a' w'=>e=ex.to/\SK nt n0 w0 G0 H' (sl.zip ps) a' w') a w:=by
 obtain⟨G,μ,e0,hW,hF⟩:=hS;refine wp_mono (a0C hE.callee bH.mixed hl h hW hF) ?_;rintro e a' w' ⟨rfl,G',μ',e',hW',hF'⟩;exact⟨rfl,G',μ',e0.trans e',hW',hF'⟩
theorem SK.l5 (h:SK nt n0 w0 G0 H F a w)(sl:List Nat):SK nt n0 w0 G0 H (sl.zip (sl.map (bM F))) a w:=by
 obtain⟨G,μ,E,hW,hF⟩:=h;exact⟨G,μ,E,hW,hF.l5 sl⟩
theorem SK.forget {sl:List Nat}{ps:List PV}(hn:ps.all nrj=true)(h:SK nt n0 w0 G0 H (sl.zip ps) a w):SJ nt n0 w0 G0 (sl.zip ps) a w:=by
 obtain⟨G,μ,E,hW,hF⟩:=h;exact⟨G,E,hW.forget,hF.size,λt=>a5V (aQ1 _ _ hn t) (hF.slot t),hF.defers⟩
theorem SK.shut {t:TmJ.den} {c cl:List (List Int)} (n:Nat) (h:SK nt n0 w0 G0 (HK t c cl++[some bkA]) ([3,5,10,12].zip [.hptr 0 0,.hptr 1 0,.hptr 2 0,.hptr 3 0]) a w) :
  SJ nt n0 w0 G0 [(3,.iptr (enc TmJ t)),(12,.iptr (RM c cl t n))] a w:=by
 obtain⟨G,μ,E,hW,hF⟩:=h;obtain⟨x0,hW0⟩:=wR hW (r:=0) (k:=bkT t) rfl rfl;obtain⟨x1,hW1⟩:=wR hW0 (r:=1) (k:=bkC c) rfl rfl;obtain⟨x2,hW2⟩:=wR hW1 (r:=2) (k:=bkL cl) rfl rfl;obtain⟨x3,hW3⟩:=wR hW2 (r:=3) (k:=bkA) rfl rfl;have mo:=((x0.trans x1).trans x2).trans x3;obtain⟨G4,hG4⟩:∃ G4:Gd,G4=((((G.or λx=>μ.loc 0=some x).or λx=>μ.loc 1=some x).or λx=>μ.loc 2=some x).or λx=>μ.loc 3=some x):=⟨_,rfl⟩;rw[<- hG4]at mo hW3
 have good:∀ r b,r<4->μ.loc r=some b->G4 b:=by
  intro r b hr hb;rw[hG4];obtain rfl|rfl|rfl|rfl:r=0\/r=1\/r=2\/r=3:=Z
  ·exact .inl (.inl (.inl (.inr hb)))
  ·exact .inl (.inl (.inr hb))
  ·exact .inl (.inr hb)
  ·exact .inr hb
 have hm:Mono w G μ w G4 μ:=mo.toMono;have ptr:∀ r v (k:Blk),r<4->(HK t c cl++[some bkA])[r]?=some (some k)->VR w G μ (.hptr r 0) v->dW.noRefs k.cells=true->VR w G4 aG (.iptr k.cells) v:=by
  intro r v k hr hk hv hn;rw[VR]at hv; rw[VR];obtain⟨b,hb,rfl⟩:=hv;obtain⟨_,_,q1,_⟩:=hW.blk r k b hk hb;exact⟨b,_,rfl,good r b hr hb,by rw[Nat.add_zero]; exact nI hn (aL.mono hm rfl _ _ q1)⟩
 have s3:=hF.slot 3;have s5:=hF.slot 5;have s10:=hF.slot 10;have s12:=hF.slot 12;have s3:VR w G μ (.hptr 0 0) (a.tmps.getD 3 undef):=s3;have s12:VR w G μ (.hptr 3 0) (a.tmps.getD 12 undef):=s12;have p3:=ptr 0 _ (bkT t) Z rfl s3 rfl;have hcap:∀ n v,VR w G μ (.hptr 3 0) v->VR w G4 aG (.iptr (RM c cl t n)) v:=by
  intro n
  induction n with
  | zero =>
   intro v hv;rw[VR]at hv; rw[VR];obtain⟨b,hb,rfl⟩:=hv;exact⟨b,_,rfl,good 3 b Z hb,by show aL _ _ _ _ _ []; rw[aL]; trivial⟩
  | succ n ih =>
   intro v hv;rw[VR]at hv; rw[VR];obtain⟨b,hb,rfl⟩:=hv;obtain⟨_,_,q1,_⟩:=hW.blk 3 bkA b rfl hb;refine⟨b,_,rfl,good 3 b Z hb,?_⟩;rw[Nat.add_zero];rw[aL]at q1;obtain⟨⟨u,hu,hclo⟩,_⟩:=q1;show aL _ _ _ _ _ (aR6 c cl t (RM c cl t n));rw[aL];refine⟨⟨u,hu,?_⟩,by rw[aL]; trivial⟩;rw[VR]at hclo; rw[VR];obtain⟨fs,vs,rfl,hfs,hvs⟩:=hclo;refine⟨fs,vs,rfl,(by rw[VRs]at hfs ⊢; exact hfs),?_⟩;rw[VRs]at hvs; obtain⟨v1,r1,e1,q1,hvs⟩:=hvs
   rw[VRs]at hvs; obtain⟨v2,r2,rfl,q2,hvs⟩:=hvs;rw[VRs]at hvs; obtain⟨v3,r3,rfl,q3,hvs⟩:=hvs;rw[VRs]at hvs; obtain⟨v4,r4,rfl,q4,hvs⟩:=hvs;rw[VRs]; refine⟨v1,_,e1,ptr 1 _ (bkC c) Z rfl q1 rfl,?_⟩;rw[VRs]; refine⟨v2,_,rfl,ptr 2 _ (bkL cl) Z rfl q2 rfl,?_⟩;rw[VRs]; refine⟨v3,_,rfl,ptr 0 _ (bkT t) Z rfl q3 rfl,?_⟩;rw[VRs]; refine⟨v4,_,rfl,ih v4 q4,?_⟩;rw[VRs]at hvs ⊢; exact hvs
 refine⟨G4,E.trans ⟨⟨mo.good,λ_ _ h=>h,λ_ _ h=>h,mo.room,mo.row,λ_ _ _=>rfl⟩,mo.os,mo.tape,mo.output,mo.size,mo.old,mo.new⟩,hW3.forget,hF.size,λs=>?_,hF.defers⟩;rw[bQ];split
 next hs=> subst hs; exact p3
 ·rw[bQ];split
  next hs=> subst hs; exact hcap n _ s12
  ·show VR _ _ _ (bM [] s) _;rw[show bM [] s=PV.junk from rfl,VR]; trivial
end
theorem a9P:f18.body=some cK:=Y
theorem bDP(p q r:PV):qT Tryz.prog ([6,7,8].zip [p,q,r]) [] f18.results.toList=some [p,q,r]:=Y
theorem aXB {w:World}{G:Nat->Prop}{p q r:PV}{y:aM [.list mC,.bool,.int .i64]}(hd:aJH [.list mC,.bool,.int .i64] (.tuple [p,q,r])=some y){a' w'}(hS:SJ ntK (tM w) w (Gd.of G) ([6,7,8].zip [p,q,r]) a' w') :
  a'.defers=[]/\∃ v,(results f18 a'.tmps).run Tryz.prog w'=.ok v w'/\∃ v' G',Ending.returned v=.returned v'/\Ext (tM w) w (Gd.of G) aG w' (Gd.of G') aG/\(∀ b,G' b->b<w'.heap.size)/\VR w' (Gd.of G') aG (VN [.list mC,.bool,.int .i64] y) v':=by
 obtain⟨G1,E,hW1,hF1⟩:=hS;obtain⟨ws,h3,h4⟩:=mQ (P:=Tryz.prog) hW1 hF1 (bDP p q r);have hres:(results f18 a'.tmps).run Tryz.prog w'=.ok (if hh:ws.toArray.size=1 then ws.toArray[0] else .tuple ws.toArray) w':=by
  rw[yD,Array.mapM_eq_mapM_toList];simp only[Sem.run_bind,Sem.run_map,h3,Result.andThen_ok,Sem.run_pure]
 have hvr:=SE hd (pC h4);refine⟨hF1.defers,_,hres,_,G1.ok,rfl,?_,hW1.lt,DX (G:=G1) (G':=Gd.of G1.ok) (λb h=>h) _ _ _ rfl hvr⟩;exact {
  good:=λc hc=>⟨(E.good c hc).1,(E.good c hc).2⟩
  map:=λ_ _ h=>h
  len:=λ_ _ h=>h
  sh:=λ_ _ h=>(by cases h)
  room:=E.room
  row:=λ_ _ h=>h
  os:=E.os
  tape:=E.tape
  output:=E.output
  size:=E.size
  old:=E.old
  new:=E.new }
theorem aFC:X5 Tryz.prog 18 [.agg TmJ,.list mC,.list mC] [.list mC,.bool,.int .i64] fT:=by
 rintro⟨t,l,c,⟨⟩⟩ z hz;unfold fT at hz;dsimp only at hz;obtain⟨y1,hy1,hz⟩:=mM hz;intro w G vs hlt hv;refine⟨enters func18 Y Y _ _,calls_of_wp func18 a9P ?_⟩;have hW0:aO (tM w) (Gd.of G) aG [] w:=⟨λr k b h=>by simp at h,λr k g h=>by simp at h,λr s k l b h=>by simp at h,hlt,λ_ _=>⟨rfl,rfl⟩,λ_ h=>h,rA.none _ _ (λ_=>rfl) _ _ (λr k h=>by simp at h)⟩;have hF0:dO w (Gd.of G) aG ntK (start kpK 0 [.agg (enc TmJ t),lJ l,lJ c]) ⟨vs++Array.replicate (ntK-vs.size) undef,[]⟩:=pK hv (by show 3<=ntK; exact oL Y)
 suffices h:cK.wp Tryz.prog (λe a' w'=>e=.ret/\∃ p q r,aJH [.list mC,.bool,.int .i64] (.tuple [p,q,r])=some z/\SJ ntK (tM w) w (Gd.of G) ([6,7,8].zip [p,q,r]) a' w') ⟨vs++Array.replicate (ntK-vs.size) undef,[]⟩ w by
  refine wp_mono h ?_;rintro e a' w' ⟨rfl,p,q,r,hd,hS⟩;exact aXB hd hS
 have hS0:SK ntK (tM w) w (Gd.of G) [] (start kpK 0 [.agg (enc TmJ t),lJ l,lJ c]) ⟨vs++Array.replicate (ntK-vs.size) undef,[]⟩ w:=⟨Gd.of G,aG,Ext.refl _ _ _ _,hW0,hF0⟩;rw[bCR];refine wp_seq (wp_mono (hS0.piece aCP Y (bD3 t l c)) ?_);rintro e1 a1 w1 ⟨rfl,hS1⟩;have h1:=bD2 t l c;rw[hy1,aD]at h1;cases c1:eqI y1.1 0 with
 | false =>
  rw[c1]at h1 hz;simp only[Bool.not_false,oC]at h1 hz;obtain rfl:=oB hz;refine wp_seq (wp_mono (hS1.piece aCP Y h1) ?_);rintro e2 a2 w2 ⟨rfl,hS2⟩;exact⟨rfl,_,_,_,by kernel_rfl,(hS2.l5 [6,7,8]).forget rfl⟩
 | true =>
 rw[c1]at h1 hz;simp only[Bool.not_true,oD]at h1 hz;obtain⟨y2,hy2,hz⟩:=mM hz;refine wp_seq (wp_mono (hS1.piece aCP Y h1) ?_);rintro e2 a2 w2 ⟨rfl,hS2⟩;have h4:=bDT t l c;rw[hy2,aD]at h4;refine wp_seq (wp_mono ((hS2.l5 [1,3,5]).piece aCP Y h4) ?_);rintro e3 a3 w3 ⟨rfl,hS3⟩;have h5:=bDS t c y2.1 y2.2.1;cases c2:eqI y2.2.1 0 with
 | false =>
  rw[c2]at h5 hz;simp only[Bool.not_false,oC]at h5 hz;obtain rfl:=oB hz;refine wp_seq (wp_mono (hS3.piece aCP Y h5) ?_);rintro e4 a4 w4 ⟨rfl,hS4⟩;exact⟨rfl,_,_,_,by kernel_rfl,(hS4.l5 [6,7,8]).forget rfl⟩
 | true =>
 rw[c2]at h5 hz;simp only[Bool.not_true,oD]at h5 hz;obtain⟨y3,hy3,hz⟩:=mM hz;refine wp_seq (wp_mono (hS3.piece aCP Y h5) ?_);rintro e4 a4 w4 ⟨rfl,hS4⟩;have h7:=bDY t c y2.1;rw[hy3,aD]at h7;cases c3:eqI y3.1 0 with
 | false =>
  rw[c3]at h7 hz;simp only[Bool.not_false,oC]at h7 hz;obtain rfl:=oB hz;refine wp_seq (wp_mono ((hS4.l5 [3,5,10]).piece aCP Y h7) ?_);rintro e5 a5 w5 ⟨rfl,hS5⟩;exact⟨rfl,_,_,_,by kernel_rfl,(hS5.l5 [6,7,8]).forget rfl⟩
 | true =>
 rw[c3]at h7 hz;simp only[Bool.not_true,oD]at h7 hz;obtain⟨k1,hz⟩:=aJ hz;obtain⟨k2,hz⟩:=aJ hz;obtain⟨k3,hz⟩:=aJ hz;obtain⟨o,ho,hz⟩:=mM hz;obtain rfl:=oB hz;refine wp_seq (wp_mono ((hS4.l5 [3,5,10]).piece aCP Y h7) ?_);rintro e5 a5 w5 ⟨rfl,hS5⟩;refine wp_seq (wp_mono ((hS5.l5 [3,5,10]).piece aCP Y (bC9 t c y2.1)) ?_);rintro e6 a6 w6 ⟨rfl,hS6⟩;refine wp_seq (wp_mono (hS6.piece aCP Y (bCH t c y2.1)) ?_)
 rintro e7 a7 w7 ⟨rfl,hS7⟩;have hR:∀ qs r,RJ 8 qs=some r->∀ z,r.val=some z->nP Tryz.prog gJ qs (r.out z):=bAC 8 λm' _=>a92 m'
 have h12:=bDD t c y2.1;rw[k1,k2,k3,ho]at h12;refine wp_seq (wp_mono ((hS7.shut 8).piece (a38 hR) Y h12 rfl) ?_);rintro e8 a8 w8 ⟨rfl,hS8⟩;refine wp_seq (wp_mono (hS8.piece (a38 hR) Y (bDF o.1 o.2.1) rfl) ?_);rintro e9 a9 w9 ⟨rfl,hS9⟩;exact wp_ret ⟨rfl,_,_,_,by kernel_rfl,hS9⟩
abbrev aHK:Ent:=⟨18,[.agg TmJ,.list mC,.list mC],[.list mC,.bool,.int .i64],fT⟩
theorem aBE:Ent.OK Tryz.prog aHK:=aFC
end Go.PM
namespace Go.PM
open Go Go.RowKit Go.Proofs
def XN(n:Int)(c:List (List Int))(i:Nat):Option Int :=
 if ¬ rc (c.getD i [])=0 then some (rc (c.getD i [])) else if ¬ ((c.getD i []).length:Int)=n then some 5 else
  if i=0 then (if isZ (c.getD i []) then none else some 7) else if ¬ cmpL (c.getD (i-1) []) (c.getD i [])<0 then some 6 else none
def aDR(n:Int)(c:List (List Int)):Int:=if n<0\/12<n then 3 else if c.length=0 then 13 else if 6<c.length then 4 else ((List.range c.length).findSome? (XN n c)).getD 0
theorem O4 {n:Int}{c:List (List Int)}(h1:c.length<=1000)(h2:Rws 1000 c):rW (n,c,())=some (aDR n c,()):=by
 have hloop:r6 (n,c,0,())=some (((List.range c.length).findSome? λi=>(XN n c i).map λe=>.inl (e,())).getD (.inr ())):=by
  refine vG (N:=2^64) (step:=mD) (λi=>(n,c,(i:Int),())) (λi=>(XN n c i).map λe=>.inl (e,())) c.length (.inr ()) Z ?_ ?_
  ·intro i hi;have hr:=h2 _ (sV hi);simp only[mD,aE,bZ,aK,rP,aY,oN];rw[if_pos Z,if_pos Z,LL Z,aD,bI i Z];unfold XN
   by_cases h:¬ rc (c.getD i [])=0
   ·rw[if_pos h,if_pos h]; rfl
   ·rw[if_neg h,if_neg h,if_pos Z]
    by_cases h3:¬ ((c.getD i []).length:Int)=n
    ·rw[if_pos h3,if_pos h3]; rfl
    ·rw[if_neg h3,if_neg h3]
     by_cases h4:i=0
     ·subst h4;rw[if_pos Z,if_pos rfl,if_pos Z,J5 Z,aD];cases hz:isZ (c.getD 0 [])with
      | true=>rfl
      | false=>rfl
     ·have w1:aB .i64 ((i:Int)-1)=((i-1:Nat):Int):=by rw[wrap64 Z Z]; omega
      have hr':=h2 _ (sV (l:=c) (i:=i-1) Z);rw[if_neg (show ¬ ((i:Int)=0)by omega),if_neg h4,if_pos Z,w1,oN,if_pos Z,if_pos Z,BQ _ _ Z Z,aD]
      by_cases h5:¬ cmpL (c.getD (i-1) []) (c.getD i [])<0
      ·rw[if_pos h5,if_pos h5]; rfl
      ·rw[if_neg h5,if_neg h5]; rfl
  ·simp only[mD,aE,aY];rw[if_neg Z]
 unfold rW aDR; dsimp only;simp only[aE,bZ,aY]
 by_cases h:n<0
 ·rw[if_pos h,if_pos (.inl h)]
 ·rw[if_neg h]
  by_cases h3:12<n
  ·rw[if_pos h3,if_pos (.inr h3)]
  ·rw[if_neg h3,if_neg (show ¬ (n<0\/12<n)by omega)]
   by_cases h4:c.length=0
   ·rw[if_pos h4,if_pos Z]
   ·rw[if_neg h4,if_neg Z]
    by_cases h5:6<c.length
    ·rw[if_pos h5,if_pos Z]
    ·rw[if_neg h5,if_neg Z,hloop,aD,EL];cases (List.range c.length).findSome? (XN n c) <;> rfl
theorem ZF {n:Int}{c:List (List Int)}(h1:c.length<=1000)(h2:Rws 1000 c):wO (n,c,())=some (aDR n c,()):=by
 have hloop:AJ (n,c,c,(c.length:Int),0,())=some (((List.range c.length).findSome? λi=>(XN n c i).map λe=>.inl (e,())).getD (.inr ())):=by
  refine vG (N:=2^64) (step:=tQ) (λi=>(n,c,c,(c.length:Int),(i:Int),())) (λi=>(XN n c i).map λe=>.inl (e,())) c.length (.inr ()) Z ?_ ?_
  ·intro i hi;have hr:=h2 _ (sV hi);simp only[tQ,aE,bZ,aK,rP,aY,oN];rw[if_pos Z,if_pos Z,LL Z,aD,bI i Z];unfold XN
   by_cases h:¬ rc (c.getD i [])=0
   ·rw[if_pos h,if_pos h]; rfl
   ·rw[if_neg h,if_neg h]
    by_cases h3:¬ ((c.getD i []).length:Int)=n
    ·rw[if_pos h3,if_pos h3]; rfl
    ·rw[if_neg h3,if_neg h3]
     by_cases h4:i=0
     ·subst h4;rw[if_pos Z,if_pos rfl,Z8 Z,aD];cases hz:isZ (c.getD 0 [])with
      | true=>rfl
      | false=>rfl
     ·have w1:aB .i64 ((i:Int)-1)=((i-1:Nat):Int):=by rw[wrap64 Z Z]; omega
      have hr':=h2 _ (sV (l:=c) (i:=i-1) Z);rw[if_neg (show ¬ ((i:Int)=0)by omega),if_neg h4,if_pos Z,w1,oN,if_pos Z,BQ _ _ Z Z,aD]
      by_cases h5:¬ cmpL (c.getD (i-1) []) (c.getD i [])<0
      ·rw[if_pos h5,if_pos h5]; rfl
      ·rw[if_neg h5,if_neg h5]; rfl
  ·simp only[tQ,aE,aY];rw[if_neg Z]
 unfold wO aDR; dsimp only;simp only[aE,bZ,aY]
 by_cases h:n<0
 ·rw[if_pos h,if_pos (.inl h)]
 ·rw[if_neg h]
  by_cases h3:12<n
  ·rw[if_pos h3,if_pos (.inr h3)]
  ·rw[if_neg h3,if_neg (show ¬ (n<0\/12<n)by omega)]
   by_cases h4:c.length=0
   ·rw[if_pos h4,if_pos Z]
   ·rw[if_neg h4,if_neg Z]
    by_cases h5:6<c.length
    ·rw[if_pos h5,if_pos Z]
    ·rw[if_neg h5,if_neg Z,hloop,aD,EL];cases (List.range c.length).findSome? (XN n c) <;> rfl
theorem a1T {n:Int}{c:List (List Int)}(h:aDR n c=0):0<=n/\n<=12/\0<c.length/\c.length<=6/\∀ y∈c,(y.length:Int)=n:=by
 unfold aDR at h;split at h
 ·cases h
 ·split at h
  ·cases h
  ·split at h
   ·cases h
   ·refine⟨by omega,by omega,by omega,by omega,λy hy=>?_⟩;obtain⟨i,hi,rfl⟩:=List.getElem_of_mem hy;have hg:c.getD i []=c[i]:=by rw[oQ,List.getElem?_eq_getElem hi]; rfl
    cases hf:(List.range c.length).findSome? (XN n c)with
    | none =>
     have:=List.findSome?_eq_none_iff.1 hf i (List.mem_range.2 hi);unfold XN at this;rw[hg]at this;split at this
     ·cases this
     ·split at this
      ·cases this
      next h2=>exact Decidable.not_not.1 h2
    | some e =>
     rw[hf]at h;obtain⟨j,-,hj⟩:=List.exists_of_findSome?_eq_some hf;change e=0 at h;subst h;unfold XN at hj;split at hj
     next h1=>exact(h1 (oB hj)).elim
     ·split at hj
      ·cases hj
      ·split at hj
       ·split at hj <;> cases hj
       ·split at hj <;> cases hj
theorem bAM:∀ s:Nat,s<300->IntKind.wrap .i64 (Int.fdiv (IntKind.wrap .u64 (aB .i64 (s:Int))) (2^(min 1 (IntKind.bits .u64))))=((s/2:Nat):Int):=by decide +kernel
theorem aGF {l:List (List Int)}{x:List Int}(h1:l.length<=100)(h2:Rws 1000 l)(hs:SI l)(hx:x.length<=1000):∀ (d i j N:Nat),j-i<=d->i<=j->j<=l.length->d<N->(∀ k,k<i->cmpL (l.getD k []) x<0)->(∀ k,j<=k->k<l.length->¬ cmpL (l.getD k []) x<0) ->
  ∃ i',i'<=l.length/\aX bG N (l,x,(),(l.length:Int),(i:Int),(j:Int),())=some (l,x,(),(l.length:Int),(i':Int),())/\(∀ k,k<i'->cmpL (l.getD k []) x<0)/\(∀ k,i'<=k->k<l.length->¬ cmpL (l.getD k []) x<0)
 | d,i,j,N,hd,hij,hj,hN,ha,hb=>by
  obtain⟨N,rfl⟩:∃ m,N=m+1:=⟨N-1,by omega⟩
  by_cases he:i<j
  ·obtain⟨d,rfl⟩:∃ e,d=e+1:=⟨d-1,by omega⟩;have hm:(i+j)/2<l.length:=Z
   have hmid:=bAM (i+j) Z;have ho:∀ k k',k<k'->k'<l.length->cmpL (l.getD k []) (l.getD k' [])<0:=by
    intro k k' hk hk';have:=List.pairwise_iff_getElem.1 hs k k' Z hk' hk;rw[oQ,oQ,List.getElem?_eq_getElem (show k<l.length by omega),List.getElem?_eq_getElem hk'];exact this
   have hst:bG (l,x,(),(l.length:Int),(i:Int),(j:Int),())=if cmpL (l.getD ((i+j)/2) []) x<0 then some (.inl (l,x,(),(l.length:Int),(((i+j)/2+1:Nat):Int),(j:Int),())) else some (.inl (l,x,(),(l.length:Int),(i:Int),(((i+j)/2:Nat):Int),())):=by
    simp only[bG];rw[show (i:Int)+(j:Int)=((i+j:Nat):Int)by omega,hmid];simp only[aE,aK,aY,oN];rw[if_pos Z,if_pos Z,BQ _ _ (oR (h2 _ (sV hm)) Z) Z,aD,bI _ Z]
   rw[cM,hst]
   by_cases hc:cmpL (l.getD ((i+j)/2) []) x<0
   ·rw[if_pos hc];refine aGF h1 h2 hs hx d _ _ N Z Z hj Z ?_ hb;intro k hk;rcases oG k ((i+j)/2)with h|h
    ·exact GJ (ho k _ h hm) hc
    ·rwa[show k=(i+j)/2 by omega]
   ·rw[if_neg hc];refine aGF h1 h2 hs hx d _ _ N Z Z Z Z ha ?_;intro k hk hkl h;rcases oG ((i+j)/2) k with h'|h'
    ·exact hc (GJ (ho _ k h' hkl) h)
    ·rw[show k=(i+j)/2 by omega]at h; exact hc h
  ·refine⟨i,by omega,?_,ha,λk hk hkl=>hb k Z hkl⟩;rw[cM];simp only[bG,aE,aY];rw[if_neg Z]
theorem bBG {l:List (List Int)}{x:List Int}(h1:l.length<=100)(h2:Rws 1000 l)(hs:SI l)(hx:x.length<=1000):∃ i,cR (l,x,(),())=some (i,decide (x∈l),()):=by
 obtain⟨i,hi,hl,ha,hb⟩:=aGF h1 h2 hs hx l.length 0 l.length (2^64) Z Z Z Z (λk hk=>by omega) (λk hk hk'=>by omega);have hl':dR (l,x,(),(l.length:Int),0,(l.length:Int),())=some (l,x,(),(l.length:Int),(i:Int),()):=hl;unfold cR; dsimp only;rw[hl',aD];dsimp only;simp only[aE,aK,bZ,aY,oN]
 by_cases hn:i<l.length
 ·rw[if_pos Z,if_pos Z,BQ _ _ (oR (h2 _ (sV hn)) Z) Z,aD];refine⟨i,?_⟩;have:decide (cmpL (l.getD i []) x=0)=decide (x∈l):=by
   by_cases h0:cmpL (l.getD i []) x=0
   ·rw[oT h0,oT];have:=aKF h0;rw[<- this]; exact sV hn
   ·rw[oF h0,oF];intro hm;obtain⟨k,hk,rfl⟩:=List.getElem_of_mem hm;have hg:∀ k (hk:k<l.length),l.getD k []=l[k]:=λk hk=>by rw[oQ,List.getElem?_eq_getElem hk]; rfl
    rcases Nat.lt_trichotomy k i with h|h|h
    ·have:=ha k h;rw[hg k hk,GX]at this; omega
    ·subst h;exact h0 (by rw[hg k hk,GX])
    ·have:=List.pairwise_iff_getElem.1 hs i k hn hk h;exact hb i (oM _) hn (by rw[hg i hn]; exact this)
  dsimp only;rw[this]
 ·rw[if_neg Z];refine⟨i,?_⟩;rw[oF];intro hm;obtain⟨k,hk,rfl⟩:=List.getElem_of_mem hm;have:=ha k Z;rw[oQ,List.getElem?_eq_getElem hk]at this;change cmpL l[k] l[k]<0 at this;rw[GX]at this; omega
theorem bAW(a b:Int):aB .i64 (a+aB .i64 (-1*b))=aB .i64 (a-b):=by
 rw[QU,QU,QU,IntKind.wrap_i64,IntKind.wrap_i64,IntKind.wrap_i64];omega
theorem aX5(a b:List Int):aOS a b (-1)=zQ a b:=by
 unfold aOS zQ;exact List.map_congr_left λi _=>bAW _ _
def a7Y(cl notes:List (List Int)) (x:List Int):Bool:=((List.range notes.length).find? λi=>decide (¬ zQ x (notes.getD i [])∈cl)).isNone
theorem bAH {cl:List (List Int)}{x y:List Int}(h1:cl.length<=100)(h2:Rws 1000 cl)(hs:SI cl)(hx:x.length<=1000)(hy:x.length<=y.length):nB (y,cl,x,())=some (decide (¬ zQ x y∈cl),()):=by
 obtain⟨i,hi⟩:=bBG h1 h2 hs (x:=zQ x y) (by rw[aB9]; omega);unfold nB; dsimp only;rw[N6 (-1) hy Z,aD,aX5];dsimp only;rw[hi,aD]
 by_cases h:zQ x y∈cl
 ·rw[oT h,oF (not_not_intro h)]; rfl
 ·rw[oF h,oT h]; rfl
theorem aBK {cl notes:List (List Int)}{x:List Int}(h1:cl.length<=100)(h2:Rws 1000 cl)(hs:SI cl)(hx:x.length<=1000)(hn:notes.length<=1000)(hy:∀ y∈notes,x.length<=y.length):jU (cl,notes,x,())=some (a7Y cl notes x,()):=by
 have hloop:fO (notes,(cl,x,()),(notes.length:Int),0,())=some ((((List.range notes.length).find? λi=>decide (¬ zQ x (notes.getD i [])∈cl)).map λi:Nat=>.inl ((i:Int),())).getD (.inr ())):=by
  rw[<- D3 (λi=>¬ zQ x (notes.getD i [])∈cl) (λi:Nat=>Sum.inl ((i:Int),()))];refine vG (N:=2^64) (step:=dK) (λi=>(notes,(cl,x,()),(notes.length:Int),(i:Int),())) (λi=>if ¬ zQ x (notes.getD i [])∈cl then some (.inl ((i:Int),())) else none) notes.length (.inr ()) Z ?_ ?_
  ·intro i hi;simp only[dK,aE,aK,aY,oN];rw[if_pos Z,if_pos Z,bAH h1 h2 hs hx (hy _ (sV hi)),aD,bI i Z,aY]
   by_cases h:¬ zQ x (notes.getD i [])∈cl
   ·rw[if_pos h,if_pos h]
   ·rw[if_neg h,if_neg h]
  ·simp only[dK,aE,aY];rw[if_neg Z]
 have h65:eI (notes,(cl,x,()),())=some ((((List.range notes.length).find? λi=>decide (¬ zQ x (notes.getD i [])∈cl)).map λi:Nat=>(i:Int)).getD (-1),()):=by
  unfold eI; dsimp only;rw[hloop,aD];cases (List.range notes.length).find? λi=>decide (¬ zQ x (notes.getD i [])∈cl) <;> rfl
 unfold jU a7Y; dsimp only;unfold gA; dsimp only;rw[h65,aD];cases (List.range notes.length).find? λi=>decide (¬ zQ x (notes.getD i [])∈cl)with
 | none=>rfl
 | some i =>
  show (aC (some (!(ltI ((i:Nat):Int) 0),())) λy1=>bif y1.1 then some (false,()) else some (true,()))=_;rw[aD,YL]; rfl
open Go Go.RowKit Go.Proofs Go.Lz
theorem aYU(c cl:List (List Int))(t:TmJ.den):∀ m,dZ (.iptr (RM c cl t m))=true
 | 0=>Y
 | m+1=>by
  have ih:=aYU c cl t m;have e:dZ (.iptr (RM c cl t (m+1)))=(dZ (.iptr (RM c cl t m))&&true&&true):=by cases hh:dZ (.iptr (RM c cl t m)) <;> simp[RM,aR6,dZ,dZ.noRows]at hh ⊢ <;> simp[hh] <;> exact⟨by kernel_rfl,by kernel_rfl,by kernel_rfl⟩
  rw[e,ih]; rfl
theorem a4M(c cl:List (List Int))(t:TmJ.den)(m:Nat):aUH gJ (RM c cl t (m+1))=some (c,cl,t,RM c cl t m):=by
 have e:aUH gJ (RM c cl t (m+1))=bif dZ (.iptr (RM c cl t m)) then some (c,cl,t,RM c cl t m) else none:=Y
 rw[e,aYU]; rfl
theorem a9I(m:Nat)(notes c cl:List (List Int))(t:TmJ.den):juF gJ (m+1) notes c cl t (RM c cl t (m+1))=bif eqI (notes.length:Int) (c.length:Int) then some (notes,true,()) else
  bif Nat.ble cl.length 1048576 then aCO (aSK (λn=>juF gJ m n c cl t (RM c cl t m)) c cl t notes) cl else none:=by
 rw[juF,a4M]
def trJ(t:TmJ.den) (x:List Int):List Int×Int:=match gV (t,x,())with
 | some y=>(y.1,y.2.1)
 | none=>([],1)
def RwC(n:Nat) (cl:List (List Int)):Prop:=cl.length<=100/\SI cl/\∀ x∈cl,x.length=n/\0<n/\∀ a∈x,a.natAbs<=1000000000
section
variable {ps:List Int} {n d r:Nat} {C K:Nat->V}
theorem bBC(h:RT ps n d r C K){cl c notes:List (List Int)}(hcl:RwC n cl)(hk:notes.length<c.length)(hk6:c.length<=6)(h0:0<notes.length)(hn:∀ y∈notes,y.length=n){x:List Int}(hx:x∈cl)(rec:List (List Int)->Option aNG) :
  aSK rec c cl (ps,(Mr d n C,Mr r n K)) notes x=if (trJ (ps,(Mr d n C,Mr r n K)) x).2=0/\(trJ (ps,(Mr d n C,Mr r n K)) x).1=c.getD notes.length []/\a7Y cl notes x=true then
   aC (rec (notes++[x])) λo=>bif o.2.1 then some (some (o.1,true,())) else some none else some none:=by
 have n4:=h.n4;obtain⟨hc1,hc2,hc3⟩:=hcl;obtain⟨hxl,hx0,hxb⟩:=hc3 x hx;obtain⟨y,e,t1,t2,t3⟩:=aXN h x hxl hxb;have hR:Rws 1000 cl:=λz hz=>by have:=(hc3 z hz).1; omega
 have e1:aF (notes.length:Int) c.length=true:=by rw[aK]; exact oT Z
 have e2:=aBK (cl:=cl) (notes:=notes) (x:=x) hc1 hR hc2 Z Z (λz hz=>by have:=hn z hz; omega);have e3:dS (notes,())=some notes:=by
  unfold dS; dsimp only;rw[bT,oT h0,dF,oT Z]; rfl
 have e4:=BO (r:=x) Z Z;have e5:Nat.ble notes.length 1048576=true:=by rw[dF]; exact oT Z
 unfold aSK trJ;rw[t1,aD];dsimp only
 by_cases he:e=0
 ·have e6:eqI e 0=true:=by rw[bZ]; exact oT he
  have hyl:=t2 he;have e7:=TL y (c.getD notes.length []) Z;rw[e6,Bool.not_true,oD,e1,oC,oN,e7,aD]
  by_cases hy:y=c.getD notes.length []
  ·rw[oT hy,oC,e2,aD];cases hf:a7Y cl notes x with
   | false=>rw[oD,if_neg ze]
   | true=>rw[oC,e3,aD,e4,aD,e5,oC,if_pos ⟨he,hy,rfl⟩]
  ·rw[oF hy,oD,if_neg (λg=>hy g.2.1)]
 ·have e6:eqI e 0=false:=by rw[bZ]; exact oF he
  rw[e6,Bool.not_false,oC,if_neg (λg=>he g.1)]
theorem aUJ {one:List Int->Option (Option aNG)}:∀ {l:List (List Int)},(∀ x∈l,∃ z,one x=some z)->∃ o,aCO one l=some o
 | [],_=>⟨_,rfl⟩
 | x::l,h=>by
  obtain⟨z,hz⟩:=h x List.mem_cons_self;simp only[aCO,hz,aD];cases z with
  | some z=>exact⟨z,rfl⟩
  | none=>exact aUJ λy hy=>h y (List.mem_cons_of_mem _ hy)
theorem aZE(h:RT ps n d r C K){cl c:List (List Int)}(hcl:RwC n cl)(hk6:c.length<=6):∀ (m:Nat) (notes:List (List Int)),c.length<=notes.length+m->notes.length<=c.length->0<notes.length->(∀ y∈notes,y.length=n) ->
  ∃ o,juF gJ m notes c cl (ps,(Mr d n C,Mr r n K)) (RM c cl (ps,(Mr d n C,Mr r n K)) m)=some o
 | 0,notes,h1,h2,h0,hn=>by
  have e:eqI (notes.length:Int) (c.length:Int)=true:=by rw[bZ]; exact oT Z
  rw[juF,e]; exact⟨_,rfl⟩
 | m+1,notes,h1,h2,h0,hn=>by
  rw[a9I]
  by_cases he:notes.length=c.length
  ·have e:eqI (notes.length:Int) (c.length:Int)=true:=by rw[bZ]; exact oT Z
   rw[e]; exact⟨_,rfl⟩
  ·have e:eqI (notes.length:Int) (c.length:Int)=false:=by rw[bZ]; exact oF Z
   have e5:Nat.ble cl.length 1048576=true:=by rw[dF]; exact oT (by have:=hcl.1; omega)
   rw[e,oD,e5,oC];refine aUJ λx hx=>?_
   rw[bBC h hcl Z hk6 h0 hn hx];split
   ·obtain⟨o,ho⟩:=aZE h hcl hk6 m (notes++[x]) (by rw[oH]; simp; omega) (by rw[oH]; simp; omega) (by rw[oH]; simp) (λy hy=>by
     rcases List.mem_append.1 hy with hy|hy
     ·exact hn y hy
     ·rw[List.mem_singleton.1 hy]; exact(hcl.2.2 x hx).1)
    rw[ho,aD];cases o.2.1 with
    | true=>exact⟨_,rfl⟩
    | false=>exact⟨_,rfl⟩
   ·exact⟨_,rfl⟩
theorem a9T {x:List Int}(hx:∀ a∈x,a.natAbs<=1000000000):∀ a∈neg x,a.natAbs<=1000000000:=by
 intro a ha;unfold neg zQ at ha;obtain⟨i,hi,rfl⟩:=List.mem_map.1 ha;have hi:=List.mem_range.1 hi;rw[List.length_replicate]at hi;have e:x.getD i 0=x[i]:=by simp[List.getD,hi]
 have:=hx _ (List.getElem_mem hi);have e2:(List.replicate x.length (0:Int)).getD i 0=0:=by simp[List.getD,hi]
 rw[e,e2,wrap64 Z Z];omega
theorem a8L {l:List (List Int)} (hn:n<=4) (he:LQ (n:Int) l=0):RwC n (pU [] l):=by
 have hC:aFK n l=0:=by
  unfold LQ at he;split at he
  ·exact he
  next h=> exact Decidable.not_not.1 h
 have h60:(pU [] l).length<=60:=by
  unfold LQ at he;rw[if_neg (by simp[hC])]at he;split at he
  ·cases he
  ·omega
 obtain⟨_,_,hg⟩:=aO3 hC;refine⟨by omega,aMA l (by simp[SI]),λx hx=>?_⟩;rcases(aAT x l []).1 hx with hx|hx
 ·simp at hx
 ·unfold N5 at hx;obtain⟨y,hy,hxy⟩:=List.mem_flatMap.1 hx;obtain⟨g1,g2⟩:=hg y hy;have hyb:=(a8K g1).2;cases hz:isZ y with
  | true=>rw[hz]at hxy; simp at hxy
  | false =>
   have h0:=aH2 hz;rw[hz]at hxy;simp only[Bool.false_eq_true,if_false,List.mem_cons,List.not_mem_nil,or_false]at hxy;rcases hxy with rfl|rfl
   ·exact⟨by omega,by omega,hyb⟩
   ·exact⟨by rw[aD7]; omega,by omega,a9T hyb⟩
theorem a5I(h:RT ps n d r C K) {l c:List (List Int)} (h1:l.length<=1000) (h2:Rws 1000 l) (h3:c.length<=1000) (h4:Rws 1000 c) :
  fT ((ps,(Mr d n C,Mr r n K)),l,c,())=if ¬ LQ n l=0 then some ([],false,LQ n l,()) else if ¬ aDR r c=0 then some ([],false,aDR r c,()) else
   aC (juF gJ 7 [List.replicate n 0] c (pU [] l) (ps,(Mr d n C,Mr r n K)) (RM c (pU [] l) (ps,(Mr d n C,Mr r n K)) 7)) λo=>some (o.1,o.2.1,0,()):=by
 have n4:=h.n4;have e0:eqI 0 0=true:=O
 have t2:=AU (n:=(n:Int)) (l:=l) h1 h2;have t3:=ZF (n:=(r:Int)) (c:=c) h3 h4;have e1:((Mr r n K).length:Int)=(r:Int):=by rw[qY]
 have e2:(ps.length:Int)=(n:Int):=by rw[h.len]
 unfold fT;dsimp only;rw[h.check,aD,e0,Bool.not_true,oD,e2,t2]
 by_cases he:LQ n l=0
 ·rw[if_pos he,aD,if_neg (by simp[he])];dsimp only;rw[e0,Bool.not_true,oD,e1,t3,aD];dsimp only
  by_cases hh:aDR r c=0
  ·have f1:ltI (n:Int) 0=false:=by rw[aE]; exact oF Z
   have f2:ltI (n:Int) (n:Int)=false:=by rw[aE]; exact oF Z
   have f3:ltI 1048576 (n:Int)=false:=by rw[aE]; exact oF Z
   rw[if_neg (by simp[hh]),hh,e0,Bool.not_true,oD,f1,f2,f3,oN];rfl
  ·have f1:eqI (aDR r c) 0=false:=by rw[bZ]; exact oF hh
   rw[if_pos hh,f1]; rfl
 ·have f1:eqI (LQ n l) 0=false:=by rw[bZ]; exact oF he
  rw[if_neg he,aD,if_pos he];dsimp only;rw[f1]; rfl
theorem a3R(h:RT ps n d r C K){l c:List (List Int)}(h1:l.length<=1000)(h2:Rws 1000 l)(h3:c.length<=1000)(h4:Rws 1000 c)(he:LQ n l=0)(hh:aDR r c=0) :
  ∃ o,juF gJ 7 [List.replicate n 0] c (pU [] l) (ps,(Mr d n C,Mr r n K)) (RM c (pU [] l) (ps,(Mr d n C,Mr r n K)) 7)=some o:=by
 obtain⟨_,_,g1,g2,_⟩:=a1T hh;exact aZE h (a8L h.n4 he) g2 7 [List.replicate n 0] (by simp; omega) (by simp; omega) ze (λy hy=>by rw[List.mem_singleton.1 hy,List.length_replicate])
end
end Go.PM
namespace Go.PM
open Go Go.RowKit Go.Proofs Tryz
set_option maxHeartbeats 4000000
def lD(x:aM [.int .i64,.list (.list (.int .i64)),.list (.list (.int .i64)),.int .i64,.list (.list (.list (.int .i64)))]):Option (aM [.list (.list (.list (.int .i64))),.int .i64]):=match x with
 | (v0,v1,v2,v3,v4,()) =>
  aC (iA (v0,v1,v3,())) λy1 =>
  bif !(eqI y1.2.1 0) then
   some ([],y1.2.1,())
  else aC (cN (y1.1,v4,(),())) λy2 =>
  bif y2.1 then none else some ([],23,())
def GU:Code:=dN f24
abbrev P4:Env:=FN [KD,cI]
theorem X3:fX Tryz.prog P4:=aP ⟨FC,fQ,trivial⟩
def OA(id:Nat):Option eY:=none
def N9(id:Nat):Option eY:=none
theorem XG:pX GU=[]:=Y
theorem YH:∀ x,aZY Tryz.prog P4 f24 (U2 f24) OA N9 GU [.int .i64,.list (.list (.int .i64)),.list (.list (.int .i64)),.int .i64,.list (.list (.list (.int .i64)))] [.list (.list (.list (.int .i64))),.int .i64] x=lD x:=by
 rintro⟨v0,v1,v2,v3,v4,⟨⟩⟩
 kernel_rfl
abbrev aDJ:Ent:=⟨24,[.int .i64,.list (.list (.int .i64)),.list (.list (.int .i64)),.int .i64,.list (.list (.list (.int .i64)))],[.list (.list (.list (.int .i64))),.int .i64],lD⟩
theorem YF:Ent.OK Tryz.prog aDJ:=aP3 bH X3 func24 (c:=GU) Y (keep:=U2 f24) (lt:=OA) (rt:=N9) (OW XG trivial) YH
def cU(x:aM [.agg (.prod (.int .u8) (.prod (.list (.prod (.int .i8) (.prod (.int .i8) (.prod (.int .i8) (.int .i8))))) .bool)),.list (.list (.int .i64)),.list (.list (.int .i64))]):Option (aM [.bool]):=match x with
 | (v0,v1,v2,()) =>
  aC (fG (())) λy1 =>
  bif y1.1 then
   aC (A4 ((v0.1,(v0.2.1,v0.2.2)),())) λy2 =>
   bif y2.1 then
    aC (wN (v1,())) λy3 =>
    bif y3.1 then
     aC (wN (v2,())) λy4 =>
     bif y4.1 then
      aC (BE ((v0.1,(v0.2.1,v0.2.2)),())) λy5 =>
      aC (wM ((y5.1.1.length:Int),v1,())) λy6 =>
      aC (fT ((y5.1.1,(y5.1.2.1,y5.1.2.2)),v1,v2,())) λy7 =>
      bif eqI y6.1 0 then
       aC (rW ((y5.1.2.2.length:Int),v2,())) λy8 =>
       bif !(eqI y8.1 0) then
        bif !(eqI (y7.1.length:Int) 0) then
         some (false,())
        else bif y7.2.1 then
         some (false,())
        else bif !(eqI y7.2.2.1 y8.1) then
         some (false,())
        else bif Nat.ble y5.1.2.2.length 1048576 then bif !(ltI (y5.1.1.length:Int) 0) then bif !(ltI (y5.1.1.length:Int) (y5.1.1.length:Int)) then bif !(ltI 1048576 (y5.1.1.length:Int)) then bif Nat.ble [(List.replicate ((y5.1.1.length:Int).toNat) (0:Ty.den (.int .i64)))].length 1048576 then bif Nat.ble y5.1.2.2.length 1048576 then aC (fT ((y5.1.1,(y5.1.2.1,(y5.1.2.2++[(List.replicate ((y5.1.1.length:Int).toNat) (0:Ty.den (.int .i64)))]))),v1,v2,())) λy9 =>
        aC (kV ((y5.1.1,(y5.1.2.1,(y5.1.2.2++[(List.replicate ((y5.1.1.length:Int).toNat) (0:Ty.den (.int .i64)))]))),v1,())) λy10 =>
        aC (dT ((y5.1.1,(y5.1.2.1,(y5.1.2.2++[(List.replicate ((y5.1.1.length:Int).toNat) (0:Ty.den (.int .i64)))]))),())) λy11 =>
        bif eqI y11.1 0 then
         some (false,())
        else bif !(eqI (aB .i64 ((y9.1.length:Int)+(y10.1.length:Int))) 0) then
         some (false,())
        else bif y9.2.1 then
         some (false,())
        else bif !(eqI y9.2.2.1 y11.1) then
         some (false,())
        else bif !(eqI y10.2.1 y11.1) then
         some (false,())
        else bif eqI y6.1 0 then
         some (true,())
        else aC (iA ((y5.1.1.length:Int),v1,2,())) λy12 =>
        aC (gU ((y5.1.1.length:Int),v1,())) λy13 =>
        aC (lD ((y5.1.1.length:Int),v1,[],2,[],())) λy14 =>
        bif eqI (aB .i64 ((aB .i64 ((y12.1.length:Int)+(y13.1.length:Int)))+(y14.1.length:Int))) 0 then
         bif eqI y12.2.1 y6.1 then
          bif eqI y13.2.1 y6.1 then
           some (eqI y14.2.1 y6.1,())
          else some (false,())
         else some (false,())
        else some (false,()) else none else none else none else none else none else none
       else bif Nat.ble y5.1.2.2.length 1048576 then bif !(ltI (y5.1.1.length:Int) 0) then bif !(ltI (y5.1.1.length:Int) (y5.1.1.length:Int)) then bif !(ltI 1048576 (y5.1.1.length:Int)) then bif Nat.ble [(List.replicate ((y5.1.1.length:Int).toNat) (0:Ty.den (.int .i64)))].length 1048576 then bif Nat.ble y5.1.2.2.length 1048576 then aC (fT ((y5.1.1,(y5.1.2.1,(y5.1.2.2++[(List.replicate ((y5.1.1.length:Int).toNat) (0:Ty.den (.int .i64)))]))),v1,v2,())) λy15 =>
       aC (kV ((y5.1.1,(y5.1.2.1,(y5.1.2.2++[(List.replicate ((y5.1.1.length:Int).toNat) (0:Ty.den (.int .i64)))]))),v1,())) λy16 =>
       aC (dT ((y5.1.1,(y5.1.2.1,(y5.1.2.2++[(List.replicate ((y5.1.1.length:Int).toNat) (0:Ty.den (.int .i64)))]))),())) λy17 =>
       bif eqI y17.1 0 then
        some (false,())
       else bif !(eqI (aB .i64 ((y15.1.length:Int)+(y16.1.length:Int))) 0) then
        some (false,())
       else bif y15.2.1 then
        some (false,())
       else bif !(eqI y15.2.2.1 y17.1) then
        some (false,())
       else bif !(eqI y16.2.1 y17.1) then
        some (false,())
       else bif eqI y6.1 0 then
        some (true,())
       else aC (iA ((y5.1.1.length:Int),v1,2,())) λy18 =>
       aC (gU ((y5.1.1.length:Int),v1,())) λy19 =>
       aC (lD ((y5.1.1.length:Int),v1,[],2,[],())) λy20 =>
       bif eqI (aB .i64 ((aB .i64 ((y18.1.length:Int)+(y19.1.length:Int)))+(y20.1.length:Int))) 0 then
        bif eqI y18.2.1 y6.1 then
         bif eqI y19.2.1 y6.1 then
          some (eqI y20.2.1 y6.1,())
         else some (false,())
        else some (false,())
       else some (false,()) else none else none else none else none else none else none
      else bif !(eqI y6.1 0) then
       bif !(eqI (y7.1.length:Int) 0) then
        some (false,())
       else bif y7.2.1 then
        some (false,())
       else bif !(eqI y7.2.2.1 y6.1) then
        some (false,())
       else bif Nat.ble y5.1.2.2.length 1048576 then bif !(ltI (y5.1.1.length:Int) 0) then bif !(ltI (y5.1.1.length:Int) (y5.1.1.length:Int)) then bif !(ltI 1048576 (y5.1.1.length:Int)) then bif Nat.ble [(List.replicate ((y5.1.1.length:Int).toNat) (0:Ty.den (.int .i64)))].length 1048576 then bif Nat.ble y5.1.2.2.length 1048576 then aC (fT ((y5.1.1,(y5.1.2.1,(y5.1.2.2++[(List.replicate ((y5.1.1.length:Int).toNat) (0:Ty.den (.int .i64)))]))),v1,v2,())) λy21 =>
       aC (kV ((y5.1.1,(y5.1.2.1,(y5.1.2.2++[(List.replicate ((y5.1.1.length:Int).toNat) (0:Ty.den (.int .i64)))]))),v1,())) λy22 =>
       aC (dT ((y5.1.1,(y5.1.2.1,(y5.1.2.2++[(List.replicate ((y5.1.1.length:Int).toNat) (0:Ty.den (.int .i64)))]))),())) λy23 =>
       bif eqI y23.1 0 then
        some (false,())
       else bif !(eqI (aB .i64 ((y21.1.length:Int)+(y22.1.length:Int))) 0) then
        some (false,())
       else bif y21.2.1 then
        some (false,())
       else bif !(eqI y21.2.2.1 y23.1) then
        some (false,())
       else bif !(eqI y22.2.1 y23.1) then
        some (false,())
       else bif eqI y6.1 0 then
        some (true,())
       else aC (iA ((y5.1.1.length:Int),v1,2,())) λy24 =>
       aC (gU ((y5.1.1.length:Int),v1,())) λy25 =>
       aC (lD ((y5.1.1.length:Int),v1,[],2,[],())) λy26 =>
       bif eqI (aB .i64 ((aB .i64 ((y24.1.length:Int)+(y25.1.length:Int)))+(y26.1.length:Int))) 0 then
        bif eqI y24.2.1 y6.1 then
         bif eqI y25.2.1 y6.1 then
          some (eqI y26.2.1 y6.1,())
         else some (false,())
        else some (false,())
       else some (false,()) else none else none else none else none else none else none
      else bif Nat.ble y5.1.2.2.length 1048576 then bif !(ltI (y5.1.1.length:Int) 0) then bif !(ltI (y5.1.1.length:Int) (y5.1.1.length:Int)) then bif !(ltI 1048576 (y5.1.1.length:Int)) then bif Nat.ble [(List.replicate ((y5.1.1.length:Int).toNat) (0:Ty.den (.int .i64)))].length 1048576 then bif Nat.ble y5.1.2.2.length 1048576 then aC (fT ((y5.1.1,(y5.1.2.1,(y5.1.2.2++[(List.replicate ((y5.1.1.length:Int).toNat) (0:Ty.den (.int .i64)))]))),v1,v2,())) λy27 =>
      aC (kV ((y5.1.1,(y5.1.2.1,(y5.1.2.2++[(List.replicate ((y5.1.1.length:Int).toNat) (0:Ty.den (.int .i64)))]))),v1,())) λy28 =>
      aC (dT ((y5.1.1,(y5.1.2.1,(y5.1.2.2++[(List.replicate ((y5.1.1.length:Int).toNat) (0:Ty.den (.int .i64)))]))),())) λy29 =>
      bif eqI y29.1 0 then
       some (false,())
      else bif !(eqI (aB .i64 ((y27.1.length:Int)+(y28.1.length:Int))) 0) then
       some (false,())
      else bif y27.2.1 then
       some (false,())
      else bif !(eqI y27.2.2.1 y29.1) then
       some (false,())
      else bif !(eqI y28.2.1 y29.1) then
       some (false,())
      else bif eqI y6.1 0 then
       some (true,())
      else aC (iA ((y5.1.1.length:Int),v1,2,())) λy30 =>
      aC (gU ((y5.1.1.length:Int),v1,())) λy31 =>
      aC (lD ((y5.1.1.length:Int),v1,[],2,[],())) λy32 =>
      bif eqI (aB .i64 ((aB .i64 ((y30.1.length:Int)+(y31.1.length:Int)))+(y32.1.length:Int))) 0 then
       bif eqI y30.2.1 y6.1 then
        bif eqI y31.2.1 y6.1 then
         some (eqI y32.2.1 y6.1,())
        else some (false,())
       else some (false,())
      else some (false,()) else none else none else none else none else none else none
     else aC (fG (())) λy33 =>
     some (y33.1,())
    else aC (fG (())) λy34 =>
    some (y34.1,())
   else aC (fG (())) λy35 =>
   some (y35.1,())
  else aC (fG (())) λy36 =>
  some (y36.1,())
theorem JJ:X5 Tryz.prog 5 [.agg (.prod (.int .u8) (.prod (.list (.prod (.int .i8) (.prod (.int .i8) (.prod (.int .i8) (.int .i8))))) .bool)),.list (.list (.int .i64)),.list (.list (.int .i64))] [.bool] cU:=oI (aP (oV YF (oV aBE (oV FC (oV IX (oV UJ (oV X9 (oV X4 (oV OZ (oV U7 (oV ZM (oV V6 (oV vM oW))))))))))))) func5 Y (by rintro⟨v0,v1,v2,⟨⟩⟩; kernel_rfl)
end Go.PM
namespace Go.PM
open Go Go.RowKit Go.Proofs Go.Lz
set_option maxHeartbeats 4000000
section
variable {ps:List Int} {n d r:Nat} {C K:Nat->V}
theorem aHB(h:RT ps n d r C K) (x:List Int):dT ((ps,(Mr d n C,Mr r n K++[x])),())=some (14,()):=by
 obtain⟨q,hc⟩:=h.hc;obtain⟨p,hk⟩:=h.hk;have n4:=h.n4;have d4:=(Hn.GG hc h.wc).1;have r4:=(Hn.GG hk h.wk).1;have e0:eqI 0 0=true:=by rfl
 have e1:ps.length=n:=by rw[h.len]
 have s1:=ZV hc n4 h.wc h.bc h.ker hc h.ker2 h.bc;have s2:=QZ hc n4 h.wc h.bc hk h.ker h.bk;have s3:=aEE hc h.wc Z Z h.bc;have s4:=aCG n n (Mr d n C) (Mr d n C) (by rw[qY]; omega) (aQ3 n4);have s5:=aYV (Mr r n K) (Mr r n K++[x]) (by rw[qY]; omega) (aQ3 n4);have hne:¬ Mr r n K=Mr r n K++[x]:=λe=>by
  have:=oZ List.length e;simp at this
 rw[oF hne]at s5;simp only[decide_true,Bool.and_self]at s4;simp only[dT,h.pr,aD,e0,Bool.not_true,oD,e1,s3,s1,s4,oC,s2,s5]
theorem a56(h:RT ps n d r C K)(x:List Int)(l c:List (List Int)):fT ((ps,(Mr d n C,Mr r n K++[x])),l,c,())=some ([],false,14,()):=by
 have e:eqI 14 0=false:=O
 unfold fT;dsimp only;rw[aHB h,aD,e]; rfl
theorem aQN(h:RT ps n d r C K)(x:List Int)(l:List (List Int)):kV ((ps,(Mr d n C,Mr r n K++[x])),l,())=some ([],14,()):=by
 have e:eqI 14 0=false:=O
 unfold kV;dsimp only;rw[aHB h,aD,e]; rfl
end
theorem aUQ {n:Int}{l:List (List Int)}(m:Int)(h1:l.length<=1000)(h2:Rws 1000 l)(he:¬ LQ n l=0):iA (n,l,m,())=some ([],LQ n l,()):=by
 have t2:=AU (n:=n) (l:=l) h1 h2;rw[if_neg he]at t2;have e:eqI (LQ n l) 0=false:=by rw[bZ]; exact oF he
 unfold iA;dsimp only;rw[t2,aD];dsimp only;rw[e]; rfl
theorem aTL {n:Int}{l:List (List Int)}(h1:l.length<=1000)(h2:Rws 1000 l)(he:¬ LQ n l=0):gU (n,l,())=some ([],LQ n l,()):=by
 have t2:=AU (n:=n) (l:=l) h1 h2;rw[if_neg he]at t2;have e:eqI (LQ n l) 0=false:=by rw[bZ]; exact oF he
 unfold gU;dsimp only;rw[t2,aD];dsimp only;rw[e]; rfl
theorem aVY {n:Int}{l:List (List Int)}(m:Int)(more:List (List Int))(bef:List (List (List Int)))(h1:l.length<=1000)(h2:Rws 1000 l)(he:¬ LQ n l=0):lD (n,l,more,m,bef,())=some ([],LQ n l,()):=by
 have e:eqI (LQ n l) 0=false:=by rw[bZ]; exact oF he
 unfold lD;dsimp only;rw[aUQ m h1 h2 he,aD];dsimp only;rw[e]; rfl
theorem aVX(p:Int×List (Int×Int×Int×Int)×Bool)(hp:(0<=p.1/\p.1<256)/\∀ t∈p.2.1,I8 t)(l c:List (List Int))(hl:l.length<=9223372036854775807)(hc:c.length<=9223372036854775807):cU (p,l,c,())=some (true,()):=by
 obtain⟨a,b,m⟩:=p;have hf:=bAF (a,(b,m));have kn:fG (())=some (true,()):=rfl;have e0:eqI 0 0=true:=O
 by_cases c1:b.length<=3
 case neg =>
  rw[oF c1]at hf;simp only[cU,kn,hf,aD,oC,oD]
 rw[oT c1]at hf;obtain⟨w,f1,f2⟩:=MQ (l:=l) hl;cases w with
 | false=>simp only[cU,kn,hf,f1,aD,oC,oD]
 | true =>
 obtain⟨v,g1,g2⟩:=MQ (l:=c) hc;cases v with
 | false=>simp only[cU,kn,hf,f1,g1,aD,oC,oD]
 | true =>
 obtain⟨l40,hr⟩:=f2 rfl;obtain⟨c40,hs⟩:=g2 rfl;have hR:Rws 1000 l:=λy hy=>oR (hr y hy) Z
 have hS:Rws 1000 c:=λy hy=>oR (hs y hy) Z
 obtain⟨d,r,C,K,m1,rt,_,_⟩:=a6W a hp.1.1 hp.1.2 b c1 hp.2 m;generalize L12.getD (a%10).toNat []=ps at m1 rt;have hnn:ps.length=ps.length:=rfl;generalize ps.length=n at m1 rt;have n4:=rt.n4;have en:(ps.length:Int)=(n:Int):=by rw[rt.len]
 obtain⟨q,hkk⟩:=rt.hk;have r4:=(Hn.GG hkk rt.wk).1;have er:((Mr r n K).length:Int)=(r:Int):=by rw[qY]
 have t3:=UR (n:=(n:Int)) (l:=l) Z hR;have t4:=O4 (n:=(r:Int)) (c:=c) Z hS;have tj:=a5I rt (l:=l) (c:=c) Z hR Z hS;have j2:=a56 rt (List.replicate ((n:Int).toNat) (0:Ty.den (.int .i64))) l c;have j3:=aQN rt (List.replicate ((n:Int).toNat) (0:Ty.den (.int .i64))) l;have j4:=aHB rt (List.replicate ((n:Int).toNat) (0:Ty.den (.int .i64)));have k1:Nat.ble (Mr r n K).length 1048576=true:=by rw[dF,qY]; exact oT Z
 have k2:ltI (n:Int) 0=false:=by rw[aE]; exact oF Z
 have k3:ltI (n:Int) (n:Int)=false:=by rw[aE]; exact oF Z
 have k4:ltI 1048576 (n:Int)=false:=by rw[aE]; exact oF Z
 have k5:Nat.ble [(List.replicate ((n:Int).toNat) (0:Ty.den (.int .i64)))].length 1048576=true:=rfl;have k6:eqI 14 0=false:=O
 have k7:eqI 14 14=true:=O
 have k8:eqI (aB .i64 ((([]:List (List Int)).length:Int)+(([]:List (List Int)).length:Int))) 0=true:=O
 have k9:eqI (aB .i64 ((aB .i64 ((([]:List (List (List Int))).length:Int)+(([]:List (List (List Int))).length:Int)))+(([]:List (List (List Int))).length:Int))) 0=true:=O
 have k10:eqI (([]:List (List Int)).length:Int) 0=true:=O
 by_cases he:LQ n l=0
 ·rw[if_neg (by simp[he])]at tj;rw[he]at t3
  by_cases hh:aDR r c=0
  ·rw[if_neg (by simp[hh])]at tj;rw[hh]at t4;obtain⟨o,ho⟩:=a3R rt (l:=l) (c:=c) Z hR Z hS he hh;rw[ho,aD]at tj;simp only[cU,kn,hf,f1,g1,m1,en,er,t3,t4,tj,j2,j3,j4,k1,k2,k3,k4,k5,k6,k7,k8,k10,e0,aD,oC,oD,Bool.not_true,Bool.not_false]
  ·rw[if_pos hh]at tj;have u1:eqI (aDR r c) 0=false:=by rw[bZ]; exact oF hh
   have u2:eqI (aDR r c) (aDR r c)=true:=by rw[bZ]; exact oT rfl
   simp only[cU,kn,hf,f1,g1,m1,en,er,t3,t4,tj,j2,j3,j4,k1,k2,k3,k4,k5,k6,k7,k8,k10,u1,u2,e0,aD,oC,oD,Bool.not_true,Bool.not_false]
 ·rw[if_pos he]at tj;have u1:eqI (LQ n l) 0=false:=by rw[bZ]; exact oF he
  have u2:eqI (LQ n l) (LQ n l)=true:=by rw[bZ]; exact oT rfl
  have v1:=aUQ (n:=(n:Int)) (l:=l) 2 Z hR he;have v2:=aTL (n:=(n:Int)) (l:=l) Z hR he;have v3:=aVY (n:=(n:Int)) (l:=l) 2 [] [] Z hR he;simp only[cU,kn,hf,f1,g1,m1,en,er,t3,tj,j2,j3,j4,k1,k2,k3,k4,k5,k6,k7,k8,k9,k10,u1,u2,v1,v2,v3,e0,aD,oC,oD,Bool.not_true,Bool.not_false]
end Go.PM
