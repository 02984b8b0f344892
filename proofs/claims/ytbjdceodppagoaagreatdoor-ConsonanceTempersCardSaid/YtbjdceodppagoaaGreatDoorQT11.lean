/- Texts of one proof, joined (11). -/
import Derived.Shelf.Slices.CompactI
import Derived.Test.YtbjdceodppagoaaGreatDoorQT10
set_option linter.unusedSimpArgs false
set_option linter.unusedVariables false
set_option maxRecDepth 100000
noncomputable section
namespace Go.PM
open Go Go.RowKit Go.Proofs
theorem kT {τ:Type}(p:Nat->Prop) [DecidablePred p](g:Nat->τ):∀ l:List Nat,(l.findSome? λi=>if p i then some (g i) else none)=(l.find? λi=>decide (p i)).map g
 | []=>rfl
 | i::l=>by
  rw[List.findSome?_cons,List.find?_cons]
  by_cases h:p i
  ·simp[h]
  ·simp[h,kT p g l]
theorem lB(a b:List Int) (ha:a.length<=9223372036854775806):bW (a,b,())=some (decide (a=b),()):=by
 unfold bW;simp only[bT,eV,aN]
 by_cases hl:a.length=b.length
 ·rw[if_neg (by omega)];have:aO aX (2^64) (a,b,(a.length:Int),0,())=_:=j8 (N:=2^64) (step:=aX) (λi=>(a,b,(a.length:Int),(i:Int),())) (λi=>if ¬ a.getD i 0=b.getD i 0 then some (.inl (false,())) else none) a.length (.inr ()) (by omega) (by
   intro i hi;simp only[aX,aE,bT,aG,aN,eV,oN];rw[if_pos (by omega),if_pos ⟨by omega,by omega⟩,if_pos ⟨by omega,by omega⟩,aT i (by omega)]
   by_cases h:¬ a.getD i 0=b.getD i 0
   ·rw[if_pos h,if_pos h]
   ·rw[if_neg h,if_neg h]) (by
   simp only[aX,aE,aN];rw[if_neg (by omega)])
  unfold dN;rw[this,kT (λi=>¬ a.getD i 0=b.getD i 0),aD];cases hf:(List.range a.length).find? λi=>decide (¬ a.getD i 0=b.getD i 0)with
  | none =>
   have hall:∀ i,i<a.length->a.getD i 0=b.getD i 0:=by
    intro i hi;have:=List.find?_eq_none.1 hf i (List.mem_range.2 hi);simpa using this
   have:a=b:=by
    apply List.ext_getElem hl;intro i h1 h2;have:=hall i h1;rw[oQ,oQ,List.getElem?_eq_getElem h1,List.getElem?_eq_getElem h2]at this;exact this
   rw[oT this]; rfl
  | some i =>
   have h1:=List.find?_some hf;have:¬ a=b:=λe=>by subst e; simp at h1
   rw[oF this]; rfl
 ·rw[if_pos (by omega),oF];rintro rfl; exact hl rfl
theorem wY(a b:List Int)(ha:a.length<=9223372036854775806):rD (a,b,())=some (decide (a=b),()):=by
 unfold rD; dsimp only;rw[lB a b ha,aD]
theorem BZ {σ τ:Type} {step:σ->Option (σ⊕τ)} (R:Nat->σ->Prop) (out:σ->τ) (m:Nat) (h:∀ i x,i<m->R i x->∃ y,step x=some (.inl y)/\R (i+1) y) (he:∀ x,R m x->step x=some (.inr (out x))) :
  ∀ (k j:Nat) (N:Nat) (x:σ),j+k=m->k<N->R j x->∃ y,R m y/\aO step N x=some (out y)
 | 0,j,N,x,hj,hN,hr=>by
  have:j=m:=by omega
  subst this;obtain⟨N,rfl⟩:∃ n,N=n+1:=⟨N-1,by omega⟩;exact⟨x,hr,by rw[aV,he x hr]⟩
 | k+1,j,N,x,hj,hN,hr=>by
  obtain⟨N,rfl⟩:∃ n,N=n+1:=⟨N-1,by omega⟩;obtain⟨y,h1,h2⟩:=h j x (by omega) hr;obtain⟨z,h3,h4⟩:=BZ R out m h he k (j+1) N y (by omega) (by omega) h2;exact⟨z,h3,by rw[aV,h1]; exact h4⟩
theorem xZ(j:Nat):(!(ltI (j:Int) 0))=true:=by rw[aE,oF (by omega)]; rfl
def ShQ(l:List (List Int)):Prop:=l.length<=4611686018427387904/\∀ x∈l,x.length<=9223372036854775806
theorem rF {l:List (List Int)}{i:Nat}(h:i<l.length):l.getD i []∈l:=by rw[oQ,List.getElem?_eq_getElem h]; exact List.getElem_mem h
theorem iG {l:List (List Int)}{i:Nat}(h:i<l.length):l.toArray[i]! =l.getD i []:=by rw[getElem!_pos l.toArray i (by simpa using h),oQ,List.getElem?_eq_getElem h]; simp
theorem JO {l:List (List Int)} (hs:ShQ l) {j:Nat} (hj0:0<j) (hj:j<l.length) (hall:∀ i,i<j->Lib.keeps l.toArray i=true) (hdup:Lib.keeps l.toArray j=false) :
  ∃ (dk:List (List Int)) (kk:Nat),Lib.CompInv l.toArray l.length kk dk.toArray/\cJ (l,(),(j:Int),(j,l.length-j),1,())=some (dk,(kk:Int),()):=by
 obtain⟨y,⟨dk,kk,rfl,hI⟩,hy⟩:=BZ (step:=bQ) (λi x=>∃ (dk:List (List Int)) (kk:Nat),x=(dk,(),(kk:Int),(j,l.length-j),((i+1:Nat):Int),())/\Lib.CompInv l.toArray (j+1+i) kk dk.toArray)
  (λx=>(x.1,x.2.2.1,())) (l.length-j-1) (by
   rintro i x hi ⟨dk,kk,rfl,hI⟩;have hsz:dk.length=l.length:=by have:=hI.size; simpa using this
   have hlt:=hI.lt;have hm:j+(i+1)<l.length:=by omega
   have g1:dk.getD (j+(i+1)) []=l.getD (j+(i+1)) []:=by
    have:=hI.high (j+(i+1)) (by omega);rwa[iG (by omega),iG hm]at this
   have g2:dk.getD (j+i) []=l.getD (j+i) []:=by
    have:=hI.high (j+i) (by omega);rwa[iG (by omega),iG (by omega)]at this
   have hk1:=hs.1;have w1:aB .i64 (((i+1:Nat):Int)-1)=((i:Nat):Int):=by rw[wrap64 (by omega) (by omega)]; omega
   simp only[bQ,aE,aG,bE,aN,oN,w1,g1,g2];rw[if_pos (by omega),if_pos (by omega),if_pos (by omega),if_pos (by omega),if_pos (by omega),wY _ _ (hs.2 _ (rF hm)),aD,aN,aT (i+1) (by omega)]
   by_cases he:l.getD (j+(i+1)) []=l.getD (j+i) []
   ·rw[if_pos he];refine⟨_,rfl,dk,kk,rfl,?_⟩;have hneg:Lib.keeps l.toArray (j+1+i)=false:=by
     refine Lib.keeps_neg (by omega) ?_;rw[iG (by omega),iG (by omega),show j+1+i=j+(i+1)by omega,show j+(i+1)-1=j+i by omega,he]
    exact hI.skip hneg
   ·rw[if_neg he,if_pos (by omega),if_pos (by omega),if_pos (by omega),if_pos (by omega),aT kk (by omega)];refine⟨_,rfl,_,kk+1,rfl,?_⟩;have hpos:Lib.keeps l.toArray (j+1+i)=true:=by
     refine Lib.keeps_pos ?_;rw[iG (by omega),iG (by omega),show j+1+i=j+(i+1)by omega,show j+(i+1)-1=j+i by omega];exact he
    have:=hI.keep (by simp; omega) hpos;rw[iG (by omega),show j+1+i=j+(i+1)by omega]at this;rw[show j+1+(i+1)=j+(i+1)+1 by omega];simpa using this) (by
   rintro x ⟨dk,kk,rfl,hI⟩;simp only[bQ,aE,aN];rw[if_neg (by omega)]) (l.length-j-1) 0 (2^64) (l,(),(j:Int),(j,l.length-j),1,()) (by omega) (by have:=hs.1; omega) ⟨l,j,rfl,by
    rw[Nat.add_zero];exact Lib.CompInv.start hall hdup⟩
 rw[show j+1+(l.length-j-1)=l.length by omega]at hI;exact⟨dk,kk,hI,hy⟩
theorem EM {l dk:List (List Int)}{kk:Nat}(h:Lib.CompInv l.toArray l.length kk dk.toArray):dk.take kk=Lib.compact l:=by
 have hsz:dk.length=l.length:=by have:=h.size; simpa using this
 have hlt:=h.lt;have hlen:(Lib.compact l).length=kk:=h.len;apply List.ext_getElem
 ·rw[List.length_take,hlen]; omega
 ·intro i h1 h2;have hi:i<kk:=by rw[List.length_take]at h1; omega
  have:=h.low i hi;change (Lib.compact l)[i]?=_ at this;rw[List.getElem?_eq_getElem h2,getElem!_pos dk.toArray i (by simp; omega)]at this;rw[List.getElem_take];have:=oB this;rw[this]; simp
theorem HJ(p:Nat->Bool):∀ (m:Nat) {j:Nat},(List.range m).find? p=some j->p j=true/\j<m/\∀ i,i<j->p i=false:=by
 intro m j h;have h1:=List.find?_some h;have h2:=List.mem_range.1 (List.mem_of_find?_eq_some h);refine⟨h1,h2,λi hi=>?_⟩;obtain⟨-,xs,ys,hab,hn⟩:=List.find?_eq_some_iff_append.1 h;have hlen:xs.length=j:=by
  have:(List.range m)[xs.length]?=some j:=by rw[hab]; simp
  rw[List.getElem?_range (by have:=oZ List.length hab; simp at this; omega)]at this;exact oB this
 have him:i∈xs:=by
  have h3:xs=(List.range m).take xs.length:=by rw[hab]; simp
  rw[h3,hlen,List.take_range];exact List.mem_range.2 (by omega)
 simpa using hn i him
theorem PB {l:List (List Int)}(hs:ShQ l):dB l ((),())=some (Lib.compact l,()):=by
 have hk1:=hs.1;unfold dB; dsimp only;rw[aE,aN]
 by_cases h2:(l.length:Int)<2
 ·rw[if_pos h2,Lib.compact_all l (λj hj=>Lib.keeps_lt_one _ j (by omega))]
 rw[if_neg h2]
 -- the first loop
 have key:∀ j,0<j->j<l.length->(l.getD j []=l.getD (j-1) []↔Lib.keeps l.toArray j=false):=by
  intro j h0 hj;constructor
  ·intro h;exact Lib.keeps_neg h0 (by rw[iG hj,iG (by omega),h])
  ·intro h
   by_cases he:l.getD j []=l.getD (j-1) []
   ·exact he
   ·have:=Lib.keeps_pos (d:=l.toArray) (m:=j) (by rw[iG hj,iG (by omega)]; exact he);rw[h]at this; cases this
 have step:∀ j,0<j->j<l.length->aW (l,(),(j:Int),())=if l.getD j []=l.getD (j-1) [] then
   (aC (cJ (l,(),(j:Int),(j,l.length-j),1,())) λz6 =>
    bif !(ltI z6.2.1 0) then bif Nat.ble z6.2.1.toNat z6.1.length then bif Nat.ble z6.1.length z6.1.length then bif Nat.blt z6.2.1.toNat z6.1.length then bif Nat.ble (z6.2.1.toNat+(z6.1.length-z6.2.1.toNat)) z6.1.length then bif !(ltI z6.2.1 0) then bif Nat.ble 0 z6.2.1.toNat then bif Nat.ble z6.2.1.toNat ((clr z6.1 z6.2.1.toNat (z6.1.length-z6.2.1.toNat) []).length) then bif Nat.blt 0 ((clr z6.1 z6.2.1.toNat (z6.1.length-z6.2.1.toNat) []).length) then some (.inr (.inl ((clr z6.1 z6.2.1.toNat (z6.1.length-z6.2.1.toNat) []),(0,(z6.2.1.toNat-0)),()))) else none else none else none else none else none else none else none else none else none)
   else some (.inl (l,(),((j+1:Nat):Int),())):=by
  intro j h0 hj;have w1:aB .i64 ((j:Int)-1)=((j-1:Nat):Int):=by rw[wrap64 (by omega) (by omega)]; omega
  simp only[aW];rw[aE,oT (show (j:Int)<(l.length:Int)by omega),oC,aG,oT (show 0<=(j:Int)/\(j:Int)<(l.length:Int)by omega),oC,oN,bE,oT hj,oC,w1,aG,oT (show 0<=((j-1:Nat):Int)/\((j-1:Nat):Int)<(l.length:Int)by omega),oC,oN,bE,oT (show j-1<l.length by omega),oC,wY _ _ (hs.2 _ (rF hj)),aD]
  by_cases he:l.getD j []=l.getD (j-1) []
  ·rw[if_pos he,oT he,oC,xZ,oC,bY,oT (show j<=l.length by omega),oC,bY,oT (oM l.length),oC,oC]
  ·rw[if_neg he,oF he,oD,aT j (by omega)]
 cases hf:(List.range (l.length-1)).find? (λi=>!(Lib.keeps l.toArray (i+1)))with
 | none =>
  have hall:∀ i,i<l.length->Lib.keeps l.toArray i=true:=by
   intro i hi;cases i with
   | zero=>exact Lib.keeps_lt_one _ 0 (by omega)
   | succ i =>
    have:=List.find?_eq_none.1 hf i (List.mem_range.2 (by omega));simpa using this
  have hl:cI (l,(),1,())=some (.inr (l,())):=by
   refine aQ (N:=2^64) (step:=aW) (λi=>(l,(),((i+1:Nat):Int),())) (l.length-1) (.inr (l,())) (by omega) ?_ ?_
   ·intro i hi;rw[step (i+1) (by omega) (by omega),if_neg];intro he;have:=(key (i+1) (by omega) (by omega)).1 he;rw[hall (i+1) (by omega)]at this; cases this
   ·simp only[aW];rw[aE,oF (by omega),oD]
  rw[hl,Lib.compact_all l hall]; rfl
 | some j =>
  obtain⟨hj1,hj2,hj3⟩:=HJ _ _ hf;have hdup:Lib.keeps l.toArray (j+1)=false:=by simpa using hj1
  have hall:∀ i,i<j+1->Lib.keeps l.toArray i=true:=by
   intro i hi;cases i with
   | zero=>exact Lib.keeps_lt_one _ 0 (by omega)
   | succ i =>
    have:=hj3 i (by omega);simpa using this
  obtain⟨dk,kk,hI,hin⟩:=JO hs (Nat.succ_pos j) (by omega) hall hdup;have hsz:dk.length=l.length:=by have:=hI.size; simpa using this
  have hlt:=hI.lt;have hclr:(clr dk kk (l.length-kk) []).length=l.length:=by simp only[clr,oH,List.length_take,List.length_replicate,List.length_drop]; omega
  have hl:cI (l,(),1,())=some (.inl (clr dk kk (l.length-kk) [],(0,kk-0),())):=by
   have hsteps:=vS (step:=aW) (λi=>(l,(),((i+1:Nat):Int),())) (2^64-j-1+1) j 0 (λi _ hi=>by
    rw[step (i+1) (by omega) (by omega),if_neg];intro he;have:=(key (i+1) (by omega) (by omega)).1 he;rw[hall (i+1) (by omega)]at this; cases this)
   have e:j+(2^64-j-1+1)=2^64:=by omega
   rw[e,show 0+j+1=j+1 by omega]at hsteps;refine Eq.trans hsteps ?_;rw[aV,step (j+1) (by omega) (by omega),if_pos ((key (j+1) (by omega) (by omega)).2 hdup),hin,aD];dsimp only;rw[xZ,oN,hsz,hclr];simp only[bY,bE,oC];rw[oT (show kk<=l.length by omega),oT (oM l.length),oT hlt,oT (show kk+(l.length-kk)<=l.length by omega),oT (Nat.zero_le kk),oT (show 0<l.length by omega)];rfl
  rw[hl,aD];simp only[pN,Nat.sub_zero,List.drop_zero];have:(clr dk kk (l.length-kk) []).take kk=dk.take kk:=by
   unfold clr;rw[List.take_append_of_le_length (by rw[List.length_take]; omega),List.take_take,Nat.min_self]
  rw[this,EM hI]
theorem mO {l:List (List Int)}{i:Nat}(h:i<l.length):l.toArray[i]! =l[i]:=by rw[getElem!_pos l.toArray i (by simpa using h)]; simp
theorem NW(l:List (List Int))(x:List Int):x∈Lib.compact l↔x∈l:=by
 constructor
 ·intro h;unfold Lib.compact Lib.compactUpTo at h;obtain⟨i,hi,rfl⟩:=List.mem_map.1 h;have hl:=List.mem_range.1 (List.mem_filter.1 hi).1;rw[mO hl]; exact List.getElem_mem hl
 ·intro h;obtain⟨i,hi,rfl⟩:=List.getElem_of_mem h;have key:∀ i (hi:i<l.length),l[i]∈Lib.compact l:=by
   intro i
   induction i with
   | zero =>
    intro hi;unfold Lib.compact Lib.compactUpTo;refine List.mem_map.2 ⟨0,List.mem_filter.2 ⟨List.mem_range.2 hi,by simp[Lib.keeps]⟩,mO hi⟩
   | succ i ih =>
    intro hi
    by_cases he:l[i+1]=l[i]'(by omega)
    ·rw[he]; exact ih (by omega)
    ·unfold Lib.compact Lib.compactUpTo;refine List.mem_map.2 ⟨i+1,List.mem_filter.2 ⟨List.mem_range.2 hi,?_⟩,mO hi⟩;refine Lib.keeps_pos ?_;rw[mO hi,Nat.add_sub_cancel,mO (by omega)]; exact he
  exact key i hi
theorem JG {l:List (List Int)}(h:l.Pairwise (λa b=>decide (cmpL b a<0)=false)):(Lib.compact l).Nodup:=by
 unfold Lib.compact Lib.compactUpTo;refine List.pairwise_map.2 ?_;have hp:((List.range l.length).filter (Lib.keeps l.toArray)).Pairwise λi j=>i<j:=List.Pairwise.filter _ List.pairwise_lt_range
 refine List.Pairwise.imp_of_mem ?_ hp;intro i j hi hj hij he;obtain⟨hi1,hi2⟩:=List.mem_filter.1 hi;obtain⟨hj1,hj2⟩:=List.mem_filter.1 hj;have hi1:=List.mem_range.1 hi1;have hj1:=List.mem_range.1 hj1;simp only[Lib.keeps,decide_eq_true_eq]at hj2;have h2:l.toArray[j]!≠l.toArray[j-1]!:=by
  rcases hj2 with h2|h2
  ·omega
  ·exact h2
 rw[mO hj1,mO (i:=j-1) (by omega)]at h2;rw[mO hi1,mO hj1]at he;have ord:∀ i j (hij:i<j) (hj:j<l.length),¬ cmpL l[j] (l[i]'(by omega))<0:=λi j hij hj=>by
  have:=List.pairwise_iff_getElem.1 h i j (by omega) hj hij;simpa using this
 have a1:=ord (j-1) j (by omega) hj1;have a2:cmpL (l[j-1]'(by omega)) l[j]<0:=by
  by_cases h3:cmpL (l[j-1]'(by omega)) l[j]<0
  ·exact h3
  ·exact(h2 (sR a1 h3)).elim
 rcases oG i (j-1)with h3|h3
 ·have a3:=ord i (j-1) h3 (by omega);rw[he]at a3;exact a3 a2
 ·have:i=j-1:=by omega
  subst this;exact h2 he.symm
def SI(l:List (List Int)):Prop:=l.Pairwise λa b=>cmpL a b<0
theorem F6 {l:List (List Int)}(h:SI l):l.Nodup:=by
 refine List.Pairwise.imp (λ{a b} h e=>?_) h;rw[e,uC]at h;omega
theorem J4 {l l':List (List Int)}(h:SI l)(h':SI l')(hm:∀ x,x∈l↔x∈l'):l=l' :=
 List.Perm.eq_of_pairwise (le:=λa b=>cmpL a b<0) (λa b _ _ h1 h2=>(JH h1 h2).elim) h h' ((List.perm_ext_iff_of_nodup (F6 h) (F6 h')).2 hm)
theorem HB {l:List (List Int)}(h:l.Pairwise (λa b=>decide (cmpL b a<0)=false)):SI (Lib.compact l):=by
 have s:(Lib.compact l).Pairwise (λa b=>decide (cmpL b a<0)=false):=by
  unfold Lib.compact Lib.compactUpTo;refine List.pairwise_map.2 ?_;have hp:((List.range l.length).filter (Lib.keeps l.toArray)).Pairwise λi j=>i<j:=List.Pairwise.filter _ List.pairwise_lt_range
  refine List.Pairwise.imp_of_mem ?_ hp;intro i j hi hj hij;have hi1:=List.mem_range.1 (List.mem_filter.1 hi).1;have hj1:=List.mem_range.1 (List.mem_filter.1 hj).1;rw[mO hi1,mO hj1];exact List.pairwise_iff_getElem.1 h i j hi1 hj1 hij
 refine List.Pairwise.imp (λ{a b} h=>?_) (List.pairwise_and_iff.2 ⟨s,JG h⟩);obtain⟨h1,h2⟩:=h;simp only[decide_eq_false_iff_not]at h1
 by_cases h3:cmpL a b<0
 ·exact h3
 ·exact(h2 (sR h3 h1)).elim
def sP(x:List Int):List (List Int)->List (List Int)
 | []=>[x]
 | y::r=>if cmpL x y=0 then y::r else if cmpL x y<0 then x::y::r else y::sP x r
theorem wF(x z:List Int):∀ l,z∈sP x l↔z=x\/z∈l
 | []=>by simp[sP]
 | y::r=>by
  unfold sP
  by_cases h0:cmpL x y=0
  ·rw[if_pos h0,EY h0]; simp
  ·rw[if_neg h0]
   by_cases h1:cmpL x y<0
   ·rw[if_pos h1]; simp
   ·rw[if_neg h1,List.mem_cons,wF x z r,List.mem_cons];constructor
    ·rintro(h|h|h)
     ·exact .inr (.inl h)
     ·exact .inl h
     ·exact .inr (.inr h)
    ·rintro(h|h|h)
     ·exact .inr (.inl h)
     ·exact .inl h
     ·exact .inr (.inr h)
theorem EF(x:List Int):∀ {l},SI l->SI (sP x l)
 | [],_=>by simp[sP,SI]
 | y::r,h=>by
  unfold SI at h;obtain⟨hy,hr⟩:=List.pairwise_cons.1 h;unfold sP
  by_cases h0:cmpL x y=0
  ·rw[if_pos h0]; exact h
  ·rw[if_neg h0]
   by_cases h1:cmpL x y<0
   ·rw[if_pos h1];refine List.pairwise_cons.2 ⟨λz hz=>?_,h⟩;rcases List.mem_cons.1 hz with rfl|hz
    ·exact h1
    ·exact sT h1 (hy z hz)
   ·rw[if_neg h1];refine List.pairwise_cons.2 ⟨λz hz=>?_,EF x hr⟩;rcases(wF x z r).1 hz with rfl|hz
    ·exact JR h0 h1
    ·exact hy z hz
theorem tQ(x:List Int):∀ l,(sP x l).length<=l.length+1
 | []=>by simp[sP]
 | y::r=>by
  unfold sP;split
  ·simp
  ·split
   ·simp
   ·have:=tQ x r;simp only[List.length_cons]; omega
theorem KR {α:Type}(d:α)(pre:List α)(y:α)(r:List α):(pre++y::r).getD pre.length d=y:=by rw[oQ,List.getElem?_append_right (oM _),Nat.sub_self]; rfl
theorem mJ {x:List Int}(hx:x.length<=9223372036854775806):∀ (suf pre:List (List Int)) (N:Nat),pre.length+suf.length<=1000000->(∀ y∈suf,y.length<=9223372036854775806)->suf.length<N ->
  ∃ z,aO dR N (pre++suf,x,pre,(pre.length:Int),())=some z/\(iB z (λa4=>some (a4.1,())) λb5=>bif Nat.ble [b5.1].length 1048576 then bif Nat.ble b5.2.1.length 1048576 then some ((b5.2.1++[b5.1]),()) else none else none)=(some (pre++sP x suf,()):Option (aL [.list (.list (.int .i64))]))
 | [],pre,N,hl,_,hN=>by
  obtain⟨n,rfl⟩:∃ n,N=n+1:=⟨N-1,by omega⟩;refine⟨.inr (x,pre,()),?_,?_⟩
  ·rw[aV];simp only[dR,List.append_nil,aE,aN];rw[if_neg (by omega)]
  ·simp only[List.length_nil,Nat.add_zero]at hl;simp only[eG,bY,aN,List.length_cons,List.length_nil];rw[if_pos (by omega),if_pos (by omega)]; rfl
 | y::r,pre,N,hl,hs,hN=>by
  obtain⟨n,rfl⟩:∃ n,N=n+1:=⟨N-1,by omega⟩;simp only[List.length_cons]at hl hN;have hlen:(pre++y::r).length=pre.length+(r.length+1):=by simp
  have hst:dR (pre++y::r,x,pre,(pre.length:Int),())=if cmpL x y=0 then some (.inr (.inl (pre++y::r,()))) else if cmpL x y<0 then some (.inr (.inl (pre++x::y::r,()))) else some (.inl (pre++y::r,x,pre++[y],((pre.length+1:Nat):Int),())):=by
   simp only[dR,aE,bT,aG,bY,eV,aN,oN,KR];rw[if_pos (by omega),if_pos (by omega),AI x y hx (hs y (by simp)),aD];have hd:((pre++y::r).drop pre.length).take ((pre++y::r).length-pre.length)=y::r:=by
    rw[List.drop_left,hlen,Nat.add_sub_cancel_left];exact List.take_of_length_le (by simp)
   dsimp only
   by_cases h0:cmpL x y=0
   ·rw[if_pos h0,if_pos h0]
   ·rw[if_neg h0,if_neg h0]
    by_cases h1:cmpL x y<0
    ·rw[if_pos h1,if_pos h1,hd];simp only[List.length_cons,oH,List.length_nil];rw[if_pos (by omega),if_pos (by omega),if_pos (by omega),if_pos (by omega),if_pos (by omega),if_pos (by omega),if_pos (by omega),List.append_assoc]; rfl
    ·rw[if_neg h1,if_neg h1];simp only[List.length_cons,List.length_nil];rw[if_pos (by omega),if_pos (by omega),if_pos (by omega),aT _ (by omega)]
  rw[aV,hst];unfold sP
  by_cases h0:cmpL x y=0
  ·rw[if_pos h0,if_pos h0]; exact⟨_,rfl,rfl⟩
  ·rw[if_neg h0,if_neg h0]
   by_cases h1:cmpL x y<0
   ·rw[if_pos h1,if_pos h1]; exact⟨_,rfl,rfl⟩
   ·rw[if_neg h1,if_neg h1];have:=mJ hx r (pre++[y]) n (by simp only[oH,List.length_cons,List.length_nil]; omega) (λz hz=>hs z (by simp[hz])) (by omega);simp only[List.append_assoc,List.cons_append,List.nil_append,oH,List.length_cons,List.length_nil]at this;exact this
theorem pU {l:List (List Int)}{x:List Int}(hl:l.length<=1000000)(hs:∀ y∈l,y.length<=9223372036854775806)(hx:x.length<=9223372036854775806):fZ (l,x,())=some (sP x l,()):=by
 obtain⟨z,h1,h2⟩:=mJ hx l [] (2^64) (by simpa using hl) hs (by omega);unfold fZ; dsimp only;have h1':nC (l,x,[],0,())=some z:=h1;rw[h1',aD,h2]; rfl
theorem PX(x:Int) : -9223372036854775808<=aB .i64 x/\aB .i64 x<9223372036854775808:=by
 rw[BL,IntKind.wrap_i64];omega
theorem QQ(x:Int):aB .i64 (aB .i64 x)=aB .i64 x:=wrap64 (PX x).1 (PX x).2
def s8(f:Nat->Int) (n i:Nat):List Int:=(List.range i).map f++List.replicate (n-i) 0
theorem xE(f:Nat->Int){n i:Nat}(h:i<=n):(s8 f n i).length=n:=by simp only[s8,oH,List.length_map,List.length_range,List.length_replicate]; omega
theorem zY(f:Nat->Int)(n:Nat):s8 f n 0=List.replicate n 0:=by simp[s8]
theorem A6(f:Nat->Int)(n:Nat):s8 f n n=(List.range n).map f:=by simp[s8]
theorem B0(f:Nat->Int){n i:Nat}(h:i<n):(s8 f n i).set i (f i)=s8 f n (i+1):=by
 unfold s8;rw[List.set_append_right _ _ (by simp)];simp only[List.length_map,List.length_range,Nat.sub_self];obtain⟨k,hk⟩:∃ k,n-i=k+1:=⟨n-i-1,by omega⟩;rw[hk,List.replicate_succ,List.set_cons_zero,show n-(i+1)=k by omega,List.range_succ,List.map_append,List.append_assoc]; rfl
def zJ(a b:List Int):List Int:=(List.range a.length).map λi=>aB .i64 (a.getD i 0-b.getD i 0)
def IN(a b:List Int)(k:Int):List Int:=(List.range a.length).map λi=>aB .i64 (a.getD i 0+aB .i64 (k*b.getD i 0))
theorem CB(a b:List Int):(zJ a b).length=a.length:=by simp[zJ]
theorem uV {a b:List Int}(h1:a.length<=b.length)(h2:a.length<=1048576):nK (a,b,())=some (zJ a b,()):=by
 have hloop:nX (a,b,List.replicate a.length 0,0,())=some (zJ a b,()):=by
  rw[<- zY (λi=>aB .i64 (a.getD i 0-b.getD i 0))];refine aQ (N:=2^64) (step:=fT) (λi=>(a,b,s8 (λi=>aB .i64 (a.getD i 0-b.getD i 0)) a.length i,(i:Int),())) a.length _ (by omega) ?_ ?_
  ·intro i hi;simp only[fT,aE,aG,bE,aN,oN,xE _ (Nat.le_of_lt hi)];rw[if_pos (by omega),if_pos (by omega),if_pos (by omega),if_pos (by omega),if_pos (by omega),aT i (by omega)];rw[B0 (λi=>aB .i64 (a.getD i 0-b.getD i 0)) hi]
  ·simp only[fT,aE,aN];rw[if_neg (by omega),A6]; rfl
 unfold nK; dsimp only;simp only[aE,eV,aN,oN];rw[if_pos (by omega),if_pos (by omega),if_pos (by omega),hloop,aD]
theorem wQ {a b:List Int}(k:Int)(h1:a.length<=b.length)(h2:a.length<=1048576):rI (a,b,k,())=some (IN a b k,()):=by
 have hloop:qV (a,b,k,List.replicate a.length 0,(a.length:Int),0,())=some (IN a b k,()):=by
  rw[<- zY (λi=>aB .i64 (a.getD i 0+aB .i64 (k*b.getD i 0)))];refine aQ (N:=2^64) (step:=iX) (λi=>(a,b,k,s8 (λi=>aB .i64 (a.getD i 0+aB .i64 (k*b.getD i 0))) a.length i,(a.length:Int),(i:Int),())) a.length _ (by omega) ?_ ?_
  ·intro i hi;simp only[iX,aE,aG,bE,aN,oN,xE _ (Nat.le_of_lt hi)];rw[if_pos (by omega),if_pos (by omega),if_pos (by omega),if_pos (by omega),if_pos (by omega),aT i (by omega)];rw[B0 (λi=>aB .i64 (a.getD i 0+aB .i64 (k*b.getD i 0))) hi]
  ·simp only[iX,aE,aN];rw[if_neg (by omega),A6]; rfl
 unfold rI; dsimp only;simp only[aE,eV,aN,oN];rw[if_pos (by omega),if_pos (by omega),if_pos (by omega),hloop,aD]
def neg(r:List Int):List Int:=zJ (List.replicate r.length 0) r
theorem B7(r:List Int):(neg r).length=r.length:=by unfold neg; rw[CB,List.length_replicate]
theorem KN(r:List Int):IN (List.replicate r.length 0) r (-1)=neg r:=by
 unfold IN neg zJ;refine List.map_congr_left λi hi=>?_
 have hi:=List.mem_range.1 hi;rw[List.length_replicate]at hi;have h0:(List.replicate r.length (0:Int)).getD i 0=0:=by rw[oQ,List.getElem?_replicate_of_lt hi]; rfl
 rw[h0,Int.zero_add,QQ,show (-1:Int)*r.getD i 0=0-r.getD i 0 by omega]
def isZ(r:List Int):Bool:=decide (∀ i,i<r.length->r.getD i 0=0)
theorem GC(r:List Int):isZ r=((List.range r.length).find? λi=>decide (¬ r.getD i 0=0)).isNone:=by
 unfold isZ;cases h:(List.range r.length).find? λi=>decide (¬ r.getD i 0=0)with
 | none =>
  refine oT λi hi=>?_
  have:=List.find?_eq_none.1 h i (List.mem_range.2 hi);simpa using this
 | some j =>
  refine oF λhall=>?_
  have h1:=List.find?_some h;have h2:=List.mem_range.1 (List.mem_of_find?_eq_some h);have:=hall j h2;simp only[decide_eq_true_eq]at h1;exact h1 this
theorem vK {r:List Int}(h:r.length<=1048576):n8 (r,())=some (isZ r,()):=by
 have hloop:pT (r,0,())=some ((((List.range r.length).find? λi=>decide (¬ r.getD i 0=0)).map λi=>.inl (false,())).getD (.inr ())):=by
  rw[<- kT];refine j8 (N:=2^64) (step:=gH) (λi=>(r,(i:Int),())) (λi=>if ¬ r.getD i 0=0 then some (.inl (false,())) else none) r.length (.inr ()) (by omega) ?_ ?_
  ·intro i hi;simp only[gH,aE,bT,aG,eV,aN,oN];rw[if_pos (by omega),if_pos (by omega),aT i (by omega)]
   by_cases h:¬ r.getD i 0=0
   ·rw[if_pos h,if_pos h]
   ·rw[if_neg h,if_neg h]
  ·simp only[gH,aE,aN];rw[if_neg (by omega)]
 unfold n8; dsimp only;rw[hloop,aD,GC];cases (List.range r.length).find? λi=>decide (¬ r.getD i 0=0) <;> rfl
theorem yV(v:Int):tX (v,())=some (decide (¬ v=0),()):=by
 unfold tX; dsimp only;rw[bT,eV]
theorem BV {r:List Int}(h:r.length<=1048576):wB (r,())=some (isZ r,()):=by
 have hloop:iC (r,(),(r.length:Int),0,())=some ((((List.range r.length).find? λi=>decide (¬ r.getD i 0=0)).map λi:Nat=>.inl ((i:Int),())).getD (.inr ())):=by
  rw[<- kT (λi=>¬ r.getD i 0=0) (λi:Nat=>Sum.inl ((i:Int),()))];refine j8 (N:=2^64) (step:=cW) (λi=>(r,(),(r.length:Int),(i:Int),())) (λi=>if ¬ r.getD i 0=0 then some (.inl ((i:Int),())) else none) r.length (.inr ()) (by omega) ?_ ?_
  ·intro i hi;simp only[cW,aE,bT,aG,eV,aN,oN];rw[if_pos (by omega),if_pos (by omega),yV,aD,aT i (by omega),aN]
   by_cases h:¬ r.getD i 0=0
   ·rw[if_pos h,if_pos h]
   ·rw[if_neg h,if_neg h]
  ·simp only[cW,aE,aN];rw[if_neg (by omega)]
 have h70:fM (r,(),())=some ((((List.range r.length).find? λi=>decide (¬ r.getD i 0=0)).map λi:Nat=>(i:Int)).getD (-1),()):=by
  unfold fM; dsimp only;rw[hloop,aD];cases (List.range r.length).find? λi=>decide (¬ r.getD i 0=0) <;> rfl
 unfold wB; dsimp only;unfold iZ; dsimp only;rw[h70,aD,GC];cases (List.range r.length).find? λi=>decide (¬ r.getD i 0=0)with
 | none=>rfl
 | some i =>
  show (aC (some (!(ltI ((i:Nat):Int) 0),())) λy1=>bif y1.1 then some (false,()) else some (true,()))=_;rw[aD,xZ]; rfl
def fJ:List (List Int)->List (List Int)->List (List Int)
 | out,[]=>out
 | out,r::l=>fJ (if isZ r then out else sP (neg r) (sP r out)) l
def sV(l:List (List Int)):List (List Int):=l.flatMap λr=>if isZ r then [] else [r,neg r]
theorem FV:∀ (l:List (List Int)) {out},SI out->SI (fJ out l)
 | [],_,h=>h
 | r::l,out,h=>by
  unfold fJ;refine FV l ?_;split
  ·exact h
  ·exact EF _ (EF _ h)
theorem yW(z:List Int):∀ (l out:List (List Int)),z∈fJ out l↔z∈out\/z∈sV l
 | [],out=>by simp[fJ,sV]
 | r::l,out=>by
  unfold fJ;rw[yW z l];simp only[sV,List.flatMap_cons,List.mem_append]
  by_cases h:isZ r
  ·rw[if_pos h,if_pos h]; simp
  ·rw[if_neg h,if_neg h,wF,wF];simp only[List.mem_cons,List.not_mem_nil,or_false];constructor
   ·rintro((h|h|h)|h)
    ·exact .inr (.inl (.inr h))
    ·exact .inr (.inl (.inl h))
    ·exact .inl h
    ·exact .inr (.inr h)
   ·rintro(h|(h|h)|h)
    ·exact .inl (.inr (.inr h))
    ·exact .inl (.inr (.inl h))
    ·exact .inl (.inl h)
    ·exact .inr h
theorem uU:∀ (l out:List (List Int)),(fJ out l).length<=out.length+2*l.length
 | [],out=>by simp[fJ]
 | r::l,out=>by
  unfold fJ;have:=uU l (if isZ r then out else sP (neg r) (sP r out));have h2:(if isZ r then out else sP (neg r) (sP r out)).length<=out.length+2:=by
   split
   ·omega
   ·have a:=tQ (neg r) (sP r out);have b:=tQ r out;omega
  simp only[List.length_cons]; omega
theorem GX {l:List (List Int)}(out:List (List Int)){i:Nat}(h:i<l.length):fJ out (l.take (i+1))=(if isZ (l.getD i []) then fJ out (l.take i) else sP (neg (l.getD i [])) (sP (l.getD i []) (fJ out (l.take i)))):=by
 have hs:∀ (a b:List (List Int)) (out:List (List Int)),fJ out (a++b)=fJ (fJ out a) b:=by
  intro a
  induction a with
  | nil=>intro b out; rfl
  | cons r a ih=>intro b out; simp only[List.cons_append,fJ]; exact ih b _
 rw[List.take_add_one,hs,List.getElem?_eq_getElem h,show l.getD i []=l[i]by rw[oQ,List.getElem?_eq_getElem h]; rfl];rfl
def Rws(n:Nat) (l:List (List Int)):Prop:=∀ y∈l,y.length<=n
theorem wO {n:Nat}{l:List (List Int)}(h:Rws n l):Rws n (sV l):=by
 intro y hy;obtain⟨r,hr,hy⟩:=List.mem_flatMap.1 hy;split at hy
 ·cases hy
 ·rcases List.mem_cons.1 hy with rfl|hy
  ·exact h _ hr
  ·rw[List.mem_singleton.1 hy,B7]; exact h _ hr
theorem CN {n:Nat}{l out:List (List Int)}(h:Rws n l)(ho:Rws n out):Rws n (fJ out l):=by
 intro y hy;rcases(yW y l out).1 hy with hy|hy
 ·exact ho y hy
 ·exact wO h y hy
theorem K8 {n:Nat}{l:List (List Int)}(h:Rws n l)(i:Nat):Rws n (l.take i):=λy hy=>h y (List.mem_of_mem_take hy)
theorem nW {l:List (List Int)}(h1:l.length<=1000)(h2:Rws 1000 l):iV (l,())=some (fJ [] l,()):=by
 have hloop:mS (l,[],0,())=some (fJ [] l,()):=by
  refine aQ (N:=2^64) (step:=fA) (λi=>(l,fJ [] (l.take i),(i:Int),())) l.length (fJ [] l,()) (by omega) ?_ ?_
  ·intro i hi;have hr:=h2 _ (rF hi);have hc:=uU (l.take i) [];have hct:=CN (K8 h2 i) (n:=1000) (out:=[]) (λy hy=>by cases hy);have hti:(l.take i).length<=1000:=by rw[List.length_take]; omega
   simp only[List.length_nil,Nat.zero_add]at hc;rw[GX [] hi];simp only[fA,aE,aG,eV,bY,aN,oN];rw[if_pos (by omega),if_pos (by omega),vK (by omega),aD,aT i (by omega)];cases hz:isZ (l.getD i [])with
   | true=>simp only[oC,if_true]
   | false =>
    simp only[oD];have e1:=pU (l:=fJ [] (l.take i)) (x:=l.getD i []) (by omega) (λy hy=>oR (hct y hy) (by omega)) (by omega);have e2:=uV (a:=List.replicate (l.getD i []).length 0) (b:=l.getD i []) (by rw[List.length_replicate]; omega) (by rw[List.length_replicate]; omega);have e3:=pU (l:=sP (l.getD i []) (fJ [] (l.take i))) (x:=neg (l.getD i [])) (by have:=tQ (l.getD i []) (fJ [] (l.take i)); omega) (λy hy=>by
     rcases(wF _ y _).1 hy with rfl|hy
     ·omega
     ·exact oR (hct y hy) (by omega)) (by rw[B7]; omega)
    rw[if_pos (by omega),if_pos (by omega),e1,aD,if_pos (by omega),if_pos (by omega),if_pos (by omega),if_pos (by omega),if_pos (by omega),e2,aD];change (aC (fZ (sP (l.getD i []) (fJ [] (l.take i)),neg (l.getD i []),())) _)=_;rw[e3,aD]; rfl
  ·simp only[fA,aE,aN];rw[if_neg (by omega),List.take_length]
 unfold iV; dsimp only;rw[hloop,aD]
theorem D5(v:Int):wM (v,())=some (decide (-1000000000<=v/\v<=1000000000),()):=by
 unfold wM; dsimp only;simp only[aE,eV,aN]
 by_cases h:¬ v < -1000000000
 ·rw[if_pos h]
  by_cases h2:v<=1000000000
  ·rw[oT (show -1000000000<=v/\v<=1000000000 by omega),oT (show ¬ 1000000000<v by omega)]
  ·rw[oF (show ¬ (-1000000000<=v/\v<=1000000000)by omega),oF (show ¬ ¬ 1000000000<v by omega)]
 ·rw[if_neg h,oF (by omega)]
def okE(v:Int):Prop:=-1000000000<=v/\v<=1000000000
instance (v:Int):Decidable (okE v):=by unfold okE; infer_instance
theorem AK(v:Int):sM (v,())=some (decide (¬ okE v),()):=by
 unfold sM; dsimp only;rw[D5,aD]
 by_cases h:okE v
 ·rw[oF (not_not_intro h)];unfold okE at h;rw[oT h]; rfl
 ·rw[oT h];unfold okE at h;rw[oF h]; rfl
def rc(r:List Int):Int:=if 64<r.length then 4 else if (∀ i,i<r.length->okE (r.getD i 0)) then 0 else 4
theorem xF {r:List Int}(h:r.length<=1048576):mI (r,())=some (rc r,()):=by
 have hloop:dY (r,(),(r.length:Int),0,())=some ((((List.range r.length).find? λi=>decide (¬ okE (r.getD i 0))).map λi:Nat=>.inl ((i:Int),())).getD (.inr ())):=by
  rw[<- kT (λi=>¬ okE (r.getD i 0)) (λi:Nat=>Sum.inl ((i:Int),()))];refine j8 (N:=2^64) (step:=bA) (λi=>(r,(),(r.length:Int),(i:Int),())) (λi=>if ¬ okE (r.getD i 0) then some (.inl ((i:Int),())) else none) r.length (.inr ()) (by omega) ?_ ?_
  ·intro i hi;simp only[bA,aE,bT,aG,eV,aN,oN];rw[if_pos (by omega),if_pos (by omega),AK,aD,aT i (by omega),aN]
   by_cases h:¬ okE (r.getD i 0)
   ·rw[if_pos h,if_pos h]
   ·rw[if_neg h,if_neg h]
  ·simp only[bA,aE,aN];rw[if_neg (by omega)]
 have h70:dO (r,(),())=some ((((List.range r.length).find? λi=>decide (¬ okE (r.getD i 0))).map λi:Nat=>(i:Int)).getD (-1),()):=by
  unfold dO; dsimp only;rw[hloop,aD];cases (List.range r.length).find? λi=>decide (¬ okE (r.getD i 0)) <;> rfl
 unfold mI rc; dsimp only;simp only[aE,aN]
 by_cases h64:64<r.length
 ·rw[if_pos h64,if_pos (by omega)]
 ·rw[if_neg h64,if_neg (by omega)];unfold eT; dsimp only;rw[h70,aD];cases hf:(List.range r.length).find? λi=>decide (¬ okE (r.getD i 0))with
  | none =>
   rw[if_pos (λi hi=>by
    have:=List.find?_eq_none.1 hf i (List.mem_range.2 hi);simpa using this)]
   rfl
  | some i =>
   rw[if_neg (λhall=>by
    have h1:=List.find?_some hf;have h2:=List.mem_range.1 (List.mem_of_find?_eq_some hf);simp only[decide_eq_true_eq]at h1;exact h1 (hall i h2))]
   show (aC (some (!(ltI ((i:Nat):Int) 0),())) λy1=>bif y1.1 then some (4,()) else some (0,()))=_;rw[aD,xZ]; rfl
def sZ(n:Int) (l:List (List Int)) (i:Nat):Option Int:=if ¬ rc (l.getD i [])=0 then some (rc (l.getD i [])) else if ¬ ((l.getD i []).length:Int)=n then some 5 else none
def vX(n:Int) (l:List (List Int)):Int:=if n<0\/12<n then 3 else ((List.range l.length).findSome? (sZ n l)).getD 0
theorem zF {n:Int}{l:List (List Int)}(h1:l.length<=1048576)(h2:Rws 1048576 l):lH (l,n,())=some (((List.range l.length).findSome? (sZ n l)).getD 0,()):=by
 have hloop:o7 (n,l,(l.length:Int),0,())=some (((List.range l.length).findSome? λi=>(sZ n l i).map λe=>.inl (e,())).getD (.inr ())):=by
  refine j8 (N:=2^64) (step:=dL) (λi=>(n,l,(l.length:Int),(i:Int),())) (λi=>(sZ n l i).map λe=>.inl (e,())) l.length (.inr ()) (by omega) ?_ ?_
  ·intro i hi;simp only[dL,aE,bT,aG,eV,aN,oN];rw[if_pos (by omega),if_pos (by omega),xF (h2 _ (rF hi)),aD,aT i (by omega)];unfold sZ
   by_cases h:¬ rc (l.getD i [])=0
   ·rw[if_pos h,if_pos h]; rfl
   ·rw[if_neg h,if_neg h]
    by_cases h3:¬ ((l.getD i []).length:Int)=n
    ·rw[if_pos h3,if_pos h3]; rfl
    ·rw[if_neg h3,if_neg h3]; rfl
  ·simp only[dL,aE,aN];rw[if_neg (by omega)]
 unfold lH; dsimp only;rw[hloop,aD,sN];cases (List.range l.length).findSome? (sZ n l) <;> rfl
theorem wV {n:Int}{l:List (List Int)}(h1:l.length<=1048576)(h2:Rws 1048576 l):rE (n,l,())=some (vX n l,()):=by
 unfold rE vX; dsimp only;simp only[aE,aN]
 by_cases h:n<0
 ·rw[if_pos h,if_pos (.inl h)]
 ·rw[if_neg h]
  by_cases h3:12<n
  ·rw[if_pos h3,if_pos (.inr h3)]
  ·rw[if_neg h3,if_neg (by omega),zF h1 h2,aD]
theorem uX {n:Int}{l:List (List Int)}(h1:l.length<=1048576)(h2:Rws 1048576 l):nI (n,l,())=some (vX n l,()):=by
 have hloop:nR (n,l,0,())=some (((List.range l.length).findSome? λi=>(sZ n l i).map λe=>.inl (e,())).getD (.inr ())):=by
  refine j8 (N:=2^64) (step:=fS) (λi=>(n,l,(i:Int),())) (λi=>(sZ n l i).map λe=>.inl (e,())) l.length (.inr ()) (by omega) ?_ ?_
  ·intro i hi;simp only[fS,aE,bT,aG,eV,aN,oN];rw[if_pos (by omega),if_pos (by omega),xF (h2 _ (rF hi)),aD,aT i (by omega)];unfold sZ
   by_cases h:¬ rc (l.getD i [])=0
   ·rw[if_pos h,if_pos h]; rfl
   ·rw[if_neg h,if_neg h,if_pos (by omega)]
    by_cases h3:¬ ((l.getD i []).length:Int)=n
    ·rw[if_pos h3,if_pos h3]; rfl
    ·rw[if_neg h3,if_neg h3]; rfl
  ·simp only[fS,aE,aN];rw[if_neg (by omega)]
 unfold nI vX; dsimp only;simp only[aE,aN]
 by_cases h:n<0
 ·rw[if_pos h,if_pos (.inl h)]
 ·rw[if_neg h]
  by_cases h3:12<n
  ·rw[if_pos h3,if_pos (.inr h3)]
  ·rw[if_neg h3,if_neg (by omega),hloop,aD,sN];cases (List.range l.length).findSome? (sZ n l) <;> rfl
theorem C1 {n:Int} {l:List (List Int)} (h:vX n l=0):0<=n/\n<=12/\∀ y∈l,rc y=0/\(y.length:Int)=n:=by
 unfold vX at h;split at h
 ·cases h
 ·refine⟨by omega,by omega,λy hy=>?_⟩;obtain⟨i,hi,rfl⟩:=List.getElem_of_mem hy;have hg:l.getD i []=l[i]:=by rw[oQ,List.getElem?_eq_getElem hi]; rfl
  cases hf:(List.range l.length).findSome? (sZ n l)with
  | none =>
   have:=List.findSome?_eq_none_iff.1 hf i (List.mem_range.2 hi);unfold sZ at this;rw[hg]at this;split at this
   ·cases this
   ·rename_i h1;split at this
    ·cases this
    ·rename_i h2;exact⟨Decidable.not_not.1 h1,Decidable.not_not.1 h2⟩
  | some e =>
   rw[hf]at h;obtain⟨j,-,hj⟩:=List.exists_of_findSome?_eq_some hf;change e=0 at h;subst h;unfold sZ at hj;split at hj
   ·rename_i h1;exact(h1 (oB hj)).elim
   ·split at hj
    ·cases hj
    ·cases hj
set_option maxHeartbeats 4000000
abbrev ltC:List Int->List Int->Bool:=λx y=>decide (cmpL x y<0)
theorem JV {l:List (List Int)}(hs:∀ x∈l,x.length<=1048576)(h1:l.length<4611686018427387904):MD (t:=.int .i64) D64 ltC l=some (AU ltC l):=by
 cases l with
 | nil=>rfl
 | cons x r =>
  show HO (t:=.int .i64) D64 ltC (x::r)=_;unfold HO;have:(Nat.blt 0 (x::r).length&&Nat.blt (x::r).length 4611686018427387904&&(x::r).all D64)=true:=by
   rw[bE,bE,oT (show 0<(x::r).length by simp),oT h1,Bool.true_and,Bool.true_and,List.all_eq_true];exact λy hy=>Nat.ble_eq_true_of_le (hs y hy)
  have h2:(bif Nat.blt 0 (x::r).length&&Nat.blt (x::r).length 4611686018427387904&&(x::r).all D64 then some (AU ltC (x::r)) else none)=some (AU ltC (x::r)):=by rw[this]; rfl
  exact h2
theorem KB {l:List (List Int)}(hs:ShQ l):ShQ (AU ltC l) :=
 ⟨by rw[GG]; exact hs.1,λx hx=>hs.2 x ((uB l).mem_iff.1 hx)⟩
theorem ML {l:List (List Int)} (h:Rws 1000 l):Lib.compact (AU ltC (sV l))=fJ [] l:=by
 refine J4 (HB (zO loL _ λx hx=>Nat.ble_eq_true_of_le (oR (wO h x hx) (by omega)))) (FV l (by simp[SI])) λx=>?_
 rw[NW,(uB _).mem_iff,yW]; simp
theorem uN:∀ l:List (List Int),(sV l).length<=2*l.length
 | []=>by simp[sV]
 | r::l=>by
  have:=uN l;unfold sV at this ⊢;rw[List.flatMap_cons,oH,List.length_cons];split
  ·simp only[List.length_nil]; omega
  ·simp only[List.length_cons,List.length_nil]; omega
theorem HE {l:List (List Int)}{i:Nat}(h:i<l.length):sV (l.take (i+1))=sV (l.take i)++(if isZ (l.getD i []) then [] else [l.getD i [],neg (l.getD i [])]):=by
 unfold sV;rw[List.take_add_one,List.flatMap_append,List.getElem?_eq_getElem h,show l.getD i []=l[i]by rw[oQ,List.getElem?_eq_getElem h]; rfl];simp
theorem EX {r:List Int}(h:isZ r=false):0<r.length:=by
 rcases Nat.eq_zero_or_pos r.length with h0|h0
 ·unfold isZ at h;rw[oT (λi hi=>by omega)]at h;cases h
 ·exact h0
theorem r8 {r:List Int}(h:0<r.length)(h2:r.length<=1048576):jG (r,())=some (r,()):=by
 unfold jG; dsimp only;rw[bE,bY,oT h,oT h2]; rfl
theorem uK {n:Int}{l:List (List Int)}(h1:l.length<=1000)(h0:0<=n/\n<=12)(h2:∀ y∈l,(y.length:Int)=n):qN (n,[],l,(l.length:Int),0,())=some (sV l,()):=by
 refine aQ (N:=2^64) (step:=gY) (λi=>(n,sV (l.take i),l,(l.length:Int),(i:Int),())) l.length (sV l,()) (by omega) ?_ ?_
 ·intro i hi;have hr:=h2 _ (rF hi);have hc:=uN (l.take i);have hti:(l.take i).length<=1000:=by rw[List.length_take]; omega
  rw[HE hi];simp only[gY,aE,aG,eV,bY,aN,oN];rw[if_pos (by omega),if_pos (by omega),BV (by omega),aD,aT i (by omega)];cases hz:isZ (l.getD i [])with
  | true=>simp only[oC,if_true,List.append_nil]
  | false =>
   simp only[oD];have hn:n.toNat=(l.getD i []).length:=by omega
   have e2:=wQ (a:=List.replicate (l.getD i []).length 0) (b:=l.getD i []) (-1) (by rw[List.length_replicate]; omega) (by rw[List.length_replicate]; omega);rw[r8 (EX hz) (by omega),aD,if_pos (by omega),if_pos (by omega),if_pos (by omega),hn,e2,aD,KN];simp only[List.length_cons,List.length_nil];rw[if_pos (by omega),if_pos (by omega)]; rfl
 ·simp only[gY,aE,aN];rw[if_neg (by omega),List.take_length]
theorem vW {n:Int} {l:List (List Int)} (h1:l.length<=1000) (h2:Rws 1000 l):jS (n,l,())=some (if ¬ vX n l=0 then ([],vX n l,()) else if 60<(fJ [] l).length then ([],4,()) else (fJ [] l,0,())):=by
 unfold jS; dsimp only;rw[wV (by omega) (λy hy=>oR (h2 y hy) (by omega)),aD];simp only[bT,eV,aN]
 by_cases he:vX n l=0
 ·obtain⟨g1,g2,g3⟩:=C1 he;have hfl:=uN l;have hsh:ShQ (sV l):=⟨by omega,λy hy=>oR (wO h2 y hy) (by omega)⟩;rw[if_neg (not_not_intro he),if_neg (not_not_intro he),uK h1 ⟨g1,g2⟩ (λy hy=>(g3 y hy).2),aD,JV (λy hy=>oR (wO h2 y hy) (by omega)) (Nat.lt_of_le_of_lt hfl (by omega)),aD,PB (KB hsh),aD,ML h2];simp only[aE,aN]
  by_cases h60:60<(fJ [] l).length
  ·rw[if_pos h60,if_pos (by omega)]
  ·rw[if_neg h60,if_neg (by omega)]
 ·rw[if_pos he,if_pos he]
def tU(n:Int) (l:List (List Int)):Int:=if ¬ vX n l=0 then vX n l else if 60<(fJ [] l).length then 4 else 0
theorem uF {n:Int}{l:List (List Int)}(h1:l.length<=1000)(h2:Rws 1000 l):mB (n,l,())=some (tU n l,()):=by
 unfold mB tU; dsimp only;rw[uX (by omega) (λy hy=>oR (h2 y hy) (by omega)),aD];simp only[bT,eV,aN]
 by_cases he:¬ vX n l=0
 ·rw[if_pos he,if_pos he]
 ·rw[if_neg he,if_neg he,nW h1 h2,aD];simp only[aE,aN]
  by_cases h60:60<(fJ [] l).length
  ·rw[if_pos h60,if_pos (by omega)]
  ·rw[if_neg h60,if_neg (by omega)]
theorem qG {n:Int}{l:List (List Int)}(h1:l.length<=1000)(h2:Rws 1000 l):jS (n,l,())=some (if tU n l=0 then (fJ [] l,0,()) else ([],tU n l,())):=by
 rw[vW h1 h2];unfold tU
 by_cases he:¬ vX n l=0
 ·rw[if_pos he,if_pos he,if_neg he]
 ·rw[if_neg he,if_neg he]
  by_cases h60:60<(fJ [] l).length
  ·rw[if_pos h60,if_pos h60]; rfl
  ·rw[if_neg h60,if_neg h60]; rfl
theorem vI(a b:List Int) (ha:a.length<=9223372036854775806):o6 (a,b,())=some (decide (a=b),()):=by
 unfold o6; dsimp only;simp only[bT,eV,aN]
 by_cases hl:a.length=b.length
 ·rw[if_neg (by omega)];have hloop:pG (a,b,0,())=some ((((List.range a.length).find? λi=>decide (¬ a.getD i 0=b.getD i 0)).map λi:Nat=>.inl (false,())).getD (.inr ())):=by
   rw[<- kT (λi=>¬ a.getD i 0=b.getD i 0) (λi:Nat=>Sum.inl (false,()))];refine j8 (N:=2^64) (step:=gI) (λi=>(a,b,(i:Int),())) (λi=>if ¬ a.getD i 0=b.getD i 0 then some (.inl (false,())) else none) a.length (.inr ()) (by omega) ?_ ?_
   ·intro i hi;simp only[gI,aE,bT,aG,aN,eV,oN];rw[if_pos (by omega),if_pos (by omega),if_pos (by omega),aT i (by omega)]
    by_cases h:¬ a.getD i 0=b.getD i 0
    ·rw[if_pos h,if_pos h]
    ·rw[if_neg h,if_neg h]
   ·simp only[gI,aE,aN];rw[if_neg (by omega)]
  have h61:=lB a b ha;rw[hloop,aD];cases hf:(List.range a.length).find? λi=>decide (¬ a.getD i 0=b.getD i 0)with
  | none =>
   have:a=b:=by
    apply List.ext_getElem hl;intro i g1 g2;have:=List.find?_eq_none.1 hf i (List.mem_range.2 g1);simp only[decide_eq_true_eq,Decidable.not_not]at this;rw[oQ,oQ,List.getElem?_eq_getElem g1,List.getElem?_eq_getElem g2]at this;exact this
   rw[oT this]; rfl
  | some j =>
   have h1:=List.find?_some hf;simp only[decide_eq_true_eq]at h1;rw[oF (λh=>h1 (by rw[h]))]; rfl
 ·rw[if_pos (by omega),oF (λh=>hl (by rw[h]))]
theorem vJ(a b:List (List Int)) (ha:a.length<=9223372036854775806) (hs:Rws 9223372036854775806 a):nZ (a,b,())=some (decide (a=b),()):=by
 unfold nZ; dsimp only;simp only[bT,eV,aN]
 by_cases hl:a.length=b.length
 ·rw[if_neg (by omega)];have hloop:pL (a,b,0,())=some ((((List.range a.length).find? λi=>decide (¬ a.getD i []=b.getD i [])).map λi:Nat=>.inl (false,())).getD (.inr ())):=by
   rw[<- kT (λi=>¬ a.getD i []=b.getD i []) (λi:Nat=>Sum.inl (false,()))];refine j8 (N:=2^64) (step:=gE) (λi=>(a,b,(i:Int),())) (λi=>if ¬ a.getD i []=b.getD i [] then some (.inl (false,())) else none) a.length (.inr ()) (by omega) ?_ ?_
   ·intro i hi;simp only[gE,aE,bT,aG,aN,eV,oN];rw[if_pos (by omega),if_pos (by omega),if_pos (by omega),vI _ _ (hs _ (rF hi)),aD,aT i (by omega),aN]
    by_cases h:a.getD i []=b.getD i []
    ·rw[if_pos h,if_neg (not_not_intro h)]
    ·rw[if_neg h,if_pos h]
   ·simp only[gE,aE,aN];rw[if_neg (by omega)]
  rw[hloop,aD];cases hf:(List.range a.length).find? λi=>decide (¬ a.getD i []=b.getD i [])with
  | none =>
   have:a=b:=by
    apply List.ext_getElem hl;intro i g1 g2;have:=List.find?_eq_none.1 hf i (List.mem_range.2 g1);simp only[decide_eq_true_eq,Decidable.not_not]at this;rw[oQ,oQ,List.getElem?_eq_getElem g1,List.getElem?_eq_getElem g2]at this;exact this
   rw[oT this]; rfl
  | some j =>
   have h1:=List.find?_some hf;simp only[decide_eq_true_eq]at h1;rw[oF (λh=>h1 (by rw[h]))]; rfl
 ·rw[if_pos (by omega),oF (λh=>hl (by rw[h]))]
theorem wE {l:List (List Int)} (h:l.length<=9223372036854775807):∃ b,qC (l,())=some (b,())/\(b=true->l.length<=40/\Rws 14 l):=by
 have hloop:qR (l,0,())=some ((((List.range l.length).find? λi=>decide (14<(l.getD i []).length)).map λi:Nat=>.inl (false,())).getD (.inr (l,()))):=by
  rw[<- kT (λi=>14<(l.getD i []).length) (λi:Nat=>Sum.inl (false,()))];refine j8 (N:=2^64) (step:=gX) (λi=>(l,(i:Int),())) (λi=>if 14<(l.getD i []).length then some (.inl (false,())) else none) l.length (.inr (l,())) (by omega) ?_ ?_
  ·intro i hi;simp only[gX,aE,aG,aN,oN];rw[if_pos (by omega),if_pos (by omega),aT i (by omega)]
   by_cases h:14<(l.getD i []).length
   ·rw[if_pos h,if_pos (by omega)]
   ·rw[if_neg h,if_neg (by omega)]
  ·simp only[gX,aE,aN];rw[if_neg (by omega)]
 unfold qC; dsimp only;rw[hloop,aD];cases hf:(List.range l.length).find? λi=>decide (14<(l.getD i []).length)with
 | some j=>exact⟨false,rfl,λh=>by cases h⟩
 | none =>
  refine⟨!(ltI 40 (l.length:Int)),rfl,λhb=>⟨?_,?_⟩⟩
  ·rw[aE,eV,decide_eq_true_eq]at hb; omega
  ·intro y hy;obtain⟨i,hi,rfl⟩:=List.getElem_of_mem hy;have:=List.find?_eq_none.1 hf i (List.mem_range.2 hi);rw[oQ,List.getElem?_eq_getElem hi]at this;simp only[decide_eq_true_eq,Option.getD_some]at this;omega
end Go.PM
namespace Go.PM
open Go Go.RowKit Go.Proofs Tryz
set_option maxHeartbeats 4000000
abbrev kI:List (Nat×Kd):=[(2,.box 33 TyG),(9,.own 39 TyD),(30,.list TyD),(31,.int .i64),(32,.int .i64)]
abbrev pJ:List (Ex×List (Nat×Kd)):=[(.ret,[(4,.list TyD),(5,.int .i64)]),(.exit 0,[(2,.box 33 TyG),(9,.own 39 TyD)])]
def bX(x:Shape.den kI):Option (Shape.den kI⊕fR pJ):=match x with
 | (v2,v9,v30,v31,v32,()) =>
  bif ltI v32 v31 then
   bif aF v32 v30.length then aC (fF (v2,(v30.getD v32.toNat []),())) λy4 =>
   bif !(eqI y4.2.1 0) then
    some (.inr (.inl ([],y4.2.1,())))
   else bif Nat.ble [y4.1].length 1048576 then bif Nat.ble v9.length 1048576 then some (.inl (v2,(v9++[y4.1]),v30,v31,(aB .i64 (v32+1)),())) else none else none else none
  else some (.inr (.inr ((v2,v9,()))))
def jH(x:Shape.den kI):Option (fR pJ):=aO bX (2^64) x
def dI(x:aL [.agg TyG,.list TyD]):Option (aL [.list TyD,.int .i64]):=match x with
 | (v0,v1,()) =>
  aC (kZ (v0,())) λy1 =>
  bif !(eqI y1.1 0) then
   some ([],y1.1,())
  else aC (jS ((v0.1.length:Int),v1,())) λy2 =>
  bif !(eqI y2.2.1 0) then
   some ([],y2.2.1,())
  else aC (jH (v0,[],v1,(v1.length:Int),0,())) λz5 =>
  iB z5 (λa6=>some (a6.1,a6.2.1,())) λb7 =>
  aC (jS ((b7.1.2.2.length:Int),b7.2.1,())) λy8 =>
  some (y8.1,y8.2.1,())
abbrev aL7:Ent:=⟨10,_,_,dI⟩
theorem aI8:Ent.OK Tryz.prog aL7:=oU (RU (oV ZI (oV aCS (oV aB9 oW)))) func10 9 (lp:=jH) rfl (by kernel_rfl) (by rintro⟨v2,v9,v30,v31,v32,⟨⟩⟩; kernel_rfl) (by rintro⟨v0,v1,⟨⟩⟩; kernel_rfl)
abbrev eE:List (Nat×Kd):=[(1,.list TyD),(5,.box 33 TyG),(6,.list TyD),(7,.int .i64),(8,.int .i64),(9,.own 39 TyD),(10,.int .i64)]
abbrev iR:List (Ex×List (Nat×Kd)):=[(.exit 0,[(6,.list TyD),(7,.int .i64),(8,.int .i64),(9,.own 39 TyD)])]
def aH(x:Shape.den eE):Option (Shape.den eE⊕fR iR):=match x with
 | (v1,v5,v6,v7,v8,v9,v10,()) =>
  bif ltI v10 (v1.length:Int) then
   bif eqI v8 0 then
    bif aF v10 v1.length then aC (fF (v5,(v1.getD v10.toNat []),())) λy9 =>
    bif Nat.ble [y9.1].length 1048576 then bif Nat.ble v9.length 1048576 then some (.inl (v1,v5,v6,v7,y9.2.1,(v9++[y9.1]),(aB .i64 (v10+1)),())) else none else none else none
   else some (.inr ((v6,v7,v8,v9,())))
  else some (.inr ((v6,v7,v8,v9,())))
def bZ(x:Shape.den eE):Option (fR iR):=aO aH (2^64) x
def bL(x:aL [.agg TyP,.list TyD]):Option (aL [.bool]):=match x with
 | (v0,v1,()) =>
  aC (fD (())) λy1 =>
  bif y1.1 then
   aC (o9 (v0,())) λy2 =>
   bif y2.1 then
    bif ltI 6 (v1.length:Int) then
     aC (fD (())) λy3 =>
     some (y3.1,())
    else aC (qC (v1,())) λy4 =>
    bif y4.1 then
     aC (pB (v0,())) λy5 =>
     aC (dI (y5.1,v1,())) λy6 =>
     aC (mB ((y5.1.1.length:Int),v1,())) λy7 =>
     aC (bZ (v1,y5.1,y6.1,y6.2.1,y7.1,[],0,())) λz10 =>
     bif !(eqI z10.2.2.1 0) then
      bif eqI (z10.1.length:Int) 0 then
       some (eqI z10.2.1 z10.2.2.1,())
      else some (false,())
     else aC (iV (z10.2.2.2.1,())) λy11 =>
     aC (nZ (z10.1,y11.1,())) λy12 =>
     bif y12.1 then
      some (eqI z10.2.1 0,())
     else some (false,())
    else aC (fD (())) λy13 =>
    some (y13.1,())
   else aC (fD (())) λy14 =>
   some (y14.1,())
  else aC (fD (())) λy15 =>
  some (y15.1,())
theorem aCA:RB Tryz.prog 3 _ _ bL:=oU (RU (oV aI8 (oV aLR (oV aLN (oV aJR (oV aA0 (oV aMP (oV aKG (oV aCO (oV aB9 oW)))))))))) func3 8 (lp:=bZ) rfl (by kernel_rfl) (by rintro⟨v1,v5,v6,v7,v8,v9,v10,⟨⟩⟩; kernel_rfl) (by rintro⟨v0,v1,⟨⟩⟩; kernel_rfl)
end Go.PM
namespace Go.PM
open Go Go.RowKit Go.Proofs Go.Lz
theorem OT(p:Int×List (Int×Int×Int×Int)×Bool):o9 (p,())=some (decide (p.2.1.length<=3),()):=by
 obtain⟨a,b,c⟩:=p;have:(!(ltI 3 (b.length:Int)))=decide (b.length<=3):=by
  rw[aE]
  by_cases h:b.length<=3
  ·rw[oT h,oF (by omega)]; rfl
  ·rw[oF h,oT (by omega)]; rfl
 simp only[o9,this]
theorem NS {x:List Int}(h:rc x=0):x.length<=64/\∀ a∈x,a.natAbs<=1000000000:=by
 unfold rc at h;split at h
 ·cases h
 ·split at h
  ·rename_i h1 h2;refine⟨by omega,λa ha=>?_⟩;obtain⟨i,hi,rfl⟩:=List.getElem_of_mem ha;have:=h2 i hi;have e:x.getD i 0=x[i]:=by simp[List.getD,hi]
   rw[e]at this;have h3:=this.1;have h4:=this.2;omega
  ·cases h
theorem QO {x:List Int}(h1:x.length<=64)(h2:∀ a∈x,a.natAbs<=1000000000):rc x=0:=by
 unfold rc;rw[if_neg (by omega),if_pos];intro i hi;have e:x.getD i 0=x[i]:=by simp[List.getD,hi]
 rw[e];have:=h2 _ (List.getElem_mem hi);constructor <;> omega
theorem I7 {n:Int}{l:List (List Int)}(h0:0<=n/\n<=12)(h:∀ y∈l,rc y=0/\(y.length:Int)=n):vX n l=0:=by
 unfold vX;rw[if_neg (by omega)];have:(List.range l.length).findSome? (sZ n l)=none:=by
  rw[List.findSome?_eq_none_iff];intro i hi;have hi:=List.mem_range.1 hi;have e:l.getD i []=l[i]:=by simp[List.getD,hi]
  have:=h _ (List.getElem_mem hi);unfold sZ;rw[e,if_neg (by simp[this.1]),if_neg (by simp[this.2])]
 rw[this]; rfl
section
variable {ps:List Int} {n d r:Nat} {C K:Nat->V}
theorem EV(h:RT ps n d r C K) {l:List (List Int)} (h6:l.length<=1000) (hl:∀ x∈l,x.length=n/\∀ a∈x,a.natAbs<=1000000000) (X:List (List Int)) (E:Int) :
  (∃ out:List (List Int),out.length=l.length/\(∀ y∈out,y.length=r/\∀ a∈y,a.natAbs<=1000000000) /\
   jH ((ps,(Mr d n C,Mr r n K)),[],l,(l.length:Int),0,())=some (.inr ((ps,(Mr d n C,Mr r n K)),out,())) /\
   bZ (l,(ps,(Mr d n C,Mr r n K)),X,E,0,[],0,())=some (X,E,0,out,())) \/
  (∃ (e:Int) (out:List (List Int)),e≠0 /\
   jH ((ps,(Mr d n C,Mr r n K)),[],l,(l.length:Int),0,())=some (.inl ([],e,())) /\
   bZ (l,(ps,(Mr d n C,Mr r n K)),X,E,0,[],0,())=some (X,E,e,out,())):=by
 have e0:eqI 0 0=true:=by decide
 have aux:∀ m j,j+m=l.length->∀ out:List (List Int),out.length=j->(∀ y∈out,y.length=r/\∀ a∈y,a.natAbs<=1000000000)->∀ N,m+1<N ->
   (∃ out':List (List Int),out'.length=l.length/\(∀ y∈out',y.length=r/\∀ a∈y,a.natAbs<=1000000000) /\
    aO bX N ((ps,(Mr d n C,Mr r n K)),out,l,(l.length:Int),(j:Int),())=some (.inr ((ps,(Mr d n C,Mr r n K)),out',())) /\
    aO aH N (l,(ps,(Mr d n C,Mr r n K)),X,E,0,out,(j:Int),())=some (X,E,0,out',())) \/
   (∃ (e:Int) (out':List (List Int)),e≠0 /\
    aO bX N ((ps,(Mr d n C,Mr r n K)),out,l,(l.length:Int),(j:Int),())=some (.inl ([],e,())) /\
    aO aH N (l,(ps,(Mr d n C,Mr r n K)),X,E,0,out,(j:Int),())=some (X,E,e,out',())):=by
  intro m
  induction m with
  | zero =>
   intro j hj out ho hg N hN;obtain⟨N,rfl⟩:∃ M,N=M+1:=⟨N-1,by omega⟩;obtain rfl:j=l.length:=by omega
   have e1:ltI (l.length:Int) (l.length:Int)=false:=by rw[aE]; exact oF (by omega)
   refine .inl ⟨out,ho,hg,?_,?_⟩
   ·rw[aV]; simp only[bX,e1,oD]
   ·rw[aV]; simp only[aH,e1,oD]
  | succ m ih =>
   intro j hj out ho hg N hN;obtain⟨N,rfl⟩:∃ M,N=M+1:=⟨N-1,by omega⟩;have hjl:j<l.length:=by omega
   have e1:ltI (j:Int) (l.length:Int)=true:=by rw[aE]; exact oT (by omega)
   have e2:aF (j:Int) l.length=true:=by rw[aG]; exact oT (by omega)
   have e3:l.getD ((j:Int)).toNat []=l[j]:=by rw[oN]; simp[List.getD,hjl]
   have hm:=hl _ (List.getElem_mem hjl);obtain⟨y,e,t1,t2,t3⟩:=HV h l[j] hm.1 hm.2;have e4:Nat.ble [y].length 1048576=true:=rfl;have e5:Nat.ble out.length 1048576=true:=Nat.ble_eq_true_of_le (by omega);have e6:=aT j (by omega)
   by_cases c:e=0
   ·subst c;have ih:=ih (j+1) (by omega) (out++[y]) (by simp[ho]) (λz hz=>by
     rcases List.mem_append.1 hz with hz|hz
     ·exact hg z hz
     ·rw[List.mem_singleton.1 hz]; exact t2 rfl) N (by omega)
    have s1:bX ((ps,(Mr d n C,Mr r n K)),out,l,(l.length:Int),(j:Int),())=some (.inl ((ps,(Mr d n C,Mr r n K)),out++[y],l,(l.length:Int),((j+1:Nat):Int),())):=by simp only[bX,e1,e2,e3,t1,e0,e4,e5,e6,aD,Bool.not_true,oC,oD]
    have s2:aH (l,(ps,(Mr d n C,Mr r n K)),X,E,0,out,(j:Int),())=some (.inl (l,(ps,(Mr d n C,Mr r n K)),X,E,0,out++[y],((j+1:Nat):Int),())):=by simp only[aH,e1,e2,e3,t1,e0,e4,e5,e6,aD,oC]
    rw[aV,aV,s1,s2];exact ih
   ·have e7:eqI e 0=false:=by rw[bT]; exact oF c
    have s1:bX ((ps,(Mr d n C,Mr r n K)),out,l,(l.length:Int),(j:Int),())=some (.inr (.inl ([],e,()))):=by simp only[bX,e1,e2,e3,t1,e7,aD,Bool.not_false,oC]
    have s2:aH (l,(ps,(Mr d n C,Mr r n K)),X,E,0,out,(j:Int),())=some (.inl (l,(ps,(Mr d n C,Mr r n K)),X,E,e,out++[y],((j+1:Nat):Int),())):=by simp only[aH,e1,e2,e3,t1,e0,e4,e5,e6,aD,oC]
    have s3:aH (l,(ps,(Mr d n C,Mr r n K)),X,E,e,out++[y],((j+1:Nat):Int),())=some (.inr (X,E,e,out++[y],())):=by
     cases hh:ltI ((j+1:Nat):Int) (l.length:Int)with
     | true=>simp only[aH,hh,e7,oC,oD]
     | false=>simp only[aH,hh,oD]
    refine .inr ⟨e,out++[y],c,?_,?_⟩
    ·rw[aV,s1]
    ·obtain⟨N,rfl⟩:∃ M,N=M+1:=⟨N-1,by omega⟩;rw[aV,s2];show aO aH (N+1) _=_;rw[aV,s3]
 exact aux l.length 0 (by omega) [] rfl (λy hy=>by simp at hy) (2^64) (by omega)
end
theorem DW(p:Int×List (Int×Int×Int×Int)×Bool)(hp:(0<=p.1/\p.1<256)/\∀ t∈p.2.1,I8 t)(l:List (List Int))(hl:l.length<=9223372036854775807):bL (p,l,())=some (true,()):=by
 obtain⟨a,b,c⟩:=p;have hf:=OT (a,(b,c));have kn:fD (())=some (true,()):=rfl;have e0:eqI 0 0=true:=by decide
 by_cases c1:b.length<=3
 case neg =>
  rw[oF c1]at hf;simp only[bL,kn,hf,aD,oC,oD]
 rw[oT c1]at hf
 by_cases c2:l.length<=6
 case neg =>
  have e2:ltI 6 (l.length:Int)=true:=by rw[aE]; exact oT (by omega)
  simp only[bL,kn,hf,e2,aD,oC]
 have e2:ltI 6 (l.length:Int)=false:=by rw[aE]; exact oF (by omega)
 obtain⟨w,f1,f2⟩:=wE (l:=l) hl;cases w with
 | false=>simp only[bL,kn,hf,e2,f1,aD,oC,oD]
 | true =>
  obtain⟨_,hr⟩:=f2 rfl;have hR:Rws 1000 l:=λy hy=>oR (hr y hy) (by omega)
  obtain⟨d,r,C,K,m1,rt,_,_⟩:=MV a hp.1.1 hp.1.2 b c1 hp.2 c;generalize L12.getD (a%10).toNat []=ps at m1 rt;generalize hnn:ps.length=n at m1 rt;have n4:=rt.n4;obtain⟨q,hkk⟩:=rt.hk;have r4:=(Hn.rM hkk rt.wk).1;have t1:=rt.check;have t2:=qG (n:=(n:Int)) (l:=l) (by omega) hR;have t3:=uF (n:=(n:Int)) (l:=l) (by omega) hR
  by_cases he:tU n l=0
  ·rw[if_pos he]at t2;rw[he]at t3;have hC:vX n l=0:=by
    unfold tU at he;split at he
    ·exact he
    ·rename_i h; exact Decidable.not_not.1 h
   obtain⟨_,_,hg⟩:=C1 hC;have hrow:∀ x∈l,x.length=n/\∀ a∈x,a.natAbs<=1000000000:=λx hx=>⟨by have:=(hg x hx).2; omega,(NS (hg x hx).1).2⟩
   have hTe:∀ (X:List (List Int)) (E:Int),_:=λX E=>EV rt (l:=l) (by omega) hrow X E
   have hT0:=hTe [] 0;rcases hT0 with ⟨out,o1,o2,o3,_⟩|⟨e,out,o1,o3,_⟩
   ·have hRo:Rws 1000 out:=λy hy=>by have:=(o2 y hy).1; omega
    have hCo:vX (r:Int) out=0:=I7 (by omega) λy hy=>⟨QO (by have:=(o2 y hy).1; omega) (o2 y hy).2,by have:=(o2 y hy).1; omega⟩
    have hlen:=uU out [];have hDo:tU (r:Int) out=0:=by
     unfold tU;rw[if_neg (by simp[hCo]),if_neg (by simp at hlen; omega)]
    have t4:=qG (n:=(r:Int)) (l:=out) (by omega) hRo;rw[if_pos hDo]at t4;have hMl:((Mr r n K).length:Int)=(r:Int):=by rw[kJ]
    have t5:dI ((ps,(Mr d n C,Mr r n K)),l,())=some (fJ [] out,0,()):=by simp only[dI,t1,aD,e0,Bool.not_true,oD,hnn,t2,o3,eG,hMl,t4]
    have t6:=nW (l:=out) (by omega) hRo;have t7:=vJ (fJ [] out) (fJ [] out) (by simp at hlen; omega) (λy hy=>oR (CN hRo (by simp[Rws]) y hy) (by omega));rw[oT rfl]at t7;rcases hTe (fJ [] out) 0 with ⟨out',_,_,o3',o4⟩|⟨e,out',o1',o3',_⟩
    ·rw[o3]at o3';have:out'=out:=by
      have:=oB o3';simp only[Sum.inr.injEq,oP,true_and,and_true]at this;exact this.symm
     subst this;simp only[bL,kn,hf,e2,f1,m1,hnn,t5,t3,aD,oC,oD];rw[o4];simp only[aD,e0,Bool.not_true,oD,t6,t7,oC]
    ·rw[o3]at o3';cases oB o3'
   ·have t5:dI ((ps,(Mr d n C,Mr r n K)),l,())=some ([],e,()):=by
     simp only[dI,t1,aD,e0,Bool.not_true,oD,hnn,t2,o3,pN]
    have e7:eqI e 0=false:=by rw[bT]; exact oF o1
    have e8:eqI e e=true:=by rw[bT]; exact oT rfl
    have e9:eqI (([]:List (List Int)).length:Int) 0=true:=by decide
    rcases hTe [] e with ⟨out',_,_,o3',_⟩|⟨e',out',_,o3',o4⟩
    ·rw[o3]at o3';cases oB o3'
    ·rw[o3]at o3';have:e'=e:=by
      have:=oB o3';simp only[Sum.inl.injEq,oP,true_and,and_true]at this;exact this.symm
     subst this;simp only[bL,kn,hf,e2,f1,m1,hnn,t5,t3,aD,oC,oD];rw[o4];simp only[aD,e7,e8,e9,Bool.not_false,oC]
  ·rw[if_neg he]at t2;have e7:eqI (tU n l) 0=false:=by rw[bT]; exact oF he
   have e8:eqI (tU n l) (tU n l)=true:=by rw[bT]; exact oT rfl
   have e9:eqI (([]:List (List Int)).length:Int) 0=true:=by decide
   have t5:dI ((ps,(Mr d n C,Mr r n K)),l,())=some ([],tU n l,()):=by simp only[dI,t1,aD,e0,Bool.not_true,Bool.not_false,oC,oD,hnn,t2,e7]
   have key:bZ (l,(ps,(Mr d n C,Mr r n K)),[],tU n l,tU n l,[],0,())=some ([],tU n l,tU n l,[],()):=by
    have s3:aH (l,(ps,(Mr d n C,Mr r n K)),[],tU n l,tU n l,[],0,())=some (.inr ([],tU n l,tU n l,[],())):=by
     cases hh:ltI 0 (l.length:Int)with
     | true=>simp only[aH,hh,e7,oC,oD]
     | false=>simp only[aH,hh,oD]
    unfold bZ;show aO aH (18446744073709551615+1) _=_;rw[aV,s3]
   simp only[bL,kn,hf,e2,f1,m1,hnn,t5,t3,aD,oC,oD];rw[key];simp only[aD,e7,e8,e9,Bool.not_false,oC]
theorem wf_u8 {x}(h:(Lit.int .u8 x).wf=true):0<=x/\x<256:=by
 simp only[Lit.wf,oA,decide_eq_true_eq]at h;have h1:IntKind.u8.min=0:=by rfl
 have h2:IntKind.u8.max=255:=by rfl
 omega
theorem wf_i8 {x}(h:(Lit.int .i8 x).wf=true) : -128<=x/\x<128:=by
 simp only[Lit.wf,oA,decide_eq_true_eq]at h;have h1:IntKind.i8.min = -128:=by rfl
 have h2:IntKind.i8.max=127:=by rfl
 omega
theorem RK {v:Int×Int×Int×Int}(h:WF (.prod (.int .i8) (.prod (.int .i8) (.prod (.int .i8) (.int .i8)))) v):I8 v:=λi hi=>by
 obtain⟨a1,a2,a3,a4⟩:=h;rcases(show i=0\/i=1\/i=2\/i=3 by omega)with rfl|rfl|rfl|rfl
 ·exact wf_i8 a1
 ·exact wf_i8 a2
 ·exact wf_i8 a3
 ·exact wf_i8 a4
end Go.PM
