/- Texts of one proof, joined (7). -/
import Derived.Lib.AtoiAllCases
import Derived.Test.YtmghkhgpkefgeaaGreatDoorQO6
set_option linter.unusedSimpArgs false
set_option linter.unusedVariables false
namespace Go.PM
open Go Go.RowKit Go.Proofs Go.Lz
set_option maxRecDepth 100000
theorem aAZ {T:Nat} (hT:2*Lib.nDigits (T+1)≤xM) {a:Nat} (h:a≤T+1):2*Lib.nDigits a≤xM:=Nat.le_trans (Nat.mul_le_mul_left 2 (qM h)) hT
theorem aT1 {a m:Int} {T:Nat} (h:a.natAbs≤T) (hm:m≠0):(a.fdiv m).natAbs≤T+1:=by
 have h1:=bBZ a m hm;have h2:1≤m.natAbs:=by omega
 have h3:(a.fdiv m).natAbs*m.natAbs≤(T+1)*m.natAbs:=by
  rw[Nat.succ_mul];have:T*1≤T*m.natAbs:=Nat.mul_le_mul_left _ h2;omega
 exact Nat.le_of_mul_le_mul_right h3 (by omega)
theorem a4I {T n:Nat} (hT:2*Lib.nDigits (T+1)≤xM) {u v:V} {q:Int} (hu:∀ x,x<n→(u x).natAbs≤T) (hv:∀ x,x<n→(v x).natAbs≤T) (hq:q.natAbs≤T+1):a0K n u v q:=by
 constructor
 ·intro i hi
  have h1:=aAZ hT hq;have h2:=aAZ hT (Nat.le_succ_of_le (hv i hi));omega
 ·intro i hi
  have h2:=aAZ hT (Nat.le_succ_of_le (hu i hi));omega
def Big(k n:Nat) (M:Nat→V) (T:Nat):Prop:=∀ i,i<k→∀ x,x<n→(M i x).natAbs≤T
theorem Big.cm {k n T:Nat} {M:Nat→V} (h:Big k n M T) (hT:2*Lib.nDigits (T+1)≤xM):Cm k n M:=fun i hi x hx=>by
 have:=aAZ hT (Nat.le_succ_of_le (h i hi x hx));omega
section
variable {o k n d c:Nat} {m:List (Nat×Nat×Nat)} {A:List (List ByteArray)} {J:Nat→Nat} {M M0:Nat→V} {p:Nat→Nat} {T:Nat}
def rdT(M:Nat→V) (d c t:Nat):Nat→V:=fun i=>if d<i∧i<d+1+t then (fun x=>M i x-(M i c).fdiv (M d c)*M d x) else M i
theorem bDH(h:oV o k n m A J M) (hk:k<1048576) (hn:n<1048576) (f:Fo k M0 M d c p) (hd:d<k) (hcn:c<n) (hm:M d c≠0) (hB:Big k n M T) (hT:2*Lib.nDigits (T+1)≤xM) (cols:Int) :
  ∃ A' M' rest,qD (m,cols,(d:Int),(c:Int),false,aB .i64 ((d:Int)+1),A,())=some (m,cols,(d:Int),(c:Int),rest,A',())∧oV o k n m A' J M'∧Rd k M M' d c∧Fo k M0 M' d c p∧(∀ i,i<d→M' i=M i) ∧
   (rest=true→∃ i,d<i∧i<k∧M' i c≠0)∧(rest=false→∀ i,d<i→i<k→M' i c=0):=by
 have hat:∀ t i,d<i→i<d+1+t→rdT M d c t i c=(M i c).fmod (M d c):=fun t i h1 h2=>by
  unfold rdT;rw[if_pos ⟨h1,h2⟩];exact aSO _ _
 have hd0:∀ t,rdT M d c t d=M d:=fun t=>by unfold rdT; rw[if_neg (by omega)]
 have:=aVO (step:=fK) (N:=2^64) (k-(d+1))
  (fun t x=>∃ A' rest,x=(m,cols,(d:Int),(c:Int),rest,((d+1+t:Nat):Int),A',())∧oV o k n m A' J (rdT M d c t)∧Fo k M0 (rdT M d c t) d c p∧(rest=true→∃ i,d<i∧i<d+1+t∧(M i c).fmod (M d c)≠0)∧(rest=false→∀ i,d<i→i<d+1+t→(M i c).fmod (M d c)=0))
  (fun z=>∃ A' rest,z=(m,cols,(d:Int),(c:Int),rest,A',())∧oV o k n m A' J (rdT M d c (k-(d+1)))∧Fo k M0 (rdT M d c (k-(d+1))) d c p∧(rest=true→∃ i,d<i∧i<k∧(M i c).fmod (M d c)≠0)∧(rest=false→∀ i,d<i→i<k→(M i c).fmod (M d c)=0))
  (by omega) (m,cols,(d:Int),(c:Int),false,aB .i64 ((d:Int)+1),A,()) ?_ ?_ ?_
 ·obtain⟨z,h1,A',rest,rfl,h2,h3,h4,h5⟩:=this
  refine⟨A',_,rest,h1,h2,⟨hd0 _,fun i g1 g2=>?_⟩,h3,fun i hi=>by unfold rdT; rw[if_neg (by omega)],fun hr=>?_,fun hr i g1 g2=>?_⟩
  ·unfold rdT; rw[if_pos ⟨g1,by omega⟩]
  ·obtain⟨i,g1,g2,g3⟩:=h4 hr
   exact⟨i,g1,g2,by rw[hat _ i g1 (by omega)]; exact g3⟩
  ·rw[hat _ i g1 (by omega)]; exact h5 hr i g1 g2
 ·have e:rdT M d c 0=M:=by
   funext i; unfold rdT; rw[if_neg (by omega)]
  refine⟨A,false,?_,by rw[e]; exact h,by rw[e]; exact f,fun hr=>(by cases hr),fun _ i g1 g2=>by omega⟩
  rw[cY d (by omega)]
 ·rintro t x ht ⟨A',rest,rfl,hL,hF,hr1,hr2⟩
  have hi:d+1+t<k:=by omega
  have hMi:rdT M d c t (d+1+t)=M (d+1+t):=by unfold rdT; rw[if_neg (by omega)]
  have e1:ltI ((d+1+t:Nat):Int) (m.length:Int)=true:=by rw[aI,h.len]; exact decide_eq_true (by omega)
  have e2:aL ((d+1+t:Nat):Int) m.length=true:=by rw[aR,h.len]; exact decide_eq_true (by omega)
  have e3:(((d+1+t:Nat):Int)).toNat=d+1+t:=Int.toNat_natCast _;have e4:Nat.blt (d+1+t) m.length=true:=by rw[cX,h.len]; simpa using hi
  have e5:aL (c:Int) n=true:=by rw[aR]; exact decide_eq_true (by omega)
  have e6:(o+((c:Nat):Int).toNat)*1=o+c:=by simp
  have e7:Nat.blt (o+c) (o+n)=true:=by rw[cX]; simpa using hcn
  have e8:=cY (d+1+t) (by omega)
  have e9:=hL.get hi;have e10:=hL.dH hi;have e11:=hL.eD hi hcn;rw[hMi]at e11;have f2:aL ((d:Nat):Int) m.length=true:=by rw[aR,h.len]; exact decide_eq_true (by omega)
  have f3:((d:Nat):Int).toNat=d:=Int.toNat_natCast _;have f4:Nat.blt d m.length=true:=by rw[cX,h.len]; simpa using hd
  have f9:=hL.get hd;have f10:=hL.dH hd;have f11:=hL.eD hd hcn;rw[hd0]at f11;have b1:=hB _ hi c hcn;have b2:=hB _ hd c hcn;have k1:=aAZ hT (Nat.le_succ_of_le b1);have k2:=aAZ hT (Nat.le_succ_of_le b2);have c1:=aCG (M (d+1+t) c) (M d c) (by have:xM=400000:=rfl; omega) (by have:xM=400000:=rfl; omega) hm
  obtain⟨A2,c2,c3⟩:=hL.less hn hi hd (by omega) ((M (d+1+t) c).fdiv (M d c)) (by
   rw[hMi,hd0];exact a4I hT (hB _ hi) (hB _ hd) (aT1 b1 hm))
  have hup:up (rdT M d c t) (d+1+t) (fun x=>rdT M d c t (d+1+t) x-(M (d+1+t) c).fdiv (M d c)*rdT M d c t d x)=rdT M d c (t+1):=by
   funext i
   by_cases e:i=d+1+t
   ·subst e
    rw[aAV,hMi,hd0];unfold rdT;rw[if_pos (by omega)]
   ·rw[NY _ _ e]
    unfold rdT
    by_cases g:d<i∧i<d+1+t
    ·rw[if_pos g,if_pos (by omega)]
    ·rw[if_neg g,if_neg (by omega)]
  rw[hup]at c3;have hF':Fo k M0 (rdT M d c (t+1)) d c p:=by
   rw[← hup];exact hF.less _ (by omega) hi
  have c4:eqS (Zn ((M (d+1+t) c).fmod (M d c))) (ByteArray.mk #[48])=decide ((M (d+1+t) c).fmod (M d c)=0):=I5 _;have e8':((d+1+t+1:Nat):Int)=((d+1+(t+1):Nat):Int):=by omega
  cases rest with
  | true =>
   refine⟨_,?_,A2,true,rfl,c3,hF',fun _=>?_,fun hr=>(by cases hr)⟩
   ·simp only[fK,e1,e2,e3,e4,e9,e5,e6,e10,e7,e11,f2,f3,f4,f9,f10,f11,c1,c2,aG,cond_true,e8,e8']
   ·obtain⟨i,g1,g2,g3⟩:=hr1 rfl
    exact⟨i,g1,by omega,g3⟩
  | false =>
   by_cases hz:(M (d+1+t) c).fmod (M d c)=0
   ·have c5:eqS (Zn ((M (d+1+t) c).fmod (M d c))) (ByteArray.mk #[48])=true:=by rw[c4]; exact decide_eq_true hz
    refine⟨_,?_,A2,false,rfl,c3,hF',fun hr=>(by cases hr),fun _ i g1 g2=>?_⟩
    ·simp only[fK,e1,e2,e3,e4,e9,e5,e6,e10,e7,e11,f2,f3,f4,f9,f10,f11,c1,c2,c5,aG,cond_true,cond_false,e8,e8',Bool.not_true]
    ·by_cases e:i=d+1+t
     ·subst e; exact hz
     ·exact hr2 rfl i g1 (by omega)
   ·have c5:eqS (Zn ((M (d+1+t) c).fmod (M d c))) (ByteArray.mk #[48])=false:=by rw[c4]; exact decide_eq_false hz
    refine⟨_,?_,A2,true,rfl,c3,hF',fun _=>⟨d+1+t,by omega,by omega,hz⟩,fun hr=>(by cases hr)⟩
    simp only[fK,e1,e2,e3,e4,e9,e5,e6,e10,e7,e11,f2,f3,f4,f9,f10,f11,c1,c2,c5,aG,cond_true,cond_false,e8,e8',Bool.not_false]
 ·rintro x ⟨A',rest,rfl,hL,hF,hr1,hr2⟩
  have e1:ltI ((d+1+(k-(d+1)):Nat):Int) (m.length:Int)=false:=by rw[aI,h.len]; exact decide_eq_false (by omega)
  refine⟨_,?_,A',rest,rfl,hL,hF,fun hr=>?_,fun hr i g1 g2=>hr2 hr i g1 (by omega)⟩
  ·simp only[fK,e1,cond_false]
  ·obtain⟨i,g1,g2,g3⟩:=hr1 hr
   exact⟨i,g1,by omega,g3⟩
theorem bCY {E:Nat} (h:oV o k n m A J M) (hk:k<1048576) (hn:n<1048576) (f:Fp k M0 M d c p 0) (hcn:c<n) (hB:Big k n M T) (hE:∀ i,i<d→∀ x,x<n→(M i x).natAbs≤E) (hET:E≤T) (hT:2*Lib.nDigits (T+1)≤xM) (cols:Int) :
  ∃ A' M',dW (m,cols,(d:Int),(c:Int),(d:Int),0,A,())=some (m,cols,(d:Int),(c:Int),A',())∧oV o k n m A' J M'∧Fp k M0 M' d c p d∧(∀ i,d≤i→M' i=M i)∧∀ i,i<d→∀ x,x<n→(M' i x).natAbs≤E+(E+1)*T:=by
 have hd:=f.dk;have:=aVO (step:=lP) (N:=2^64) d
  (fun t x=>∃ A' M',x=(m,cols,(d:Int),(c:Int),(d:Int),(t:Int),A',())∧oV o k n m A' J M'∧Fp k M0 M' d c p t∧(∀ i,t≤i→M' i=M i)∧∀ i,i<t→∀ x,x<n→(M' i x).natAbs≤E+(E+1)*T)
  (fun z=>∃ A' M',z=(m,cols,(d:Int),(c:Int),A',())∧oV o k n m A' J M'∧Fp k M0 M' d c p d∧(∀ i,d≤i→M' i=M i)∧∀ i,i<d→∀ x,x<n→(M' i x).natAbs≤E+(E+1)*T)
  (by omega) (m,cols,(d:Int),(c:Int),(d:Int),0,A,()) ⟨A,M,rfl,h,f,fun _ _=>rfl,fun i hi=>by omega⟩ ?_ ?_
 ·obtain⟨z,h1,A',M',rfl,h2⟩:=this
  exact⟨A',M',h1,h2⟩
 ·rintro t x ht ⟨A',M',rfl,hL,hF,hr1,hr2⟩
  have hi:t<k:=by omega
  have hMi:=hr1 t (Nat.le_refl _);have hMd:=hr1 d (by omega)
  have e1:ltI (t:Int) (d:Int)=true:=by rw[aI]; exact decide_eq_true (by omega)
  have e2:aL (t:Int) m.length=true:=by rw[aR,h.len]; exact decide_eq_true (by omega)
  have e3:((t:Nat):Int).toNat=t:=Int.toNat_natCast _;have e4:Nat.blt t m.length=true:=by rw[cX,h.len]; simpa using hi
  have e5:aL (c:Int) n=true:=by rw[aR]; exact decide_eq_true (by omega)
  have e6:(o+((c:Nat):Int).toNat)*1=o+c:=by simp
  have e7:Nat.blt (o+c) (o+n)=true:=by rw[cX]; simpa using hcn
  have e8:=cY t (by omega)
  have e9:=hL.get hi;have e10:=hL.dH hi;have e11:=hL.eD hi hcn;rw[hMi]at e11;have f2:aL ((d:Nat):Int) m.length=true:=by rw[aR,h.len]; exact decide_eq_true (by omega)
  have f3:((d:Nat):Int).toNat=d:=Int.toNat_natCast _;have f4:Nat.blt d m.length=true:=by rw[cX,h.len]; simpa using hd
  have f9:=hL.get hd;have f10:=hL.dH hd;have f11:=hL.eD hd hcn;rw[hMd]at f11;have hm:M d c≠0:=by have:=f.piv; omega
  have b0:=hE t ht c hcn;have b1:=hB _ hi c hcn;have b2:=hB _ hd c hcn;have k1:=aAZ hT (Nat.le_succ_of_le b1);have k2:=aAZ hT (Nat.le_succ_of_le b2);have c1:=aCG (M t c) (M d c) (by have:xM=400000:=rfl; omega) (by have:xM=400000:=rfl; omega) hm
  obtain⟨A2,c2,c3⟩:=hL.less hn hi hd (by omega) ((M t c).fdiv (M d c)) (by
   rw[hMi,hMd];exact a4I hT (hB _ hi) (hB _ hd) (aT1 b1 hm))
  have hF2:=hF.less ht;rw[hMi,hMd]at hF2 c3;refine⟨_,?_,A2,_,rfl,c3,hF2,fun i hi2=>?_,fun i hi2 x hx=>?_⟩
  ·simp only[lP,e1,e2,e3,e4,e9,e5,e6,e10,e7,e11,f2,f3,f4,f9,f10,f11,c1,c2,aG,cond_true,e8]
  ·rw[NY _ _ (by omega)]; exact hr1 i (by omega)
  ·by_cases e:i=t
   ·subst e
    rw[aAV];have q1:=aT1 b0 hm;have q2:((M i c).fdiv (M d c)*M d x).natAbs=((M i c).fdiv (M d c)).natAbs*(M d x).natAbs:=Int.natAbs_mul _ _;have q3:((M i c).fdiv (M d c)).natAbs*(M d x).natAbs≤(E+1)*T:=Nat.mul_le_mul q1 (hB _ hd x hx);have q4:=hE i (by omega) x hx
    omega
   ·rw[NY _ _ e]; exact hr2 i (by omega) x hx
 ·rintro x ⟨A',M',rfl,hL,hF,hr1,hr2⟩
  have e1:ltI (d:Int) (d:Int)=false:=by rw[aI]; exact decide_eq_false (by omega)
  refine⟨_,?_,A',M',rfl,hL,hF,hr1,hr2⟩;simp only[lP,e1,cond_false]
end
end Go.PM
namespace Go.PM
open Go Go.RowKit Go.Proofs Go.Lz
set_option maxRecDepth 100000
def Wd(k n:Nat) (M:Nat→V):Prop:=∀ i,i<k→∀ x,n≤x→M i x=0
section
variable {o k n d c:Nat} {m:List (Nat×Nat×Nat)} {A:List (List ByteArray)} {J:Nat→Nat} {M M0:Nat→V} {p:Nat→Nat} {T E:Nat}
theorem Big.all (h:Big k n M T) (hw:Wd k n M):∀ i,i<k→∀ x,(M i x).natAbs≤T:=fun i hi x=>by
 rcases Nat.lt_or_ge x n with g|g
 ·exact h i hi x g
 ·rw[hw i hi x g]; exact Nat.zero_le _
theorem pass(h:oV o k n m A J M) (hk:k<1048576) (hn:n<1048576) (f:Fo k M0 M d c p) (hcn:c<n) (hB:Big k n M T) (hw:Wd k n M) (hE:∀ i,i<d→∀ x,x<n→(M i x).natAbs≤E) (hET:E≤T) (hT:2*Lib.nDigits (T+1)≤xM) {a:Nat} (hd:d<k) (ha:d≤a) (hak:a<k) (hm:M a c≠0)
  (cols:Int) (hfind:lM (m,cols,(d:Int),(c:Int),-1,(d:Int),A,())=some (m,cols,(d:Int),(c:Int),(a:Int),A,())) :
  ∃ m1 A' J' M',oV o k n m1 A' J' M'∧Rd k (swp M d a) M' d c∧Fo k M0 M' d c p∧(∀ i,i<d→M' i=M i)∧Wd k n M' ∧
   ((∃ i,d<i∧i<k∧M' i c≠0)→dV (m,cols,(d:Int),(c:Int),A,())=some (.inl (m1,cols,(d:Int),(c:Int),A',()))) ∧
   ((∀ i,d<i→i<k→M' i c=0)→Big k n M' T→∃ A'' M'' p',dV (m,cols,(d:Int),(c:Int),A,())=some (.inr (m1,cols,((d+1:Nat):Int),(c:Int),A'',()))∧oV o k n m1 A'' J' M''∧Fo k M0 M'' (d+1) (c+1) p'∧Wd k n M''∧Big k n M'' (E+(E+1)*T)):=by
 obtain⟨J',hs⟩:∃ J',oV o k n ((m.set d (J a,o,n)).set a (J d,o,n)) A J' (swp M d a):=⟨_,h.swap hd hak⟩;have hsw:∀ i,i<k→∃ j,j<k∧swp M d a i=M j:=fun i hi=>by
  unfold swp;split
  ·exact⟨a,hak,rfl⟩
  ·split
   ·exact⟨d,hd,rfl⟩
   ·exact⟨i,hi,rfl⟩
 have hBs:Big k n (swp M d a) T:=fun i hi x hx=>by
  obtain⟨j,h1,h2⟩:=hsw i hi;rw[h2]; exact hB j h1 x hx
 have hws:Wd k n (swp M d a):=fun i hi x hx=>by
  obtain⟨j,h1,h2⟩:=hsw i hi;rw[h2]; exact hw j h1 x hx
 have hpd:swp M d a d=M a:=by simp[swp]
 obtain⟨A',M',rest,g1,g2,g3,g4,g5,g6,g7⟩:=bDH hs hk hn (f.swap ha hak) hd hcn (by rw[hpd]; exact hm) hBs hT cols
 have hw':Wd k n M':=fun i hi x hx=>by
  rcases Nat.lt_trichotomy i d with q|q|q
  ·rw[g5 i q]; exact hws i hi x hx
  ·subst q; rw[g3.1]; exact hws i hi x hx
  ·rw[g3.2 i q hi]
   simp only[hws i hi x hx,hws d hd x hx,Int.mul_zero,Int.sub_zero]
 have hlow:∀ i,i<d→M' i=M i:=fun i hi=>by
  rw[g5 i hi];unfold swp;rw[if_neg (by omega),if_neg (by omega)]
 -- what the pass begins with
 have e1:ltI (a:Int) 0=false:=by rw[aI]; exact decide_eq_false (by omega)
 have e2:aL (a:Int) m.length=true:=by rw[aR,h.len]; exact decide_eq_true (by omega)
 have e3:((a:Nat):Int).toNat=a:=Int.toNat_natCast _;have e4:Nat.blt a m.length=true:=by rw[cX,h.len]; simpa using hak
 have f2:aL (d:Int) m.length=true:=by rw[aR,h.len]; exact decide_eq_true (by omega)
 have f3:((d:Nat):Int).toNat=d:=Int.toNat_natCast _;have f4:Nat.blt d m.length=true:=by rw[cX,h.len]; simpa using hd
 have e9:=h.get hak;have f9:=h.get hd;have s1:(m.set d (J a,o,n)).length=m.length:=by simp
 have first:dV (m,cols,(d:Int),(c:Int),A,()) =
   (bif rest then some (.inl ((m.set d (J a,o,n)).set a (J d,o,n),cols,(d:Int),(c:Int),A',()))
   else bif aL (d:Int) ((m.set d (J a,o,n)).set a (J d,o,n)).length then bif Nat.blt d ((m.set d (J a,o,n)).set a (J d,o,n)).length then bif aL (c:Int) (((m.set d (J a,o,n)).set a (J d,o,n)).getD d (0,0,0)).2.2 then
    bif Nat.blt (((((m.set d (J a,o,n)).set a (J d,o,n)).getD d (0,0,0)).2.1+((c:Nat):Int).toNat)*1) (dH A' (((m.set d (J a,o,n)).set a (J d,o,n)).getD d (0,0,0)).1) then
    aC (AE ((eD A' (((m.set d (J a,o,n)).set a (J d,o,n)).getD d (0,0,0)).1 (((((m.set d (J a,o,n)).set a (J d,o,n)).getD d (0,0,0)).2.1+((c:Nat):Int).toNat)*1) ByteArray.empty),())) fun y23 =>
    bif ltI y23.1 0 then
     bif aL (d:Int) ((m.set d (J a,o,n)).set a (J d,o,n)).length then bif Nat.blt d ((m.set d (J a,o,n)).set a (J d,o,n)).length then
     aC (fX () (((((m.set d (J a,o,n)).set a (J d,o,n)).getD d (0,0,0)).1,(((m.set d (J a,o,n)).set a (J d,o,n)).getD d (0,0,0)).2.1,(((m.set d (J a,o,n)).set a (J d,o,n)).getD d (0,0,0)).2.2),()) A') fun y24 =>
     aC (dW ((m.set d (J a,o,n)).set a (J d,o,n),cols,(d:Int),(c:Int),(d:Int),0,y24.2,())) fun z25 =>
     some (.inr ((z25.1,z25.2.1,(aB .i64 (z25.2.2.1+1)),z25.2.2.2.1,z25.2.2.2.2.1,()))) else none else none
    else aC (dW ((m.set d (J a,o,n)).set a (J d,o,n),cols,(d:Int),(c:Int),(d:Int),0,A',())) fun z26 =>
    some (.inr ((z26.1,z26.2.1,(aB .i64 (z26.2.2.1+1)),z26.2.2.2.1,z26.2.2.2.2.1,()))) else none else none else none else none):=by
  simp only[dV,hfind,aG,e1,cond_false,e2,e3,e4,f2,f3,f4,e9,f9,s1,cond_true,g1]
 refine⟨_,A',J',M',g2,g3,g4,hlow,hw',fun hex=>?_,fun hz hB'=>?_⟩
 ·obtain⟨i,q1,q2,q3⟩:=hex
  have hr:rest=true:=by
   cases rest with
   | true=>rfl
   | false=>exact absurd (g7 rfl i q1 q2) q3
  rw[first,hr]; rfl
 ·have hr:rest=false:=by
   cases rest with
   | false=>rfl
   | true =>
    obtain⟨i,q1,q2,q3⟩:=g6 rfl;exact absurd (hz i q1 q2) q3
  have hmd:M' d c≠0:=by rw[g3.1,hpd]; exact hm
  have t1:=g2.len;have t2:aL (d:Int) k=true:=by rw[aR]; exact decide_eq_true (by omega)
  have t3:Nat.blt d k=true:=by rw[cX]; simpa using hd
  have t4:=g2.get hd;have t5:aL (c:Int) n=true:=by rw[aR]; exact decide_eq_true (by omega)
  have t6:(o+((c:Nat):Int).toNat)*1=o+c:=by simp
  have t7:Nat.blt (o+c) (o+n)=true:=by rw[cX]; simpa using hcn
  have t8:=g2.dH hd;have t9:=g2.eD hd hcn;have t10:=aPS (M' d c);have t11:=cY d (by omega)
  have hE':∀ i,i<d→∀ x,x<n→(M' i x).natAbs≤E:=fun i hi x hx=>by rw[hlow i hi]; exact hE i hi x hx
  have fin:∀ (A1:List (List ByteArray)) (M1:Nat→V),oV o k n ((m.set d (J a,o,n)).set a (J d,o,n)) A1 J' M1→Fo k M0 M1 d c p→0<M1 d c→(∀ i,d<i→i<k→M1 i c=0)→Big k n M1 T→Wd k n M1→(∀ i,i<d→M1 i=M' i) →
    ∃ A'' M'' p',dW ((m.set d (J a,o,n)).set a (J d,o,n),cols,(d:Int),(c:Int),(d:Int),0,A1,())=some ((m.set d (J a,o,n)).set a (J d,o,n),cols,(d:Int),(c:Int),A'',())∧oV o k n ((m.set d (J a,o,n)).set a (J d,o,n)) A'' J' M''∧Fo k M0 M'' (d+1) (c+1) p'∧Wd k n M''∧Big k n M'' (E+(E+1)*T):=by
   intro A1 M1 q1 q2 q3 q4 q5 q6 q7;obtain⟨A2,M2,r1,r2,r3,r4,r5⟩:=bCY q1 hk hn { toFo:=q2,dk:=hd,piv:=q3,below:=q4,up:=fun i hi=>by omega } hcn q5 (fun i hi x hx=>by rw[q7 i hi]; exact hE' i hi x hx) hET hT cols
   refine⟨A2,M2,_,r1,r2,r3.done,fun i hi x hx=>?_,fun i hi x hx=>?_⟩
   ·rcases Nat.lt_or_ge i d with g|g
    ·have hs0:Same k M0 k M2:=r3.same
     have h0:∀ j,j<k→M0 j x=0:=fun j hj=>Sp.aM6 (M:=M1) (fun l hl=>q6 l hl x hx) ((q2.same _).1 (Sp.mem hj))
     exact Sp.aM6 (M:=M0) h0 ((hs0 _).2 (Sp.mem hi))
    ·rw[r4 i g]; exact q6 i hi x hx
   ·rcases Nat.lt_or_ge i d with g|g
    ·exact r5 i g x hx
    ·rw[r4 i g]
     have:=q5 i hi x hx;have:T*1≤T*(E+1):=Nat.mul_le_mul_left _ (by omega)
     rw[Nat.mul_comm (E+1) T];omega
  by_cases hn0:M' d c<0
  ·obtain⟨A1,u1,u2⟩:=g2.neg hn hd (fun x hx=>(hB'.cm hT) d hd x hx)
   have l1:up M' d (fun x=>-(M' d x)) d c = -(M' d c):=by rw[aAV]
   obtain⟨A2,M2,p2,r1,r2,r3,r4,r5⟩:=fin A1 _ u2 (g4.neg hd) (by rw[l1]; omega) (fun i q1 q2=>by rw[NY _ _ (by omega)]; exact hz i q1 q2)
    (fun i hi x hx=>by
     by_cases e:i=d
     ·subst e; rw[aAV,Int.natAbs_neg]; exact hB' i hi x hx
     ·rw[NY _ _ e]; exact hB' i hi x hx)
    (fun i hi x hx=>by
     by_cases e:i=d
     ·subst e; rw[aAV,hw' i hi x hx]; rfl
     ·rw[NY _ _ e]; exact hw' i hi x hx)
    (fun i hi=>NY _ _ (by omega))
   refine⟨A2,M2,p2,?_,r2,r3,r4,r5⟩;have s2:ltI (M' d c).sign 0=true:=by rw[aI,Int.sign_eq_neg_one_of_neg hn0]; rfl
   rw[first,hr];simp only[cond_false,t1,t2,t3,t4,t5,t6,t7,t8,t9,t10,aG,cond_true,s2,u1,r1,t11]
  ·obtain⟨A2,M2,p2,r1,r2,r3,r4,r5⟩:=fin A' _ g2 g4 (by omega) hz hB' hw' (fun _ _=>rfl)
   refine⟨A2,M2,p2,?_,r2,r3,r4,r5⟩;have s2:ltI (M' d c).sign 0=false:=by rw[aI,Int.sign_eq_one_of_pos (by omega)]; rfl
   rw[first,hr];simp only[cond_false,t1,t2,t3,t4,t5,t6,t7,t8,t9,t10,aG,cond_true,s2,r1,t11]
end
end Go.PM
namespace Go.PM
open Go Go.RowKit Go.Proofs Go.Lz
set_option maxRecDepth 100000
structure St (k n d E T:Nat):Prop where
 e1:1≤E
 et:E≤T
 eu:d+1<k→9*E^5≤T
 fit:2*Lib.nDigits (T+1)≤xM
def bM6(o k n d c:Nat) (M0:Nat→V) (cols:Int) (E T:Nat) (z:List (Nat×Nat×Nat)×Int×Int×Int×List (List ByteArray)×Unit):Prop :=
 ∃ m' A' J' M' d' p',z=(m',cols,((d':Nat):Int),(c:Int),A',())∧oV o k n m' A' J' M'∧Fo k M0 M' d' (c+1) p'∧Wd k n M'∧((d'=d∧Big k n M' E)∨(d'=d+1∧Big k n M' (E+(E+1)*T)))
section
variable {o k n d c:Nat} {m:List (Nat×Nat×Nat)} {A:List (List ByteArray)} {J:Nat→Nat} {M M0:Nat→V} {p:Nat→Nat} {T E:Nat}
theorem bIQ {a g:Nat} (h:a<10^g):a<2^(4*g):=by
 refine Nat.lt_of_lt_of_le h ?_;rw[Nat.pow_mul];exact Nat.pow_le_pow_left (by decide) g
theorem rounds(hk:k<1048576) (hn:n<1048576) (hcn:c<n) (hT:2*Lib.nDigits (T+1)≤xM) (hET:E≤T) {C:Nat} (hC:3*C≤T) (cols:Int):∀ (R N P:Nat) {m:List (Nat×Nat×Nat)} {A:List (List ByteArray)} {J:Nat→Nat} {M:Nat→V},
  oV o k n m A J M→Fo k M0 M d c p→Wd k n M→(∀ i,i<d→∀ x,x<n→(M i x).natAbs≤E)→Bt k M d c C→Pt k M d c P→P<2^R→R<N→∃ z,bZ dV N (m,cols,(d:Int),(c:Int),A,())=some z∧bM6 o k n d c M0 cols E T z
 | 0,N,P,m,A,J,M,h,f,hw,hE,hB,hP,hlt,_=>by
  obtain⟨i,w1,w2,w3,w4⟩:=hP;have:=hB.piv;have h1:1*1≤(M d c).natAbs*(M i c).natAbs:=Nat.mul_le_mul (by omega) (by omega)
  simp at hlt;omega
 | R+1,N+1,P,m,A,J,M,h,f,hw,hE,hB,hP,hlt,hN=>by
  obtain⟨E1,b1,i0,b2,b3,b4,b5⟩:=hB.ex;have hdk:=hB.dk;have hmp:=hB.piv;have hE1:E1≤C:=by
   have h1:E1*1≤E1*((M d c).natAbs^3*(M i0 c).natAbs):=Nat.mul_le_mul_left _ (Nat.mul_pos (Nat.pow_pos (by omega)) (by omega))
   have h2:E1*((M d c).natAbs^3*(M i0 c).natAbs)=E1*(M d c).natAbs^3*(M i0 c).natAbs:=by rw[Nat.mul_assoc]
   omega
  have hBig:Big k n M T:=fun i hi x hx=>by
   rcases Nat.lt_or_ge i d with g|g
   ·exact Nat.le_trans (hE i g x hx) hET
   ·have:=(b1 i g hi).1 x
    omega
  obtain⟨r,f1,f2⟩:=bBG h hk (hBig.cm hT) hcn (Nat.le_of_lt hdk) cols;cases r with
  | none=>exact absurd (f2.none rfl d (Nat.le_refl _) (by omega)) hmp
  | some a =>
   obtain⟨q1,q2,q3,q4⟩:=f2.some a rfl;have hak:a<k:=by omega
   have hmin:∀ i,d≤i→i<k→M i c≠0→(M a c).natAbs≤(M i c).natAbs:=fun i g1 g2 g3=>q4 i g1 (by omega) g3
   obtain⟨m1,A',J',M',s1,s2,s3,s4,s5,s6,s7⟩:=pass h hk hn f hcn hBig hw hE hET hT hdk q1 hak q3 cols f1;have hE':∀ i,i<d→∀ x,x<n→(M' i x).natAbs≤E:=fun i hi x hx=>by rw[s4 i hi]; exact hE i hi x hx
   by_cases hz:∀ i,d<i→i<k→M' i c=0
   ·rcases hB.round q1 hak q3 hmin s2 with ⟨_,A1,g1⟩|⟨g1,_⟩
    ·have hBig':Big k n M' T:=fun i hi x hx=>by
      rcases Nat.lt_or_ge i d with g|g
      ·exact Nat.le_trans (hE' i g x hx) hET
      ·exact Nat.le_trans ((g1 i g hi).1 x) hC
     obtain⟨A2,M2,p2,u1,u2,u3,u4,u5⟩:=s7 hz hBig';exact⟨_,by rw[iI,u1],m1,A2,J',M2,d+1,p2,rfl,u2,u3,u4,.inr ⟨rfl,u5⟩⟩
    ·obtain⟨_,_,i,z1,z2,z3,_⟩:=g1.ex
     exact absurd (hz i z1 z2) z3
   ·have hex:∃ i,d<i∧i<k∧M' i c≠0:=by
     obtain⟨i,hi⟩:=Classical.not_forall.1 hz;obtain⟨g1,hi⟩:=Classical.not_forall.1 hi;obtain⟨g2,g3⟩:=Classical.not_forall.1 hi;exact⟨i,g1,g2,g3⟩
    rcases hB.round q1 hak q3 hmin s2 with ⟨g0,_⟩|⟨g1,_⟩
    ·exact absurd g0 hz
    ·have hP':=hB.half q1 hak q3 hmin s2 hz hP
     obtain⟨z,v1,v2⟩:=rounds hk hn hcn hT hET hC cols R N (P/2) s1 s3 s5 hE' g1 hP' (by rw[Nat.pow_succ]at hlt; omega) (by omega)
     exact⟨z,by rw[iI,s6 hex]; exact v1,v2⟩
theorem column(hk:k<1048576) (hn:n<1048576) (h:oV o k n m A J M) (f:Fo k M0 M d c p) (hw:Wd k n M) (hd:d<k) (hcn:c<n) (hE:Big k n M E) (st:St k n d E T) (cols:Int) :
  ∃ z,lG (m,cols,(d:Int),(c:Int),A,())=some z∧bM6 o k n d c M0 cols E T z:=by
 have hBig:Big k n M T:=fun i hi x hx=>Nat.le_trans (hE i hi x hx) st.et
 have hEl:∀ i,i<d→∀ x,x<n→(M i x).natAbs≤E:=fun i hi x hx=>hE i (by omega) x hx
 obtain⟨r,f1,f2⟩:=bBG h hk (hBig.cm st.fit) hcn (Nat.le_of_lt hd) cols;unfold lG;obtain⟨N,hN⟩:∃ N,2^64=N+1:=⟨2^64-1,by omega⟩
 rw[hN];cases r with
 | none =>
  have e1:ltI (atv none) 0=true:=by decide
  refine⟨_,?_,m,A,J,M,d,p,rfl,h,f.skip fun i h1 h2=>f2.none rfl i h1 (by omega),hw,.inl ⟨rfl,hE⟩⟩
  rw[iI];simp only[dV,f1,aG,e1,cond_true]
 | some a =>
  obtain⟨q1,q2,q3,q4⟩:=f2.some a rfl;have hak:a<k:=by omega
  obtain⟨m1,A',J',M',s1,s2,s3,s4,s5,s6,s7⟩:=pass h hk hn f hcn hBig hw hEl st.et st.fit hd q1 hak q3 cols f1;have hE':∀ i,i<d→∀ x,x<n→(M' i x).natAbs≤E:=fun i hi x hx=>by rw[s4 i hi]; exact hEl i hi x hx
  have hWi:Wi k (swp M d a) d c E E:=(show Wi k M d c E E from fun i g1 g2=>⟨fun x=>hE.all hw i g2 x,hE.all hw i g2 c⟩).swap q1 hak
  have hpd:swp M d a d=M a:=by simp[swp]
  have hfirst:=s2.first hWi hd (by rw[hpd]; exact q3)
  have hpow:3*(3*(E*E)*E^3)=9*E^5:=by grind
  by_cases hdk:d+1<k
  ·have h9:=st.eu hdk
   rcases hfirst with ⟨hz,g1⟩|g1
   ·have hBig':Big k n M' T:=fun i hi x hx=>by
     rcases Nat.lt_or_ge i d with g|g
     ·exact Nat.le_trans (hE' i g x hx) st.et
     ·have:=(g1 i g hi).1 x
      have h3:3*(E*E)*1≤3*(E*E)*E^3:=Nat.mul_le_mul_left _ (Nat.pow_pos st.e1);omega
    obtain⟨A2,M2,p2,u1,u2,u3,u4,u5⟩:=s7 hz hBig';exact⟨_,by rw[iI,u1],m1,A2,J',M2,d+1,p2,rfl,u2,u3,u4,.inr ⟨rfl,u5⟩⟩
   ·obtain⟨E1,b1,i0,b2,b3,b4,b5⟩:=g1.ex
    have hPt:Pt k M' d c (T*T):=by
     refine⟨i0,b2,b3,b4,Nat.mul_le_mul ?_ ?_⟩
     ·rw[s2.1,hpd]; exact hBig a hak c hcn
     ·have h1:=(g1.sign i0 b2 b3).1
      rw[s2.1,hpd]at h1;exact Nat.le_trans (Nat.le_of_lt h1) (hBig a hak c hcn)
    have hT2:T*T<2^(8*Lib.nDigits (T+1)):=by
     have h1:=bIQ (lV (T+1));have h2:(T+1)*(T+1)<2^(4*Lib.nDigits (T+1))*2^(4*Lib.nDigits (T+1)):=Nat.mul_lt_mul'' h1 h1;rw[← Nat.pow_add]at h2;have h3:4*Lib.nDigits (T+1)+4*Lib.nDigits (T+1)=8*Lib.nDigits (T+1):=by omega
     rw[h3]at h2;have h4:T*T≤(T+1)*(T+1):=Nat.mul_le_mul (by omega) (by omega)
     omega
    have hex:∃ i,d<i∧i<k∧M' i c≠0:=⟨i0,b2,b3,b4⟩;obtain⟨z,v1,v2⟩:=rounds hk hn hcn st.fit st.et (C:=3*(E*E)*E^3) (by omega) cols (8*Lib.nDigits (T+1)) N (T*T) s1 s3 s5 hE' g1 hPt hT2 (by have:=st.fit; have:xM=400000:=rfl; omega)
    exact⟨z,by rw[iI,s6 hex]; exact v1,v2⟩
  ·have hz:∀ i,d<i→i<k→M' i c=0:=fun i g1 g2=>by omega
   have hBig':Big k n M' T:=fun i hi x hx=>by
    rcases Nat.lt_or_ge i d with g|g
    ·exact Nat.le_trans (hE' i g x hx) st.et
    ·have:i=d:=by omega
     subst this;rw[s2.1,hpd];exact hBig a hak x hx
   obtain⟨A2,M2,p2,u1,u2,u3,u4,u5⟩:=s7 hz hBig';exact⟨_,by rw[iI,u1],m1,A2,J',M2,d+1,p2,rfl,u2,u3,u4,.inr ⟨rfl,u5⟩⟩
structure Bds (k n:Nat) (E T:Nat→Nat):Prop where
 st:∀ d,d<k→d<n→St k n d (E d) (T d)
 up:∀ d,d<k→d<n→E d+(E d+1)*T d≤E (d+1)
theorem bL1 {d t:Nat} {p:Nat→Nat} {M':Nat→V} (h:Fo k M M' d t p):d≤t:=by
 have:∀ i,i<d→i≤p i:=by
  intro i
  induction i with
  | zero=>exact fun _=>Nat.zero_le _
  | succ i ih=>intro hi; have:=ih (by omega); have:=h.inc i (i+1) (by omega) hi; omega
 rcases Nat.eq_zero_or_pos d with h0|h0
 ·omega
 ·have:=this (d-1) (by omega); have:=h.lt (d-1) (by omega); omega
theorem aYZ {E T:Nat→Nat} (hk:k<1048576) (hn:n<1048576) (h:oV o k n m A J M) (hw:Wd k n M) (hE:Big k n M (E 0)) (hb:Bds k n E T) :
  ∃ m' A' J' M' d p,dE m ((n:Int),()) A=some (m'.take d,A')∧d≤k∧oV o k n m' A' J' M'∧Hn d M' p∧Same k M d M'∧Wd k n M'∧Big k n M' (E d):=by
 have fin:∀ (N:Nat) {m':List (Nat×Nat×Nat)} {A':List (List ByteArray)} {J':Nat→Nat} {M':Nat→V} {d t:Nat} {p:Nat→Nat},t≤n→n-t<N→oV o k n m' A' J' M'→Fo k M M' d t p→Wd k n M'→Big k n M' (E d) →
   ∃ z,bZ fL N (m',(n:Int),(d:Int),(t:Int),A',())=some z∧∃ (m':List (Nat×Nat×Nat)) (A':List (List ByteArray)) (J':Nat→Nat) (M':Nat→V) (d:Nat) (p:Nat→Nat),z=(m',(d:Int),A',())∧oV o k n m' A' J' M'∧(d≤k∧Hn d M' p∧Same k M d M')∧Wd k n M'∧Big k n M' (E d):=by
  intro N
  induction N with
  | zero=>intro m' A' J' M' d t p h1 h2; omega
  | succ N ih =>
   intro m' A' J' M' d t p h1 h2 hL hF hW hB;rw[iI];rcases Nat.lt_or_ge t n with ht|ht
   ·have e1:ltI (t:Int) (n:Int)=true:=by rw[aI]; exact decide_eq_true (by omega)
    rcases Nat.lt_or_ge d k with hd|hd
    ·have e2:ltI (d:Int) (m'.length:Int)=true:=by rw[aI,hL.len]; exact decide_eq_true (by omega)
     obtain⟨z,z1,m2,A2,J2,M2,d2,p2,rfl,y1,y2,y3,y4⟩:=column hk hn hL hF hW hd ht hB (hb.st d hd (Nat.lt_of_le_of_lt (bL1 hF) ht)) (n:Int);have e3:=cY t (by omega)
     have hs:fL (m',(n:Int),(d:Int),(t:Int),A',())=some (.inl (m2,(n:Int),(d2:Int),((t+1:Nat):Int),A2,())):=by
      simp only[fL,e1,e2,cond_true,z1,aG,e3]
     rw[hs];refine ih (by omega) (by omega) y1 y2 y3 ?_
     rcases y4 with ⟨rfl,y4⟩|⟨rfl,y4⟩
     ·exact y4
     ·exact fun i hi x hx=>Nat.le_trans (y4 i hi x hx) (hb.up d hd (Nat.lt_of_le_of_lt (bL1 hF) ht))
    ·have hdk:d=k:=by have:=hF.le; omega
     have e2:ltI (d:Int) (m'.length:Int)=false:=by rw[aI,hL.len]; exact decide_eq_false (by omega)
     refine⟨_,by simp only[fL,e1,e2,cond_true,cond_false],m',A',J',M',d,p,rfl,hL,⟨hF.le,hF.hn (.inl hdk)⟩,hW,hB⟩
   ·have htn:t=n:=by omega
    subst htn;have e1:ltI (t:Int) (t:Int)=false:=by rw[aI]; exact decide_eq_false (by omega)
    refine⟨_,by simp only[fL,e1,cond_false],m',A',J',M',d,p,rfl,hL,⟨hF.le,hF.hn (.inr fun i hi x hx=>hW i hi x hx)⟩,hW,hB⟩
 obtain⟨z,z1,m',A',J',M',d,p,rfl,y1,⟨y2,y3,y4⟩,y5,y6⟩:=fin (2^64) (Nat.zero_le n) (by omega) h (Fo.start k M) hw hE
 refine⟨m',A',J',M',d,p,?_,y2,y1,y3,y4,y5,y6⟩;have z2:qC (m,(n:Int),0,0,A,())=some (m',(d:Int),A',()):=z1;have e4:ltI (d:Int) 0=false:=by rw[aI]; exact decide_eq_false (by omega)
 have e5:((d:Nat):Int).toNat=d:=Int.toNat_natCast _;have hl:=y1.len;unfold dE;simp only[z2,aG,hl,e4,e5,Bool.not_false,cond_true]
 by_cases hk0:k=0
 ·have hd0:d=0:=by omega
  subst hk0; subst hd0;have:m'=[]:=List.eq_nil_of_length_eq_zero hl;subst this;rfl
 ·have e6:Nat.beq k 0=false:=by
   cases k with
   | zero=>exact absurd rfl hk0
   | succ k=>rfl
  have e7:Nat.ble 0 d=true:=rfl;have e8:Nat.ble d k=true:=by rw[gY]; simpa using y2
  have e9:Nat.blt 0 k=true:=by rw[cX]; simp; omega
  simp only[e6,e7,e8,e9,cond_true,cond_false,Nat.sub_zero]
end
end Go.PM
namespace Go.PM
open Go Go.RowKit Go.Proofs
set_option maxRecDepth 100000
set_option maxHeartbeats 4000000
def aFF(x:aJ [.int .i64]):Option (aJ [.bool]):=match x with
 | (v0,()) =>
  bif !(ltI v0 (-1000000000)) then
   some (!(ltI 1000000000 v0),())
  else some (false,())
noncomputable def aUI:Code:=aT Tryz.f146
abbrev a6K:Env:=b8 []
theorem a7Y:bE Tryz.prog a6K:=bF trivial
def a01(id:Nat):Option aS:=none
theorem a4A:aF aUI=[]:=by kernel_rfl
theorem a88:∀ x,cI Tryz.prog a6K Tryz.f146 (aD Tryz.f146) a01 aUI _ _ x=aFF x:=by
 rintro⟨v0,⟨⟩⟩
 kernel_rfl
theorem bD3:eB Tryz.prog 146 _ _ aFF:=by
 exact bL aK a7Y Tryz.func146 (c:=aUI) (by kernel_rfl) (aZ:=aD Tryz.f146) (lt:=a01) (aE a4A trivial) a88
abbrev a4W:Ent:=⟨146,_,_,aFF⟩
theorem a79:Ent.OK Tryz.prog a4W:=bD3
def OH(x:aJ [.int .i64]):Option (aJ [.bool]):=match x with
 | (v0,()) =>
  aC (aFF (v0,())) fun y1 =>
  bif y1.1 then
   some (false,())
  else some (true,())
noncomputable def aFW:Code:=aT Tryz.f145
abbrev aR3:Env:=b8 [a4W]
theorem aYQ:bE Tryz.prog aR3:=bF ⟨a79,trivial⟩
def aO8(id:Nat):Option aS:=none
theorem aVA:aF aFW=[]:=by kernel_rfl
theorem aX8:∀ x,cI Tryz.prog aR3 Tryz.f145 (aD Tryz.f145) aO8 aFW _ _ x=OH x:=by
 rintro⟨v0,⟨⟩⟩
 kernel_rfl
theorem a3U:eB Tryz.prog 145 _ _ OH:=by
 exact bL aK aYQ Tryz.func145 (c:=aFW) (by kernel_rfl) (aZ:=aD Tryz.f145) (lt:=aO8) (aE aVA trivial) aX8
abbrev aRW:Ent:=⟨145,_,_,OH⟩
theorem aXM:Ent.OK Tryz.prog aRW:=a3U
abbrev eW:List (Nat×Kd):=[(0,.list TyE),(1,.fn 145),(7,.int .i64),(8,.int .i64)]
abbrev gK:List (Ex×List (Nat×Kd)):=[(.ret,[(4,.int .i64)]),(.exit 0,[])]
def eA(x:Shape.den eW):Option (Shape.den eW⊕aW gK):=match x with
 | (v0,v1,v7,v8,()) =>
  bif ltI v8 v7 then
   bif aL v8 v0.length then aC (OH ((v0.getD v8.toNat 0),())) fun y2 =>
   bif y2.1 then
    some (.inr (.inl (v8,())))
   else some (.inl (v0,(),v7,(aB .i64 (v8+1)),())) else none
  else some (.inr (.inr ((()))))
def kE(x:Shape.den eW):Option (aW gK):=bZ eA (2^64) x
def jD(x:aJ [.list TyE,.fn 145]):Option (aJ [.int .i64]):=match x with
 | (v0,v1,()) =>
  aC (kE (v0,(),(v0.length:Int),0,())) fun z3 =>
  BN z3 (fun a4=>some (a4.1,())) fun b5 =>
  some ((-1),())
noncomputable def oK:Code:=aT Tryz.f197
abbrev tY:Env:=b8 [aRW]
theorem zH:bE Tryz.prog tY:=bF ⟨aXM,trivial⟩
noncomputable def gV:Code:=dS oK 0
def sS(id:Nat):Option aS:=bif Nat.beq id 2 then some ⟨eW,gK,kE⟩ else none
theorem KF:∀ x,dM Tryz.prog tY 19 (aD Tryz.f197) sS gV eW gK x=eA x:=by
 rintro⟨v0,v1,v7,v8,⟨⟩⟩
 kernel_rfl
theorem M7:aF gV=[]:=by kernel_rfl
theorem KB:aH gV=2:=by kernel_rfl
theorem KR:cF Tryz.prog 19 gV ⟨eW,gK,kE⟩:=by
 exact cC zH.callee aK.mixed _ (aE M7 trivial) KF
theorem LL:aF oK=[gV]:=by kernel_rfl
theorem NK:∀ x,cI Tryz.prog tY Tryz.f197 (aD Tryz.f197) sS oK _ _ x=jD x:=by
 rintro⟨v0,v1,⟨⟩⟩
 kernel_rfl
theorem OT:eB Tryz.prog 197 _ _ jD:=by
 exact bL aK zH Tryz.func197 (c:=oK) (by kernel_rfl) (aZ:=aD Tryz.f197) (lt:=sS) (aE LL ⟨cB KB rfl KR,trivial⟩) NK
abbrev CJ:Ent:=⟨197,_,_,jD⟩
theorem NB:Ent.OK Tryz.prog CJ:=OT
def gL(x:aJ [.list TyE,.fn 145]):Option (aJ [.bool]):=match x with
 | (v0,v1,()) =>
  aC (jD (v0,(),())) fun y1 =>
  some (!(ltI y1.1 0),())
noncomputable def rM:Code:=aT Tryz.f144
abbrev zJ:Env:=b8 [CJ]
theorem JX:bE Tryz.prog zJ:=bF ⟨NB,trivial⟩
def yD(id:Nat):Option aS:=none
theorem I1:aF rM=[]:=by kernel_rfl
theorem KH:∀ x,cI Tryz.prog zJ Tryz.f144 (aD Tryz.f144) yD rM _ _ x=gL x:=by
 rintro⟨v0,v1,⟨⟩⟩
 kernel_rfl
theorem L0:eB Tryz.prog 144 _ _ gL:=by
 exact bL aK JX Tryz.func144 (c:=rM) (by kernel_rfl) (aZ:=aD Tryz.f144) (lt:=yD) (aE I1 trivial) KH
abbrev zL:Ent:=⟨144,_,_,gL⟩
theorem KM:Ent.OK Tryz.prog zL:=L0
def EJ(x:aJ [.list TyE]):Option (aJ [.int .i64]):=match x with
 | (v0,()) =>
  bif ltI 64 (v0.length:Int) then
   some (4,())
  else aC (gL (v0,(),())) fun y1 =>
  bif y1.1 then
   some (4,())
  else some (0,())
noncomputable def aQZ:Code:=aT Tryz.f103
abbrev a0O:Env:=b8 [zL]
theorem a2T:bE Tryz.prog a0O:=bF ⟨KM,trivial⟩
def aXI(id:Nat):Option aS:=none
theorem a2C:aF aQZ=[]:=by kernel_rfl
theorem a38:∀ x,cI Tryz.prog a0O Tryz.f103 (aD Tryz.f103) aXI aQZ _ _ x=EJ x:=by
 rintro⟨v0,⟨⟩⟩
 kernel_rfl
theorem bAA:eB Tryz.prog 103 _ _ EJ:=by
 exact bL aK a2T Tryz.func103 (c:=aQZ) (by kernel_rfl) (aZ:=aD Tryz.f103) (lt:=aXI) (aE a2C trivial) a38
abbrev aP8:Ent:=⟨103,_,_,EJ⟩
theorem aOW:Ent.OK Tryz.prog aP8:=bAA
abbrev xX:List (Nat×Kd):=[(1,.int .i64),(8,.list TyD),(9,.int .i64),(10,.int .i64)]
abbrev CQ:List (Ex×List (Nat×Kd)):=[(.ret,[(4,.int .i64)]),(.exit 0,[])]
def uG(x:Shape.den xX):Option (Shape.den xX⊕aW CQ):=match x with
 | (v1,v8,v9,v10,()) =>
  bif ltI v10 v9 then
   bif aL v10 v8.length then aC (EJ ((v8.getD v10.toNat []),())) fun y2 =>
   bif !(eqI y2.1 0) then
    some (.inr (.inl (y2.1,())))
   else bif !(eqI ((v8.getD v10.toNat []).length:Int) v1) then
    some (.inr (.inl (5,())))
   else some (.inl (v1,v8,v9,(aB .i64 (v10+1)),())) else none
  else some (.inr (.inr ((()))))
def D6(x:Shape.den xX):Option (aW CQ):=bZ uG (2^64) x
def FW(x:aJ [.list TyD,.int .i64]):Option (aJ [.int .i64]):=match x with
 | (v0,v1,()) =>
  aC (D6 (v1,v0,(v0.length:Int),0,())) fun z3 =>
  BN z3 (fun a4=>some (a4.1,())) fun b5 =>
  some (0,())
noncomputable def Q2:Code:=aT Tryz.f177
abbrev aCO:Env:=b8 [aP8]
theorem aD5:bE Tryz.prog aCO:=bF ⟨aOW,trivial⟩
noncomputable def FD:Code:=dS Q2 0
def XJ(id:Nat):Option aS:=bif Nat.beq id 2 then some ⟨xX,CQ,D6⟩ else none
theorem aOA:∀ x,dM Tryz.prog aCO 24 (aD Tryz.f177) XJ FD xX CQ x=uG x:=by
 rintro⟨v1,v8,v9,v10,⟨⟩⟩
 kernel_rfl
theorem aVL:aF FD=[]:=by kernel_rfl
theorem aOE:aH FD=2:=by kernel_rfl
theorem aQK:cF Tryz.prog 24 FD ⟨xX,CQ,D6⟩:=by
 exact cC aD5.callee aK.mixed _ (aE aVL trivial) aOA
theorem aTZ:aF Q2=[FD]:=by kernel_rfl
theorem aVR:∀ x,cI Tryz.prog aCO Tryz.f177 (aD Tryz.f177) XJ Q2 _ _ x=FW x:=by
 rintro⟨v0,v1,⟨⟩⟩
 kernel_rfl
theorem a0S:eB Tryz.prog 177 _ _ FW:=by
 exact bL aK aD5 Tryz.func177 (c:=Q2) (by kernel_rfl) (aZ:=aD Tryz.f177) (lt:=XJ) (aE aTZ ⟨cB aOE rfl aQK,trivial⟩) aVR
abbrev aOZ:Ent:=⟨177,_,_,FW⟩
theorem aV1:Ent.OK Tryz.prog aOZ:=a0S
def yF(x:aJ [.int .i64,.list TyD]):Option (aJ [.int .i64]):=match x with
 | (v0,v1,()) =>
  bif ltI v0 0 then
   some (3,())
  else bif ltI 12 v0 then
   some (3,())
  else bif ltI 12 (v1.length:Int) then
   some (4,())
  else aC (FW (v1,v0,())) fun y1 =>
  some (y1.1,())
noncomputable def ZN:Code:=aT Tryz.f128
abbrev aLH:Env:=b8 [aOZ]
theorem aR4:bE Tryz.prog aLH:=bF ⟨aV1,trivial⟩
def aID(id:Nat):Option aS:=none
theorem aQN:aF ZN=[]:=by kernel_rfl
theorem aSU:∀ x,cI Tryz.prog aLH Tryz.f128 (aD Tryz.f128) aID ZN _ _ x=yF x:=by
 rintro⟨v0,v1,⟨⟩⟩
 kernel_rfl
theorem aYI:eB Tryz.prog 128 _ _ yF:=by
 exact bL aK aR4 Tryz.func128 (c:=ZN) (by kernel_rfl) (aZ:=aD Tryz.f128) (lt:=aID) (aE aQN trivial) aSU
abbrev YT:Ent:=⟨128,_,_,yF⟩
theorem aA8:Ent.OK Tryz.prog YT:=aYI
abbrev jJ:List (Nat×Kd):=[(4,.bag 98 TyE 53 TyD none),(6,.bag 98 TyE 53 TyD none),(13,.own 148 (.hnd 1)),(14,.int .i64),(15,.int .i64),(100000,.ar 110 .str)]
abbrev nJ:List (Ex×List (Nat×Kd)):=[(.ret,[(4,.bag 98 TyE 53 TyD none),(5,.int .i64),(100000,.ar 110 .str)]),(.exit 0,[(4,.bag 98 TyE 53 TyD none),(6,.bag 98 TyE 53 TyD none),(100000,.ar 110 .str)])]
def gT(x:Shape.den jJ):Option (Shape.den jJ⊕aW nJ):=match x with
 | (v4,v6,v13,v14,v15,v100000,()) =>
  bif ltI v15 v14 then
   bif aL v15 v13.length then bif Nat.blt v15.toNat v13.length then aC (mB () (((v13.getD v15.toNat (0,0,0)).1,(v13.getD v15.toNat (0,0,0)).2.1,(v13.getD v15.toNat (0,0,0)).2.2),()) v100000) fun y2 =>
   bif !(eqI y2.1.2.1 0) then
    some (.inr (.inl ((0,([],())),y2.1.2.1,y2.2,())))
   else bif Nat.ble [y2.1.1].length 1048576 then bif Nat.ble v6.2.1.length 1048576 then some (.inl ((v4.1,(v4.2.1,())),(v6.1,((v6.2.1++[y2.1.1]),())),v13,v14,(aB .i64 (v15+1)),y2.2,())) else none else none else none else none
  else some (.inr (.inr (((v4.1,(v4.2.1,())),(v6.1,(v6.2.1,())),v100000,()))))
def qH(x:Shape.den jJ):Option (aW nJ):=bZ gT (2^64) x
def dF(v0:List (Nat×Nat×Nat)) (x:aJ [.int .i64]) (A:List (List ByteArray)):Option ((aJ [.agg TyH,.int .i64])×List (List ByteArray)):=match x with
 | (v1,()) =>
  aC (qH ((0,([],())),(v1,([],())),v0,(v0.length:Int),0,A,())) fun z3 =>
  BN z3 (fun a4=>some (((a4.1.1,a4.1.2.1),a4.2.1,()),a4.2.2.1)) fun b5 =>
  some (((b5.2.1.1,b5.2.1.2.1),0,()),b5.2.2.1)
noncomputable def vQ:Code:=aT Tryz.f123
abbrev CU:Env:=R2 [] [PE]
theorem HT:bE Tryz.prog CU:=qF trivial ⟨aDD,trivial⟩
noncomputable def oN:Code:=inLoop (a95 vQ 0)
def A5(id:Nat):Option aS:=bif Nat.beq id 3 then some ⟨jJ,nJ,qH⟩ else none
def BJ(id:Nat):Option aS:=none
theorem SX:aH oN=3:=by kernel_rfl
theorem ZJ:gR oN=[]:=by kernel_rfl
theorem R0:∀ x,a7O Tryz.prog CU 36 (aPD Tryz.f123) A5 BJ false [] oN jJ nJ x=gT x:=by
 rintro⟨v4,v6,v13,v14,v15,v100000,⟨⟩⟩
 kernel_rfl
theorem S5:aEU Tryz.prog 36 false [] (.loop oN) ⟨jJ,nJ,qH⟩:=by
 exact a1O HT.callee aK.mixed _ (aF8 ZJ trivial) R0
theorem VL:gR vQ=[.loop oN]:=by kernel_rfl
theorem Y2:∀ l x A,bCU Tryz.prog CU Tryz.f123 (aPD Tryz.f123) A5 BJ vQ 110 .str (.own 148 (.hnd 1)) [.int .i64] (.data [.agg TyH,.int .i64]) l x A=dF l x A:=by
 rintro u0 ⟨v1,⟨⟩⟩ A
 kernel_rfl
theorem aCR:SR Tryz.prog 123 110 .str (.own 148 (.hnd 1)) [.int .i64] (.data [.agg TyH,.int .i64]) dF:=by
 exact bK6 aK HT Tryz.func123 (c:=vQ) (by kernel_rfl) (aZ:=aPD Tryz.f123) (lt:=A5) (rt:=BJ) (by rfl) (aF8 VL ⟨a1F SX rfl S5,trivial⟩) Y2
abbrev nA:Shr:=(123,aAO 1 (arH 110 .str (.own 148 (.hnd 1)) [.int .i64] (.data [.agg TyH,.int .i64]) dF))
theorem nW:zK Tryz.prog nA:=uK (g:=123) (f:=arH 110 .str (.own 148 (.hnd 1)) [.int .i64] (.data [.agg TyH,.int .i64]) dF) (IF aCR)
def DY(x:aJ [.int .i64,.list TyD]):Option (aJ [.agg TyH,.int .i64]):=match x with
 | (v0,v1,()) =>
  aC (yF (v0,v1,())) fun y1 =>
  bif !(eqI y1.1 0) then
   some ((0,[]),y1.1,())
  else aC (eP () (v1,()) []) fun y2 =>
  aC (dE y2.1 (v0,()) y2.2) fun y3 =>
  aC (dF y3.1 (v0,()) y3.2) fun y4 =>
  some ((y4.1.1.1,y4.1.1.2),y4.1.2.1,())
noncomputable def aMG:Code:=aT Tryz.f86
abbrev aW5:Env:=R2 [YT] [wU,nB,nA]
theorem a0Q:bE Tryz.prog aW5:=qF ⟨aA8,trivial⟩ ⟨xN,nG,nW,trivial⟩
def aUC(id:Nat):Option aS:=none
theorem aXR:aF aMG=[]:=by kernel_rfl
theorem a2L:∀ x,aO5 Tryz.prog aW5 Tryz.f86 (aD Tryz.f86) aUC aMG 110 .str _ _ x=DY x:=by
 rintro⟨v0,v1,⟨⟩⟩
 kernel_rfl
theorem a8L:eB Tryz.prog 86 _ _ DY:=by
 exact aWT aK a0Q Tryz.func86 (c:=aMG) (by kernel_rfl) (aZ:=aD Tryz.f86) (lt:=aUC) (aE aXR trivial) a2L
abbrev aMT:Ent:=⟨86,_,_,DY⟩
theorem aMW:Ent.OK Tryz.prog aMT:=a8L
end Go.PM
namespace Go.PM
open Go Go.RowKit Go.Proofs Go.Lz
set_option maxRecDepth 100000
def qP(r:List Int):V:=fun x=>r.getD x 0
def aM7(m:List (List Int)):Nat→V:=fun i=>qP (m.getD i [])
def Vr(n:Nat) (v:V):List Int:=(List.range n).map v
theorem bEP(r:List Int):Zr r.length (qP r)=r.map Zn:=by
 refine List.ext_getElem? fun i=>?_
 simp only[Zr,List.getElem?_map]
 by_cases h:i<r.length
 ·rw[List.getElem?_range h,List.getElem?_eq_getElem h]
  simp[qP,List.getD,h]
 ·have h1:(List.range r.length)[i]?=none:=by simp; omega
  rw[h1,List.getElem?_eq_none (by omega)]; rfl
theorem a6X {n:Nat} {v:V} (hw:∀ x,n≤x→v x=0):qP (Vr n v)=v:=by
 funext x
 unfold qP Vr
 by_cases h:x<n
 ·simp[List.getD,h]
 ·have h1:(List.range n)[x]?=none:=by simp; omega
  simp[List.getD,h1,hw x (by omega)]
theorem bAV(n:Int) (h:Lib.nDigits n.natAbs≤18):JI (Zn n,())=some (n,true,()):=by
 have hl:=aL6 h;have hs:(Zn n).size≤1000000000:=by
  rcases(by omega:n<0∨0≤n)with g|g
  ·rw[M4 g]; omega
  ·rw[aBW g,I0]; omega
 have e1:Nat.ble (Zn n).size 1000000000=true:=by rw[gY]; simpa using hs
 have e2:eqI 10 10=true:=by decide
 have e3:eqI 64 64=true:=by decide
 have e4:Lib.parseIntB 64 (Zn n).data.toList=.ok n:=by
  have hne:∀ c r,Lib.decDigits n.natAbs=c::r→c.toNat≠43∧c.toNat≠45:=fun c r he=>by
   have:=Q0 n.natAbs c (by rw[he]; simp)
   omega
  have hmag:=a4Q n.natAbs;rw[D4]at hmag;have hlen:(Lib.decDigits n.natAbs).length≤18:=by rw[Lib.decDigits_length]; exact h
  rw[Lib.parseIntB_64];rcases(by omega:n<0∨0≤n)with g|g
  ·have hn : -(n.natAbs:Int)=n:=by omega
   rw[aFU g,Lib.atoiAll_minus,Lib.signed_short hlen,hmag];simp only[Option.map_some,hn];rfl
  ·have hn:(n.natAbs:Int)=n:=by omega
   rw[aBW g,D4];cases he:Lib.decDigits n.natAbs with
   | nil=>exact absurd he (OD _)
   | cons c r =>
    obtain⟨h1,h2⟩:=hne c r he;rw[Lib.atoiAll_plain c r h1 h2,← he,Lib.signless_short hlen,hmag];simp only[Option.map_some,hn];rfl
 unfold JI AG;simp only[e1,e2,e3,Bool.and_self,cond_true,e4,aG]
theorem aWW(r:List Int) (hl:r.length≤1048576) (hr:∀ a∈r,-9223372036854775808≤a∧a<9223372036854775808) :
  zC ([],r,(r.length:Int),0,())=some (r.map Zn,()):=by
 have key:=bI (step:=tA) (N:=2^64) (fun t=>((r.take t).map Zn,r,(r.length:Int),(t:Int),())) r.length (r.map Zn,()) (by omega) (fun t ht=>?_) ?_
 ·exact key
 ·have e1:ltI (t:Int) (r.length:Int)=true:=by rw[aI]; exact decide_eq_true (by omega)
  have e2:aL (t:Int) r.length=true:=by rw[aR]; exact decide_eq_true (by omega)
  have e3:((t:Nat):Int).toNat=t:=Int.toNat_natCast _;have e4:r.getD t 0=r[t]:=by simp[List.getD,ht]
  obtain⟨b1,b2⟩:=hr r[t] (List.getElem_mem ht);have e5:=yN r[t] b1 b2;have e6:Nat.ble [Zn r[t]].length 1048576=true:=rfl;have e7:Nat.ble ((r.take t).map Zn).length 1048576=true:=by rw[gY,List.length_map,List.length_take]; exact decide_eq_true (by omega)
  have e8:=cY t (by omega)
  have e9:(r.take t).map Zn++[Zn r[t]]=(r.take (t+1)).map Zn:=by
   rw[List.take_succ_eq_append_getElem ht,List.map_append]; rfl
  simp only[tA,e1,e2,e3,e4,e5,aG,e6,e7,cond_true,e8,e9]
 ·have e1:ltI (r.length:Int) (r.length:Int)=false:=by rw[aI]; exact decide_eq_false (by omega)
  simp only[tA,e1,cond_false,List.take_length]
theorem aUZ(r:List Int) (hl:r.length≤1048576) (hr:∀ a∈r,-9223372036854775808≤a∧a<9223372036854775808):q9 (r,())=some (r.map Zn):=by
 have e1:ltI (r.length:Int) 0=false:=by rw[aI]; exact decide_eq_false (by omega)
 have e2:ltI 1048576 (r.length:Int)=false:=by rw[aI]; exact decide_eq_false (by omega)
 unfold q9;simp only[e1,e2,Bool.not_false,cond_true,List.replicate_zero,aWW r hl hr,aG]
theorem a0X(rows:List (List Int)) {n:Nat} (hk:rows.length<1048576) (hn:n<1048576) (hlen:∀ r∈rows,r.length=n) (hr:∀ r∈rows,∀ a∈r,-9223372036854775808≤a∧a<9223372036854775808) :
  ∃ m A,eP () (rows,()) []=some (m,A)∧oV 0 rows.length n m A (fun i=>i) (aM7 rows):=by
 have key:=bI (step:=lW) (N:=2^64)
  (fun t=>((List.range t).map (fun i=>(i,0,n)),rows,(rows.length:Int),(t:Int),(rows.take t).map (·.map Zn),())) rows.length ((List.range rows.length).map (fun i=>(i,0,n)),rows.map (·.map Zn),()) (by omega) (fun t ht=>?_) ?_
 ·refine⟨(List.range rows.length).map (fun i=>(i,0,n)),rows.map (·.map Zn),?_,rfl,fun i hi=>⟨[],rfl,?_⟩,fun i j _ _ h=>h⟩
  ·unfold eP uW
   have key:bZ lW (2^64) ([],rows,(rows.length:Int),0,[],())=_:=key;simp only[key,aG]
  ·rw[List.getElem?_map,List.getElem?_eq_getElem hi]
   simp only[Option.map_some,List.nil_append]
   congr 1
   have h1:aM7 rows i=qP rows[i]:=by unfold aM7; simp[List.getD,hi]
   rw[h1,← bEP,hlen rows[i] (List.getElem_mem hi)]
 ·have e1:ltI (t:Int) (rows.length:Int)=true:=by rw[aI]; exact decide_eq_true (by omega)
  have e2:aL (t:Int) rows.length=true:=by rw[aR]; exact decide_eq_true (by omega)
  have e3:((t:Nat):Int).toNat=t:=Int.toNat_natCast _;have e4:rows.getD t []=rows[t]:=by simp[List.getD,ht]
  have hm:=List.getElem_mem ht;have e5:=aUZ rows[t] (by rw[hlen _ hm]; omega) (hr _ hm)
  have e6:((rows.take t).map (·.map Zn)).length=t:=by rw[List.length_map,List.length_take]; omega
  have e7:Nat.ble [(t,0,n)].length 1048576=true:=rfl;have e8:Nat.ble ((List.range t).map (fun i=>(i,0,n))).length 1048576=true:=by rw[gY,List.length_map,List.length_range]; exact decide_eq_true (by omega)
  have e9:=cY t (by omega)
  have e10:(rows[t].map Zn).length=n:=by rw[List.length_map,hlen _ hm]
  have e11:(rows.take t).map (·.map Zn)++[rows[t].map Zn]=(rows.take (t+1)).map (·.map Zn):=by
   rw[List.take_succ_eq_append_getElem ht,List.map_append]; rfl
  have e12:(List.range t).map (fun i=>(i,0,n))++[(t,0,n)]=(List.range (t+1)).map (fun i=>(i,0,n)):=by
   rw[List.range_succ,List.map_append]; rfl
  simp only[lW,e1,e2,e3,e4,e5,aG,e6,e7,e8,e9,e10,e11,e12,cond_true]
 ·have e1:ltI (rows.length:Int) (rows.length:Int)=false:=by rw[aI]; exact decide_eq_false (by omega)
  simp only[lW,e1,cond_false,List.take_length]
theorem bF3 {A:List (List ByteArray)} {J o n:Nat} {v:V} {pre:List ByteArray} (hn:n<1048576) (hp:pre.length=o) (hJ:A[J]?=some (pre++Zr n v)) (ok:∀ x,x<n→(v x).natAbs≤1000000000) :
  mB () ((J,o,n),()) A=some ((Vr n v,0,()),A):=by
 have key:=bI (step:=jF) (N:=2^64) (fun t=>(Vr t v,(J,o,n),(n:Int),(t:Int),A,())) n (.inr (Vr n v,A,())) (by omega) (fun t ht=>?_) ?_
 ·have e1:ltI (n:Int) 0=false:=by rw[aI]; exact decide_eq_false (by omega)
  have e2:ltI 1048576 (n:Int)=false:=by rw[aI]; exact decide_eq_false (by omega)
  have key:bZ jF (2^64) ([],(J,o,n),(n:Int),0,A,())=_:=key;unfold mB rV;simp only[e1,e2,Bool.not_false,cond_true,List.replicate_zero,key,aG,lR]
 ·have b1:=ok t ht
  have e1:ltI (t:Int) (n:Int)=true:=by rw[aI]; exact decide_eq_true (by omega)
  have e2:aL (t:Int) n=true:=by rw[aR]; exact decide_eq_true (by omega)
  have e3:(o+((t:Nat):Int).toNat)*1=o+t:=by simp
  have e4:dH A J=o+n:=by rw[dH,aSG _ hJ,List.length_append,lZ,hp]
  have e6:Nat.blt (o+t) (o+n)=true:=by rw[cX]; simpa using ht
  have e7:eD A J (o+t) ByteArray.empty=Zn (v t):=by rw[eD,aSG _ hJ,aM8 hp,W5 _ ht]
  have e8:=bAV (v t) (by have:=wN (u:=(v t).natAbs) (k:=17) (by omega); omega)
  have e9:ltI 1000000000 (v t)=false:=by rw[aI]; exact decide_eq_false (by omega)
  have e10:ltI (v t) (-1000000000)=false:=by rw[aI]; exact decide_eq_false (by omega)
  have e11:Nat.ble [v t].length 1048576=true:=rfl;have e12:Nat.ble (Vr t v).length 1048576=true:=by rw[gY]; unfold Vr; rw[List.length_map,List.length_range]; exact decide_eq_true (by omega)
  have e13:=cY t (by omega)
  have e14:Vr t v++[v t]=Vr (t+1) v:=by unfold Vr; rw[List.range_succ,List.map_append]; rfl
  simp only[jF,e1,e2,e3,e4,e6,e7,e8,e9,e10,e11,e12,e13,e14,aG,cond_true,cond_false]
 ·have e1:ltI (n:Int) (n:Int)=false:=by rw[aI]; exact decide_eq_false (by omega)
  simp only[jF,e1,cond_false]
theorem a2Q {o k d n:Nat} {m:List (Nat×Nat×Nat)} {A:List (List ByteArray)} {J:Nat→Nat} {M:Nat→V} (h:oV o k n m A J M) (hd:d≤k) (hk:k<1048576) (hn:n<1048576) (ok:∀ i,i<d→∀ x,x<n→(M i x).natAbs≤1000000000) (cols:Int) :
  dF (m.take d) (cols,()) A=some (((cols,(List.range d).map fun i=>Vr n (M i)),0,()),A):=by
 have hl:(m.take d).length=d:=by rw[List.length_take,h.len]; omega
 have hg:∀ t,t<d→(m.take d).getD t (0,0,0)=(J t,o,n):=fun t ht=>by
  rw[← h.get (show t<k by omega)]
  simp[List.getD,List.getElem?_take,ht]
 have key:=bI (step:=gT) (N:=2^64)
  (fun t=>((0,([],())),(cols,((List.range t).map (fun i=>Vr n (M i)),())),m.take d,((m.take d).length:Int),(t:Int),A,())) d (.inr ((0,([],())),(cols,((List.range d).map (fun i=>Vr n (M i)),())),A,())) (by omega) (fun t ht=>?_) ?_
 ·have key:bZ gT (2^64) ((0,([],())),(cols,([],())),m.take d,((m.take d).length:Int),0,A,())=_:=key
  unfold dF qH;simp only[key,aG,lR]
 ·rw[hl]
  obtain⟨pre,h1,h2⟩:=h.at_ t (by omega)
  have e1:ltI (t:Int) (d:Int)=true:=by rw[aI]; exact decide_eq_true (by omega)
  have e2:aL (t:Int) d=true:=by rw[aR]; exact decide_eq_true (by omega)
  have e3:((t:Nat):Int).toNat=t:=Int.toNat_natCast _;have e4:Nat.blt t d=true:=by rw[cX]; simpa using ht
  have e5:=bF3 hn h1 h2 (ok t ht);have e6:eqI 0 0=true:=by decide
  have e7:Nat.ble [Vr n (M t)].length 1048576=true:=rfl;have e8:Nat.ble ((List.range t).map (fun i=>Vr n (M i))).length 1048576=true:=by rw[gY,List.length_map,List.length_range]; exact decide_eq_true (by omega)
  have e9:=cY t (by omega)
  have e10:(List.range t).map (fun i=>Vr n (M i))++[Vr n (M t)]=(List.range (t+1)).map (fun i=>Vr n (M i)):=by rw[List.range_succ,List.map_append]; rfl
  simp only[gT,hl,e1,e2,e3,e4,hg t ht,e5,e6,e7,e8,e9,e10,aG,cond_true,Bool.not_true,cond_false]
 ·rw[hl]
  have e1:ltI (d:Int) (d:Int)=false:=by rw[aI]; exact decide_eq_false (by omega)
  simp only[gT,e1,cond_false]
theorem aRY(r:List Int) (hl:r.length≤64) (hr:∀ a∈r,a.natAbs≤1000000000):EJ (r,())=some (0,()):=by
 have key:=bI (step:=eA) (N:=2^64) (fun t=>(r,(),(r.length:Int),(t:Int),())) r.length (.inr ()) (by omega) (fun t ht=>?_) ?_
 ·have key:bZ eA (2^64) (r,(),(r.length:Int),0,())=some (.inr ()):=key
  have e1:ltI 64 (r.length:Int)=false:=by rw[aI]; exact decide_eq_false (by omega)
  have e2:ltI (-1) 0=true:=by decide
  simp only[EJ,e1,cond_false,gL,jD,kE,key,aG,lR,e2,Bool.not_true]
 ·have e1:ltI (t:Int) (r.length:Int)=true:=by rw[aI]; exact decide_eq_true (by omega)
  have e2:aL (t:Int) r.length=true:=by rw[aR]; exact decide_eq_true (by omega)
  have e3:((t:Nat):Int).toNat=t:=Int.toNat_natCast _;have e4:r.getD t 0=r[t]:=by simp[List.getD,ht]
  have b:=hr r[t] (List.getElem_mem ht);have e5:ltI r[t] (-1000000000)=false:=by rw[aI]; exact decide_eq_false (by omega)
  have e6:ltI 1000000000 r[t]=false:=by rw[aI]; exact decide_eq_false (by omega)
  have e7:=cY t (by omega)
  simp only[eA,e1,e2,e3,e4,OH,aFF,e5,e6,aG,Bool.not_false,cond_true,cond_false,e7]
 ·have e1:ltI (r.length:Int) (r.length:Int)=false:=by rw[aI]; exact decide_eq_false (by omega)
  simp only[eA,e1,cond_false]
theorem bBP(rows:List (List Int)) {n:Nat} (hk:rows.length<1048576) (hn:n≤64) (hlen:∀ r∈rows,r.length=n) (hr:∀ r∈rows,∀ a∈r,a.natAbs≤1000000000):FW (rows,(n:Int),())=some (0,()):=by
 have key:=bI (step:=uG) (N:=2^64) (fun t=>((n:Int),rows,(rows.length:Int),(t:Int),())) rows.length (.inr ()) (by omega) (fun t ht=>?_) ?_
 ·have key:bZ uG (2^64) ((n:Int),rows,(rows.length:Int),0,())=some (.inr ()):=key
  simp only[FW,D6,key,aG,lR]
 ·have e1:ltI (t:Int) (rows.length:Int)=true:=by rw[aI]; exact decide_eq_true (by omega)
  have e2:aL (t:Int) rows.length=true:=by rw[aR]; exact decide_eq_true (by omega)
  have e3:((t:Nat):Int).toNat=t:=Int.toNat_natCast _;have e4:rows.getD t []=rows[t]:=by simp[List.getD,ht]
  have hm:=List.getElem_mem ht;have e5:=aRY rows[t] (by rw[hlen _ hm]; exact hn) (hr _ hm)
  have e6:eqI 0 0=true:=by decide
  have e7:eqI (rows[t].length:Int) (n:Int)=true:=by rw[jS,hlen _ hm]; exact decide_eq_true rfl
  have e8:=cY t (by omega)
  simp only[uG,e1,e2,e3,e4,e5,aG,e6,e7,e8,Bool.not_true,cond_true,cond_false]
 ·have e1:ltI (rows.length:Int) (rows.length:Int)=false:=by rw[aI]; exact decide_eq_false (by omega)
  simp only[uG,e1,cond_false]
theorem bBT(rows:List (List Int)) {n:Nat} (hk:rows.length≤12) (hn:n≤12) (hlen:∀ r∈rows,r.length=n) (hr:∀ r∈rows,∀ a∈r,a.natAbs≤1000000000):yF ((n:Int),rows,())=some (0,()):=by
 have e1:ltI (n:Int) 0=false:=by rw[aI]; exact decide_eq_false (by omega)
 have e2:ltI 12 (n:Int)=false:=by rw[aI]; exact decide_eq_false (by omega)
 have e3:ltI 12 (rows.length:Int)=false:=by rw[aI]; exact decide_eq_false (by omega)
 simp only[yF,e1,e2,e3,cond_false,bBP rows (by omega) (by omega) hlen hr,aG]
theorem of_eq(rows:List (List Int)) {n:Nat} (hk:rows.length≤12) (hn:n≤12) (hlen:∀ r∈rows,r.length=n) {E T:Nat→Nat} (hr:∀ r∈rows,∀ a∈r,a.natAbs≤E 0) (hE:E 0≤1000000000) (hb:Bds rows.length n E T)
  (hfin:∀ d M p,d≤rows.length→Hn d M p→Same rows.length (aM7 rows) d M→(∀ i,i<d→∀ x,n≤x→M i x=0)→∀ i,i<d→∀ x,x<n→(M i x).natAbs≤1000000000) :
  ∃ d M p,DY ((n:Int),rows,())=some (((n:Int),(List.range d).map fun i=>Vr n (M i)),0,())∧d≤rows.length∧Hn d M p∧Same rows.length (aM7 rows) d M∧(∀ i,i<d→∀ x,n≤x→M i x=0)∧∀ i,i<d→∀ x,x<n→(M i x).natAbs≤1000000000:=by
 obtain⟨m,A,h1,h2⟩:=a0X rows (n:=n) (by omega) (by omega) hlen (fun r h a ha=>by have:=hr r h a ha; omega)
 have hrow:∀ i,i<rows.length→∃ r,r∈rows∧aM7 rows i=qP r:=fun i hi=>⟨rows[i],List.getElem_mem hi,by unfold aM7; simp[List.getD,hi]⟩
 have hw:Wd rows.length n (aM7 rows):=fun i hi x hx=>by
  obtain⟨r,hr1,hr2⟩:=hrow i hi;rw[hr2]; unfold qP;have:=hlen r hr1;simp[List.getD,List.getElem?_eq_none (show r.length≤x by omega)]
 have hB:Big rows.length n (aM7 rows) (E 0):=fun i hi x hx=>by
  obtain⟨r,hr1,hr2⟩:=hrow i hi;rw[hr2]; unfold qP;have hl:=hlen r hr1;have:r.getD x 0=r[x]'(by omega):=by simp[List.getD,show x<r.length by omega]
  rw[this];exact hr r hr1 _ (List.getElem_mem _)
 obtain⟨m',A',J',M',d,p,g1,g2,g3,g4,g5,g6,g7⟩:=aYZ (by omega) (by omega) h2 hw hB hb
 have hwd:∀ i,i<d→∀ x,n≤x→M' i x=0:=fun i hi x hx=>g6 i (by omega) x hx
 have hf:=hfin d M' p g2 g4 g5 hwd;refine⟨d,M',p,?_,g2,g4,g5,hwd,hf⟩;have e0:eqI 0 0=true:=by decide
 simp only[DY,bBT rows hk hn hlen (fun r h a ha=>Nat.le_trans (hr r h a ha) hE),aG,e0,Bool.not_true,cond_false,h1,g1,a2Q g3 g2 (by omega) (by omega) hf (n:Int)]
end Go.PM
namespace Go.PM
open Go Go.RowKit Go.Proofs
set_option maxRecDepth 100000
set_option maxHeartbeats 4000000
abbrev sI:List (Nat×Kd):=[(3,.own 110 .str),(9,.list TyE),(10,.int .i64),(11,.int .i64)]
abbrev wR:List (Ex×List (Nat×Kd)):=[(.exit 0,[(3,.own 110 .str)])]
def O5(x:Shape.den sI):Option (Shape.den sI⊕aW wR):=match x with
 | (v3,v9,v10,v11,()) =>
  bif ltI v11 v10 then
   bif aL v11 v9.length then aC (j3 ((v9.getD v11.toNat 0),())) fun y2 =>
   bif Nat.ble [y2.1].length 1048576 then bif Nat.ble v3.length 1048576 then some (.inl ((v3++[y2.1]),v9,v10,(aB .i64 (v11+1)),())) else none else none else none
  else some (.inr ((v3,())))
def yZ(x:Shape.den sI):Option (aW wR):=bZ O5 (2^64) x
def lU(x:aJ [.list TyE]):Option (aJ [.list .str]):=match x with
 | (v0,()) =>
  bif !(ltI (v0.length:Int) 0) then bif !(ltI 1048576 (v0.length:Int)) then aC (yZ ((List.replicate 0 ByteArray.empty),v0,(v0.length:Int),0,())) fun z3 =>
  some (z3.1,()) else none else none
noncomputable def JJ:Code:=aT Tryz.f119
abbrev PY:Env:=b8 [QO]
theorem UM:bE Tryz.prog PY:=bF ⟨JG,trivial⟩
noncomputable def yB:Code:=dS JJ 0
def N3(id:Nat):Option aS:=bif Nat.beq id 3 then some ⟨sI,wR,yZ⟩ else none
theorem aHT:∀ x,dM Tryz.prog PY 22 (aD Tryz.f119) N3 yB sI wR x=O5 x:=by
 rintro⟨v3,v9,v10,v11,⟨⟩⟩
 kernel_rfl
theorem aNT:aF yB=[]:=by kernel_rfl
theorem aHC:aH yB=3:=by kernel_rfl
theorem aKF:cF Tryz.prog 22 yB ⟨sI,wR,yZ⟩:=by
 exact cC UM.callee aK.mixed _ (aE aNT trivial) aHT
theorem aLS:aF JJ=[yB]:=by kernel_rfl
theorem aN0:∀ x,cI Tryz.prog PY Tryz.f119 (aD Tryz.f119) N3 JJ _ _ x=lU x:=by
 rintro⟨v0,⟨⟩⟩
 kernel_rfl
theorem aUE:eB Tryz.prog 119 _ _ lU:=by
 exact bL aK UM Tryz.func119 (c:=JJ) (by kernel_rfl) (aZ:=aD Tryz.f119) (lt:=N3) (aE aLS ⟨cB aHC rfl aKF,trivial⟩) aN0
abbrev QD:Ent:=⟨119,_,_,lU⟩
theorem UU:Ent.OK Tryz.prog QD:=aUE
abbrev gI:List (Nat×Kd):=[(0,.val),(7,.list TyD),(8,.int .i64),(9,.int .i64)]
abbrev kI:List (Ex×List (Nat×Kd)):=[(.exit 0,[])]
def iX(x:Shape.den gI):Option (List (Value×aJ [.int .i64,.list .str])×(Shape.den gI⊕aW kI)):=match x with
 | (v0,v7,v8,v9,()) =>
  bif ltI v9 v8 then
   bif aL v9 v7.length then aC (lU ((v7.getD v9.toNat []),())) fun y3 =>
   aC (iD (y3.1,())) fun y4 =>
   outs [(v0,(y4.1,y3.1,()))] (some ([],.inl (v0,v7,v8,(aB .i64 (v9+1)),()))) else none
  else some ([],.inr ((())))
def nC(x:Shape.den gI):Option (List (Value×aJ [.int .i64,.list .str])×aW kI):=aWU iX (2^64) x
def yR(v0:Value) (x:XZ [TyH]):Option (List (Value×aJ [.int .i64,.list .str])):=match x with
 | (v1,()) =>
  bLU (bEY (nC (v0,v1.2,(v1.2.length:Int),0,())) fun z5 =>
  some ([],()))
noncomputable def r8:Code:=aT Tryz.f239
abbrev yU:Env:=R2 [QD,MB] []
theorem DX:bE Tryz.prog yU:=qF ⟨UU,PB,trivial⟩ trivial
noncomputable def lI:Code:=inLoop (a95 r8 0)
def xD(id:Nat):Option aS:=none
def xE(id:Nat):Option (aFS (Value×aJ [.int .i64,.list .str])):=bif Nat.beq id 1 then some ⟨gI,kI,nC⟩ else none
theorem NM:aH lI=1:=by kernel_rfl
theorem Q8:gR lI=[]:=by kernel_rfl
theorem OJ:∀ x,bJX Tryz.prog yU 22 (aD Tryz.f239) xD [.int .i64,.list .str] xE lI gI kI x=iX x:=by
 rintro⟨v0,v7,v8,v9,⟨⟩⟩
 kernel_rfl
theorem OW:bE9 Tryz.prog 22 [.int .i64,.list .str] lI ⟨gI,kI,nC⟩:=by
 exact bI0 DX.callee aK.mixed _ (a9V Q8 trivial) OJ
theorem PJ:gR r8=[.loop lI]:=by kernel_rfl
theorem RK:∀ v0 x,bJ5 Tryz.prog yU Tryz.f239 (aD Tryz.f239) xD [.int .i64,.list .str] xE r8 [TyH] v0 x=yR v0 x:=by
 rintro v0 ⟨v1,⟨⟩⟩
 kernel_rfl
theorem RP {f:XZ [TyH]→Option (List (aJ [.int .i64,.list .str]))} (h:∀ yv x all,f x=some all→yR yv x=some (all.map fun e=>(yv,e))):a1D Tryz.prog 239 [TyH] [.int .i64,.list .str] f:=by
 exact bK3 aK DX Tryz.func239 (c:=r8) (by kernel_rfl) (by kernel_rfl) (aZ:=aD Tryz.f239) (lt:=xD) (li:=xE) (a9V PJ ⟨bIF NM rfl rfl OW,trivial⟩) (fun yv x all hx=>(RK yv x).trans (h yv x all hx))
def aZ8:List (List Int)→Option (List (aJ [.int .i64,.list .str]))
 | []=>some []
 | r::l=>aC (lU (r,())) fun y=>aC (iD (y.1,())) fun z=>aC (aZ8 l) fun rest=>some ((z.1,y.1,())::rest)
def aR8(x:XZ [TyH]):Option (List (aJ [.int .i64,.list .str])):=match x with
 | ((_,b),())=>bif Nat.ble b.length 1048576 then aZ8 b else none
theorem aWS(yv:Value) (l:List (List Int)) (hl:l.length≤1048576):∀ (rest pre:List (List Int)) (all:List (aJ [.int .i64,.list .str])) (N:Nat),aZ8 rest=some all→pre++rest=l→rest.length<N →
  aWU iX N (yv,l,(l.length:Int),(pre.length:Int),())=some (all.map fun e=>(yv,e),())
 | [],pre,all,N+1,h,hp,_=>by
  obtain rfl:=Option.some.inj h;rw[List.append_nil]at hp;subst hp;have h1:ltI (pre.length:Int) (pre.length:Int)=false:=by simp[aI]
  simp only[aWU,iX,h1,cond_false];rfl
 | r::rest,pre,all,N+1,h,hp,hN=>by
  obtain⟨y,hy,h⟩:=CX h;obtain⟨z,hz,h⟩:=CX h;obtain⟨all',ha,h⟩:=CX h;obtain rfl:=Option.some.inj h;have hlen:l.length=pre.length+(rest.length+1):=by rw[← hp]; simp
  have h1:ltI (pre.length:Int) (l.length:Int)=true:=by simp[aI]; omega
  have h2:aL (pre.length:Int) l.length=true:=by simp[aR]; omega
  have h3:l.getD ((pre.length:Int)).toNat []=r:=by rw[← hp]; simp
  have h4:=aWS yv l hl rest (pre++[r]) all' N ha (by rw[← hp]; simp) (by simp at hN; omega)
  have h5:aB .i64 ((pre.length:Int)+1)=((pre++[r]).length:Int):=by rw[wrap64 (by omega) (by omega)]; simp
  simp only[aWU,iX,h1,cond_true,h2,h3,hy,aG,hz,outs,h5];rw[h4];rfl
theorem bGM:a1D Tryz.prog 239 [TyH] [.int .i64,.list .str] aR8:=by
 refine RP ?_;rintro yv ⟨⟨n,b⟩,⟨⟩⟩ all h;unfold aR8 at h;dsimp only at h;obtain⟨hb,h⟩:=aO h;have hb:=Nat.le_of_ble_eq_true hb;have:=aWS yv b hb b [] all (2^64) h rfl (by omega)
 unfold yR;dsimp only;unfold nC;have h0:((([]:List (List Int)).length:Nat):Int)=0:=rfl;rw[h0]at this;rw[this];simp[bEY,outs,bLU]
end Go.PM
namespace Go.PM
open Go Go.RowKit Go.Proofs
set_option maxRecDepth 100000
set_option maxHeartbeats 4000000
def OB(x:aJ [.int .i64]):Option (aJ [.bool]):=match x with
 | (v0,()) =>
  bif ltI 1000000000 v0 then
   some (true,())
  else some (ltI v0 (-1000000000),())
noncomputable def aIB:Code:=aT Tryz.f172
abbrev aR9:Env:=b8 []
theorem aYV:bE Tryz.prog aR9:=bF trivial
def aOY(id:Nat):Option aS:=none
theorem aU8:aF aIB=[]:=by kernel_rfl
theorem aYE:∀ x,cI Tryz.prog aR9 Tryz.f172 (aD Tryz.f172) aOY aIB _ _ x=OB x:=by
 rintro⟨v0,⟨⟩⟩
 kernel_rfl
theorem a4D:eB Tryz.prog 172 _ _ OB:=by
 exact bL aK aYV Tryz.func172 (c:=aIB) (by kernel_rfl) (aZ:=aD Tryz.f172) (lt:=aOY) (aE aU8 trivial) aYE
abbrev aT2:Ent:=⟨172,_,_,OB⟩
theorem aX4:Ent.OK Tryz.prog aT2:=a4D
abbrev eV:List (Nat×Kd):=[(0,.list TyE),(1,.fn 172),(7,.int .i64),(8,.int .i64)]
abbrev gN:List (Ex×List (Nat×Kd)):=[(.ret,[(4,.int .i64)]),(.exit 0,[])]
def dY(x:Shape.den eV):Option (Shape.den eV⊕aW gN):=match x with
 | (v0,v1,v7,v8,()) =>
  bif ltI v8 v7 then
   bif aL v8 v0.length then aC (OB ((v0.getD v8.toNat 0),())) fun y2 =>
   bif y2.1 then
    some (.inr (.inl (v8,())))
   else some (.inl (v0,(),v7,(aB .i64 (v8+1)),())) else none
  else some (.inr (.inr ((()))))
def kA(x:Shape.den eV):Option (aW gN):=bZ dY (2^64) x
def jQ(x:aJ [.list TyE,.fn 172]):Option (aJ [.int .i64]):=match x with
 | (v0,v1,()) =>
  aC (kA (v0,(),(v0.length:Int),0,())) fun z3 =>
  BN z3 (fun a4=>some (a4.1,())) fun b5 =>
  some ((-1),())
noncomputable def oL:Code:=aT Tryz.f197
abbrev uF:Env:=b8 [aT2]
theorem zI:bE Tryz.prog uF:=bF ⟨aX4,trivial⟩
noncomputable def iB:Code:=dS oL 0
def sR(id:Nat):Option aS:=bif Nat.beq id 2 then some ⟨eV,gN,kA⟩ else none
theorem KL:∀ x,dM Tryz.prog uF 19 (aD Tryz.f197) sR iB eV gN x=dY x:=by
 rintro⟨v0,v1,v7,v8,⟨⟩⟩
 kernel_rfl
theorem NH:aF iB=[]:=by kernel_rfl
theorem KE:aH iB=2:=by kernel_rfl
theorem KS:cF Tryz.prog 19 iB ⟨eV,gN,kA⟩:=by
 exact cC zI.callee aK.mixed _ (aE NH trivial) KL
theorem LS:aF oL=[iB]:=by kernel_rfl
theorem NF:∀ x,cI Tryz.prog uF Tryz.f197 (aD Tryz.f197) sR oL _ _ x=jQ x:=by
 rintro⟨v0,v1,⟨⟩⟩
 kernel_rfl
theorem O1:eB Tryz.prog 197 _ _ jQ:=by
 exact bL aK zI Tryz.func197 (c:=oL) (by kernel_rfl) (aZ:=aD Tryz.f197) (lt:=sR) (aE LS ⟨cB KE rfl KS,trivial⟩) NF
abbrev CV:Ent:=⟨197,_,_,jQ⟩
theorem NL:Ent.OK Tryz.prog CV:=O1
def eU(x:aJ [.list TyE,.fn 172]):Option (aJ [.bool]):=match x with
 | (v0,v1,()) =>
  aC (jQ (v0,(),())) fun y1 =>
  some (!(ltI y1.1 0),())
noncomputable def rN:Code:=aT Tryz.f144
abbrev zF:Env:=b8 [CV]
theorem KG:bE Tryz.prog zF:=bF ⟨NL,trivial⟩
def yJ(id:Nat):Option aS:=none
theorem JL:aF rN=[]:=by kernel_rfl
theorem J3:∀ x,cI Tryz.prog zF Tryz.f144 (aD Tryz.f144) yJ rN _ _ x=eU x:=by
 rintro⟨v0,v1,⟨⟩⟩
 kernel_rfl
theorem L8:eB Tryz.prog 144 _ _ eU:=by
 exact bL aK KG Tryz.func144 (c:=rN) (by kernel_rfl) (aZ:=aD Tryz.f144) (lt:=yJ) (aE JL trivial) J3
abbrev zM:Ent:=⟨144,_,_,eU⟩
theorem J5:Ent.OK Tryz.prog zM:=L8
abbrev AA:List (Nat×Kd):=[(0,.list TyD),(8,.list TyD),(9,.int .i64),(10,.int .i64)]
abbrev E8:List (Ex×List (Nat×Kd)):=[(.ret,[(2,.int .i64)]),(.exit 0,[])]
def wC(x:Shape.den AA):Option (Shape.den AA⊕aW E8):=match x with
 | (v0,v8,v9,v10,()) =>
  bif ltI v10 v9 then
   bif aL v10 v8.length then bif ltI 12 ((v8.getD v10.toNat []).length:Int) then
    some (.inr (.inl (4,())))
   else bif aL 0 v0.length then bif !(eqI ((v8.getD v10.toNat []).length:Int) ((v0.getD 0 []).length:Int)) then
    some (.inr (.inl (5,())))
   else aC (eU ((v8.getD v10.toNat []),(),())) fun y2 =>
   bif y2.1 then
    some (.inr (.inl (4,())))
   else some (.inl (v0,v8,v9,(aB .i64 (v10+1)),())) else none else none
  else some (.inr (.inr ((()))))
def HG(x:Shape.den AA):Option (aW E8):=bZ wC (2^64) x
def I6(x:aJ [.list TyD]):Option (aJ [.int .i64]):=match x with
 | (v0,()) =>
  bif ltI 12 (v0.length:Int) then
   some (4,())
  else aC (HG (v0,v0,(v0.length:Int),0,())) fun z3 =>
  BN z3 (fun a4=>some (a4.1,())) fun b5 =>
  some (0,())
noncomputable def VT:Code:=aT Tryz.f125
abbrev aH3:Env:=b8 [zM]
theorem aIF:bE Tryz.prog aH3:=bF ⟨J5,trivial⟩
noncomputable def HL:Code:=dS VT 0
def aB4(id:Nat):Option aS:=bif Nat.beq id 4 then some ⟨AA,E8,HG⟩ else none
theorem aRQ:∀ x,dM Tryz.prog aH3 30 (aD Tryz.f125) aB4 HL AA E8 x=wC x:=by
 rintro⟨v0,v8,v9,v10,⟨⟩⟩
 kernel_rfl
theorem aXT:aF HL=[]:=by kernel_rfl
theorem aQ3:aH HL=4:=by kernel_rfl
theorem aT5:cF Tryz.prog 30 HL ⟨AA,E8,HG⟩:=by
 exact cC aIF.callee aK.mixed _ (aE aXT trivial) aRQ
theorem aWA:aF VT=[HL]:=by kernel_rfl
theorem aYC:∀ x,cI Tryz.prog aH3 Tryz.f125 (aD Tryz.f125) aB4 VT _ _ x=I6 x:=by
 rintro⟨v0,⟨⟩⟩
 kernel_rfl
theorem a3L:eB Tryz.prog 125 _ _ I6:=by
 exact bL aK aIF Tryz.func125 (c:=VT) (by kernel_rfl) (aZ:=aD Tryz.f125) (lt:=aB4) (aE aWA ⟨cB aQ3 rfl aT5,trivial⟩) aYC
abbrev aS1:Ent:=⟨125,_,_,I6⟩
theorem aYJ:Ent.OK Tryz.prog aS1:=a3L
def xY(x:aJ [.int .i64]):Option (aJ [.bool]):=match x with
 | (v0,()) =>
  some (!(eqI v0 0),())
noncomputable def P1:Code:=aT Tryz.f211
abbrev aE8:Env:=b8 []
theorem aOK:bE Tryz.prog aE8:=bF trivial
def aA2(id:Nat):Option aS:=none
theorem aMI:aF P1=[]:=by kernel_rfl
theorem aOC:∀ x,cI Tryz.prog aE8 Tryz.f211 (aD Tryz.f211) aA2 P1 _ _ x=xY x:=by
 rintro⟨v0,⟨⟩⟩
 kernel_rfl
theorem aSA:eB Tryz.prog 211 _ _ xY:=by
 exact bL aK aOK Tryz.func211 (c:=P1) (by kernel_rfl) (aZ:=aD Tryz.f211) (lt:=aA2) (aE aMI trivial) aOC
abbrev aDJ:Ent:=⟨211,_,_,xY⟩
theorem aNP:Ent.OK Tryz.prog aDJ:=aSA
abbrev eX:List (Nat×Kd):=[(0,.list TyE),(1,.fn 211),(7,.int .i64),(8,.int .i64)]
abbrev gM:List (Ex×List (Nat×Kd)):=[(.ret,[(4,.int .i64)]),(.exit 0,[])]
def dZ(x:Shape.den eX):Option (Shape.den eX⊕aW gM):=match x with
 | (v0,v1,v7,v8,()) =>
  bif ltI v8 v7 then
   bif aL v8 v0.length then aC (xY ((v0.getD v8.toNat 0),())) fun y2 =>
   bif y2.1 then
    some (.inr (.inl (v8,())))
   else some (.inl (v0,(),v7,(aB .i64 (v8+1)),())) else none
  else some (.inr (.inr ((()))))
def kC(x:Shape.den eX):Option (aW gM):=bZ dZ (2^64) x
def jG(x:aJ [.list TyE,.fn 211]):Option (aJ [.int .i64]):=match x with
 | (v0,v1,()) =>
  aC (kC (v0,(),(v0.length:Int),0,())) fun z3 =>
  BN z3 (fun a4=>some (a4.1,())) fun b5 =>
  some ((-1),())
noncomputable def oG:Code:=aT Tryz.f197
abbrev uA:Env:=b8 [aDJ]
theorem zG:bE Tryz.prog uA:=bF ⟨aNP,trivial⟩
noncomputable def hZ:Code:=dS oG 0
def sQ(id:Nat):Option aS:=bif Nat.beq id 2 then some ⟨eX,gM,kC⟩ else none
theorem J4:∀ x,dM Tryz.prog uA 19 (aD Tryz.f197) sQ hZ eX gM x=dZ x:=by
 rintro⟨v0,v1,v7,v8,⟨⟩⟩
 kernel_rfl
theorem NG:aF hZ=[]:=by kernel_rfl
theorem KI:aH hZ=2:=by kernel_rfl
theorem K8:cF Tryz.prog 19 hZ ⟨eX,gM,kC⟩:=by
 exact cC zG.callee aK.mixed _ (aE NG trivial) J4
theorem LX:aF oG=[hZ]:=by kernel_rfl
theorem NC:∀ x,cI Tryz.prog uA Tryz.f197 (aD Tryz.f197) sQ oG _ _ x=jG x:=by
 rintro⟨v0,v1,⟨⟩⟩
 kernel_rfl
theorem OY:eB Tryz.prog 197 _ _ jG:=by
 exact bL aK zG Tryz.func197 (c:=oG) (by kernel_rfl) (aZ:=aD Tryz.f197) (lt:=sQ) (aE LX ⟨cB KI rfl K8,trivial⟩) NC
abbrev DA:Ent:=⟨197,_,_,jG⟩
theorem NI:Ent.OK Tryz.prog DA:=OY
def C2(x:aJ [.list TyE]):Option (aJ [.int .i64]):=match x with
 | (v0,()) =>
  aC (jG (v0,(),())) fun y1 =>
  some (y1.1,())
noncomputable def XO:Code:=aT Tryz.f173
abbrev aL7:Env:=b8 [DA]
theorem aUH:bE Tryz.prog aL7:=bF ⟨NI,trivial⟩
def aIG(id:Nat):Option aS:=none
theorem aP5:aF XO=[]:=by kernel_rfl
theorem aUB:∀ x,cI Tryz.prog aL7 Tryz.f173 (aD Tryz.f173) aIG XO _ _ x=C2 x:=by
 rintro⟨v0,⟨⟩⟩
 kernel_rfl
theorem aYS:eB Tryz.prog 173 _ _ C2:=by
 exact bL aK aUH Tryz.func173 (c:=XO) (by kernel_rfl) (aZ:=aD Tryz.f173) (lt:=aIG) (aE aP5 trivial) aUB
abbrev aK9:Ent:=⟨173,_,_,C2⟩
theorem aR0:Ent.OK Tryz.prog aK9:=aYS
def yW(x:aJ [.list TyE,.ptr TyE,.ptr TyD]):Option (aJ [.bool]):=match x with
 | (v0,v1,v2,()) =>
  bif aL v1 v0.length then bif ltI (v0.getD v1.toNat 0) 0 then
   some (true,())
  else bif aL v1 v0.length then bif aL v1 v2.length then some (!(ltI (v0.getD v1.toNat 0) (v2.getD v1.toNat 0)),()) else none else none else none
noncomputable def LU:Code:=aT Tryz.f174
abbrev YC:Env:=b8 []
theorem aIX:bE Tryz.prog YC:=bF trivial
def UH(id:Nat):Option aS:=none
theorem aG9:aF LU=[]:=by kernel_rfl
theorem aJN:∀ x,cI Tryz.prog YC Tryz.f174 (aD Tryz.f174) UH LU _ _ x=yW x:=by
 rintro⟨v0,v1,v2,⟨⟩⟩
 kernel_rfl
theorem aN7:eB Tryz.prog 174 _ _ yW:=by
 exact bL aK aIX Tryz.func174 (c:=LU) (by kernel_rfl) (aZ:=aD Tryz.f174) (lt:=UH) (aE aG9 trivial) aJN
abbrev ZT:Ent:=⟨174,_,_,yW⟩
theorem aKD:Ent.OK Tryz.prog ZT:=aN7
abbrev cV:List (Nat×Kd):=[(0,.list TyD),(1,.clo 174 [TyE,TyD]),(7,.int .i64),(8,.int .i64)]
abbrev eC:List (Ex×List (Nat×Kd)):=[(.ret,[(4,.int .i64)]),(.exit 0,[])]
def cL(x:Shape.den cV):Option (Shape.den cV⊕aW eC):=match x with
 | (v0,v1,v7,v8,()) =>
  bif ltI v8 v7 then
   bif aL v8 v0.length then aC (yW ((v0.getD v8.toNat []),v1.1,v1.2.1,())) fun y2 =>
   bif y2.1 then
    some (.inr (.inl (v8,())))
   else some (.inl (v0,(v1.1,v1.2.1,()),v7,(aB .i64 (v8+1)),())) else none
  else some (.inr (.inr ((()))))
def fT(x:Shape.den cV):Option (aW eC):=bZ cL (2^64) x
def fD(x:aJ [.list TyD,.clo 174 [TyE,TyD]]):Option (aJ [.int .i64]):=match x with
 | (v0,v1,()) =>
  aC (fT (v0,(v1.1,v1.2.1,()),(v0.length:Int),0,())) fun z3 =>
  BN z3 (fun a4=>some (a4.1,())) fun b5 =>
  some ((-1),())
noncomputable def iS:Code:=aT Tryz.f100
abbrev oF:Env:=b8 [ZT]
theorem tQ:bE Tryz.prog oF:=bF ⟨aKD,trivial⟩
noncomputable def eM:Code:=dS iS 0
def n7(id:Nat):Option aS:=bif Nat.beq id 2 then some ⟨cV,eC,fT⟩ else none
theorem DN:∀ x,dM Tryz.prog oF 19 (aD Tryz.f100) n7 eM cV eC x=cL x:=by
 rintro⟨v0,v1,v7,v8,⟨⟩⟩
 kernel_rfl
theorem GH:aF eM=[]:=by kernel_rfl
theorem DP:aH eM=2:=by kernel_rfl
theorem ED:cF Tryz.prog 19 eM ⟨cV,eC,fT⟩:=by
 exact cC tQ.callee aK.mixed _ (aE GH trivial) DN
theorem FR:aF iS=[eM]:=by kernel_rfl
theorem GI:∀ x,cI Tryz.prog oF Tryz.f100 (aD Tryz.f100) n7 iS _ _ x=fD x:=by
 rintro⟨v0,v1,⟨⟩⟩
 kernel_rfl
theorem HQ:eB Tryz.prog 100 _ _ fD:=by
 exact bL aK tQ Tryz.func100 (c:=iS) (by kernel_rfl) (aZ:=aD Tryz.f100) (lt:=n7) (aE FR ⟨cB DP rfl ED,trivial⟩) GI
abbrev wF:Ent:=⟨100,_,_,fD⟩
theorem GL:Ent.OK Tryz.prog wF:=HQ
def cW(x:aJ [.list TyD,.clo 174 [TyE,TyD]]):Option (aJ [.bool]):=match x with
 | (v0,v1,()) =>
  aC (fD (v0,(v1.1,v1.2.1,()),())) fun y1 =>
  some (!(ltI y1.1 0),())
noncomputable def l9:Code:=aT Tryz.f43
abbrev tG:Env:=b8 [wF]
theorem DG:bE Tryz.prog tG:=bF ⟨GL,trivial⟩
def sP(id:Nat):Option aS:=none
theorem C3:aF l9=[]:=by kernel_rfl
theorem DQ:∀ x,cI Tryz.prog tG Tryz.f43 (aD Tryz.f43) sP l9 _ _ x=cW x:=by
 rintro⟨v0,v1,⟨⟩⟩
 kernel_rfl
theorem FT:eB Tryz.prog 43 _ _ cW:=by
 exact bL aK DG Tryz.func43 (c:=l9) (by kernel_rfl) (aZ:=aD Tryz.f43) (lt:=sP) (aE C3 trivial) DQ
abbrev tV:Ent:=⟨43,_,_,cW⟩
theorem DD:Ent.OK Tryz.prog tV:=FT
abbrev uB:List (Nat×Kd):=[(0,.list TyD),(3,.int .i64),(7,.list TyD),(8,.int .i64),(9,.int .i64)]
abbrev yH:List (Ex×List (Nat×Kd)):=[(.ret,[(2,.bool)]),(.exit 0,[])]
def rC(x:Shape.den uB):Option (Shape.den uB⊕aW yH):=match x with
 | (v0,v3,v7,v8,v9,()) =>
  bif ltI v9 v8 then
   bif aL v9 v7.length then aC (C2 ((v7.getD v9.toNat []),())) fun y3 =>
   bif !(ltI v3 y3.1) then
    some (.inr (.inl (false,())))
   else bif aL y3.1 (v7.getD v9.toNat []).length then bif ltI ((v7.getD v9.toNat []).getD y3.1.toNat 0) 0 then
    some (.inr (.inl (false,())))
   else bif !(ltI v9 0) then bif Nat.ble 0 v9.toNat then bif Nat.ble v9.toNat v0.length then aC (cW (((v0.drop 0).take (v9.toNat-0)),(y3.1,(v7.getD v9.toNat []),()),())) fun y4 =>
   bif y4.1 then
    some (.inr (.inl (false,())))
   else some (.inl (v0,y3.1,v7,v8,(aB .i64 (v9+1)),())) else none else none else none else none else none
  else some (.inr (.inr ((()))))
def A0(x:Shape.den uB):Option (aW yH):=bZ rC (2^64) x
def zY(x:aJ [.list TyD]):Option (aJ [.bool]):=match x with
 | (v0,()) =>
  aC (A0 (v0,(-1),v0,(v0.length:Int),0,())) fun z5 =>
  BN z5 (fun a6=>some (a6.1,())) fun b7 =>
  some (true,())
noncomputable def LI:Code:=aT Tryz.f126
abbrev TF:Env:=b8 [aK9,tV]
theorem YQ:bE Tryz.prog TF:=bF ⟨aR0,DD,trivial⟩
noncomputable def AD:Code:=dS LI 0
def PZ(id:Nat):Option aS:=bif Nat.beq id 3 then some ⟨uB,yH,A0⟩ else none
theorem aJA:∀ x,dM Tryz.prog TF 33 (aD Tryz.f126) PZ AD uB yH x=rC x:=by
 rintro⟨v0,v3,v7,v8,v9,⟨⟩⟩
 kernel_rfl
theorem aPU:aF AD=[]:=by kernel_rfl
theorem aI2:aH AD=3:=by kernel_rfl
theorem aM4:cF Tryz.prog 33 AD ⟨uB,yH,A0⟩:=by
 exact cC YQ.callee aK.mixed _ (aE aPU trivial) aJA
theorem aN4:aF LI=[AD]:=by kernel_rfl
theorem aQ0:∀ x,cI Tryz.prog TF Tryz.f126 (aD Tryz.f126) PZ LI _ _ x=zY x:=by
 rintro⟨v0,⟨⟩⟩
 kernel_rfl
theorem aU5:eB Tryz.prog 126 _ _ zY:=by
 exact bL aK YQ Tryz.func126 (c:=LI) (by kernel_rfl) (aZ:=aD Tryz.f126) (lt:=PZ) (aE aN4 ⟨cB aI2 rfl aM4,trivial⟩) aQ0
abbrev aIL:Ent:=⟨126,_,_,zY⟩
theorem aRI:Ent.OK Tryz.prog aIL:=aU5
def FK(x:aJ [.list TyD]):Option (aJ [.bool,.int .i64]):=match x with
 | (v0,()) =>
  aC (I6 (v0,())) fun y1 =>
  bif !(eqI y1.1 0) then
   some (false,y1.1,())
  else aC (zY (v0,())) fun y2 =>
  some (y2.1,0,())
noncomputable def UB:Code:=aT Tryz.f71
abbrev aIK:Env:=b8 [aIL,aS1]
theorem aP0:bE Tryz.prog aIK:=bF ⟨aRI,aYJ,trivial⟩
def aE5(id:Nat):Option aS:=none
theorem aOF:aF UB=[]:=by kernel_rfl
theorem aRH:∀ x,cI Tryz.prog aIK Tryz.f71 (aD Tryz.f71) aE5 UB _ _ x=FK x:=by
 rintro⟨v0,⟨⟩⟩
 kernel_rfl
theorem aUS:eB Tryz.prog 71 _ _ FK:=by
 exact bL aK aP0 Tryz.func71 (c:=UB) (by kernel_rfl) (aZ:=aD Tryz.f71) (lt:=aE5) (aE aOF trivial) aRH
abbrev aIQ:Ent:=⟨71,_,_,FK⟩
theorem aRJ:Ent.OK Tryz.prog aIQ:=aUS
def lQ(x:aJ [.agg TyH]):Option (aJ [.int .i64]):=match x with
 | (v0,()) =>
  aC (yF (v0.1,v0.2,())) fun y1 =>
  bif !(eqI y1.1 0) then
   some (y1.1,())
  else aC (FK (v0.2,())) fun y2 =>
  bif !(eqI y2.2.1 0) then
   some (7,())
  else bif y2.1 then
   some (0,())
  else some (7,())
noncomputable def ZR:Code:=aT Tryz.f73
abbrev aKP:Env:=b8 [aIQ,YT]
theorem aTC:bE Tryz.prog aKP:=bF ⟨aRJ,aA8,trivial⟩
def aIP(id:Nat):Option aS:=none
theorem aQF:aF ZR=[]:=by kernel_rfl
theorem aT9:∀ x,cI Tryz.prog aKP Tryz.f73 (aD Tryz.f73) aIP ZR _ _ x=lQ x:=by
 rintro⟨v0,⟨⟩⟩
 kernel_rfl
theorem aXQ:eB Tryz.prog 73 _ _ lQ:=by
 exact bL aK aTC Tryz.func73 (c:=ZR) (by kernel_rfl) (aZ:=aD Tryz.f73) (lt:=aIP) (aE aQF trivial) aT9
abbrev HV:Ent:=⟨73,_,_,lQ⟩
theorem HB:Ent.OK Tryz.prog HV:=aXQ
def bEG(x:aJ [.agg TyH,.list TyE]):Option (aJ [.int .i64]):=match x with
 | (v0,v1,()) =>
  aC (lQ ((v0.1,v0.2),())) fun y1 =>
  bif !(eqI y1.1 0) then
   some (y1.1,())
  else aC (EJ (v1,())) fun y2 =>
  bif !(eqI y2.1 0) then
   some (y2.1,())
  else bif !(eqI (v1.length:Int) v0.1) then
   some (5,())
  else some (0,())
def qS(x:aJ [.agg TyH]):Option (aJ [.clo 239 [TyH]]):=match x with
 | (v0,()) =>
  some (((v0.1,v0.2),()),())
noncomputable def C1:Code:=aT Tryz.f225
abbrev MG:Env:=b8 []
theorem YH:bE Tryz.prog MG:=bF trivial
def KW(id:Nat):Option aS:=none
theorem VB:aF C1=[]:=by kernel_rfl
theorem ZK:∀ x,cI Tryz.prog MG Tryz.f225 (aD Tryz.f225) KW C1 _ _ x=qS x:=by
 rintro⟨v0,⟨⟩⟩
 kernel_rfl
theorem aDA:eB Tryz.prog 225 _ _ qS:=by
 exact bL aK YH Tryz.func225 (c:=C1) (by kernel_rfl) (aZ:=aD Tryz.f225) (lt:=KW) (aE VB trivial) ZK
abbrev MU:Ent:=⟨225,_,_,qS⟩
theorem YL:Ent.OK Tryz.prog MU:=aDA
abbrev cZ:List (Nat×Kd):=[(4,.bown 148 110 .str),(5,.bown 148 110 .str),(14,.clo 239 [TyH])]
abbrev gB:List (Ex×List (Nat×Kd)):=[(.normal,[(4,.bown 148 110 .str),(5,.bown 148 110 .str)])]
def lK(x:Shape.den cZ) (e:aJ [.int .i64,.list .str]):Option (Shape.den cZ⊕aW gB):=match x,e with
 | (v4,v5,v14,()),(e0,e1,()) =>
  bif aL e0 v4.length then bif Nat.blt e0.toNat v4.length then bif aL e0 e1.length then aC (xV ((v4.getD e0.toNat ByteArray.empty),(e1.getD e0.toNat ByteArray.empty),())) fun y3 =>
  aC (W9 (t:=.str) kH v4 (y3.1,e1,())) fun y4 =>
  bif Nat.ble [y3.1].length 1048576 then bif Nat.ble v5.length 1048576 then some (.inl (y4,(v5++[y3.1]),((v14.1.1,v14.1.2),()),())) else none else none else none else none else none
def xQ(x:Shape.den cZ):XZ [TyH]:=match x with
 | (v4,v5,v14,())=>((v14.1.1,v14.1.2),())
def lO(x:Shape.den cZ):Option (aW gB):=bJS cZ gB (fun x=>aR8 (xQ x)) lK x
def mZ(x:aJ [.agg TyH,.list TyE]):Option (aJ [.list .str,.list .str]):=match x with
 | (v0,v1,()) =>
  aC (q9 (v1,())) fun y1 =>
  aC (qS ((v0.1,v0.2),())) fun y2 =>
  aC (lO (y1,[],((y2.1.1.1,y2.1.1.2),()),())) fun z5 =>
  some (z5.1,z5.2.1,())
noncomputable def vV:Code:=aT Tryz.f196
abbrev CM:Env:=R2 [MU,aC6] [IZ,PD]
theorem IS:bE Tryz.prog CM:=qF ⟨YL,aEA,trivial⟩ ⟨JZ,aCV,trivial⟩
noncomputable def cD:Code:=a95 vV 0
noncomputable def JP:Code:=inLoop cD
def BG(id:Nat):Option aS:=none
def A7(id:Nat):Option aS:=bif Nat.beq id 5 then some ⟨cZ,gB,lO⟩ else none
theorem RD:aH JP=5:=by kernel_rfl
theorem X1:gR JP=[]:=by kernel_rfl
theorem FI:cD=.rangeFunc (a6G cD) (bG0 cD) (YO cD) (inLoop cD):=by kernel_rfl
theorem RA:∀ y e,a7G Tryz.prog CM 40 (aPD Tryz.f196) BG A7 (bG0 cD).toList (YO cD) (inLoop cD) [.int .i64,.list .str] cZ gB y e=lK y e:=by
 rintro⟨v4,v5,v14,⟨⟩⟩ ⟨e0,e1,⟨⟩⟩
 kernel_rfl
theorem WD:∀ x,bJ3 239 [TyH] cZ (a6G cD) x=some (xQ x):=by
 rintro⟨v4,v5,v14,⟨⟩⟩
 kernel_rfl
theorem S7:aEU Tryz.prog 40 false [] cD ⟨cZ,gB,lO⟩:=by
 exact bFN IS aK FI Tryz.func239 (c:=aT Tryz.f239) (by kernel_rfl) bGM (by kernel_rfl) (aF8 X1 trivial) WD RA
theorem U9:gR vV=[cD]:=by kernel_rfl
theorem Y7:∀ x,bHT Tryz.prog CM Tryz.f196 (aPD Tryz.f196) BG A7 vV [.agg TyH,.list TyE] [.list .str,.list .str] x=mZ x:=by
 rintro⟨v0,v1,⟨⟩⟩
 kernel_rfl
theorem aCU:eB Tryz.prog 196 _ _ mZ:=by
 exact bLT aK IS Tryz.func196 (c:=vV) (by kernel_rfl) (aZ:=aPD Tryz.f196) (lt:=BG) (rt:=A7) (aF8 U9 ⟨bCP FI RD rfl S7,trivial⟩) Y7
abbrev MM:Ent:=⟨196,_,_,mZ⟩
theorem YF:Ent.OK Tryz.prog MM:=aCU
end Go.PM
namespace Go.PM
open Go Go.RowKit Go.Proofs
set_option maxRecDepth 100000
set_option maxHeartbeats 4000000
def pE(u0:Unit) (x:aJ [.int .i64]) (A:List (List ByteArray)):Option ((List ByteArray)×List (List ByteArray)):=match x with
 | (v0,()) =>
  bif !(ltI v0 0) then bif !(ltI v0 v0) then bif !(ltI 1048576 v0) then aC (q9 ((List.replicate v0.toNat 0),())) fun y1 =>
  some (y1,A) else none else none else none
noncomputable def NP:Code:=aT Tryz.f120
abbrev aBM:Env:=R2 [] [IZ]
theorem aLF:bE Tryz.prog aBM:=qF trivial ⟨JZ,trivial⟩
def ZO(id:Nat):Option aS:=none
theorem aJZ:aF NP=[]:=by kernel_rfl
theorem aK8:∀ l x A,JN Tryz.prog aBM Tryz.f120 (aD Tryz.f120) ZO NP 110 .str .none [.int .i64] (.own 110 .str) l x A=pE l x A:=by
 rintro u0 ⟨v0,⟨⟩⟩ A
 kernel_rfl
theorem aRA:SR Tryz.prog 120 110 .str .none [.int .i64] (.own 110 .str) pE:=by
 exact C4 aK aLF Tryz.func120 (c:=NP) (by kernel_rfl) (aZ:=aD Tryz.f120) (lt:=ZO) (by rfl) (aE aJZ trivial) aK8
abbrev ON:Shr:=(120,aAO 0 (arH 110 .str .none [.int .i64] (.own 110 .str) pE))
theorem SM:zK Tryz.prog ON:=uK (g:=120) (f:=arH 110 .str .none [.int .i64] (.own 110 .str) pE) (IF aRA)
abbrev iR:List (Nat×Kd):=[(1,.int .i64),(2,.int .i64),(7,.own 148 (.hnd 1)),(10,.list (.hnd 1)),(11,.int .i64),(12,.int .i64),(100000,.ar 110 .str)]
abbrev mP:List (Ex×List (Nat×Kd)):=[(.exit 0,[(2,.int .i64),(7,.own 148 (.hnd 1)),(100000,.ar 110 .str)])]
def gH(x:Shape.den iR):Option (Shape.den iR⊕aW mP):=match x with
 | (v1,v2,v7,v10,v11,v12,v100000,()) =>
  bif ltI v12 v11 then
   bif aL v12 v10.length then aC (kS () (((v10.getD v12.toNat (0,0,0)).1,(v10.getD v12.toNat (0,0,0)).2.1,(v10.getD v12.toNat (0,0,0)).2.2),()) v100000) fun y2 =>
   bif !(ltI y2.1.1 v1) then
    bif !(ltI v1 0) then bif Nat.ble v1.toNat ((v10.getD v12.toNat (0,0,0)).2.2) then bif Nat.ble ((v10.getD v12.toNat (0,0,0)).2.2) ((v10.getD v12.toNat (0,0,0)).2.2) then bif Nat.ble [((v10.getD v12.toNat (0,0,0)).1,((v10.getD v12.toNat (0,0,0)).2.1+v1.toNat),((v10.getD v12.toNat (0,0,0)).2.2-v1.toNat))].length 1048576 then bif Nat.ble v7.length 1048576 then some (.inl (v1,v2,(v7++[((v10.getD v12.toNat (0,0,0)).1,((v10.getD v12.toNat (0,0,0)).2.1+v1.toNat),((v10.getD v12.toNat (0,0,0)).2.2-v1.toNat))]),v10,v11,(aB .i64 (v12+1)),y2.2,())) else none else none else none else none else none
   else some (.inl (v1,v2,v7,v10,v11,(aB .i64 (v12+1)),y2.2,())) else none
  else some (.inr ((v2,v7,v100000,())))
def kK(x:Shape.den iR):Option (aW mP):=bZ gH (2^64) x
def iF(u0:Unit) (x:aJ [.list (.hnd 1),.int .i64,.int .i64]) (A:List (List ByteArray)):Option ((List (Nat×Nat×Nat))×List (List ByteArray)):=match x with
 | (v0,v1,v2,()) =>
  aC (kK (v1,v2,[],v0,(v0.length:Int),0,A,())) fun z3 =>
  aC (dE z3.2.1 (z3.1,()) z3.2.2.1) fun y4 =>
  some (y4.1,y4.2)
noncomputable def uP:Code:=aT Tryz.f122
abbrev BE:Env:=R2 [] [SB,nB]
theorem HF:bE Tryz.prog BE:=qF trivial ⟨aE9,nG,trivial⟩
noncomputable def nU:Code:=dS uP 0
def zQ(id:Nat):Option aS:=bif Nat.beq id 3 then some ⟨iR,mP,kK⟩ else none
theorem P8:∀ x,dM Tryz.prog BE 30 (aD Tryz.f122) zQ nU iR mP x=gH x:=by
 rintro⟨v1,v2,v7,v10,v11,v12,v100000,⟨⟩⟩
 kernel_rfl
theorem WI:aF nU=[]:=by kernel_rfl
theorem P9:aH nU=3:=by kernel_rfl
theorem SF:cF Tryz.prog 30 nU ⟨iR,mP,kK⟩:=by
 exact cC HF.callee aK.mixed _ (aE WI trivial) P8
theorem S9:aF uP=[nU]:=by kernel_rfl
theorem VV:∀ l x A,JN Tryz.prog BE Tryz.f122 (aD Tryz.f122) zQ uP 110 .str .none [.list (.hnd 1),.int .i64,.int .i64] (.own 148 (.hnd 1)) l x A=iF l x A:=by
 rintro u0 ⟨v0,v1,v2,⟨⟩⟩ A
 kernel_rfl
theorem Z7:SR Tryz.prog 122 110 .str .none [.list (.hnd 1),.int .i64,.int .i64] (.own 148 (.hnd 1)) iF:=by
 exact C4 aK HF Tryz.func122 (c:=uP) (by kernel_rfl) (aZ:=aD Tryz.f122) (lt:=zQ) (by rfl) (aE S9 ⟨cB P9 rfl SF,trivial⟩) VV
abbrev BI:Shr:=(122,aAO 0 (arH 110 .str .none [.list (.hnd 1),.int .i64,.int .i64] (.own 148 (.hnd 1)) iF))
theorem G9:zK Tryz.prog BI:=uK (g:=122) (f:=arH 110 .str .none [.list (.hnd 1),.int .i64,.int .i64] (.own 148 (.hnd 1)) iF) (IF Z7)
abbrev iL:List (Nat×Kd):=[(0,.list (.hnd 1)),(1,.int .i64),(5,.own 148 (.hnd 1)),(6,.int .i64),(7,.own 110 .str),(11,.int .i64),(12,.int .i64),(15,.list (.hnd 1)),(16,.int .i64),(17,.int .i64),(100000,.ar 110 .str)]
abbrev mM:List (Ex×List (Nat×Kd)):=[(.exit 2,[(0,.list (.hnd 1)),(1,.int .i64),(5,.own 148 (.hnd 1)),(6,.int .i64),(7,.own 110 .str),(11,.int .i64),(12,.int .i64),(100000,.ar 110 .str)])]
def kO(x:Shape.den iL):Option (Shape.den iL⊕aW mM):=match x with
 | (v0,v1,v5,v6,v7,v11,v12,v15,v16,v17,v100000,()) =>
  bif ltI v17 v16 then
   bif aL v17 v15.length then bif aL v6 ((v15.getD v17.toNat (0,0,0)).2.2) then bif Nat.blt (((v15.getD v17.toNat (0,0,0)).2.1+v6.toNat)*1) (dH v100000 ((v15.getD v17.toNat (0,0,0)).1)) then bif Nat.ble [(eD v100000 ((v15.getD v17.toNat (0,0,0)).1) (((v15.getD v17.toNat (0,0,0)).2.1+v6.toNat)*1) ByteArray.empty)].length 1048576 then bif Nat.ble v7.length 1048576 then some (.inl (v0,v1,v5,v6,(v7++[(eD v100000 ((v15.getD v17.toNat (0,0,0)).1) (((v15.getD v17.toNat (0,0,0)).2.1+v6.toNat)*1) ByteArray.empty)]),v11,v12,v15,v16,(aB .i64 (v17+1)),v100000,())) else none else none else none else none else none
  else some (.inr ((v0,v1,v5,v6,v7,v11,v12,v100000,())))
def o6(x:Shape.den iL):Option (aW mM):=bZ kO (2^64) x
abbrev iJ:List (Nat×Kd):=[(0,.list (.hnd 1)),(1,.int .i64),(5,.own 148 (.hnd 1)),(11,.int .i64),(12,.int .i64),(100000,.ar 110 .str)]
abbrev mF:List (Ex×List (Nat×Kd)):=[(.exit 0,[(0,.list (.hnd 1)),(1,.int .i64),(5,.own 148 (.hnd 1)),(100000,.ar 110 .str)])]
def kM(x:Shape.den iJ):Option (Shape.den iJ⊕aW mF):=match x with
 | (v0,v1,v5,v11,v12,v100000,()) =>
  bif ltI v12 v11 then
   aC (o6 (v0,v1,v5,v12,[],v11,v12,v0,(v0.length:Int),0,v100000,())) fun z3 =>
   aC (pE () (z3.2.1,()) z3.2.2.2.2.2.2.2.1) fun y4 =>
   bif aL z3.2.2.2.1 y4.1.length then bif Nat.blt z3.2.2.2.1.toNat y4.1.length then bif Nat.ble (y4.1.set z3.2.2.2.1.toNat (ByteArray.mk #[49])).length 1048576 then bif Nat.ble z3.2.2.2.2.1.length 1048576 then bif Nat.ble [(y4.2.length,0,(z3.2.2.2.2.1++(y4.1.set z3.2.2.2.1.toNat (ByteArray.mk #[49]))).length)].length 1048576 then bif Nat.ble z3.2.2.1.length 1048576 then some (.inl (z3.1,z3.2.1,(z3.2.2.1++[(y4.2.length,0,(z3.2.2.2.2.1++(y4.1.set z3.2.2.2.1.toNat (ByteArray.mk #[49]))).length)]),z3.2.2.2.2.2.1,(aB .i64 (z3.2.2.2.2.2.2.1+1)),(y4.2++[(z3.2.2.2.2.1++(y4.1.set z3.2.2.2.1.toNat (ByteArray.mk #[49])))]),())) else none else none else none else none else none else none
  else some (.inr ((v0,v1,v5,v100000,())))
def kR(x:Shape.den iJ):Option (aW mF):=bZ kM (2^64) x
def c8(u0:Unit) (x:aJ [.list (.hnd 1),.int .i64]) (A:List (List ByteArray)):Option ((List (Nat×Nat×Nat))×List (List ByteArray)):=match x with
 | (v0,v1,()) =>
  aC (kR (v0,v1,[],v1,0,A,())) fun z5 =>
  aC (dE z5.2.2.1 ((aB .i64 ((z5.1.length:Int)+z5.2.1)),()) z5.2.2.2.1) fun y6 =>
  aC (iF () (y6.1,(z5.1.length:Int),z5.2.1,()) y6.2) fun y7 =>
  some (y7.1,y7.2)
noncomputable def uT:Code:=aT Tryz.f130
abbrev uS:Env:=R2 [] [BI,nB,ON]
theorem xG:bE Tryz.prog uS:=qF trivial ⟨G9,nG,SM,trivial⟩
noncomputable def jO:Code:=dS uT 0
noncomputable def nR:Code:=dS jO 0
def sZ(id:Nat):Option aS:=bif Nat.beq id 7 then some ⟨iL,mM,o6⟩ else bif Nat.beq id 3 then some ⟨iJ,mF,kR⟩ else none
theorem PR:∀ x,dM Tryz.prog uS 51 (aD Tryz.f130) sZ nR iL mM x=kO x:=by
 rintro⟨v0,v1,v5,v6,v7,v11,v12,v15,v16,v17,v100000,⟨⟩⟩
 kernel_rfl
theorem VK:aF nR=[]:=by kernel_rfl
theorem PQ:aH nR=7:=by kernel_rfl
theorem SU:cF Tryz.prog 51 nR ⟨iL,mM,o6⟩:=by
 exact cC xG.callee aK.mixed _ (aE VK trivial) PR
theorem QK:∀ x,dM Tryz.prog uS 51 (aD Tryz.f130) sZ jO iJ mF x=kM x:=by
 rintro⟨v0,v1,v5,v11,v12,v100000,⟨⟩⟩
 kernel_rfl
theorem WB:aF jO=[nR]:=by kernel_rfl
theorem PN:aH jO=3:=by kernel_rfl
theorem RW:cF Tryz.prog 51 jO ⟨iJ,mF,kR⟩:=by
 exact cC xG.callee aK.mixed _ (aE WB ⟨cB PQ rfl SU,trivial⟩) QK
theorem TU:aF uT=[jO]:=by kernel_rfl
theorem WN:∀ l x A,JN Tryz.prog uS Tryz.f130 (aD Tryz.f130) sZ uT 110 .str .none [.list (.hnd 1),.int .i64] (.own 148 (.hnd 1)) l x A=c8 l x A:=by
 rintro u0 ⟨v0,v1,⟨⟩⟩ A
 kernel_rfl
theorem aAG:SR Tryz.prog 130 110 .str .none [.list (.hnd 1),.int .i64] (.own 148 (.hnd 1)) c8:=by
 exact C4 aK xG Tryz.func130 (c:=uT) (by kernel_rfl) (aZ:=aD Tryz.f130) (lt:=sZ) (by rfl) (aE TU ⟨cB PN rfl RW,trivial⟩) WN
abbrev BK:Shr:=(130,aAO 0 (arH 110 .str .none [.list (.hnd 1),.int .i64] (.own 148 (.hnd 1)) c8))
theorem G8:zK Tryz.prog BK:=uK (g:=130) (f:=arH 110 .str .none [.list (.hnd 1),.int .i64] (.own 148 (.hnd 1)) c8) (IF aAG)
def pD(x:aJ [.agg TyH]):Option (aJ [.agg TyH,.int .i64]):=match x with
 | (v0,()) =>
  aC (lQ ((v0.1,v0.2),())) fun y1 =>
  bif !(eqI y1.1 0) then
   some ((0,[]),y1.1,())
  else aC (eP () (v0.2,()) []) fun y2 =>
  aC (c8 () (y2.1,v0.1,()) y2.2) fun y3 =>
  aC (c8 () (y3.1,v0.1,()) y3.2) fun y4 =>
  aC (dF y4.1 (v0.1,()) y4.2) fun y5 =>
  some ((y5.1.1.1,y5.1.1.2),y5.1.2.1,())
noncomputable def OI:Code:=aT Tryz.f74
abbrev aBA:Env:=R2 [HV] [wU,BK,nA]
theorem aLB:bE Tryz.prog aBA:=qF ⟨HB,trivial⟩ ⟨xN,G8,nW,trivial⟩
def ZL(id:Nat):Option aS:=none
theorem aJ8:aF OI=[]:=by kernel_rfl
theorem aMN:∀ x,aO5 Tryz.prog aBA Tryz.f74 (aD Tryz.f74) ZL OI 110 .str _ _ x=pD x:=by
 rintro⟨v0,⟨⟩⟩
 kernel_rfl
theorem aRL:eB Tryz.prog 74 _ _ pD:=by
 exact aWT aK aLB Tryz.func74 (c:=OI) (by kernel_rfl) (aZ:=aD Tryz.f74) (lt:=ZL) (aE aJ8 trivial) aMN
abbrev HD:Ent:=⟨74,_,_,pD⟩
theorem ID:Ent.OK Tryz.prog HD:=aRL
def kG(x:aJ [.agg TyH]):Option (aJ [.agg TyH,.int .i64]):=match x with
 | (v0,()) =>
  aC (lQ ((v0.1,v0.2),())) fun y1 =>
  bif !(eqI y1.1 0) then
   some ((0,[]),y1.1,())
  else aC (eP () (v0.2,()) []) fun y2 =>
  aC (c8 () (y2.1,v0.1,()) y2.2) fun y3 =>
  aC (dF y3.1 (v0.1,()) y3.2) fun y4 =>
  some ((y4.1.1.1,y4.1.1.2),y4.1.2.1,())
noncomputable def IB:Code:=aT Tryz.f76
abbrev R1:Env:=R2 [HV] [wU,BK,nA]
theorem aD1:bE Tryz.prog R1:=qF ⟨HB,trivial⟩ ⟨xN,G8,nW,trivial⟩
def PF(id:Nat):Option aS:=none
theorem aCB:aF IB=[]:=by kernel_rfl
theorem aD8:∀ x,aO5 Tryz.prog R1 Tryz.f76 (aD Tryz.f76) PF IB 110 .str _ _ x=kG x:=by
 rintro⟨v0,⟨⟩⟩
 kernel_rfl
theorem aKA:eB Tryz.prog 76 _ _ kG:=by
 exact aWT aK aD1 Tryz.func76 (c:=IB) (by kernel_rfl) (aZ:=aD Tryz.f76) (lt:=PF) (aE aCB trivial) aD8
abbrev AI:Ent:=⟨76,_,_,kG⟩
theorem C5:Ent.OK Tryz.prog AI:=aKA
end Go.PM
namespace Go.Lz
def d2(a b:V) (x y:Nat):Int:=a x*b y-a y*b x
def d3(a b c:V) (x y z:Nat):Int:=d2 a b x y*c z-d2 a b x z*c y+d2 a b y z*c x
def d4(a b c d:V) (x y z u:Nat):Int:=d3 a b c x y z*d u-d3 a b c x y u*d z+d3 a b c x z u*d y-d3 a b c y z u*d x
structure Lin (f:V→Int):Prop where
 zero:f (fun _=>0)=0
 add:∀ u t m,f (fun i=>u i+t*m i)=f u+t*f m
theorem Lin.sp {f:V→Int} (h:Lin f) {k:Nat} {M:Nat→V} (hz:∀ j,j<k→f (M j)=0) {v:V} (hv:Sp k M v):f v=0:=by
 induction hv with
 | zero=>exact h.zero
 | add j t hj _ ih=>rw[h.add,ih,hz j hj]; simp
theorem Lin.pick {f:V→Int} (h:Lin f) {k:Nat} {M:Nat→V} {u:V} {t:Int} (ht:t≠0) (hs:Sp k M (fun i=>t*u i)) (hu:f u≠0):∃ j,j<k∧f (M j)≠0:=by
 refine Classical.byContradiction fun hn=>?_
 have hz:∀ j,j<k→f (M j)=0:=fun j hj=>Classical.byContradiction fun h0=>hn ⟨j,hj,h0⟩
 have h1:=h.sp hz hs;have h2:=h.add (fun _=>0) t u
 have e:(fun i=>(0:Int)+t*u i)=fun i=>t*u i:=by funext i; simp
 rw[e,h1,h.zero,Int.zero_add]at h2;rcases Int.mul_eq_zero.1 h2.symm with h3|h3
 ·exact ht h3
 ·exact hu h3
theorem aYR {x y:Int} {A B:Nat} (hx:x.natAbs≤A) (hy:y.natAbs≤B):(x*y).natAbs≤A*B:=by
 rw[Int.natAbs_mul]; exact Nat.mul_le_mul hx hy
theorem d2B {a b:V} {E:Nat} (ha:∀ x,(a x).natAbs≤E) (hb:∀ x,(b x).natAbs≤E) (x y:Nat):(d2 a b x y).natAbs≤2*(E*E):=by
 have h1:=aYR (ha x) (hb y);have h2:=aYR (ha y) (hb x);unfold d2;omega
theorem d3B {a b c:V} {E:Nat} (ha:∀ x,(a x).natAbs≤E) (hb:∀ x,(b x).natAbs≤E) (hc:∀ x,(c x).natAbs≤E) (x y z:Nat):(d3 a b c x y z).natAbs≤6*(E*E*E):=by
 have h1:=aYR (d2B ha hb x y) (hc z);have h2:=aYR (d2B ha hb x z) (hc y);have h3:=aYR (d2B ha hb y z) (hc x);have e:2*(E*E)*E=2*(E*E*E):=by grind
 rw[e]at h1 h2 h3;unfold d3;omega
theorem d4B {a b c d:V} {E:Nat} (ha:∀ x,(a x).natAbs≤E) (hb:∀ x,(b x).natAbs≤E) (hc:∀ x,(c x).natAbs≤E) (hd:∀ x,(d x).natAbs≤E) (x y z u:Nat):(d4 a b c d x y z u).natAbs≤24*(E*E*E*E):=by
 have h1:=aYR (d3B ha hb hc x y z) (hd u);have h2:=aYR (d3B ha hb hc x y u) (hd z);have h3:=aYR (d3B ha hb hc x z u) (hd y);have h4:=aYR (d3B ha hb hc y z u) (hd x);have e:6*(E*E*E)*E=6*(E*E*E*E):=by grind
 rw[e]at h1 h2 h3 h4;unfold d4;omega
def Dg(k:Nat) (M:Nat→V) (r:Nat) (p:Nat→Nat) (W:Nat):Prop :=
 ∃ (D:Int) (w:Nat→V),D≠0∧∀ j,j<r→Sp k M (w j)∧w j (p j)=D∧(∀ i,i<r→i≠j→w j (p i)=0)∧∀ x,(w j x).natAbs≤W
theorem Dg.mono {k k':Nat} {M M':Nat→V} {r:Nat} {p:Nat→Nat} {W:Nat} (h:Dg k M r p W) (hs:∀ v,Sp k M v→Sp k' M' v):Dg k' M' r p W:=by
 obtain⟨D,w,h0,h1⟩:=h;exact⟨D,w,h0,fun j hj=>⟨hs _ (h1 j hj).1,(h1 j hj).2⟩⟩
section
variable {k:Nat} {M:Nat→V}
theorem Sp.bMQ {a b:Nat} (ha:a<k) (hb:b<k) (s t:Int):Sp k M (fun i=>s*M a i+t*M b i):=Sp.comb t (Sp.smul s (Sp.mem ha)) (Sp.mem hb)
theorem Sp.bK8 {a b c:Nat} (ha:a<k) (hb:b<k) (hc:c<k) (s t u:Int):Sp k M (fun i=>s*M a i+t*M b i+u*M c i):=Sp.comb u (Sp.bMQ ha hb s t) (Sp.mem hc)
theorem Sp.bKJ {a b c d:Nat} (ha:a<k) (hb:b<k) (hc:c<k) (hd:d<k) (s t u v:Int):Sp k M (fun i=>s*M a i+t*M b i+u*M c i+v*M d i):=Sp.comb v (Sp.bK8 ha hb hc s t u) (Sp.mem hd)
theorem bE3 {u:V} {p0:Nat} {t:Int} (ht:t≠0) (hs:Sp k M (fun i=>t*u i)) (h0:u p0≠0):∃ a,a<k∧M a p0≠0 :=
 Lin.pick (f:=fun v=>v p0) ⟨rfl,fun _ _ _=>rfl⟩ ht hs h0
theorem bI2 {u:V} {a p0 p1:Nat} {t:Int} (ht:t≠0) (hs:Sp k M (fun i=>t*u i)) (h0:u p0=0) (h1:u p1≠0) (ha:M a p0≠0):∃ b,b<k∧d2 (M a) (M b) p0 p1≠0:=by
 refine Lin.pick (f:=fun v=>d2 (M a) v p0 p1) ⟨by simp[d2],fun u t m=>by simp only[d2]; grind⟩ ht hs ?_
 simp only[d2,h0,Int.mul_zero,Int.sub_zero];exact fun h=>(Int.mul_eq_zero.1 h).elim ha h1
theorem bL3 {u:V} {a b p0 p1 p2:Nat} {t:Int} (ht:t≠0) (hs:Sp k M (fun i=>t*u i)) (h0:u p0=0) (h1:u p1=0) (h2:u p2≠0) (ha:d2 (M a) (M b) p0 p1≠0):∃ c,c<k∧d3 (M a) (M b) (M c) p0 p1 p2≠0:=by
 refine Lin.pick (f:=fun v=>d3 (M a) (M b) v p0 p1 p2) ⟨by simp[d3],fun u t m=>by simp only[d3]; grind⟩ ht hs ?_
 simp only[d3,h0,h1,Int.mul_zero,Int.sub_zero,Int.add_zero];exact fun h=>(Int.mul_eq_zero.1 h).elim ha h2
theorem bNK {u:V} {a b c p0 p1 p2 p3:Nat} {t:Int} (ht:t≠0) (hs:Sp k M (fun i=>t*u i)) (h0:u p0=0) (h1:u p1=0) (h2:u p2=0) (h3:u p3≠0) (ha:d3 (M a) (M b) (M c) p0 p1 p2≠0):∃ d,d<k∧d4 (M a) (M b) (M c) (M d) p0 p1 p2 p3≠0:=by
 refine Lin.pick (f:=fun v=>d4 (M a) (M b) (M c) v p0 p1 p2 p3) ⟨by simp[d4],fun u t m=>by simp only[d4]; grind⟩ ht hs ?_
 simp only[d4,h0,h1,h2,Int.mul_zero,Int.sub_zero,Int.add_zero];exact fun h=>(Int.mul_eq_zero.1 h).elim ha h3
theorem bN1 {p:Nat→Nat} {W a:Nat} (hB:∀ x,(M a x).natAbs≤W) (ha:a<k) (h:M a (p 0)≠0):Dg k M 1 p W :=
 ⟨_,fun _=>M a,h,fun j hj=>by
  obtain rfl:j=0:=by omega
  exact⟨Sp.mem ha,rfl,fun i hi hne=>by omega,hB⟩⟩
theorem bNZ {p:Nat→Nat} {W a b:Nat} (hB:∀ x y,(d2 (M a) (M b) x y).natAbs≤W) (ha:a<k) (hb:b<k) (h:d2 (M a) (M b) (p 0) (p 1)≠0):Dg k M 2 p W:=by
 refine⟨_,fun j=>if j=0 then (fun x=>d2 (M a) (M b) x (p 1)) else fun x=>d2 (M a) (M b) (p 0) x,h,fun j hj=>?_⟩
 rcases(show j=0∨j=1 by omega)with rfl|rfl
 ·refine⟨?_,rfl,fun i hi hne=>?_,fun x=>hB _ _⟩
  ·refine cast (congrArg (Sp k M) ?_) (Sp.bMQ ha hb (M b (p 1)) (-(M a (p 1))))
   funext x
   simp only[if_true,d2]; grind
  ·obtain rfl:i=1:=by omega
   simp only[if_true,d2]; grind
 ·refine⟨?_,rfl,fun i hi hne=>?_,fun x=>hB _ _⟩
  ·refine cast (congrArg (Sp k M) ?_) (Sp.bMQ ha hb (-(M b (p 0))) (M a (p 0)))
   funext x
   simp only[d2,Nat.one_ne_zero,if_false]; grind
  ·obtain rfl:i=0:=by omega
   simp only[d2,Nat.one_ne_zero,if_false]; grind
theorem bN6 {p:Nat→Nat} {W a b c:Nat} (hB:∀ x y z,(d3 (M a) (M b) (M c) x y z).natAbs≤W) (ha:a<k) (hb:b<k) (hc:c<k) (h:d3 (M a) (M b) (M c) (p 0) (p 1) (p 2)≠0):Dg k M 3 p W:=by
 refine⟨_,fun j=>if j=0 then (fun x=>d3 (M a) (M b) (M c) x (p 1) (p 2)) else if j=1 then (fun x=>d3 (M a) (M b) (M c) (p 0) x (p 2)) else fun x=>d3 (M a) (M b) (M c) (p 0) (p 1) x,h,fun j hj=>?_⟩
 rcases(show j=0∨j=1∨j=2 by omega)with rfl|rfl|rfl
 ·refine⟨?_,rfl,fun i hi hne=>?_,fun x=>hB _ _ _⟩
  ·refine cast (congrArg (Sp k M) ?_) (Sp.bK8 ha hb hc (d2 (M b) (M c) (p 1) (p 2)) (-(d2 (M a) (M c) (p 1) (p 2))) (d2 (M a) (M b) (p 1) (p 2)))
   funext x
   show _=d3 (M a) (M b) (M c) x (p 1) (p 2);simp only[d3,d2]; grind
  ·show (fun x=>d3 (M a) (M b) (M c) x (p 1) (p 2)) (p i)=0
   rcases(show i=1∨i=2 by omega)with rfl|rfl
   ·simp only[d3,d2]; grind
   ·simp only[d3,d2]; grind
 ·refine⟨?_,rfl,fun i hi hne=>?_,fun x=>hB _ _ _⟩
  ·refine cast (congrArg (Sp k M) ?_) (Sp.bK8 ha hb hc (-(d2 (M b) (M c) (p 0) (p 2))) (d2 (M a) (M c) (p 0) (p 2)) (-(d2 (M a) (M b) (p 0) (p 2))))
   funext x
   show _=d3 (M a) (M b) (M c) (p 0) x (p 2);simp only[d3,d2]; grind
  ·show (fun x=>d3 (M a) (M b) (M c) (p 0) x (p 2)) (p i)=0
   rcases(show i=0∨i=2 by omega)with rfl|rfl
   ·simp only[d3,d2]; grind
   ·simp only[d3,d2]; grind
 ·refine⟨?_,rfl,fun i hi hne=>?_,fun x=>hB _ _ _⟩
  ·refine cast (congrArg (Sp k M) ?_) (Sp.bK8 ha hb hc (d2 (M b) (M c) (p 0) (p 1)) (-(d2 (M a) (M c) (p 0) (p 1))) (d2 (M a) (M b) (p 0) (p 1)))
   funext x
   show _=d3 (M a) (M b) (M c) (p 0) (p 1) x;simp only[d3,d2]; grind
  ·show (fun x=>d3 (M a) (M b) (M c) (p 0) (p 1) x) (p i)=0
   rcases(show i=0∨i=1 by omega)with rfl|rfl
   ·simp only[d3,d2]; grind
   ·simp only[d3,d2]; grind
theorem bN3 {p:Nat→Nat} {W a b c d:Nat} (hB:∀ x y z u,(d4 (M a) (M b) (M c) (M d) x y z u).natAbs≤W) (ha:a<k) (hb:b<k) (hc:c<k) (hd:d<k) (h:d4 (M a) (M b) (M c) (M d) (p 0) (p 1) (p 2) (p 3)≠0):Dg k M 4 p W:=by
 refine⟨_,fun j=>if j=0 then (fun x=>d4 (M a) (M b) (M c) (M d) x (p 1) (p 2) (p 3)) else if j=1 then (fun x=>d4 (M a) (M b) (M c) (M d) (p 0) x (p 2) (p 3)) else if j=2 then (fun x=>d4 (M a) (M b) (M c) (M d) (p 0) (p 1) x (p 3)) else fun x=>d4 (M a) (M b) (M c) (M d) (p 0) (p 1) (p 2) x,h,fun j hj=>?_⟩
 rcases(show j=0∨j=1∨j=2∨j=3 by omega)with rfl|rfl|rfl|rfl
 ·refine⟨?_,rfl,fun i hi hne=>?_,fun x=>hB _ _ _ _⟩
  ·refine cast (congrArg (Sp k M) ?_) (Sp.bKJ ha hb hc hd (d3 (M b) (M c) (M d) (p 1) (p 2) (p 3)) (-(d3 (M a) (M c) (M d) (p 1) (p 2) (p 3))) (d3 (M a) (M b) (M d) (p 1) (p 2) (p 3)) (-(d3 (M a) (M b) (M c) (p 1) (p 2) (p 3))))
   funext x
   show _=d4 (M a) (M b) (M c) (M d) x (p 1) (p 2) (p 3);simp only[d4,d3,d2]; grind
  ·show (fun x=>d4 (M a) (M b) (M c) (M d) x (p 1) (p 2) (p 3)) (p i)=0
   rcases(show i=1∨i=2∨i=3 by omega)with rfl|rfl|rfl
   ·simp only[d4,d3,d2]; grind
   ·simp only[d4,d3,d2]; grind
   ·simp only[d4,d3,d2]; grind
 ·refine⟨?_,rfl,fun i hi hne=>?_,fun x=>hB _ _ _ _⟩
  ·refine cast (congrArg (Sp k M) ?_) (Sp.bKJ ha hb hc hd (-(d3 (M b) (M c) (M d) (p 0) (p 2) (p 3))) (d3 (M a) (M c) (M d) (p 0) (p 2) (p 3)) (-(d3 (M a) (M b) (M d) (p 0) (p 2) (p 3))) (d3 (M a) (M b) (M c) (p 0) (p 2) (p 3)))
   funext x
   show _=d4 (M a) (M b) (M c) (M d) (p 0) x (p 2) (p 3);simp only[d4,d3,d2]; grind
  ·show (fun x=>d4 (M a) (M b) (M c) (M d) (p 0) x (p 2) (p 3)) (p i)=0
   rcases(show i=0∨i=2∨i=3 by omega)with rfl|rfl|rfl
   ·simp only[d4,d3,d2]; grind
   ·simp only[d4,d3,d2]; grind
   ·simp only[d4,d3,d2]; grind
 ·refine⟨?_,rfl,fun i hi hne=>?_,fun x=>hB _ _ _ _⟩
  ·refine cast (congrArg (Sp k M) ?_) (Sp.bKJ ha hb hc hd (d3 (M b) (M c) (M d) (p 0) (p 1) (p 3)) (-(d3 (M a) (M c) (M d) (p 0) (p 1) (p 3))) (d3 (M a) (M b) (M d) (p 0) (p 1) (p 3)) (-(d3 (M a) (M b) (M c) (p 0) (p 1) (p 3))))
   funext x
   show _=d4 (M a) (M b) (M c) (M d) (p 0) (p 1) x (p 3);simp only[d4,d3,d2]; grind
  ·show (fun x=>d4 (M a) (M b) (M c) (M d) (p 0) (p 1) x (p 3)) (p i)=0
   rcases(show i=0∨i=1∨i=3 by omega)with rfl|rfl|rfl
   ·simp only[d4,d3,d2]; grind
   ·simp only[d4,d3,d2]; grind
   ·simp only[d4,d3,d2]; grind
 ·refine⟨?_,rfl,fun i hi hne=>?_,fun x=>hB _ _ _ _⟩
  ·refine cast (congrArg (Sp k M) ?_) (Sp.bKJ ha hb hc hd (-(d3 (M b) (M c) (M d) (p 0) (p 1) (p 2))) (d3 (M a) (M c) (M d) (p 0) (p 1) (p 2)) (-(d3 (M a) (M b) (M d) (p 0) (p 1) (p 2))) (d3 (M a) (M b) (M c) (p 0) (p 1) (p 2)))
   funext x
   show _=d4 (M a) (M b) (M c) (M d) (p 0) (p 1) (p 2) x;simp only[d4,d3,d2]; grind
  ·show (fun x=>d4 (M a) (M b) (M c) (M d) (p 0) (p 1) (p 2) x) (p i)=0
   rcases(show i=0∨i=1∨i=2 by omega)with rfl|rfl|rfl
   ·simp only[d4,d3,d2]; grind
   ·simp only[d4,d3,d2]; grind
   ·simp only[d4,d3,d2]; grind
def fac(E:Nat):Nat→Nat
 | 0=>1
 | 1=>E
 | 2=>2*(E*E)
 | 3=>6*(E*E*E)
 | _=>24*(E*E*E*E)
theorem a9E {r E:Nat} {H:Nat→V} {p:Nat→Nat} (hr:r≤4) (hH:Hn r H p) (hs:∀ j,j<r→∃ t:Int,t≠0∧Sp k M (fun i=>t*H j i)) (hE:∀ j,j<k→∀ x,(M j x).natAbs≤E):Dg k M r p (fac E r):=by
 have pv:∀ j,j<r→H j (p j)≠0:=fun j hj=>by have:=hH.pos j hj; omega
 have lo:∀ i j,i<j→j<r→H j (p i)=0:=fun i j hij hj=>hH.low j hj _ (hH.inc i j hij hj)
 rcases(show r=0∨r=1∨r=2∨r=3∨r=4 by omega)with rfl|rfl|rfl|rfl|rfl
 ·exact⟨1,fun _ _=>0,by decide,fun j hj=>by omega⟩
 ·obtain⟨t,ht,h0⟩:=hs 0 (by omega)
  obtain⟨a,ha,q0⟩:=bE3 ht h0 (pv 0 (by omega))
  exact bN1 (hE a ha) ha q0
 ·obtain⟨t,ht,h0⟩:=hs 0 (by omega)
  obtain⟨a,ha,q0⟩:=bE3 ht h0 (pv 0 (by omega))
  obtain⟨t,ht,h0⟩:=hs 1 (by omega)
  obtain⟨b,hb,q1⟩:=bI2 ht h0 (lo 0 1 (by omega) (by omega)) (pv 1 (by omega)) q0
  exact bNZ (d2B (hE a ha) (hE b hb)) ha hb q1
 ·obtain⟨t,ht,h0⟩:=hs 0 (by omega)
  obtain⟨a,ha,q0⟩:=bE3 ht h0 (pv 0 (by omega))
  obtain⟨t,ht,h0⟩:=hs 1 (by omega)
  obtain⟨b,hb,q1⟩:=bI2 ht h0 (lo 0 1 (by omega) (by omega)) (pv 1 (by omega)) q0
  obtain⟨t,ht,h0⟩:=hs 2 (by omega)
  obtain⟨c,hc,q2⟩:=bL3 ht h0 (lo 0 2 (by omega) (by omega)) (lo 1 2 (by omega) (by omega)) (pv 2 (by omega)) q1
  exact bN6 (d3B (hE a ha) (hE b hb) (hE c hc)) ha hb hc q2
 ·obtain⟨t,ht,h0⟩:=hs 0 (by omega)
  obtain⟨a,ha,q0⟩:=bE3 ht h0 (pv 0 (by omega))
  obtain⟨t,ht,h0⟩:=hs 1 (by omega)
  obtain⟨b,hb,q1⟩:=bI2 ht h0 (lo 0 1 (by omega) (by omega)) (pv 1 (by omega)) q0
  obtain⟨t,ht,h0⟩:=hs 2 (by omega)
  obtain⟨c,hc,q2⟩:=bL3 ht h0 (lo 0 2 (by omega) (by omega)) (lo 1 2 (by omega) (by omega)) (pv 2 (by omega)) q1
  obtain⟨t,ht,h0⟩:=hs 3 (by omega)
  obtain⟨d,hd,q3⟩:=bNK ht h0 (lo 0 3 (by omega) (by omega)) (lo 1 3 (by omega) (by omega)) (lo 2 3 (by omega) (by omega)) (pv 3 (by omega)) q2
  exact bN3 (d4B (hE a ha) (hE b hb) (hE c hc) (hE d hd)) ha hb hc hd q3
end
theorem Hn.zero {k:Nat} {M:Nat→V} {c:Nat→Nat} (h:Hn k M c) {v:V} (hv:Sp k M v) (hz:∀ i,i<k→v (c i)=0):v=fun _=>0 :=
 h.small hv fun i hi=>by have:=h.pos i hi; rw[hz i hi]; constructor <;> omega
theorem Hn.bJG:∀ {k:Nat} {M:Nat→V} {c:Nat→Nat},Hn k M c→∀ {v:V},Sp k M v→∀ j,j<k→(∀ i,i<j→v (c i)=0)→M j (c j) ∣ v (c j)
 | 0,_,_,_,_,_,j,hj,_=>by omega
 | k+1,M,c,h,v,hv,j,hj,hz=>by
  obtain⟨t,u,hu,rfl⟩:=hv.first;have h0:=h.aYN hu (Nat.le_refl _);cases j with
  | zero=>exact⟨t,by simp only[h0,Int.zero_add]; exact Int.mul_comm _ _⟩
  | succ j =>
   have h1:=hz 0 (by omega)
   have hp:=h.pos 0 (by omega)
   simp only[h0,Int.zero_add]at h1;have ht:t=0:=by
    rcases Int.mul_eq_zero.1 h1 with h2|h2
    ·exact h2
    ·omega
   subst ht;have:=Hn.bJG h.tail hu j (by omega) fun i hi=>by have:=hz (i+1) (by omega); simpa using this
   simpa using this
def sm(f:Nat→Int):Nat→Int
 | 0=>0
 | n+1=>sm f n+f n
theorem aYX {f:Nat→Int}:∀ {n:Nat},(∀ i,i<n→f i=0)→sm f n=0
 | 0,_=>rfl
 | n+1,h=>by rw[sm,aYX fun i hi=>h i (by omega),h n (by omega)]; rfl
theorem bCW {f:Nat→Int} {j:Nat}:∀ {n:Nat},j<n→(∀ i,i<n→i≠j→f i=0)→sm f n=f j
 | 0,h,_=>by omega
 | n+1,h,hz=>by
  rw[sm]
  by_cases hj:j=n
  ·subst hj
   rw[aYX fun i hi=>hz i (by omega) (by omega),Int.zero_add]
  ·rw[bCW (by omega) fun i hi=>hz i (by omega),hz n (by omega) (Ne.symm hj),Int.add_zero]
theorem bHC {f:Nat→Int} {B:Nat}:∀ {n:Nat},(∀ i,i<n→(f i).natAbs≤B)→(sm f n).natAbs≤n*B
 | 0,_=>by simp[sm]
 | n+1,h=>by
  have h1:=bHC (n:=n) fun i hi=>h i (by omega)
  have h2:=h n (by omega)
  rw[Nat.succ_mul];show (sm f n+f n).natAbs≤_;omega
theorem Sp.sm {k:Nat} {M:Nat→V} {w:Nat→V} {s:Nat→Int}:∀ {n:Nat},(∀ j,j<n→Sp k M (w j))→Sp k M (fun x=>Lz.sm (fun j=>s j*w j x) n)
 | 0,_=>Sp.zero
 | n+1,h=>Sp.comb (s n) (Sp.sm fun j hj=>h j (by omega)) (h n (by omega))
theorem Hn.bJO {r W:Nat} {H:Nat→V} {p:Nat→Nat} (h:Hn r H p) (hd:Dg r H r p W):∀ i,i<r→∀ x,(H i x).natAbs≤r*W:=by
 obtain⟨D,w,hD,hw⟩:=hd;intro i hi x;have hz:(fun y=>D*H i y-Lz.sm (fun j=>H i (p j)*w j y) r)=fun _=>0:=by
  refine h.zero (Sp.sub (Sp.smul D (Sp.mem hi)) (Sp.sm fun j hj=>(hw j hj).1)) fun l hl=>?_
  rw[bCW (f:=fun j=>H i (p j)*w j (p l)) hl fun j hj hne=>by rw[(hw j hj).2.2.1 l hl (Ne.symm hne),Int.mul_zero]]
  rw[(hw l hl).2.1];grind
 have h1:=congrFun hz x;have h2:D*H i x=Lz.sm (fun j=>H i (p j)*w j x) r:=by
  have:D*H i x-Lz.sm (fun j=>H i (p j)*w j x) r=0:=h1
  omega
 have h3:(Lz.sm (fun j=>H i (p j)*w j x) r).natAbs≤r*(D.natAbs*W):=by
  refine bHC fun j hj=>aYR ?_ ((hw j hj).2.2.2 x)
  have e1:H j (p j) ∣ D:=by
   have:=h.bJG (hw j hj).1 j hj fun l hl=>(hw j hj).2.2.1 l (by omega) (by omega)
   rwa[(hw j hj).2.1]at this
  have e2:=Int.natAbs_dvd_natAbs.2 e1;have e3:=Nat.le_of_dvd (by omega) e2
  rcases Nat.lt_trichotomy i j with g|g|g
  ·have:=h.red i j g hj
   omega
  ·subst g; exact e3
  ·rw[h.low i hi _ (h.inc j i g hi)]; simp
 rw[← h2,Int.natAbs_mul]at h3;have e:r*(D.natAbs*W)=D.natAbs*(r*W):=by grind
 rw[e]at h3;exact Nat.le_of_mul_le_mul_left h3 (by omega)
end Go.Lz
namespace Go.PM
open Go Go.RowKit Go.Proofs Go.Lz
set_option maxRecDepth 100000
theorem bJZ(a n:Nat) (v:V):Zr (a+n) v=Zr a v++Zr n (fun y=>v (a+y)):=by
 unfold Zr;rw[List.range_add,List.map_append,List.map_map];rfl
theorem bMN:Zn 1=ByteArray.mk #[49]:=by kernel_rfl
def aO3(J:Nat→Nat) (i o n:Nat) (A:List (List ByteArray)) (t:Nat):=bQ ((J i,o,n),(),(n:Int),(t:Int),A,())
section
variable {o k n:Nat} {m:List (Nat×Nat×Nat)} {A:List (List ByteArray)} {J:Nat→Nat} {M:Nat→V}
theorem oV.ext (h:oV o k n m A J M) (R:List (List ByteArray)):oV o k n m (A++R) J M :=
 ⟨h.ml,fun i hi=>by
  obtain⟨pre,h1,h2⟩:=h.at_ i hi;refine⟨pre,h1,?_⟩;have:=(List.getElem?_eq_some_iff.1 h2).1;rw[List.getElem?_append_left this]; exact h2,h.inj⟩
theorem oV.take (h:oV o k n m A J M) {d:Nat} (hd:d≤k):oV o d n (m.take d) A J M :=
 ⟨by rw[h.ml,← List.map_take,List.take_range,Nat.min_eq_left hd],fun i hi=>h.at_ i (by omega),fun i j hi hj=>h.inj i j (by omega) (by omega)⟩
theorem bHR(h:oV o k n m A J M) (hn:n<1048576) {i:Nat} (hi:i<k) :
  ∃ L:Int,kS () ((J i,o,n),()) A=some ((L,()),A)∧((L = -1∧∀ x,x<n→M i x=0)∨∃ x,x<n∧L=(x:Int)∧M i x≠0∧∀ y,y<x→M i y=0):=by
 have hg:∀ t,t<n→PM.dH A (J i)=o+n∧PM.eD A (J i) ((o+t)*1) ByteArray.empty=Zn (M i t):=fun t ht=>⟨h.dH hi,by rw[Nat.mul_one]; exact h.eD hi ht⟩
 have step1:∀ t,t<n→∀ b,decide (M i t=0)=b→aO3 J i o n A t=(bif b then some (.inl ((J i,o,n),(),(n:Int),((t+1:Nat):Int),A,())) else some (.inr (.inl ((t:Int),A,())))):=fun t ht b hb=>by
  have e1:ltI (t:Int) (n:Int)=true:=by rw[aI]; exact decide_eq_true (by omega)
  have e2:aL (t:Int) n=true:=by rw[aR]; exact decide_eq_true (by omega)
  have e3:((t:Nat):Int).toNat=t:=Int.toNat_natCast _;have e4:Nat.blt ((o+t)*1) (o+n)=true:=by rw[cX]; exact decide_eq_true (by omega)
  have e5:=cY t (by omega)
  unfold aO3;simp only[bQ,e1,e2,e3,(hg t ht).1,e4,(hg t ht).2,cond_true,gW,I5,aG,hb,e5];cases b <;> rfl
 by_cases hz:∀ x,x<n→M i x=0
 ·refine⟨-1,?_,.inl ⟨rfl,hz⟩⟩
  have key:=bI (step:=bQ) (N:=2^64) (fun t=>((J i,o,n),(),(n:Int),(t:Int),A,())) n (.inr (A,())) (by omega) (fun t ht=>step1 t ht true (decide_eq_true (hz t ht))) (by
   have e1:ltI (n:Int) (n:Int)=false:=by rw[aI]; exact decide_eq_false (by omega)
   simp only[bQ,e1,cond_false])
  have key:dD ((J i,o,n),(),((n:Nat):Int),0,A,())=_:=key;simp only[kS,cA,key,aG,lR]
 ·obtain⟨x,hx1,hx2,hx3⟩:∃ x,x<n∧M i x≠0∧∀ y,y<x→M i y=0:=by
   obtain⟨x0,h1⟩:=Classical.not_forall.1 hz;obtain⟨h1,h2⟩:=Classical.not_imp.1 h1;have:∀ N x0,x0<N→x0<n→M i x0≠0→∃ x,x<n∧M i x≠0∧∀ y,y<x→M i y=0:=by
    intro N
    induction N with
    | zero=>intro x0 h; omega
    | succ N ih =>
     intro x0 h0 h1 h2
     by_cases hy:∀ y,y<x0→M i y=0
     ·exact⟨x0,h1,h2,hy⟩
     ·obtain⟨y,g1⟩:=Classical.not_forall.1 hy
      obtain⟨g1,g2⟩:=Classical.not_imp.1 g1;exact ih y (by omega) (by omega) g2
   exact this (x0+1) x0 (by omega) h1 h2
  refine⟨(x:Int),?_,.inr ⟨x,hx1,rfl,hx2,hx3⟩⟩;have key:=bI (step:=bQ) (N:=2^64) (fun t=>((J i,o,n),(),(n:Int),(t:Int),A,())) x (.inl ((x:Int),A,())) (by omega) (fun t ht=>step1 t (by omega) true (decide_eq_true (hx3 t ht))) (step1 x hx1 false (decide_eq_false hx2))
  have key:dD ((J i,o,n),(),((n:Nat):Int),0,A,())=_:=key;simp only[kS,cA,key,aG,CW]
theorem bJF(hn:n<1048576) (A:List (List ByteArray)):pE () ((n:Int),()) A=some (Zr n (fun _=>0),A):=by
 have e1:ltI (n:Int) 0=false:=by rw[aI]; exact decide_eq_false (by omega)
 have e2:ltI (n:Int) (n:Int)=false:=by rw[aI]; exact decide_eq_false (by omega)
 have e3:ltI 1048576 (n:Int)=false:=by rw[aI]; exact decide_eq_false (by omega)
 have e4:((n:Nat):Int).toNat=n:=Int.toNat_natCast _;have e5:=aUZ (List.replicate n 0) (by simp; omega) (fun a ha=>by have:=List.eq_of_mem_replicate ha; omega)
 have e6:(List.replicate n (0:Int)).map Zn=Zr n (fun _=>0):=by
  unfold Zr;rw[List.map_replicate];refine List.ext_getElem (by simp) fun i h1 h2=>by simp
 rw[e6]at e5;simp only[pE,e1,e2,e3,e4,e5,aG,Bool.not_false,cond_true]
theorem bHU(M:Nat→V) {c:Nat} (hc:c<n):(List.range k).map (fun i=>Zn (M i c))++(Zr n (fun _=>0)).set c (ByteArray.mk #[49])=Zr (k+n) (wide n k M c):=by
 rw[bJZ]
 congr 1
 ·unfold Zr
  refine List.map_congr_left fun i hi=>?_
  have:=List.mem_range.1 hi;simp only[wide,this,if_true]
 ·refine List.ext_getElem (by simp[lZ]) fun i h1 h2=>?_
  rw[lZ]at h2;rw[List.getElem_set];have e1:¬ k+i<k:=by omega
  by_cases hic:c=i
  ·subst hic
   simp only[if_true,Zr,List.getElem_map,List.getElem_range,wide,e1,if_false];exact bMN.symm
  ·have e2:¬ k+i=k+c:=by omega
   simp only[hic,if_false,Zr,List.getElem_map,List.getElem_range,wide,e1,e2]
theorem bGL(hk:k<1048576) (hn:n<1048576) (hkn:k+n<1048576) (h:oV o k n m A J M) :
  kR (m,(n:Int),[],(n:Int),0,A,())=some (m,(n:Int),(List.range n).map (fun c=>(A.length+c,0,k+n)),A++(List.range n).map (fun c=>Zr (k+n) (wide n k M c)),()):=by
 have key:=bI (step:=kM) (N:=2^64)
  (fun t=>(m,(n:Int),(List.range t).map (fun c=>(A.length+c,0,k+n)),(n:Int),(t:Int),A++(List.range t).map (fun c=>Zr (k+n) (wide n k M c)),())) n
  (m,(n:Int),(List.range n).map (fun c=>(A.length+c,0,k+n)),A++(List.range n).map (fun c=>Zr (k+n) (wide n k M c)),()) (by omega) (fun t ht=>?_) ?_
 ·have e0:A++(List.range 0).map (fun c=>Zr (k+n) (wide n k M c))=A:=by simp
  have key:kR (m,(n:Int),[],(n:Int),0,A++(List.range 0).map (fun c=>Zr (k+n) (wide n k M c)),())=_:=key
  rwa[e0]at key
 ·generalize hR:(List.range t).map (fun c=>Zr (k+n) (wide n k M c))=R
  have h':=h.ext R;generalize hB:A++R=B at h' ⊢;have hlen:B.length=A.length+t:=by rw[← hB,← hR]; simp
  have col:=bI (step:=kO) (N:=2^64)
   (fun s=>(m,(n:Int),(List.range t).map (fun c=>(A.length+c,0,k+n)),(t:Int),(List.range s).map (fun i=>Zn (M i t)),(n:Int),(t:Int),m,(m.length:Int),(s:Int),B,())) k
   (m,(n:Int),(List.range t).map (fun c=>(A.length+c,0,k+n)),(t:Int),(List.range k).map (fun i=>Zn (M i t)),(n:Int),(t:Int),B,()) (by omega) (fun s hs=>?_) ?_
  ·have col:o6 (m,(n:Int),(List.range t).map (fun c=>(A.length+c,0,k+n)),(t:Int),[],(n:Int),(t:Int),m,(m.length:Int),0,B,())=_:=col
   have e1:ltI (t:Int) (n:Int)=true:=by rw[aI]; exact decide_eq_true (by omega)
   have e2:aL (t:Int) n=true:=by rw[aR]; exact decide_eq_true (by omega)
   have e3:((t:Nat):Int).toNat=t:=Int.toNat_natCast _;have e4:Nat.blt t n=true:=by rw[cX]; exact decide_eq_true ht
   have e5:(Zr n (fun _=>0)).length=n:=lZ _ _
   have e6:Nat.ble n 1048576=true:=by rw[gY]; exact decide_eq_true (by omega)
   have e7:Nat.ble ((List.range k).map (fun i=>Zn (M i t))).length 1048576=true:=by rw[gY,List.length_map,List.length_range]; exact decide_eq_true (by omega)
   have e8:=bHU (n:=n) (k:=k) M ht;have e9:(Zr (k+n) (wide n k M t)).length=k+n:=lZ _ _;have e10:Nat.ble [(A.length+t,0,k+n)].length 1048576=true:=rfl;have e11:Nat.ble ((List.range t).map (fun c=>(A.length+c,0,k+n))).length 1048576=true:=by rw[gY,List.length_map,List.length_range]; exact decide_eq_true (by omega)
   have e12:=cY t (by omega)
   have e13:(List.range t).map (fun c=>(A.length+c,0,k+n))++[(A.length+t,0,k+n)]=(List.range (t+1)).map (fun c=>(A.length+c,0,k+n)):=by rw[List.range_succ,List.map_append]; rfl
   have e14:B++[Zr (k+n) (wide n k M t)]=A++(List.range (t+1)).map (fun c=>Zr (k+n) (wide n k M c)):=by rw[← hB,← hR,List.range_succ,List.map_append,List.append_assoc]; rfl
   have e15:((Zr n (fun _=>0)).set t (ByteArray.mk #[49])).length=n:=by rw[List.length_set,lZ]
   simp only[kM,e1,cond_true,col,aG,bJF hn,e5,e2,e3,e4,e15,e6,e7,e8,e9,hlen,e10,e11,e12,e13,e14]
  ·have e1:ltI (s:Int) (k:Int)=true:=by rw[aI]; exact decide_eq_true (by omega)
   have e2:aL (s:Int) k=true:=by rw[aR]; exact decide_eq_true (by omega)
   have e3:((s:Nat):Int).toNat=s:=Int.toNat_natCast _;have e4:aL (t:Int) n=true:=by rw[aR]; exact decide_eq_true (by omega)
   have e5:((t:Nat):Int).toNat=t:=Int.toNat_natCast _;have e6:Nat.blt ((o+t)*1) (o+n)=true:=by rw[cX]; exact decide_eq_true (by omega)
   have e7:PM.eD B (J s) ((o+t)*1) ByteArray.empty=Zn (M s t):=by rw[Nat.mul_one]; exact h'.eD hs ht
   have e8:Nat.ble [Zn (M s t)].length 1048576=true:=rfl;have e9:Nat.ble ((List.range s).map (fun i=>Zn (M i t))).length 1048576=true:=by rw[gY,List.length_map,List.length_range]; exact decide_eq_true (by omega)
   have e10:=cY s (by omega)
   have e11:(List.range s).map (fun i=>Zn (M i t))++[Zn (M s t)]=(List.range (s+1)).map (fun i=>Zn (M i t)):=by rw[List.range_succ,List.map_append]; rfl
   simp only[kO,h.len,e1,e2,e3,h'.get hs,e4,e5,h'.dH hs,e6,e7,e8,e9,e10,e11,cond_true]
  ·have e1:ltI (k:Int) (k:Int)=false:=by rw[aI]; exact decide_eq_false (by omega)
   simp only[kO,h.len,e1,cond_false]
 ·have e1:ltI (n:Int) (n:Int)=false:=by rw[aI]; exact decide_eq_false (by omega)
  simp only[kM,e1,cond_false]
end
end Go.PM
namespace Go.PM
open Go Go.RowKit Go.Proofs Go.Lz
set_option maxRecDepth 100000
theorem Hn.split {d:Nat} {W:Nat→V} {p:Nat→Nat} (h:Hn d W p) (k:Nat):∃ j,j≤d∧(∀ i,i<j→p i<k)∧∀ i,j≤i→i<d→k≤p i:=by
 have:∀ t,t≤d→∃ j,j≤t∧(∀ i,i<j→p i<k)∧∀ i,j≤i→i<t→k≤p i:=by
  intro t
  induction t with
  | zero=>exact fun _=>⟨0,Nat.le_refl _,fun i hi=>by omega,fun i _ hi=>by omega⟩
  | succ t ih =>
   intro ht;obtain⟨j,h1,h2,h3⟩:=ih (by omega)
   by_cases hj:j=t
   ·by_cases hp:p t<k
    ·exact⟨t+1,by omega,fun i hi=>by
      by_cases e:i=t
      ·subst e; exact hp
      ·exact h2 i (by omega),fun i g1 g2=>by omega⟩
    ·exact⟨j,by omega,h2,fun i g1 g2=>by
      have:i=t:=by omega
      subst this; omega⟩
   ·exact⟨j,by omega,h2,fun i g1 g2=>by
     by_cases e:i=t
     ·subst e
      have a1:=h3 j (Nat.le_refl _) (by omega)
      have a2:=h.inc j i (by omega) (by omega)
      omega
     ·exact h3 i g1 (by omega)⟩
 exact this d (Nat.le_refl _)
section
variable {o k n d:Nat} {m:List (Nat×Nat×Nat)} {A:List (List ByteArray)} {J:Nat→Nat} {M:Nat→V}
theorem oV.behind (h:oV o d (k+n) m A J M) {j:Nat} (hj:j≤d):oV (o+k) (d-j) n ((List.range (d-j)).map fun i=>(J (j+i),o+k,n)) A (fun i=>J (j+i)) (fun i y=>M (j+i) (k+y)) :=
 ⟨rfl,fun i hi=>by
  obtain⟨pre,h1,h2⟩:=h.at_ (j+i) (by omega)
  refine⟨pre++Zr k (M (j+i)),by rw[List.length_append,lZ,h1],?_⟩
  rw[h2,bJZ,List.append_assoc],fun a b ha hb e=>by
  have:=h.inj (j+a) (j+b) (by omega) (by omega) e
  omega⟩
theorem bBK(hkn:k+n<1048576) (hd:d<1048576) (h:oV o d (k+n) m A J M) {p:Nat→Nat} (hH:Hn d M p) (hw:Wd d (k+n) M) {j:Nat} (hj:j≤d) (h1:∀ i,i<j→p i<k) (h2:∀ i,j≤i→i<d→k≤p i) :
  kK ((k:Int),(n:Int),[],m,(m.length:Int),0,A,())=some ((n:Int),(List.range (d-j)).map (fun i=>(J (j+i),o+k,n)),A,()):=by
 have key:=bI (step:=gH) (N:=2^64)
  (fun t=>((k:Int),(n:Int),(List.range (t-j)).map (fun i=>(J (j+i),o+k,n)),m,(m.length:Int),(t:Int),A,())) d
  ((n:Int),(List.range (d-j)).map (fun i=>(J (j+i),o+k,n)),A,()) (by omega) (fun t ht=>?_) ?_
 ·have key:kK ((k:Int),(n:Int),(List.range (0-j)).map (fun i=>(J (j+i),o+k,n)),m,(m.length:Int),0,A,())=_:=key
  rwa[Nat.zero_sub]at key
 ·have e1:ltI (t:Int) (d:Int)=true:=by rw[aI]; exact decide_eq_true (by omega)
  have e2:aL (t:Int) d=true:=by rw[aR]; exact decide_eq_true (by omega)
  have e3:((t:Nat):Int).toNat=t:=Int.toNat_natCast _;obtain⟨L,q1,q2⟩:=bHR h (by omega) ht
  have hp:=hH.pos t ht;have hpl:p t<k+n:=by
   refine Classical.byContradiction fun hc=>?_
   have:=hw t ht (p t) (by omega)
   omega
  have hL:L=(p t:Int):=by
   rcases q2 with ⟨_,q3⟩|⟨x,g1,g2,g3,g4⟩
   ·have:=q3 (p t) hpl; omega
   ·rw[g2]
    congr 1
    rcases Nat.lt_trichotomy x (p t)with g|g|g
    ·exact absurd (hH.low t ht x g) g3
    ·exact g
    ·have:=g4 (p t) g; omega
  subst hL;have e4:=cY t (by omega)
  by_cases htj:t<j
  ·have e5:ltI (p t:Int) (k:Int)=true:=by rw[aI]; exact decide_eq_true (by have:=h1 t htj; omega)
   have e6:t+1-j=0:=by omega
   have e7:t-j=0:=by omega
   simp only[gH,h.len,e1,e2,e3,h.get ht,q1,aG,e5,e4,e6,e7,cond_true,cond_false,Bool.not_true]
  ·have e5:ltI (p t:Int) (k:Int)=false:=by rw[aI]; exact decide_eq_false (by have:=h2 t (by omega) ht; omega)
   have e6:ltI (k:Int) 0=false:=by rw[aI]; exact decide_eq_false (by omega)
   have e7:((k:Nat):Int).toNat=k:=Int.toNat_natCast _;have e8:Nat.ble k (k+n)=true:=by rw[gY]; exact decide_eq_true (by omega)
   have e9:Nat.ble (k+n) (k+n)=true:=by rw[gY]; exact decide_eq_true (by omega)
   have e10:k+n-k=n:=by omega
   have e11:Nat.ble [(J t,o+k,n)].length 1048576=true:=rfl;have e12:Nat.ble ((List.range (t-j)).map (fun i=>(J (j+i),o+k,n))).length 1048576=true:=by rw[gY,List.length_map,List.length_range]; exact decide_eq_true (by omega)
   have e13:(List.range (t-j)).map (fun i=>(J (j+i),o+k,n))++[(J t,o+k,n)]=(List.range (t+1-j)).map (fun i=>(J (j+i),o+k,n)):=by
    rw[show t+1-j=(t-j)+1 by omega,List.range_succ,List.map_append]
    have:j+(t-j)=t:=by omega
    simp only[List.map_cons,List.map_nil,this]
   simp only[gH,h.len,e1,e2,e3,h.get ht,q1,aG,e5,e4,e6,e7,e8,e9,e10,e11,e12,e13,cond_true,cond_false,Bool.not_false]
 ·have e1:ltI (d:Int) (d:Int)=false:=by rw[aI]; exact decide_eq_false (by omega)
  simp only[gH,h.len,e1,cond_false]
theorem Wd.wide (hw:Wd k n M):Wd n (k+n) (wide n k M):=fun i hi x hx=>by
 have e1:¬ x<k:=by omega
 have e2:¬ x=k+i:=by omega
 simp only[Lz.wide,e1,e2,if_false]
theorem Big.wide {E:Nat} (hE:Big k n M E) (h1:1≤E):Big n (k+n) (wide n k M) E:=fun i hi x hx=>by
 simp only[Lz.wide];split
 ·rename_i hk; exact hE x hk i hi
 ·split
  ·simpa using h1
  ·simp
theorem aWI {W:Nat→V} {p:Nat→Nat} (hH:Hn d W p) (hs:Same n (wide n k M) d W) {j:Nat} (hj:j≤d) (h1:∀ i,i<j→p i<k) (h2:∀ i,j≤i→i<d→k≤p i) :
  Hn (d-j) (fun i y=>W (j+i) (k+y)) (fun i=>p (j+i)-k)∧AV n k M (d-j) (fun i y=>W (j+i) (k+y)):=by
 refine⟨⟨fun a b hab hb=>?_,fun i hi x hx=>?_,fun i hi=>?_,fun a b hab hb=>?_⟩,bGT hH hs hj h1 h2⟩
 ·have g1:=h2 (j+a) (by omega) (by omega)
  have g2:=hH.inc (j+a) (j+b) (by omega) (by omega)
  show p (j+a)-k<p (j+b)-k;omega
 ·exact hH.low (j+i) (by omega) (k+x) (by have:x<p (j+i)-k:=hx; omega)
 ·have g1:=h2 (j+i) (by omega) (by omega)
  show 0<W (j+i) (k+(p (j+i)-k));rw[show k+(p (j+i)-k)=p (j+i)by omega]
  exact hH.pos (j+i) (by omega)
 ·have g1:=h2 (j+b) (by omega) (by omega)
  show 0≤W (j+a) (k+(p (j+b)-k))∧W (j+a) (k+(p (j+b)-k))<W (j+b) (k+(p (j+b)-k));rw[show k+(p (j+b)-k)=p (j+b)by omega]
  exact hH.red (j+a) (j+b) (by omega) (by omega)
theorem a4U {E T:Nat→Nat} (hk:k<1048576) (hn:n<1048576) (hkn:k+n<1048576) (h:oV o k n m A J M) (hw:Wd k n M) (hE:Big k n M (E 0)) (h1E:1≤E 0) (hb:Bds n (k+n) E T)
  (hK:∀ r K p,r≤n→Hn r K p→AV n k M r K→∃ E2 T2:Nat→Nat,Big r n K (E2 0)∧Bds r n E2 T2) :
  ∃ m' A' J' K p r,c8 () (m,(n:Int),()) A=some (m',A')∧oV k r n m' A' J' K∧r≤n∧Hn r K p∧AV n k M r K∧Wd r n K:=by
 have hl:=bGL hk hn hkn h;have hL:oV 0 n (k+n) ((List.range n).map fun c=>(A.length+c,0,k+n)) (A++(List.range n).map fun c=>Zr (k+n) (wide n k M c)) (fun c=>A.length+c) (wide n k M) :=
  ⟨rfl,fun i hi=>⟨[],rfl,by
   rw[List.getElem?_append_right (by omega),show A.length+i-A.length=i by omega,List.getElem?_map,List.getElem?_range hi]
   rfl⟩,fun i j _ _ e=>by omega⟩
 obtain⟨m1,A1,J1,W,d,p,g1,g2,g3,g4,g5,g6,g7⟩:=aYZ hn hkn hL hw.wide (hE.wide h1E) hb;obtain⟨j,b1,b2,b3⟩:=Hn.split g4 k;have hL2:=g3.take g2;have hwd:Wd d (k+n) W:=fun i hi x hx=>g6 i (by omega) x hx
 have hbl:=bBK hkn (by omega) hL2 g4 hwd b1 b2 b3
 obtain⟨c1,c2⟩:=aWI g4 g5 b1 b2 b3;have hL3:=hL2.behind b1;have hwK:Wd (d-j) n (fun i y=>W (j+i) (k+y)):=fun i hi x hx=>hwd (j+i) (by omega) (k+x) (by omega)
 obtain⟨E2,T2,k1,k2⟩:=hK _ _ _ (by omega) c1 c2
 obtain⟨m2,A2,J2,K,r,p2,f1,f2,f3,f4,f5,f6,f7⟩:=aYZ (show d-j<1048576 by omega) hn hL3 hwK k1 k2
 rw[Nat.zero_add]at f3;refine⟨m2.take r,A2,J2,K,p2,r,?_,f3.take f2,by omega,f4,?_,fun i hi x hx=>f6 i (by omega) x hx⟩
 ·have e1:aB .i64 ((k:Int)+(n:Int))=((k+n:Nat):Int):=by rw[wrap64 (by omega) (by omega)]; omega
  have hml:=h.len;simp only[c8,hl,aG,hml,e1,g1,iF,hbl,f1]
 ·intro y
  rw[← f5 y];exact c2 y
end
end Go.PM
namespace Go.PM
open Go Go.RowKit Go.Proofs Go.Lz
set_option maxRecDepth 100000
theorem FX(n:Nat) (v:V):(Vr n v).length=n:=by simp[Vr]
theorem a13 {n i:Nat} (v:V) (h:i<n):(Vr n v).getD i 0=v i:=by simp[Vr,List.getD,h]
theorem a1E {n:Nat} {v:V} {B:Nat} (h:∀ x,x<n→(v x).natAbs≤B):∀ a∈Vr n v,a.natAbs≤B:=by
 intro a ha;obtain⟨x,hx,rfl⟩:=List.mem_map.1 ha;exact h x (List.mem_range.1 hx)
def Mr(d n:Nat) (M:Nat→V):List (List Int):=(List.range d).map fun i=>Vr n (M i)
theorem tZ(d n:Nat) (M:Nat→V):(Mr d n M).length=d:=by simp[Mr]
theorem aVW {d n i:Nat} (M:Nat→V) (h:i<d) (z:List Int):(Mr d n M).getD i z=Vr n (M i):=by simp[Mr,List.getD,h]
theorem a03 {d n:Nat} {M:Nat→V} {r:List Int} (h:r∈Mr d n M):∃ i,i<d∧r=Vr n (M i):=by
 obtain⟨i,hi,rfl⟩:=List.mem_map.1 h;exact⟨i,List.mem_range.1 hi,rfl⟩
theorem bI1(r:List Int) (hl:r.length<1048576) (hr:∀ a∈r,a.natAbs≤1000000000):eU (r,(),())=some (false,()):=by
 have key:=bI (step:=dY) (N:=2^64) (fun t=>(r,(),(r.length:Int),(t:Int),())) r.length (.inr ()) (by omega) (fun t ht=>?_) ?_
 ·have key:bZ dY (2^64) (r,(),(r.length:Int),0,())=some (.inr ()):=key
  have e2:ltI (-1) 0=true:=by decide
  simp only[eU,jQ,kA,key,aG,lR,e2,Bool.not_true]
 ·have e1:ltI (t:Int) (r.length:Int)=true:=by rw[aI]; exact decide_eq_true (by omega)
  have e2:aL (t:Int) r.length=true:=by rw[aR]; exact decide_eq_true (by omega)
  have e3:((t:Nat):Int).toNat=t:=Int.toNat_natCast _;have e4:r.getD t 0=r[t]:=by simp[List.getD,ht]
  have b:=hr r[t] (List.getElem_mem ht);have e5:ltI r[t] (-1000000000)=false:=by rw[aI]; exact decide_eq_false (by omega)
  have e6:ltI 1000000000 r[t]=false:=by rw[aI]; exact decide_eq_false (by omega)
  have e7:=cY t (by omega)
  simp only[dY,e1,e2,e3,e4,OB,e5,e6,aG,cond_true,cond_false,e7]
 ·have e1:ltI (r.length:Int) (r.length:Int)=false:=by rw[aI]; exact decide_eq_false (by omega)
  simp only[dY,e1,cond_false]
theorem a1H(rows:List (List Int)) {n:Nat} (hk:rows.length≤12) (hn:n≤12) (hlen:∀ r∈rows,r.length=n) (hr:∀ r∈rows,∀ a∈r,a.natAbs≤1000000000):I6 (rows,())=some (0,()):=by
 have key:=bI (step:=wC) (N:=2^64) (fun t=>(rows,rows,(rows.length:Int),(t:Int),())) rows.length (.inr ()) (by omega) (fun t ht=>?_) ?_
 ·have key:bZ wC (2^64) (rows,rows,(rows.length:Int),0,())=some (.inr ()):=key
  have e1:ltI 12 (rows.length:Int)=false:=by rw[aI]; exact decide_eq_false (by omega)
  simp only[I6,HG,e1,cond_false,key,aG,lR]
 ·have e1:ltI (t:Int) (rows.length:Int)=true:=by rw[aI]; exact decide_eq_true (by omega)
  have e2:aL (t:Int) rows.length=true:=by rw[aR]; exact decide_eq_true (by omega)
  have e3:((t:Nat):Int).toNat=t:=Int.toNat_natCast _;have e4:rows.getD t []=rows[t]:=by simp[List.getD,ht]
  have e4':rows.getD 0 []=rows[0]:=by simp[List.getD,show 0<rows.length by omega]
  have hm:=List.getElem_mem ht;have hm0:=List.getElem_mem (show 0<rows.length by omega)
  have e5:ltI 12 (rows[t].length:Int)=false:=by rw[aI,hlen _ hm]; exact decide_eq_false (by omega)
  have e6:aL 0 rows.length=true:=by rw[aR]; exact decide_eq_true (by omega)
  have e7:eqI (rows[t].length:Int) (rows[0].length:Int)=true:=by rw[jS,hlen _ hm,hlen _ hm0]; exact decide_eq_true rfl
  have e8:=bI1 rows[t] (by rw[hlen _ hm]; omega) (hr _ hm)
  have e9:=cY t (by omega)
  simp only[wC,e1,e2,e3,e4,e4',e5,e6,e7,e8,e9,aG,Bool.not_true,cond_true,cond_false]
 ·have e1:ltI (rows.length:Int) (rows.length:Int)=false:=by rw[aI]; exact decide_eq_false (by omega)
  simp only[wC,e1,cond_false]
theorem bJ0 {n c:Nat} {v:V} (hn:n<1048576) (hc:c<n) (hz:∀ x,x<c→v x=0) (hp:v c≠0):C2 (Vr n v,())=some ((c:Int),()):=by
 have hl:=FX n v;have key:=bI (step:=dZ) (N:=2^64) (fun t=>(Vr n v,(),(n:Int),(t:Int),())) c (.inl ((c:Int),())) (by omega) (fun t ht=>?_) ?_
 ·have key:bZ dZ (2^64) (Vr n v,(),(n:Int),0,())=some (.inl ((c:Int),())):=key
  simp only[C2,jG,kC,hl,key,aG,CW]
 ·have e1:ltI (t:Int) (n:Int)=true:=by rw[aI]; exact decide_eq_true (by omega)
  have e2:aL (t:Int) n=true:=by rw[aR]; exact decide_eq_true (by omega)
  have e3:((t:Nat):Int).toNat=t:=Int.toNat_natCast _;have e4:(Vr n v).getD t 0=0:=by rw[a13 v (by omega)]; exact hz t ht
  have e5:eqI 0 0=true:=by decide
  have e9:=cY t (by omega)
  simp only[dZ,hl,e1,e2,e3,e4,xY,e5,e9,aG,Bool.not_true,cond_true,cond_false]
 ·have e1:ltI (c:Int) (n:Int)=true:=by rw[aI]; exact decide_eq_true (by omega)
  have e2:aL (c:Int) n=true:=by rw[aR]; exact decide_eq_true (by omega)
  have e3:((c:Nat):Int).toNat=c:=Int.toNat_natCast _;have e4:eqI ((Vr n v).getD c 0) 0=false:=by rw[a13 v hc,jS]; exact decide_eq_false hp
  simp only[dZ,hl,e1,e2,e3,xY,e4,aG,Bool.not_false,cond_true]
theorem bEI {n c:Nat} {v:V} (hn:n<1048576) (hc:c<n) (hz:∀ x,x<c→v x=0) (hp:v c≠0):iD (Zr n v,())=some ((c:Int),()):=by
 have hl:=lZ n v;have key:=bI (step:=a8) (N:=2^64) (fun t=>(Zr n v,(),(n:Int),(t:Int),())) c (.inl ((c:Int),())) (by omega) (fun t ht=>?_) ?_
 ·have key:bZ a8 (2^64) (Zr n v,(),(n:Int),0,())=some (.inl ((c:Int),())):=key
  simp only[iD,dC,dG,hl,key,aG,CW]
 ·have e1:ltI (t:Int) (n:Int)=true:=by rw[aI]; exact decide_eq_true (by omega)
  have e2:aL (t:Int) n=true:=by rw[aR]; exact decide_eq_true (by omega)
  have e3:((t:Nat):Int).toNat=t:=Int.toNat_natCast _;have e4:eqS ((Zr n v).getD t ByteArray.empty) (ByteArray.mk #[48])=true:=by rw[W5 v (by omega),I5]; exact decide_eq_true (hz t ht)
  have e9:=cY t (by omega)
  simp only[a8,hl,e1,e2,e3,gW,e4,e9,aG,Bool.not_true,cond_true,cond_false]
 ·have e1:ltI (c:Int) (n:Int)=true:=by rw[aI]; exact decide_eq_true (by omega)
  have e2:aL (c:Int) n=true:=by rw[aR]; exact decide_eq_true (by omega)
  have e3:((c:Nat):Int).toNat=c:=Int.toNat_natCast _;have e4:eqS ((Zr n v).getD c ByteArray.empty) (ByteArray.mk #[48])=false:=by rw[W5 v hc,I5]; exact decide_eq_false hp
  simp only[a8,hl,e1,e2,e3,gW,e4,aG,Bool.not_false,cond_true]
theorem Hn.aVI {d n:Nat} {M:Nat→V} {p:Nat→Nat} (h:Hn d M p) (hw:∀ i,i<d→∀ x,n≤x→M i x=0) {i:Nat} (hi:i<d):p i<n:=by
 rcases Nat.lt_or_ge (p i) n with g|g
 ·exact g
 ·have:=hw i hi _ g
  have:=h.pos i hi;omega
theorem bJC {d n t:Nat} {M:Nat→V} {p:Nat→Nat} (h:Hn d M p) (hw:∀ i,i<d→∀ x,n≤x→M i x=0) (hd:d<1048576) (hn:n<1048576) (ht:t<d) :
  cW (Mr t n M,((p t:Int),Vr n (M t),()),())=some (false,()):=by
 have hl:=tZ t n M;have hp:=Hn.aVI h hw ht;have key:=bI (step:=cL) (N:=2^64) (fun s=>(Mr t n M,((p t:Int),Vr n (M t),()),(t:Int),(s:Int),())) t (.inr ()) (by omega) (fun s hs=>?_) ?_
 ·have key:bZ cL (2^64) (Mr t n M,((p t:Int),Vr n (M t),()),(t:Int),0,())=some (.inr ()):=key
  have e2:ltI (-1) 0=true:=by decide
  simp only[cW,fD,fT,hl,key,aG,lR,e2,Bool.not_true]
 ·have e1:ltI (s:Int) (t:Int)=true:=by rw[aI]; exact decide_eq_true (by omega)
  have e2:aL (s:Int) t=true:=by rw[aR]; exact decide_eq_true (by omega)
  have e3:∀ a:Nat,((a:Nat):Int).toNat=a:=fun a=>Int.toNat_natCast _
  have e4:=aVW (n:=n) M hs [];have e5:aL (p t:Int) n=true:=by rw[aR]; exact decide_eq_true (by omega)
  obtain⟨r1,r2⟩:=h.red s t hs ht;have e6:ltI (M s (p t)) 0=false:=by rw[aI]; exact decide_eq_false (by omega)
  have e7:ltI (M s (p t)) (M t (p t))=true:=by rw[aI]; exact decide_eq_true r2
  have e9:=cY s (by omega)
  simp only[cL,hl,e1,e2,e3,e4,yW,FX,e5,a13 _ hp,e6,e7,e9,aG,Bool.not_true,cond_true,cond_false]
 ·have e1:ltI (t:Int) (t:Int)=false:=by rw[aI]; exact decide_eq_false (by omega)
  simp only[cL,e1,cond_false]
theorem bF0 {d n:Nat} {M:Nat→V} {p:Nat→Nat} (h:Hn d M p) (hw:∀ i,i<d→∀ x,n≤x→M i x=0) (hd:d<1048576) (hn:n<1048576):zY (Mr d n M,())=some (true,()):=by
 have hl:=tZ d n M;obtain⟨q,hq⟩:∃ q:Nat→Int,q=fun t=>if t=0 then -1 else (p (t-1):Int):=⟨_,rfl⟩
 have key:=bI (step:=rC) (N:=2^64) (fun t=>(Mr d n M,q t,Mr d n M,(d:Int),(t:Int),())) d (.inr ()) (by omega) (fun t ht=>?_) ?_
 ·have q0:q 0 = -1:=by rw[hq]; rfl
  rw[q0]at key;have key:bZ rC (2^64) (Mr d n M,-1,Mr d n M,(d:Int),0,())=some (.inr ()):=key;simp only[zY,A0,hl,key,aG,lR]
 ·have hp:=Hn.aVI h hw ht
  have e1:ltI (t:Int) (d:Int)=true:=by rw[aI]; exact decide_eq_true (by omega)
  have e2:aL (t:Int) d=true:=by rw[aR]; exact decide_eq_true (by omega)
  have e3:∀ a:Nat,((a:Nat):Int).toNat=a:=fun a=>Int.toNat_natCast _
  have e4:=aVW (n:=n) M ht [];have e5:=bJ0 hn hp (h.low t ht) (by have:=h.pos t ht; omega)
  have e6:ltI (q t) (p t:Int)=true:=by
   rw[aI,hq];dsimp only;split
   ·exact decide_eq_true (by omega)
   ·have:=h.inc (t-1) t (by omega) ht
    exact decide_eq_true (by omega)
  have e7:aL (p t:Int) n=true:=by rw[aR]; exact decide_eq_true (by omega)
  have e8:ltI (M t (p t)) 0=false:=by rw[aI]; exact decide_eq_false (by have:=h.pos t ht; omega)
  have e9:ltI (t:Int) 0=false:=by rw[aI]; exact decide_eq_false (by omega)
  have e10:Nat.ble 0 t=true:=rfl;have e11:Nat.ble t d=true:=by rw[gY]; exact decide_eq_true (by omega)
  have e12:((Mr d n M).drop 0).take (t-0)=Mr t n M:=by
   rw[List.drop_zero,Nat.sub_zero];unfold Mr;rw[← List.map_take,List.take_range,Nat.min_eq_left (by omega)]
  have e13:=bJC h hw hd hn ht;have e14:=cY t (by omega)
  have e15:q (t+1)=(p t:Int):=by rw[hq]; simp
  simp only[rC,hl,e1,e2,e3,e4,e5,aG,e6,FX,e7,a13 _ hp,e8,e9,e10,e11,e12,e13,e14,e15,Bool.not_true,Bool.not_false,cond_true,cond_false]
 ·have e1:ltI (d:Int) (d:Int)=false:=by rw[aI]; exact decide_eq_false (by omega)
  simp only[rC,e1,cond_false]
theorem aM2 {d n:Nat} {M:Nat→V} {p:Nat→Nat} (h:Hn d M p) (hw:∀ i,i<d→∀ x,n≤x→M i x=0) (hd:d≤12) (hn:n≤12) (hM:∀ i,i<d→∀ x,x<n→(M i x).natAbs≤1000000000):lQ (((n:Int),Mr d n M),())=some (0,()):=by
 have hlen:∀ r∈Mr d n M,r.length=n:=fun r hr=>by
  obtain⟨i,_,rfl⟩:=a03 hr;exact FX _ _
 have hr:∀ r∈Mr d n M,∀ a∈r,a.natAbs≤1000000000:=fun r hr=>by
  obtain⟨i,hi,rfl⟩:=a03 hr;exact a1E (hM i hi)
 have e0:eqI 0 0=true:=by decide
 have c1:=bBT (Mr d n M) (n:=n) (by rw[tZ]; exact hd) hn hlen hr
 have c2:=a1H (Mr d n M) (n:=n) (by rw[tZ]; exact hd) hn hlen hr
 simp only[lQ,c1,aG,e0,Bool.not_true,cond_false,FK,c2,bF0 h hw (by omega) (by omega),cond_true]
end Go.PM
namespace Go.Lz
theorem bD8 {E d:Nat} (h:1≤E) (hd:d≤4):fac E d≤24*(E*E*E*E):=by
 have h1:E≤E*E:=Nat.le_mul_of_pos_left E h;have h2:E*E≤E*E*E:=Nat.le_mul_of_pos_right _ h;have h3:E*E*E≤E*E*E*E:=Nat.le_mul_of_pos_right _ h;rcases(show d=0∨d=1∨d=2∨d=3∨d=4 by omega)with rfl|rfl|rfl|rfl|rfl <;> simp only[fac] <;> omega
def un(q:Nat):V:=fun c=>if c=q then 1 else 0
theorem bDP(b:V) {q:Nat}:∀ {n:Nat},(q<n→dot n (un q) b=b q)∧(n≤q→dot n (un q) b=0)
 | 0=>⟨fun h=>by omega,fun _=>rfl⟩
 | n+1=>by
  have ih:=bDP b (q:=q) (n:=n);refine⟨fun h=>?_,fun h=>?_⟩
  ·show dot n (un q) b+un q n*b n=b q
   by_cases hq:q=n
   ·subst hq
    rw[ih.2 (Nat.le_refl _)];simp[un]
   ·rw[ih.1 (by omega)]
    have:¬ n=q:=fun e=>hq e.symm
    simp[un,this]
  ·show dot n (un q) b+un q n*b n=0
   have:¬ n=q:=by omega
   rw[ih.2 (by omega)]
   simp[un,this]
theorem bJN {n:Nat} (b:V) (s:Nat→Int) (U:Nat→V):∀ d,dot n (fun c=>sm (fun j=>s j*U j c) d) b=sm (fun j=>s j*dot n (U j) b) d
 | 0=>aS3 b n
 | d+1=>by
  show dot n (fun c=>sm (fun j=>s j*U j c) d+s d*U d c) b=_
  rw[aKU,bJN b s U d];rfl
theorem bII {n k r r2 d W:Nat} {M K S H:Nat→V} {p:Nat→Nat} (hw:∀ i,i<k→∀ x,n≤x→M i x=0) (hH:Hn d H p) (hs:Same k M d H) (hp:∀ j,j<d→p j<n) (hd:Dg k M d p W) (h1:AV n k M r K) (h2:AV n r K r2 S) :
  ∃ D:Int,D≠0∧∀ v,Sp r2 S v→Sp k M (fun x=>D*v x):=by
 obtain⟨D,w,h0,hw'⟩:=hd;refine⟨D,h0,fun v hv=>?_⟩
 have hwid:∀ {b:V},Sp k M b→∀ x,n≤x→b x=0:=fun hb x hx=>Sp.aM6 (fun j hj=>hw j hj x hx) hb
 -- what the rows of the lattice are
 have comb:∀ b,Sp k M b→∀ x,D*b x=sm (fun j=>b (p j)*w j x) d:=fun b hb x=>by
  have hz:(fun y=>D*b y-sm (fun j=>b (p j)*w j y) d)=fun _=>0:=by
   refine hH.zero ((hs _).1 (Sp.sub (Sp.smul D hb) (Sp.sm fun j hj=>(hw' j hj).1))) fun l hl=>?_
   rw[bCW (f:=fun j=>b (p j)*w j (p l)) hl fun j hj hne=>by rw[(hw' j hj).2.2.1 l hl (Ne.symm hne),Int.mul_zero]]
   rw[(hw' l hl).2.1];grind
  have:=congrFun hz x;have:D*b x-sm (fun j=>b (p j)*w j x) d=0:=this
  omega
 have main:∀ x,D*v x=sm (fun j=>v (p j)*w j x) d:=fun x=>by
  by_cases hx:x<n
  ·-- a row of the kernel
   have hy:∀ b:V,dot n (fun c=>sm (fun j=>-(w j x)*un (p j) c) d+D*un x c) b=D*b x-sm (fun j=>b (p j)*w j x) d:=fun b=>by
    rw[aKU,bJN,(bDP b).1 hx];have:sm (fun j=>-(w j x)*dot n (un (p j)) b) d = -(sm (fun j=>b (p j)*w j x) d):=by
     have:∀ e,e≤d→sm (fun j=>-(w j x)*dot n (un (p j)) b) e = -(sm (fun j=>b (p j)*w j x) e):=by
      intro e
      induction e with
      | zero=>exact fun _=>rfl
      | succ e ih =>
       intro he;rw[sm,sm,ih (by omega),(bDP b).1 (hp e (by omega))]
       grind
     exact this d (Nat.le_refl _)
    rw[this];omega
   have hk:Ker n k M (fun c=>sm (fun j=>-(w j x)*un (p j) c) d+D*un x c):=by
    refine⟨fun c hc=>?_,fun i hi=>?_⟩
    ·have e1:¬ c=x:=by omega
     show sm (fun j=>-(w j x)*un (p j) c) d+D*un x c=0
     rw[aYX fun j hj=>by
      have:=hp j hj;have e2:¬ c=p j:=by omega
      simp[un,e2]]
     simp[un,e1]
    ·rw[hy,comb _ (Sp.mem hi) x]; omega
   have hv2:=(h2 v).1 hv;have:=hv2.span ((h1 _).2 hk);rw[NN,hy]at this;omega
  ·have g1:=((h2 v).1 hv).1 x (by omega)
   rw[g1,aYX fun j hj=>by rw[hwid (hw' j hj).1 x (by omega),Int.mul_zero],Int.mul_zero]
 have:=Sp.sm (k:=k) (M:=M) (w:=w) (s:=fun j=>v (p j)) (n:=d) fun j hj=>(hw' j hj).1
 refine cast (congrArg _ ?_) this
 funext x
 exact(main x).symm
section
variable {k:Nat} {M:Nat→V}
end
end Go.Lz
namespace Go.PM
open Go Go.RowKit Go.Proofs Go.Lz
set_option maxRecDepth 100000
def dg(D:Nat):Nat→Nat
 | 0=>D
 | d+1=>6*dg D d+2
theorem bM7(D:Nat) {a b:Nat} (h:a≤b):dg D a≤dg D b:=by
 induction h with
 | refl=>exact Nat.le_refl _
 | step _ ih=>refine Nat.le_trans ih ?_; rw[dg]; omega
theorem bMZ {D k n:Nat} (h:∀ d,d<k→d<n→10*dg D d+4≤400000):Bds k n (fun d=>10^dg D d) (fun d=>10^(5*dg D d+1)):=by
 have e5:∀ a:Nat,(10^a)^5=10^(5*a):=fun a=>by rw[← Nat.pow_mul,Nat.mul_comm]
 refine⟨fun d hd hdn=>⟨Nat.pow_pos (by decide),Nat.pow_le_pow_right (by decide) (by omega),fun _=>?_,?_⟩,fun d hd _=>?_⟩
 ·show 9*(10^dg D d)^5≤10^(5*dg D d+1)
  rw[e5,Nat.pow_succ];omega
 ·have h1:(10^(5*dg D d+1)+1:Nat)<10^(5*dg D d+1+1):=by
   rw[Nat.pow_succ 10 (5*dg D d+1)];have:0<10^(5*dg D d+1):=Nat.pow_pos (by decide)
   omega
  have h2:=wN (u:=10^(5*dg D d+1)+1) (k:=5*dg D d+1) h1;have:=h d hd hdn;have e:xM=400000:=rfl;show 2*Lib.nDigits (10^(5*dg D d+1)+1)≤xM;omega
 ·show 10^dg D d+(10^dg D d+1)*10^(5*dg D d+1)≤10^(6*dg D d+2)
  generalize ha:dg D d=a;have h1:(10^(5*a+1):Nat)=10*10^(5*a):=by rw[Nat.pow_succ]; omega
  have h2:(10^(6*a+2):Nat)=100*(10^a*10^(5*a)):=by
   rw[← Nat.pow_add,show a+5*a=6*a by omega,Nat.pow_add]; omega
  have h3:(10^a:Nat)≤10^a*10^(5*a):=Nat.le_mul_of_pos_right _ (Nat.pow_pos (by decide))
  have h4:(10^(5*a):Nat)≤10^a*10^(5*a):=Nat.le_mul_of_pos_left _ (Nat.pow_pos (by decide))
  have h5:(10^a+1)*(10*10^(5*a))=10*(10^a*10^(5*a))+10*10^(5*a):=by grind
  rw[h1,h2,h5];omega
theorem bGU {D k n:Nat} (hk:k≤4∨n≤4) (hD:D≤154):Bds k n (fun d=>10^dg D d) (fun d=>10^(5*dg D d+1)):=bMZ fun d hd hn=>by
 have h1:=bM7 D (show d≤3 by omega)
 have h2:dg D 3=6*(6*(6*D+2)+2)+2:=rfl;omega
theorem a4K {k n D:Nat} {M:Nat→V} (hk:k≤4∨n≤4) (hkk:k<1048576) (hn:n<1048576) (hw:Wd k n M) (hE:Big k n M (10^D)) (hD:D≤154):∃ d H p,d≤k∧Hn d H p∧Same k M d H∧Wd d n H:=by
 have hL:oV 0 k n ((List.range k).map fun c=>(c,0,n)) ((List.range k).map fun c=>Zr n (M c)) (fun c=>c) M :=
  ⟨rfl,fun i hi=>⟨[],rfl,by rw[List.getElem?_map,List.getElem?_range hi]; rfl⟩,fun i j _ _ e=>e⟩
 obtain⟨m',A',J',H,d,p,_,g2,g3,g4,g5,g6,g7⟩:=aYZ (by omega) hn hL hw (E:=fun d=>10^dg D d) (T:=fun d=>10^(5*dg D d+1)) hE (bGU hk hD)
 exact⟨d,H,p,g2,g4,g5,fun i hi x hx=>g6 i (by omega) x hx⟩
theorem Hn.LC {d n:Nat} {H:Nat→V} {p:Nat→Nat} (h:Hn d H p) (hw:Wd d n H):d≤n∧∀ j,j<d→p j<n:=by
 have hp:∀ j,j<d→p j<n:=fun j hj=>Hn.aVI h hw hj
 refine⟨?_,hp⟩;have:∀ j,j<d→j≤p j:=by
  intro j
  induction j with
  | zero=>exact fun _=>Nat.zero_le _
  | succ j ih=>intro hj; have:=ih (by omega); have:=h.inc j (j+1) (by omega) hj; omega
 rcases Nat.eq_zero_or_pos d with h0|h0
 ·omega
 ·have:=this (d-1) (by omega); have:=hp (d-1) (by omega); omega
theorem aV3 {k n E D r:Nat} {M K:Nat→V} {p:Nat→Nat} (hn:n≤4) (hk:k<1048000) (hw:Wd k n M) (hE:Big k n M E) (h1:1≤E) (hD:E≤10^D) (hD2:D≤154) (hH:Hn r K p) (hI:AV n k M r K) :
  ∀ i,i<r→∀ x,(K i x).natAbs≤4*(24*(E*E*E*E)):=by
 have hB:=hE.wide (k:=k) (M:=M) h1;obtain⟨d,W,q,g1,g2,g3,g4⟩:=a4K (k:=n) (n:=k+n) (M:=wide n k M) (.inl hn) (by omega) (by omega) hw.wide (fun i hi x hx=>Nat.le_trans (hB i hi x hx) hD) hD2
 obtain⟨j,b1,b2,b3⟩:=Hn.split g2 k;obtain⟨c1,c2⟩:=aWI g2 g3 b1 b2 b3;obtain⟨e1,_,e3⟩:=Hn.unique hH c1 fun v=>(hI v).trans (c2 v).symm
 have hdg:=(a9E (k:=n) (M:=wide n k M) (E:=E) (by omega) g2 (fun j hj=>⟨1,by decide,by
  have:=(g3 _).2 (Sp.mem hj);refine cast (congrArg _ ?_) this
  funext x; simp⟩) (hB.all hw.wide)).mono fun v=>(g3 v).1
 have hle:=Hn.bJO g2 hdg;intro i hi x;rw[e3 i hi];refine Nat.le_trans (hle (j+i) (by omega) (k+x)) (Nat.mul_le_mul (by omega) (bD8 h1 (by omega)))
theorem bGV {k n E D r r2:Nat} {M K S:Nat→V} {p2:Nat→Nat} (hk:k≤4) (hn:n≤4) (hw:Wd k n M) (hE:Big k n M E) (h1:1≤E) (hD:E≤10^D) (hD2:D≤154) (hI:AV n k M r K) (hS:Hn r2 S p2) (hI2:AV n r K r2 S) :
  ∀ i,i<r2→∀ x,(S i x).natAbs≤4*(24*(E*E*E*E)):=by
 obtain⟨d,H,p,g1,g2,g3,g4⟩:=a4K (.inl hk) (by omega) (by omega) hw (fun i hi x hx=>Nat.le_trans (hE i hi x hx) hD) hD2
 have a1:=(Hn.LC g2 g4);have hdg:=a9E (k:=k) (M:=M) (E:=E) (by omega) g2 (fun j hj=>⟨1,by decide,by
  have:=(g3 _).2 (Sp.mem hj);refine cast (congrArg _ ?_) this
  funext x; simp⟩) (hE.all hw)
 obtain⟨D0,h0,hsp⟩:=bII hw g2 g3 a1.2 hdg hI hI2;have hwS:Wd r2 n S:=fun i hi x hx=>hI2.width hi x hx
 have a2:=Hn.LC hS hwS;have hdS:=(a9E (k:=k) (M:=M) (E:=E) (by omega) hS (fun j hj=>⟨D0,h0,hsp _ (Sp.mem hj)⟩) (hE.all hw)).mono (k':=r2) (M':=S) fun v hv=>by
  refine(hI2 v).2 ⟨fun c hc=>Sp.aM6 (fun j hj=>hw j hj c hc) hv,fun x hx=>?_⟩
  rw[NN];exact((hI _).1 (Sp.mem hx)).span hv
 have hle:=Hn.bJO hS hdS;intro i hi x;refine Nat.le_trans (hle i hi x) (Nat.mul_le_mul (by omega) (bD8 h1 (by omega)))
end Go.PM
namespace Go.PM
open Go Go.RowKit Go.Proofs Go.Lz
set_option maxRecDepth 100000
theorem bKN {d n:Nat} {M:Nat→V} (hw:Wd d n M) {i:Nat} (hi:i<d):aM7 (Mr d n M) i=M i:=by
 unfold aM7;rw[aVW M hi];exact a6X fun x hx=>hw i hi x hx
theorem oV.congr {o k n:Nat} {m:List (Nat×Nat×Nat)} {A:List (List ByteArray)} {J:Nat→Nat} {M M':Nat→V} (h:oV o k n m A J M) (e:∀ i,i<k→M i=M' i):oV o k n m A J M' :=
 ⟨h.ml,fun i hi=>by rw[← e i hi]; exact h.at_ i hi,h.inj⟩
theorem aRR {d n:Nat} {M:Nat→V} (hd:d≤12) (hn:n≤12) (hw:Wd d n M) (hM:Big d n M 1000000000):∃ m A,eP () (Mr d n M,()) []=some (m,A)∧oV 0 d n m A (fun i=>i) M:=by
 have hlen:∀ r∈Mr d n M,r.length=n:=fun r hr=>by
  obtain⟨i,hi,rfl⟩:=a03 hr;exact FX _ _
 obtain⟨m,A,h1,h2⟩:=a0X (Mr d n M) (n:=n) (by rw[tZ]; omega) (by omega) hlen fun r hr a ha=>by
  obtain⟨i,hi,rfl⟩:=a03 hr;have:=a1E (fun x hx=>hM i hi x hx) a ha
  omega
 rw[tZ]at h2;exact⟨m,A,h1,h2.congr fun i hi=>bKN hw hi⟩
section
variable {d n:Nat} {B:Nat→V}
theorem p9:(1000000000:Nat)=10^9:=by decide
theorem p38:4*(24*((10^9)*(10^9)*(10^9)*(10^9)))≤10^38:=by decide
theorem bNF:4*(24*((10^38)*(10^38)*(10^38)*(10^38)))≤10^154:=by
 have e:(10^38:Nat)*10^38*10^38*10^38=10^152:=by rw[← Nat.pow_add,← Nat.pow_add,← Nat.pow_add]
 rw[e,show (154:Nat)=152+2 by rfl,Nat.pow_add]
 have:(10^2:Nat)=100:=by decide
 rw[this];generalize (10^152:Nat)=a;omega
theorem aQV {m:List (Nat×Nat×Nat)} {A:List (List ByteArray)} {J:Nat→Nat} (hd:d≤4) (hn:n≤4) (hw:Wd d n B) (hB:Big d n B (10^9)) (h:oV 0 d n m A J B) :
  ∃ m' A' J' K p r,c8 () (m,(n:Int),()) A=some (m',A')∧oV d r n m' A' J' K∧r≤n∧Hn r K p∧AV n d B r K∧Wd r n K∧Big r n K (10^38):=by
 have hk:=fun(r:Nat) (K:Nat→V) (p:Nat→Nat) (hH:Hn r K p) (hI:AV n d B r K)=>aV3 (E:=10^9) (D:=9) hn (by omega) hw hB (by decide) (Nat.le_refl _) (by decide) hH hI
 obtain⟨m',A',J',K,p,r,g1,g2,g3,g4,g5,g6⟩:=a4U (E:=fun d=>10^dg 9 d) (T:=fun d=>10^(5*dg 9 d+1)) (show d<1048576 by omega) (show n<1048576 by omega) (by omega) h hw hB (show 1≤10^dg 9 0 from Nat.pow_pos (by decide)) (bGU (.inl hn) (by decide)) fun r K p hr hH hI =>
  ⟨fun d=>10^dg 38 d,fun d=>10^(5*dg 38 d+1),fun i hi x _=>Nat.le_trans (hk r K p hH hI i hi x) p38,bGU (.inl (by omega)) (by decide)⟩
 exact⟨m',A',J',K,p,r,g1,g2,g3,g4,g5,g6,fun i hi x _=>Nat.le_trans (hk r K p g4 g5 i hi x) p38⟩
theorem aZQ {o:Nat} {m:List (Nat×Nat×Nat)} {A:List (List ByteArray)} {J:Nat→Nat} (hd:d≤4) (hn:n≤4) (hw:Wd d n B) (hB:Big d n B (10^38)) (h:oV o d n m A J B) :
  ∃ m' A' J' K p r,c8 () (m,(n:Int),()) A=some (m',A')∧oV d r n m' A' J' K∧r≤n∧Hn r K p∧AV n d B r K∧Wd r n K∧Big r n K (10^154):=by
 have hk:=fun(r:Nat) (K:Nat→V) (p:Nat→Nat) (hH:Hn r K p) (hI:AV n d B r K)=>aV3 (E:=10^38) (D:=38) hn (by omega) hw hB (Nat.pow_pos (by decide)) (Nat.le_refl _) (by decide) hH hI
 obtain⟨m',A',J',K,p,r,g1,g2,g3,g4,g5,g6⟩:=a4U (E:=fun d=>10^dg 38 d) (T:=fun d=>10^(5*dg 38 d+1)) (show d<1048576 by omega) (show n<1048576 by omega) (by omega) h hw hB (show 1≤10^dg 38 0 from Nat.pow_pos (by decide)) (bGU (.inl hn) (by decide)) fun r K p hr hH hI =>
  ⟨fun d=>10^dg 154 d,fun d=>10^(5*dg 154 d+1),fun i hi x _=>Nat.le_trans (hk r K p hH hI i hi x) bNF,bGU (.inl (by omega)) (by decide)⟩
 exact⟨m',A',J',K,p,r,g1,g2,g3,g4,g5,g6,fun i hi x _=>Nat.le_trans (hk r K p g4 g5 i hi x) bNF⟩
theorem aL8 {q:Nat→Nat} (hH:Hn d B q) (hn:n≤4) (hw:Wd d n B) (hB:Big d n B 1000000000) {K:Nat→V} {p:Nat→Nat} {r:Nat} (hK:Hn r K p) (hI:AV n d B r K) (ok:∀ i,i<r→∀ x,x<n→(K i x).natAbs≤1000000000) :
  kG (((n:Int),Mr d n B),())=some (((n:Int),Mr r n K),0,()):=by
 have hd:=(Hn.LC hH hw).1;obtain⟨m,A,a1,a2⟩:=aRR (by omega) (by omega) hw hB
 obtain⟨m',A',J',K',p',r',g1,g2,g3,g4,g5,g6,g7⟩:=aQV (by omega) hn hw (by rw[← p9]; exact hB) a2
 obtain⟨e1,_,e3⟩:=Hn.unique hK g4 fun v=>(hI v).trans (g5 v).symm
 subst e1;have g2':=g2.congr (M':=K) fun i hi=>(e3 i hi).symm
 have hs:=a2Q g2' (Nat.le_refl _) (by omega) (by omega) ok (n:Int)
 rw[List.take_of_length_le (by rw[g2'.len]; exact Nat.le_refl _)]at hs
 have e0:eqI 0 0=true:=by decide
 simp only[kG,aM2 hH hw (by omega) (by omega) hB,aG,e0,Bool.not_true,cond_false,a1,g1,hs]
 rfl
theorem aXL {q:Nat→Nat} (hH:Hn d B q) (hn:n≤4) (hw:Wd d n B) (hB:Big d n B 1000000000) {K:Nat→V} {r:Nat} (hI:AV n d B r K) {S:Nat→V} {s:Nat→Nat} {t:Nat} (hS:Hn t S s) (hI2:AV n r K t S) (ok:∀ i,i<t→∀ x,x<n→(S i x).natAbs≤1000000000) :
  pD (((n:Int),Mr d n B),())=some (((n:Int),Mr t n S),0,()):=by
 have hd:=(Hn.LC hH hw).1;obtain⟨m,A,a1,a2⟩:=aRR (by omega) (by omega) hw hB
 obtain⟨m',A',J',K',p',r',g1,g2,g3,g4,g5,g6,g7⟩:=aQV (by omega) hn hw (by rw[← p9]; exact hB) a2
 obtain⟨m2,A2,J2,S',p2,t',b1,b2,b3,b4,b5,b6,b7⟩:=aZQ (by omega) hn g6 g7 g2
 have hsame:Same r' K' r K:=fun v=>(g5 v).trans (hI v).symm
 obtain⟨e1,_,e3⟩:=Hn.unique hS b4 fun v=>(hI2 v).trans ((Ker.same hsame).symm.trans (b5 v).symm)
 subst e1;have g2':=b2.congr (M':=S) fun i hi=>(e3 i hi).symm
 have hs:=a2Q g2' (Nat.le_refl _) (by omega) (by omega) ok (n:Int)
 rw[List.take_of_length_le (by rw[g2'.len]; exact Nat.le_refl _)]at hs
 have e0:eqI 0 0=true:=by decide
 simp only[pD,aM2 hH hw (by omega) (by omega) hB,aG,e0,Bool.not_true,cond_false,a1,g1,b1,hs]
 rfl
end
end Go.PM
namespace Go.PM
open Go Go.RowKit Go.Proofs
set_option maxRecDepth 100000
set_option maxHeartbeats 4000000
abbrev gU:List (Nat×Kd):=[(0,.list TyE),(1,.list TyE),(12,.int .i64),(13,.int .i64)]
abbrev lJ:List (Ex×List (Nat×Kd)):=[(.ret,[(4,.bool)]),(.exit 0,[])]
def eJ(x:Shape.den gU):Option (Shape.den gU⊕aW lJ):=match x with
 | (v0,v1,v12,v13,()) =>
  bif ltI v13 v12 then
   bif aL v13 v0.length then bif aL v13 v1.length then bif !(eqI (v0.getD v13.toNat 0) (v1.getD v13.toNat 0)) then
    some (.inr (.inl (false,())))
   else some (.inl (v0,v1,v12,(aB .i64 (v13+1)),())) else none else none
  else some (.inr (.inr ((()))))
def j9(x:Shape.den gU):Option (aW lJ):=bZ eJ (2^64) x
def cO(x:aJ [.list TyE,.list TyE]):Option (aJ [.bool]):=match x with
 | (v0,v1,()) =>
  bif !(eqI (v0.length:Int) (v1.length:Int)) then
   some (false,())
  else aC (j9 (v0,v1,(v0.length:Int),0,())) fun z1 =>
  BN z1 (fun a2=>some (a2.1,())) fun b3 =>
  some (true,())
noncomputable def s9:Code:=aT Tryz.f62
abbrev zS:Env:=b8 []
theorem FB:bE Tryz.prog zS:=bF trivial
noncomputable def mE:Code:=dS s9 0
def yM(id:Nat):Option aS:=bif Nat.beq id 4 then some ⟨gU,lJ,j9⟩ else none
theorem O3:∀ x,dM Tryz.prog zS 26 (aD Tryz.f62) yM mE gU lJ x=eJ x:=by
 rintro⟨v0,v1,v12,v13,⟨⟩⟩
 kernel_rfl
theorem S4:aF mE=[]:=by kernel_rfl
theorem OS:aH mE=4:=by kernel_rfl
theorem PT:cF Tryz.prog 26 mE ⟨gU,lJ,j9⟩:=by
 exact cC FB.callee aK.mixed _ (aE S4 trivial) O3
theorem R5:aF s9=[mE]:=by kernel_rfl
theorem T6:∀ x,cI Tryz.prog zS Tryz.f62 (aD Tryz.f62) yM s9 _ _ x=cO x:=by
 rintro⟨v0,v1,⟨⟩⟩
 kernel_rfl
theorem ZM:eB Tryz.prog 62 _ _ cO:=by
 exact bL aK FB Tryz.func62 (c:=s9) (by kernel_rfl) (aZ:=aD Tryz.f62) (lt:=yM) (aE R5 ⟨cB OS rfl PT,trivial⟩) T6
abbrev sX:Ent:=⟨62,_,_,cO⟩
theorem wI:Ent.OK Tryz.prog sX:=ZM
def Y8(x:aJ [.list TyE,.list TyE]):Option (aJ [.bool]):=match x with
 | (v0,v1,()) =>
  aC (cO (v0,v1,())) fun y1 =>
  some (y1.1,())
noncomputable def aRO:Code:=aT Tryz.f132
abbrev aZJ:Env:=b8 [sX]
theorem a3S:bE Tryz.prog aZJ:=bF ⟨wI,trivial⟩
def aWE(id:Nat):Option aS:=none
theorem aZ1:aF aRO=[]:=by kernel_rfl
theorem a29:∀ x,cI Tryz.prog aZJ Tryz.f132 (aD Tryz.f132) aWE aRO _ _ x=Y8 x:=by
 rintro⟨v0,v1,⟨⟩⟩
 kernel_rfl
theorem bBJ:eB Tryz.prog 132 _ _ Y8:=by
 exact bL aK a3S Tryz.func132 (c:=aRO) (by kernel_rfl) (aZ:=aD Tryz.f132) (lt:=aWE) (aE aZ1 trivial) a29
abbrev a1A:Ent:=⟨132,_,_,Y8⟩
theorem a3Q:Ent.OK Tryz.prog a1A:=bBJ
abbrev bH:List (Nat×Kd):=[(1,.list TyD),(2,.fn 132),(15,.list TyD),(16,.int .i64),(17,.int .i64)]
abbrev bR:List (Ex×List (Nat×Kd)):=[(.ret,[(6,.bool)]),(.exit 0,[])]
def aY(x:Shape.den bH):Option (Shape.den bH⊕aW bR):=match x with
 | (v1,v2,v15,v16,v17,()) =>
  bif ltI v17 v16 then
   bif aL v17 v15.length then bif aL v17 v1.length then aC (Y8 ((v15.getD v17.toNat []),(v1.getD v17.toNat []),())) fun y2 =>
   bif y2.1 then
    some (.inl (v1,(),v15,v16,(aB .i64 (v17+1)),()))
   else some (.inr (.inl (false,()))) else none else none
  else some (.inr (.inr ((()))))
def bO(x:Shape.den bH):Option (aW bR):=bZ aY (2^64) x
def aV(x:aJ [.list TyD,.list TyD,.fn 132]):Option (aJ [.bool]):=match x with
 | (v0,v1,v2,()) =>
  bif !(eqI (v0.length:Int) (v1.length:Int)) then
   some (false,())
  else aC (bO (v1,(),v0,(v0.length:Int),0,())) fun z3 =>
  BN z3 (fun a4=>some (a4.1,())) fun b5 =>
  some (true,())
noncomputable def cQ:Code:=aT Tryz.f131
abbrev eZ:Env:=b8 [a1A]
theorem iZ:bE Tryz.prog eZ:=bF ⟨a3Q,trivial⟩
noncomputable def bW:Code:=dS cQ 0
def eS(id:Nat):Option aS:=bif Nat.beq id 4 then some ⟨bH,bR,bO⟩ else none
theorem sA:∀ x,dM Tryz.prog eZ 32 (aD Tryz.f131) eS bW bH bR x=aY x:=by
 rintro⟨v1,v2,v15,v16,v17,⟨⟩⟩
 kernel_rfl
theorem tC:aF bW=[]:=by kernel_rfl
theorem rS:aH bW=4:=by kernel_rfl
theorem sL:cF Tryz.prog 32 bW ⟨bH,bR,bO⟩:=by
 exact cC iZ.callee aK.mixed _ (aE tC trivial) sA
theorem sT:aF cQ=[bW]:=by kernel_rfl
theorem tR:∀ x,cI Tryz.prog eZ Tryz.f131 (aD Tryz.f131) eS cQ _ _ x=aV x:=by
 rintro⟨v0,v1,v2,⟨⟩⟩
 kernel_rfl
theorem uN:eB Tryz.prog 131 _ _ aV:=by
 exact bL aK iZ Tryz.func131 (c:=cQ) (by kernel_rfl) (aZ:=aD Tryz.f131) (lt:=eS) (aE sT ⟨cB rS rfl sL,trivial⟩) tR
abbrev kP:Ent:=⟨131,_,_,aV⟩
theorem tN:Ent.OK Tryz.prog kP:=uN
def yV(x:aJ [.agg TyH,.agg TyH]):Option (aJ [.bool]):=match x with
 | (v0,v1,()) =>
  bif eqI v0.1 v1.1 then
   aC (aV (v0.2,v1.2,(),())) fun y1 =>
   some (y1.1,())
  else some (false,())
noncomputable def X5:Code:=aT Tryz.f75
abbrev aL0:Env:=b8 [kP]
theorem aSC:bE Tryz.prog aL0:=bF ⟨tN,trivial⟩
def aII(id:Nat):Option aS:=none
theorem aQE:aF X5=[]:=by kernel_rfl
theorem aSR:∀ x,cI Tryz.prog aL0 Tryz.f75 (aD Tryz.f75) aII X5 _ _ x=yV x:=by
 rintro⟨v0,v1,⟨⟩⟩
 kernel_rfl
theorem aYB:eB Tryz.prog 75 _ _ yV:=by
 exact bL aK aSC Tryz.func75 (c:=X5) (by kernel_rfl) (aZ:=aD Tryz.f75) (lt:=aII) (aE aQE trivial) aSR
abbrev aLD:Ent:=⟨75,_,_,yV⟩
theorem aUF:Ent.OK Tryz.prog aLD:=aYB
def n8(x:aJ [.agg TyH,.list TyE]):Option (aJ [.bool]):=match x with
 | (v0,v1,()) =>
  aC (mZ ((v0.1,v0.2),v1,())) fun y1 =>
  aC (iD (y1.1,())) fun y2 =>
  some (ltI y2.1 0,())
noncomputable def HP:Code:=aT Tryz.f143
abbrev R7:Env:=b8 [MM,MB]
theorem aFD:bE Tryz.prog R7:=bF ⟨YF,PB,trivial⟩
def PG(id:Nat):Option aS:=none
theorem aDF:aF HP=[]:=by kernel_rfl
theorem aFK:∀ x,cI Tryz.prog R7 Tryz.f143 (aD Tryz.f143) PG HP _ _ x=n8 x:=by
 rintro⟨v0,v1,⟨⟩⟩
 kernel_rfl
theorem aI8:eB Tryz.prog 143 _ _ n8:=by
 exact bL aK aFD Tryz.func143 (c:=HP) (by kernel_rfl) (aZ:=aD Tryz.f143) (lt:=PG) (aE aDF trivial) aFK
abbrev RS:Ent:=⟨143,_,_,n8⟩
theorem aD2:Ent.OK Tryz.prog RS:=aI8
abbrev pH:List (Nat×Kd):=[(2,.ptr TyH),(3,.ptr TyH),(10,.list TyH),(11,.int .i64),(12,.int .i64)]
abbrev tP:List (Ex×List (Nat×Kd)):=[(.ret,[(4,.int .i64)]),(.exit 0,[(2,.ptr TyH),(3,.ptr TyH)])]
def mY(x:Shape.den pH):Option (Shape.den pH⊕aW tP):=match x with
 | (v2,v3,v10,v11,v12,()) =>
  bif ltI v12 v11 then
   bif aL v12 v10.length then aC (lQ (((v10.getD v12.toNat (0,[])).1,(v10.getD v12.toNat (0,[])).2),())) fun y2 =>
   bif !(eqI y2.1 0) then
    some (.inr (.inl (y2.1,())))
   else some (.inl ((v2.1,v2.2),(v3.1,v3.2),v10,v11,(aB .i64 (v12+1)),())) else none
  else some (.inr (.inr (((v2.1,v2.2),(v3.1,v3.2),()))))
def vY(x:Shape.den pH):Option (aW tP):=bZ mY (2^64) x
def nN(x:aJ [.agg TyH,.agg TyH]):Option (aJ [.int .i64]):=match x with
 | (v0,v1,()) =>
  aC (vY ((v0.1,v0.2),(v1.1,v1.2),[(v0.1,v0.2),(v1.1,v1.2)],([(v0.1,v0.2),(v1.1,v1.2)].length:Int),0,())) fun z3 =>
  BN z3 (fun a4=>some (a4.1,())) fun b5 =>
  bif !(eqI b5.1.1 b5.2.1.1) then
   some (5,())
  else some (0,())
noncomputable def E6:Code:=aT Tryz.f117
abbrev LW:Env:=b8 [HV]
theorem PI:bE Tryz.prog LW:=bF ⟨HB,trivial⟩
noncomputable def u7:Code:=dS E6 0
def J9(id:Nat):Option aS:=bif Nat.beq id 2 then some ⟨pH,tP,vY⟩ else none
theorem aC1:∀ x,dM Tryz.prog LW 27 (aD Tryz.f117) J9 u7 pH tP x=mY x:=by
 rintro⟨v2,v3,v10,v11,v12,⟨⟩⟩
 kernel_rfl
theorem aJJ:aF u7=[]:=by kernel_rfl
theorem aC5:aH u7=2:=by kernel_rfl
theorem aDQ:cF Tryz.prog 27 u7 ⟨pH,tP,vY⟩:=by
 exact cC PI.callee aK.mixed _ (aE aJJ trivial) aC1
theorem aH6:aF E6=[u7]:=by kernel_rfl
theorem aJV:∀ x,cI Tryz.prog LW Tryz.f117 (aD Tryz.f117) J9 E6 _ _ x=nN x:=by
 rintro⟨v0,v1,⟨⟩⟩
 kernel_rfl
theorem aN5:eB Tryz.prog 117 _ _ nN:=by
 exact bL aK PI Tryz.func117 (c:=E6) (by kernel_rfl) (aZ:=aD Tryz.f117) (lt:=J9) (aE aH6 ⟨cB aC5 rfl aDQ,trivial⟩) aJV
abbrev EV:Ent:=⟨117,_,_,nN⟩
theorem F8:Ent.OK Tryz.prog EV:=aN5
def qL(x:aJ [.list TyE,.ptr TyH]):Option (aJ [.bool]):=match x with
 | (v0,v1,()) =>
  aC (n8 ((v1.1,v1.2),v0,())) fun y1 =>
  bif y1.1 then
   some (false,())
  else some (true,())
noncomputable def L5:Code:=aT Tryz.f171
abbrev XV:Env:=b8 [RS]
theorem aJK:bE Tryz.prog XV:=bF ⟨aD2,trivial⟩
def UK(id:Nat):Option aS:=none
theorem aFN:aF L5=[]:=by kernel_rfl
theorem aJB:∀ x,cI Tryz.prog XV Tryz.f171 (aD Tryz.f171) UK L5 _ _ x=qL x:=by
 rintro⟨v0,v1,⟨⟩⟩
 kernel_rfl
theorem aN2:eB Tryz.prog 171 _ _ qL:=by
 exact bL aK aJK Tryz.func171 (c:=L5) (by kernel_rfl) (aZ:=aD Tryz.f171) (lt:=UK) (aE aFN trivial) aJB
abbrev X9:Ent:=⟨171,_,_,qL⟩
theorem aIW:Ent.OK Tryz.prog X9:=aN2
abbrev cR:List (Nat×Kd):=[(0,.list TyD),(1,.clo 171 [TyH]),(7,.int .i64),(8,.int .i64)]
abbrev eG:List (Ex×List (Nat×Kd)):=[(.ret,[(4,.int .i64)]),(.exit 0,[])]
def bY(x:Shape.den cR):Option (Shape.den cR⊕aW eG):=match x with
 | (v0,v1,v7,v8,()) =>
  bif ltI v8 v7 then
   bif aL v8 v0.length then aC (qL ((v0.getD v8.toNat []),(v1.1.1,v1.1.2),())) fun y2 =>
   bif y2.1 then
    some (.inr (.inl (v8,())))
   else some (.inl (v0,((v1.1.1,v1.1.2),()),v7,(aB .i64 (v8+1)),())) else none
  else some (.inr (.inr ((()))))
def dO(x:Shape.den cR):Option (aW eG):=bZ bY (2^64) x
def dK(x:aJ [.list TyD,.clo 171 [TyH]]):Option (aJ [.int .i64]):=match x with
 | (v0,v1,()) =>
  aC (dO (v0,((v1.1.1,v1.1.2),()),(v0.length:Int),0,())) fun z3 =>
  BN z3 (fun a4=>some (a4.1,())) fun b5 =>
  some ((-1),())
noncomputable def iV:Code:=aT Tryz.f100
abbrev oE:Env:=b8 [X9]
theorem tS:bE Tryz.prog oE:=bF ⟨aIW,trivial⟩
noncomputable def eK:Code:=dS iV 0
def nP(id:Nat):Option aS:=bif Nat.beq id 2 then some ⟨cR,eG,dO⟩ else none
theorem DK:∀ x,dM Tryz.prog oE 19 (aD Tryz.f100) nP eK cR eG x=bY x:=by
 rintro⟨v0,v1,v7,v8,⟨⟩⟩
 kernel_rfl
theorem GY:aF eK=[]:=by kernel_rfl
theorem DJ:aH eK=2:=by kernel_rfl
theorem EP:cF Tryz.prog 19 eK ⟨cR,eG,dO⟩:=by
 exact cC tS.callee aK.mixed _ (aE GY trivial) DK
theorem FJ:aF iV=[eK]:=by kernel_rfl
theorem GS:∀ x,cI Tryz.prog oE Tryz.f100 (aD Tryz.f100) nP iV _ _ x=dK x:=by
 rintro⟨v0,v1,⟨⟩⟩
 kernel_rfl
theorem H9:eB Tryz.prog 100 _ _ dK:=by
 exact bL aK tS Tryz.func100 (c:=iV) (by kernel_rfl) (aZ:=aD Tryz.f100) (lt:=nP) (aE FJ ⟨cB DJ rfl EP,trivial⟩) GS
abbrev wD:Ent:=⟨100,_,_,dK⟩
theorem GQ:Ent.OK Tryz.prog wD:=H9
def cT(x:aJ [.list TyD,.clo 171 [TyH]]):Option (aJ [.bool]):=match x with
 | (v0,v1,()) =>
  aC (dK (v0,((v1.1.1,v1.1.2),()),())) fun y1 =>
  some (!(ltI y1.1 0),())
noncomputable def mD:Code:=aT Tryz.f43
abbrev tH:Env:=b8 [wD]
theorem DI:bE Tryz.prog tH:=bF ⟨GQ,trivial⟩
def sO(id:Nat):Option aS:=none
theorem B9:aF mD=[]:=by kernel_rfl
theorem DC:∀ x,cI Tryz.prog tH Tryz.f43 (aD Tryz.f43) sO mD _ _ x=cT x:=by
 rintro⟨v0,v1,⟨⟩⟩
 kernel_rfl
theorem FH:eB Tryz.prog 43 _ _ cT:=by
 exact bL aK DI Tryz.func43 (c:=mD) (by kernel_rfl) (aZ:=aD Tryz.f43) (lt:=sO) (aE B9 trivial) DC
abbrev tK:Ent:=⟨43,_,_,cT⟩
theorem DL:Ent.OK Tryz.prog tK:=FH
def wO(x:aJ [.agg TyH,.agg TyH]):Option (aJ [.bool,.int .i64]):=match x with
 | (v0,v1,()) =>
  aC (nN ((v0.1,v0.2),(v1.1,v1.2),())) fun y1 =>
  bif !(eqI y1.1 0) then
   some (false,y1.1,())
  else aC (cT (v0.2,((v1.1,v1.2),()),())) fun y2 =>
  bif y2.1 then
   some (false,0,())
  else some (true,0,())
noncomputable def TX:Code:=aT Tryz.f124
abbrev aIU:Env:=b8 [EV,tK]
theorem aP9:bE Tryz.prog aIU:=bF ⟨F8,DL,trivial⟩
def aDR(id:Nat):Option aS:=none
theorem aOL:aF TX=[]:=by kernel_rfl
theorem aQS:∀ x,cI Tryz.prog aIU Tryz.f124 (aD Tryz.f124) aDR TX _ _ x=wO x:=by
 rintro⟨v0,v1,⟨⟩⟩
 kernel_rfl
theorem aUY:eB Tryz.prog 124 _ _ wO:=by
 exact bL aK aP9 Tryz.func124 (c:=TX) (by kernel_rfl) (aZ:=aD Tryz.f124) (lt:=aDR) (aE aOL trivial) aQS
abbrev aIC:Ent:=⟨124,_,_,wO⟩
theorem aQW:Ent.OK Tryz.prog aIC:=aUY
end Go.PM
namespace Go.PM
open Go Go.RowKit Go.Proofs
set_option maxRecDepth 100000
set_option maxHeartbeats 4000000
def V0(x:aJ [.agg TyH,.agg TyH]):Option (aJ [.agg TyH,.int .i64]):=match x with
 | (v0,v1,()) =>
  aC (nN ((v0.1,v0.2),(v1.1,v1.2),())) fun y1 =>
  bif !(eqI y1.1 0) then
   some ((0,[]),y1.1,())
  else aC (eP () (v0.2,()) []) fun y2 =>
  aC (eP () (v1.2,()) y2.2) fun y3 =>
  bif Nat.ble y3.1.length 1048576 then bif Nat.ble y2.1.length 1048576 then aC (dE (y2.1++y3.1) (v0.1,()) y3.2) fun y4 =>
  aC (dF y4.1 (v0.1,()) y4.2) fun y5 =>
  some ((y5.1.1.1,y5.1.1.2),y5.1.2.1,()) else none else none
noncomputable def aF9:Code:=aT Tryz.f116
abbrev aSI:Env:=R2 [EV] [wU,nB,nA]
theorem aYL:bE Tryz.prog aSI:=qF ⟨F8,trivial⟩ ⟨xN,nG,nW,trivial⟩
def aPF(id:Nat):Option aS:=none
theorem aVZ:aF aF9=[]:=by kernel_rfl
theorem aYK:∀ x,aO5 Tryz.prog aSI Tryz.f116 (aD Tryz.f116) aPF aF9 110 .str _ _ x=V0 x:=by
 rintro⟨v0,v1,⟨⟩⟩
 kernel_rfl
theorem a4C:eB Tryz.prog 116 _ _ V0:=by
 exact aWT aK aYL Tryz.func116 (c:=aF9) (by kernel_rfl) (aZ:=aD Tryz.f116) (lt:=aPF) (aE aVZ trivial) aYK
abbrev aTD:Ent:=⟨116,_,_,V0⟩
theorem aYT:Ent.OK Tryz.prog aTD:=a4C
end Go.PM
namespace Go.PM
open Go Go.RowKit Go.Proofs
set_option maxRecDepth 100000
set_option maxHeartbeats 4000000
abbrev fS:List (Nat×Kd):=[(0,.list TyE),(1,.list TyE),(12,.int .i64),(13,.int .i64)]
abbrev iW:List (Ex×List (Nat×Kd)):=[(.ret,[(4,.bool)]),(.exit 0,[])]
def dI(x:Shape.den fS):Option (Shape.den fS⊕aW iW):=match x with
 | (v0,v1,v12,v13,()) =>
  bif ltI v13 v12 then
   bif aL v13 v0.length then bif aL v13 v1.length then bif !(eqI (v0.getD v13.toNat 0) (v1.getD v13.toNat 0)) then
    some (.inr (.inl (false,())))
   else some (.inl (v0,v1,v12,(aB .i64 (v13+1)),())) else none else none
  else some (.inr (.inr ((()))))
def gO(x:Shape.den fS):Option (aW iW):=bZ dI (2^64) x
def cH(x:aJ [.list TyE,.list TyE]):Option (aJ [.bool]):=match x with
 | (v0,v1,()) =>
  bif !(eqI (v0.length:Int) (v1.length:Int)) then
   some (false,())
  else aC (gO (v0,v1,(v0.length:Int),0,())) fun z1 =>
  BN z1 (fun a2=>some (a2.1,())) fun b3 =>
  some (true,())
noncomputable def qG:Code:=aT Tryz.f20
abbrev wL:Env:=b8 []
theorem BP:bE Tryz.prog wL:=bF trivial
noncomputable def jX:Code:=dS qG 0
def vL(id:Nat):Option aS:=bif Nat.beq id 4 then some ⟨fS,iW,gO⟩ else none
theorem MC:∀ x,dM Tryz.prog wL 26 (aD Tryz.f20) vL jX fS iW x=dI x:=by
 rintro⟨v0,v1,v12,v13,⟨⟩⟩
 kernel_rfl
theorem OZ:aF jX=[]:=by kernel_rfl
theorem L6:aH jX=4:=by kernel_rfl
theorem M9:cF Tryz.prog 26 jX ⟨fS,iW,gO⟩:=by
 exact cC BP.callee aK.mixed _ (aE OZ trivial) MC
theorem OC:aF qG=[jX]:=by kernel_rfl
theorem OV:∀ x,cI Tryz.prog wL Tryz.f20 (aD Tryz.f20) vL qG _ _ x=cH x:=by
 rintro⟨v0,v1,⟨⟩⟩
 kernel_rfl
theorem SE:eB Tryz.prog 20 _ _ cH:=by
 exact bL aK BP Tryz.func20 (c:=qG) (by kernel_rfl) (aZ:=aD Tryz.f20) (lt:=vL) (aE OC ⟨cB L6 rfl M9,trivial⟩) OV
abbrev wP:Ent:=⟨20,_,_,cH⟩
theorem BO:Ent.OK Tryz.prog wP:=SE
def wS(x:aJ [.list TyE,.list TyE]):Option (aJ [.bool]):=match x with
 | (v0,v1,()) =>
  aC (cO (v0,v1,())) fun y1 =>
  some (y1.1,())
noncomputable def J0:Code:=aT Tryz.f133
abbrev U4:Env:=b8 [sX]
theorem aF7:bE Tryz.prog U4:=bF ⟨wI,trivial⟩
def S3(id:Nat):Option aS:=none
theorem aFH:aF J0=[]:=by kernel_rfl
theorem aHZ:∀ x,cI Tryz.prog U4 Tryz.f133 (aD Tryz.f133) S3 J0 _ _ x=wS x:=by
 rintro⟨v0,v1,⟨⟩⟩
 kernel_rfl
theorem aM3:eB Tryz.prog 133 _ _ wS:=by
 exact bL aK aF7 Tryz.func133 (c:=J0) (by kernel_rfl) (aZ:=aD Tryz.f133) (lt:=S3) (aE aFH trivial) aHZ
abbrev UN:Ent:=⟨133,_,_,wS⟩
theorem aHX:Ent.OK Tryz.prog UN:=aM3
abbrev bG:List (Nat×Kd):=[(1,.list TyD),(2,.fn 133),(15,.list TyD),(16,.int .i64),(17,.int .i64)]
abbrev bT:List (Ex×List (Nat×Kd)):=[(.ret,[(6,.bool)]),(.exit 0,[])]
def aX(x:Shape.den bG):Option (Shape.den bG⊕aW bT):=match x with
 | (v1,v2,v15,v16,v17,()) =>
  bif ltI v17 v16 then
   bif aL v17 v15.length then bif aL v17 v1.length then aC (wS ((v15.getD v17.toNat []),(v1.getD v17.toNat []),())) fun y2 =>
   bif y2.1 then
    some (.inl (v1,(),v15,v16,(aB .i64 (v17+1)),()))
   else some (.inr (.inl (false,()))) else none else none
  else some (.inr (.inr ((()))))
def bM(x:Shape.den bG):Option (aW bT):=bZ aX (2^64) x
def aU(x:aJ [.list TyD,.list TyD,.fn 133]):Option (aJ [.bool]):=match x with
 | (v0,v1,v2,()) =>
  bif !(eqI (v0.length:Int) (v1.length:Int)) then
   some (false,())
  else aC (bM (v1,(),v0,(v0.length:Int),0,())) fun z3 =>
  BN z3 (fun a4=>some (a4.1,())) fun b5 =>
  some (true,())
noncomputable def cP:Code:=aT Tryz.f131
abbrev eY:Env:=b8 [UN]
theorem iY:bE Tryz.prog eY:=bF ⟨aHX,trivial⟩
noncomputable def bV:Code:=dS cP 0
def eR(id:Nat):Option aS:=bif Nat.beq id 4 then some ⟨bG,bT,bM⟩ else none
theorem sC:∀ x,dM Tryz.prog eY 32 (aD Tryz.f131) eR bV bG bT x=aX x:=by
 rintro⟨v1,v2,v15,v16,v17,⟨⟩⟩
 kernel_rfl
theorem tU:aF bV=[]:=by kernel_rfl
theorem sF:aH bV=4:=by kernel_rfl
theorem sK:cF Tryz.prog 32 bV ⟨bG,bT,bM⟩:=by
 exact cC iY.callee aK.mixed _ (aE tU trivial) sC
theorem sU:aF cP=[bV]:=by kernel_rfl
theorem tB:∀ x,cI Tryz.prog eY Tryz.f131 (aD Tryz.f131) eR cP _ _ x=aU x:=by
 rintro⟨v0,v1,v2,⟨⟩⟩
 kernel_rfl
theorem uM:eB Tryz.prog 131 _ _ aU:=by
 exact bL aK iY Tryz.func131 (c:=cP) (by kernel_rfl) (aZ:=aD Tryz.f131) (lt:=eR) (aE sU ⟨cB sF rfl sK,trivial⟩) tB
abbrev kN:Ent:=⟨131,_,_,aU⟩
theorem tE:Ent.OK Tryz.prog kN:=uM
def vZ(x:aJ [.list TyD,.list TyD]):Option (aJ [.bool]):=match x with
 | (v0,v1,()) =>
  aC (aU (v0,v1,(),())) fun y1 =>
  some (y1.1,())
noncomputable def NU:Code:=aT Tryz.f77
abbrev aAU:Env:=b8 [kN]
theorem aKM:bE Tryz.prog aAU:=bF ⟨tE,trivial⟩
def XG(id:Nat):Option aS:=none
theorem aJE:aF NU=[]:=by kernel_rfl
theorem aK5:∀ x,cI Tryz.prog aAU Tryz.f77 (aD Tryz.f77) XG NU _ _ x=vZ x:=by
 rintro⟨v0,v1,⟨⟩⟩
 kernel_rfl
theorem aQ9:eB Tryz.prog 77 _ _ vZ:=by
 exact bL aK aKM Tryz.func77 (c:=NU) (by kernel_rfl) (aZ:=aD Tryz.f77) (lt:=XG) (aE aJE trivial) aK5
abbrev aAS:Ent:=⟨77,_,_,vZ⟩
theorem aLE:Ent.OK Tryz.prog aAS:=aQ9
abbrev vT:List (Nat×Kd):=[(0,.int .i64),(3,.int .i64)]
abbrev AX:List (Ex×List (Nat×Kd)):=[(.ret,[(2,.bool)]),(.exit 0,[])]
def UF(x:Shape.den vT):Option (Shape.den vT⊕aW AX):=match x with
 | (v0,v3,()) =>
  bif !(ltI v0 (aB .i64 (v3*v3))) then
   bif eqI v3 0 then none else bif eqI (v0.tmod v3) 0 then
    some (.inr (.inl (false,())))
   else some (.inl (v0,(aB .i64 (v3+1)),()))
  else some (.inr (.inr ((()))))
def KD(x:Shape.den vT):Option (aW AX):=bZ UF (2^64) x
def OG(x:aJ [.int .i64]):Option (aJ [.bool]):=match x with
 | (v0,()) =>
  bif ltI v0 2 then
   some (false,())
  else bif ltI 97 v0 then
   some (false,())
  else aC (KD (v0,2,())) fun z1 =>
  BN z1 (fun a2=>some (a2.1,())) fun b3 =>
  some (true,())
noncomputable def NR:Code:=aT Tryz.f48
abbrev XF:Env:=b8 []
theorem aAR:bE Tryz.prog XF:=bF trivial
noncomputable def CN:Code:=dS NR 0
def T1(id:Nat):Option aS:=bif Nat.beq id 4 then some ⟨vT,AX,KD⟩ else none
theorem aK3:∀ x,dM Tryz.prog XF 21 (aD Tryz.f48) T1 CN vT AX x=UF x:=by
 rintro⟨v0,v3,⟨⟩⟩
 kernel_rfl
theorem aTP:aF CN=[]:=by kernel_rfl
theorem aLO:aH CN=4:=by kernel_rfl
theorem aNV:cF Tryz.prog 21 CN ⟨vT,AX,KD⟩:=by
 exact cC aAR.callee aK.mixed _ (aE aTP trivial) aK3
theorem aQ6:aF NR=[CN]:=by kernel_rfl
theorem aT3:∀ x,cI Tryz.prog XF Tryz.f48 (aD Tryz.f48) T1 NR _ _ x=OG x:=by
 rintro⟨v0,⟨⟩⟩
 kernel_rfl
theorem aXN:eB Tryz.prog 48 _ _ OG:=by
 exact bL aK aAR Tryz.func48 (c:=NR) (by kernel_rfl) (aZ:=aD Tryz.f48) (lt:=T1) (aE aQ6 ⟨cB aLO rfl aNV,trivial⟩) aT3
abbrev aKY:Ent:=⟨48,_,_,OG⟩
theorem aTK:Ent.OK Tryz.prog aKY:=aXN
abbrev AB:List (Nat×Kd):=[(0,.list TyE),(13,.list TyE),(14,.int .i64),(15,.int .i64)]
abbrev FP:List (Ex×List (Nat×Kd)):=[(.ret,[(2,.int .i64)]),(.exit 1,[])]
def aA7(x:Shape.den AB):Option (Shape.den AB⊕aW FP):=match x with
 | (v0,v13,v14,v15,()) =>
  bif ltI v15 v14 then
   bif aL v15 v13.length then aC (OG ((v13.getD v15.toNat 0),())) fun y2 =>
   bif y2.1 then
    bif ltI 0 v15 then
     bif aL (aB .i64 (v15-1)) v0.length then bif !(ltI (v0.getD ((aB .i64 (v15-1)).toNat) 0) (v13.getD v15.toNat 0)) then
      some (.inr (.inl (6,())))
     else some (.inl (v0,v13,v14,(aB .i64 (v15+1)),())) else none
    else some (.inl (v0,v13,v14,(aB .i64 (v15+1)),()))
   else some (.inr (.inl (25,()))) else none
  else some (.inr (.inr ((()))))
def NS(x:Shape.den AB):Option (aW FP):=bZ aA7 (2^64) x
def xC(x:aJ [.list TyE]):Option (aJ [.int .i64]):=match x with
 | (v0,()) =>
  bif eqI (v0.length:Int) 0 then
   some (13,())
  else bif ltI 6 (v0.length:Int) then
   some (4,())
  else aC (NS (v0,v0,(v0.length:Int),0,())) fun z3 =>
  BN z3 (fun a4=>some (a4.1,())) fun b5 =>
  some (0,())
noncomputable def VH:Code:=aT Tryz.f32
abbrev aIA:Env:=b8 [aKY]
theorem aIS:bE Tryz.prog aIA:=bF ⟨aTK,trivial⟩
noncomputable def IJ:Code:=dS VH 0
def aBZ(id:Nat):Option aS:=bif Nat.beq id 6 then some ⟨AB,FP,NS⟩ else none
theorem aQL:∀ x,dM Tryz.prog aIA 35 (aD Tryz.f32) aBZ IJ AB FP x=aA7 x:=by
 rintro⟨v0,v13,v14,v15,⟨⟩⟩
 kernel_rfl
theorem aX2:aF IJ=[]:=by kernel_rfl
theorem aPO:aH IJ=6:=by kernel_rfl
theorem aSH:cF Tryz.prog 35 IJ ⟨AB,FP,NS⟩:=by
 exact cC aIS.callee aK.mixed _ (aE aX2 trivial) aQL
theorem aV8:aF VH=[IJ]:=by kernel_rfl
theorem aXY:∀ x,cI Tryz.prog aIA Tryz.f32 (aD Tryz.f32) aBZ VH _ _ x=xC x:=by
 rintro⟨v0,⟨⟩⟩
 kernel_rfl
theorem a3G:eB Tryz.prog 32 _ _ xC:=by
 exact bL aK aIS Tryz.func32 (c:=VH) (by kernel_rfl) (aZ:=aD Tryz.f32) (lt:=aBZ) (aE aV8 ⟨cB aPO rfl aSH,trivial⟩) aXY
abbrev V9:Ent:=⟨32,_,_,xC⟩
theorem T3:Ent.OK Tryz.prog V9:=a3G
def dQ(x:aJ [.agg TyG]):Option (aJ [.int .i64]):=match x with
 | (v0,()) =>
  aC (xC (v0.1,())) fun y1 =>
  bif !(eqI y1.1 0) then
   some (y1.1,())
  else aC (lQ (((v0.1.length:Int),v0.2.1),())) fun y2 =>
  bif !(eqI y2.1 0) then
   some (y2.1,())
  else aC (pD (((v0.1.length:Int),v0.2.1),())) fun y3 =>
  bif !(eqI y3.2.1 0) then
   some (7,())
  else aC (yV ((y3.1.1,y3.1.2),((v0.1.length:Int),v0.2.1),())) fun y4 =>
  bif y4.1 then
   aC (kG (((v0.1.length:Int),v0.2.1),())) fun y5 =>
   bif !(eqI y5.2.1 0) then
    some (14,())
   else aC (vZ (y5.1.2,v0.2.2,())) fun y6 =>
   bif y6.1 then
    some (0,())
   else some (14,())
  else some (7,())
noncomputable def L7:Code:=aT Tryz.f24
abbrev YU:Env:=b8 [AI,HV,aLD,HD,V9,aAS]
theorem aJI:bE Tryz.prog YU:=bF ⟨C5,HB,aUF,ID,T3,aLE,trivial⟩
def UG(id:Nat):Option aS:=none
theorem aFY:aF L7=[]:=by kernel_rfl
theorem aJG:∀ x,cI Tryz.prog YU Tryz.f24 (aD Tryz.f24) UG L7 _ _ x=dQ x:=by
 rintro⟨v0,⟨⟩⟩
 kernel_rfl
theorem aNN:eB Tryz.prog 24 _ _ dQ:=by
 exact bL aK aJI Tryz.func24 (c:=L7) (by kernel_rfl) (aZ:=aD Tryz.f24) (lt:=UG) (aE aFY trivial) aJG
abbrev L2:Ent:=⟨24,_,_,dQ⟩
theorem O7:Ent.OK Tryz.prog L2:=aNN
abbrev pL:List (Nat×Kd):=[(2,.box 35 TyG),(14,.list TyD),(15,.int .i64),(16,.int .i64)]
abbrev tL:List (Ex×List (Nat×Kd)):=[(.ret,[(4,.int .i64)]),(.exit 0,[])]
def qY(x:Shape.den pL):Option (Shape.den pL⊕aW tL):=match x with
 | (v2,v14,v15,v16,()) =>
  bif ltI v16 v15 then
   bif aL v16 v14.length then aC (EJ ((v14.getD v16.toNat []),())) fun y3 =>
   bif !(eqI y3.1 0) then
    some (.inr (.inl (y3.1,())))
   else bif !(eqI ((v14.getD v16.toNat []).length:Int) (v2.1.length:Int)) then
    some (.inr (.inl (5,())))
   else some (.inl ((v2.1,(v2.2.1,v2.2.2)),v14,v15,(aB .i64 (v16+1)),())) else none
  else some (.inr (.inr ((()))))
def wG(x:Shape.den pL):Option (aW tL):=bZ qY (2^64) x
def tW(x:aJ [.agg TyG,.list TyD]):Option (aJ [.int .i64]):=match x with
 | (v0,v1,()) =>
  aC (dQ ((v0.1,(v0.2.1,v0.2.2)),())) fun y1 =>
  bif !(eqI y1.1 0) then
   some (y1.1,())
  else aC (wG ((v0.1,(v0.2.1,v0.2.2)),v1,(v1.length:Int),0,())) fun z4 =>
  BN z4 (fun a5=>some (a5.1,())) fun b6 =>
  some (0,())
noncomputable def EB:Code:=aT Tryz.f78
abbrev MA:Env:=b8 [aP8,L2]
theorem O8:bE Tryz.prog MA:=bF ⟨aOW,O7,trivial⟩
noncomputable def vG:Code:=dS EB 0
def KK(id:Nat):Option aS:=bif Nat.beq id 5 then some ⟨pL,tL,wG⟩ else none
theorem aC3:∀ x,dM Tryz.prog MA 32 (aD Tryz.f78) KK vG pL tL x=qY x:=by
 rintro⟨v2,v14,v15,v16,⟨⟩⟩
 kernel_rfl
theorem aKE:aF vG=[]:=by kernel_rfl
theorem aC9:aH vG=5:=by kernel_rfl
theorem aEI:cF Tryz.prog 32 vG ⟨pL,tL,wG⟩:=by
 exact cC O8.callee aK.mixed _ (aE aKE trivial) aC3
theorem aG6:aF EB=[vG]:=by kernel_rfl
theorem aJD:∀ x,cI Tryz.prog MA Tryz.f78 (aD Tryz.f78) KK EB _ _ x=tW x:=by
 rintro⟨v0,v1,⟨⟩⟩
 kernel_rfl
theorem aOM:eB Tryz.prog 78 _ _ tW:=by
 exact bL aK O8 Tryz.func78 (c:=EB) (by kernel_rfl) (aZ:=aD Tryz.f78) (lt:=KK) (aE aG6 ⟨cB aC9 rfl aEI,trivial⟩) aJD
abbrev XQ:Ent:=⟨78,_,_,tW⟩
theorem aI0:Ent.OK Tryz.prog XQ:=aOM
abbrev oB:List (Nat×Kd):=[(1,.list TyE),(5,.own 110 .str),(7,.list TyE),(8,.str),(12,.list TyD),(13,.int .i64),(14,.int .i64),(18,.list TyE),(19,.int .i64),(20,.int .i64)]
abbrev r9:List (Ex×List (Nat×Kd)):=[(.exit 2,[(1,.list TyE),(5,.own 110 .str),(8,.str),(12,.list TyD),(13,.int .i64),(14,.int .i64)])]
def pZ(x:Shape.den oB):Option (Shape.den oB⊕aW r9):=match x with
 | (v1,v5,v7,v8,v12,v13,v14,v18,v19,v20,()) =>
  bif ltI v20 v19 then
   bif aL v20 v18.length then aC (j3 ((v18.getD v20.toNat 0),())) fun y5 =>
   bif aL v20 v7.length then aC (j3 ((v7.getD v20.toNat 0),())) fun y6 =>
   aC (IC (y5.1,y6.1,())) fun y7 =>
   aC (LM (v8,y7.1,())) fun y8 =>
   some (.inl (v1,v5,v7,y8.1,v12,v13,v14,v18,v19,(aB .i64 (v20+1)),())) else none else none
  else some (.inr ((v1,v5,v8,v12,v13,v14,())))
def pM(x:Shape.den oB):Option (aW r9):=bZ pZ (2^64) x
abbrev oJ:List (Nat×Kd):=[(1,.list TyE),(5,.own 110 .str),(12,.list TyD),(13,.int .i64),(14,.int .i64)]
abbrev r7:List (Ex×List (Nat×Kd)):=[(.exit 0,[(5,.own 110 .str)])]
def p5(x:Shape.den oJ):Option (Shape.den oJ⊕aW r7):=match x with
 | (v1,v5,v12,v13,v14,()) =>
  bif ltI v14 v13 then
   bif aL v14 v12.length then aC (pM (v1,v5,(v12.getD v14.toNat []),(ByteArray.mk #[48]),v12,v13,v14,v1,(v1.length:Int),0,())) fun z10 =>
   bif Nat.ble [z10.2.2.1].length 1048576 then bif Nat.ble z10.2.1.length 1048576 then some (.inl (z10.1,(z10.2.1++[z10.2.2.1]),z10.2.2.2.1,z10.2.2.2.2.1,(aB .i64 (z10.2.2.2.2.2.1+1)),())) else none else none else none
  else some (.inr ((v5,())))
def uV(x:Shape.den oJ):Option (aW r7):=bZ p5 (2^64) x
def sJ(x:aJ [.agg TyG,.list TyE]):Option (aJ [.list .str]):=match x with
 | (v0,v1,()) =>
  aC (uV (v1,[],v0.2.2,(v0.2.2.length:Int),0,())) fun z11 =>
  some (z11.1,())
noncomputable def BZ:Code:=aT Tryz.f80
abbrev B4:Env:=b8 [aP1,aHK,QO]
theorem D8:bE Tryz.prog B4:=bF ⟨aPL,aCN,JG,trivial⟩
noncomputable def pI:Code:=dS BZ 0
noncomputable def tO:Code:=dS pI 0
def AL(id:Nat):Option aS:=bif Nat.beq id 7 then some ⟨oB,r9,pM⟩ else bif Nat.beq id 3 then some ⟨oJ,r7,uV⟩ else none
theorem Z8:∀ x,dM Tryz.prog B4 42 (aD Tryz.f80) AL tO oB r9 x=pZ x:=by
 rintro⟨v1,v5,v7,v8,v12,v13,v14,v18,v19,v20,⟨⟩⟩
 kernel_rfl
theorem aF4:aF tO=[]:=by kernel_rfl
theorem Z3:aH tO=7:=by kernel_rfl
theorem aBS:cF Tryz.prog 42 tO ⟨oB,r9,pM⟩:=by
 exact cC D8.callee aK.mixed _ (aE aF4 trivial) Z8
theorem aAM:∀ x,dM Tryz.prog B4 42 (aD Tryz.f80) AL pI oJ r7 x=p5 x:=by
 rintro⟨v1,v5,v12,v13,v14,⟨⟩⟩
 kernel_rfl
theorem aGP:aF pI=[tO]:=by kernel_rfl
theorem Z5:aH pI=3:=by kernel_rfl
theorem aCY:cF Tryz.prog 42 pI ⟨oJ,r7,uV⟩:=by
 exact cC D8.callee aK.mixed _ (aE aGP ⟨cB Z3 rfl aBS,trivial⟩) aAM
theorem aED:aF BZ=[pI]:=by kernel_rfl
theorem aHQ:∀ x,cI Tryz.prog B4 Tryz.f80 (aD Tryz.f80) AL BZ _ _ x=sJ x:=by
 rintro⟨v0,v1,⟨⟩⟩
 kernel_rfl
theorem aM1:eB Tryz.prog 80 _ _ sJ:=by
 exact bL aK D8 Tryz.func80 (c:=BZ) (by kernel_rfl) (aZ:=aD Tryz.f80) (lt:=AL) (aE aED ⟨cB Z5 rfl aCY,trivial⟩) aHQ
abbrev U1:Ent:=⟨80,_,_,sJ⟩
theorem aHU:Ent.OK Tryz.prog U1:=aM1
def oW(x:aJ [.str]):Option (aJ [.bool]):=match x with
 | (v0,()) =>
  some (!(eqS v0 (ByteArray.mk #[48])),())
noncomputable def zR:Code:=aT Tryz.f81
abbrev JR:Env:=b8 []
theorem TY:bE Tryz.prog JR:=bF trivial
def IW(id:Nat):Option aS:=none
theorem RI:aF zR=[]:=by kernel_rfl
theorem TO:∀ x,cI Tryz.prog JR Tryz.f81 (aD Tryz.f81) IW zR _ _ x=oW x:=by
 rintro⟨v0,⟨⟩⟩
 kernel_rfl
theorem ZD:eB Tryz.prog 81 _ _ oW:=by
 exact bL aK TY Tryz.func81 (c:=zR) (by kernel_rfl) (aZ:=aD Tryz.f81) (lt:=IW) (aE RI trivial) TO
abbrev JT:Ent:=⟨81,_,_,oW⟩
theorem T4:Ent.OK Tryz.prog JT:=ZD
abbrev dL:List (Nat×Kd):=[(0,.list .str),(1,.fn 81),(7,.int .i64),(8,.int .i64)]
abbrev fF:List (Ex×List (Nat×Kd)):=[(.ret,[(4,.int .i64)]),(.exit 0,[])]
def cE(x:Shape.den dL):Option (Shape.den dL⊕aW fF):=match x with
 | (v0,v1,v7,v8,()) =>
  bif ltI v8 v7 then
   bif aL v8 v0.length then aC (oW ((v0.getD v8.toNat ByteArray.empty),())) fun y2 =>
   bif y2.1 then
    some (.inr (.inl (v8,())))
   else some (.inl (v0,(),v7,(aB .i64 (v8+1)),())) else none
  else some (.inr (.inr ((()))))
def eL(x:Shape.den dL):Option (aW fF):=bZ cE (2^64) x
def eI(x:aJ [.list .str,.fn 81]):Option (aJ [.int .i64]):=match x with
 | (v0,v1,()) =>
  aC (eL (v0,(),(v0.length:Int),0,())) fun z3 =>
  BN z3 (fun a4=>some (a4.1,())) fun b5 =>
  some ((-1),())
noncomputable def lD:Code:=aT Tryz.f134
abbrev qK:Env:=b8 [JT]
theorem wH:bE Tryz.prog qK:=bF ⟨T4,trivial⟩
noncomputable def fR:Code:=dS lD 0
def pN(id:Nat):Option aS:=bif Nat.beq id 2 then some ⟨dL,fF,eL⟩ else none
theorem FZ:∀ x,dM Tryz.prog qK 19 (aD Tryz.f134) pN fR dL fF x=cE x:=by
 rintro⟨v0,v1,v7,v8,⟨⟩⟩
 kernel_rfl
theorem JC:aF fR=[]:=by kernel_rfl
theorem GO:aH fR=2:=by kernel_rfl
theorem HI:cF Tryz.prog 19 fR ⟨dL,fF,eL⟩:=by
 exact cC wH.callee aK.mixed _ (aE JC trivial) FZ
theorem IQ:aF lD=[fR]:=by kernel_rfl
theorem JK:∀ x,cI Tryz.prog qK Tryz.f134 (aD Tryz.f134) pN lD _ _ x=eI x:=by
 rintro⟨v0,v1,⟨⟩⟩
 kernel_rfl
theorem K6:eB Tryz.prog 134 _ _ eI:=by
 exact bL aK wH Tryz.func134 (c:=lD) (by kernel_rfl) (aZ:=aD Tryz.f134) (lt:=pN) (aE IQ ⟨cB GO rfl HI,trivial⟩) JK
abbrev yY:Ent:=⟨134,_,_,eI⟩
theorem I2:Ent.OK Tryz.prog yY:=K6
def cK(x:aJ [.list .str,.fn 81]):Option (aJ [.bool]):=match x with
 | (v0,v1,()) =>
  aC (eI (v0,(),())) fun y1 =>
  some (!(ltI y1.1 0),())
noncomputable def oI:Code:=aT Tryz.f79
abbrev vO:Env:=b8 [yY]
theorem F9:bE Tryz.prog vO:=bF ⟨I2,trivial⟩
def uY(id:Nat):Option aS:=none
theorem FL:aF oI=[]:=by kernel_rfl
theorem GX:∀ x,cI Tryz.prog vO Tryz.f79 (aD Tryz.f79) uY oI _ _ x=cK x:=by
 rintro⟨v0,v1,⟨⟩⟩
 kernel_rfl
theorem HX:eB Tryz.prog 79 _ _ cK:=by
 exact bL aK F9 Tryz.func79 (c:=oI) (by kernel_rfl) (aZ:=aD Tryz.f79) (lt:=uY) (aE FL trivial) GX
abbrev vP:Ent:=⟨79,_,_,cK⟩
theorem GR:Ent.OK Tryz.prog vP:=HX
def gG(x:aJ [.agg TyG,.list TyE]):Option (aJ [.bool,.int .i64]):=match x with
 | (v0,v1,()) =>
  aC (tW ((v0.1,(v0.2.1,v0.2.2)),[v1],())) fun y1 =>
  bif !(eqI y1.1 0) then
   some (false,y1.1,())
  else aC (sJ ((v0.1,(v0.2.1,v0.2.2)),v1,())) fun y2 =>
  aC (cK (y2.1,(),())) fun y3 =>
  bif y3.1 then
   some (false,0,())
  else some (true,0,())
noncomputable def CR:Code:=aT Tryz.f26
abbrev MJ:Env:=b8 [vP,XQ,U1]
theorem Y0:bE Tryz.prog MJ:=bF ⟨GR,aI0,aHU,trivial⟩
def K9(id:Nat):Option aS:=none
theorem V4:aF CR=[]:=by kernel_rfl
theorem W3:∀ x,cI Tryz.prog MJ Tryz.f26 (aD Tryz.f26) K9 CR _ _ x=gG x:=by
 rintro⟨v0,v1,⟨⟩⟩
 kernel_rfl
theorem aDI:eB Tryz.prog 26 _ _ gG:=by
 exact bL aK Y0 Tryz.func26 (c:=CR) (by kernel_rfl) (aZ:=aD Tryz.f26) (lt:=K9) (aE V4 trivial) W3
abbrev MK:Ent:=⟨26,_,_,gG⟩
theorem ZF:Ent.OK Tryz.prog MK:=aDI
def GZ(x:aJ [.list TyE,.list TyD]):Option (aJ [.list TyD,.list TyD,.int .i64]):=match x with
 | (v0,v1,()) =>
  aC (xC (v0,())) fun y1 =>
  bif !(eqI y1.1 0) then
   some ([],[],y1.1,())
  else aC (DY ((v0.length:Int),v1,())) fun y2 =>
  bif !(eqI y2.2.1 0) then
   some ([],[],y2.2.1,())
  else aC (pD ((y2.1.1,y2.1.2),())) fun y3 =>
  bif !(eqI y3.2.1 0) then
   some ([],[],y3.2.1,())
  else aC (kG ((y2.1.1,y2.1.2),())) fun y4 =>
  some (y3.1.2,y4.1.2,y4.2.1,())
noncomputable def N5:Code:=aT Tryz.f94
abbrev aA3:Env:=b8 [AI,aMT,HD,V9]
theorem aM5:bE Tryz.prog aA3:=bF ⟨C5,aMW,ID,T3,trivial⟩
def Y9(id:Nat):Option aS:=none
theorem aJS:aF N5=[]:=by kernel_rfl
theorem aNA:∀ x,cI Tryz.prog aA3 Tryz.f94 (aD Tryz.f94) Y9 N5 _ _ x=GZ x:=by
 rintro⟨v0,v1,⟨⟩⟩
 kernel_rfl
theorem aQC:eB Tryz.prog 94 _ _ GZ:=by
 exact bL aK aM5 Tryz.func94 (c:=N5) (by kernel_rfl) (aZ:=aD Tryz.f94) (lt:=Y9) (aE aJS trivial) aNA
abbrev aA5:Ent:=⟨94,_,_,GZ⟩
theorem aKX:Ent.OK Tryz.prog aA5:=aQC
def qE(x:aJ [.list TyE]):Option (aJ [.list TyE]):=match x with
 | (v0,()) =>
  bif Nat.blt 0 v0.length then bif Nat.ble v0.length 1048576 then some (v0,()) else none else none
noncomputable def wK:Code:=aT Tryz.f95
abbrev FA:Env:=b8 []
theorem OQ:bE Tryz.prog FA:=bF trivial
def DT(id:Nat):Option aS:=none
theorem N8:aF wK=[]:=by kernel_rfl
theorem O2:∀ x,cI Tryz.prog FA Tryz.f95 (aD Tryz.f95) DT wK _ _ x=qE x:=by
 rintro⟨v0,⟨⟩⟩
 kernel_rfl
theorem RC:eB Tryz.prog 95 _ _ qE:=by
 exact bL aK OQ Tryz.func95 (c:=wK) (by kernel_rfl) (aZ:=aD Tryz.f95) (lt:=DT) (aE N8 trivial) O2
abbrev FM:Ent:=⟨95,_,_,qE⟩
theorem OX:Ent.OK Tryz.prog FM:=RC
def jY(x:aJ [.list TyE,.list TyD]):Option (aJ [.agg TyG,.int .i64]):=match x with
 | (v0,v1,()) =>
  aC (GZ (v0,v1,())) fun y1 =>
  bif !(eqI y1.2.2.1 0) then
   some (([],([],[])),y1.2.2.1,())
  else aC (qE (v0,())) fun y2 =>
  some ((y2.1,(y1.1,y1.2.1)),0,())
noncomputable def CI:Code:=aT Tryz.f39
abbrev MP:Env:=b8 [FM,aA5]
theorem XU:bE Tryz.prog MP:=bF ⟨OX,aKX,trivial⟩
def KV(id:Nat):Option aS:=none
theorem V6:aF CI=[]:=by kernel_rfl
theorem ZG:∀ x,cI Tryz.prog MP Tryz.f39 (aD Tryz.f39) KV CI _ _ x=jY x:=by
 rintro⟨v0,v1,⟨⟩⟩
 kernel_rfl
theorem aCM:eB Tryz.prog 39 _ _ jY:=by
 exact bL aK XU Tryz.func39 (c:=CI) (by kernel_rfl) (aZ:=aD Tryz.f39) (lt:=KV) (aE V6 trivial) ZG
abbrev vN:Ent:=⟨39,_,_,jY⟩
theorem yP:Ent.OK Tryz.prog vN:=aCM
end Go.PM
namespace Go.PM
open Go Go.RowKit Go.Proofs
set_option maxRecDepth 100000
set_option maxHeartbeats 4000000
def vD(x:aJ [.int .u8]):Option (aJ [.list TyE]):=match x with
 | (v0,()) =>
  bif eqI ([[2,3,5],[2,3,5,7],[2,3],[2,3,7],[2,5,7],[3,5,7],[2,3,5,11],[2],[2,3,7,13],[3,5,7,13]].length:Int) 0 then none else bif aL ((IntKind.wrap .i64 v0).tmod ([[2,3,5],[2,3,5,7],[2,3],[2,3,7],[2,5,7],[3,5,7],[2,3,5,11],[2],[2,3,7,13],[3,5,7,13]].length:Int)) [[2,3,5],[2,3,5,7],[2,3],[2,3,7],[2,5,7],[3,5,7],[2,3,5,11],[2],[2,3,7,13],[3,5,7,13]].length then some (([[2,3,5],[2,3,5,7],[2,3],[2,3,7],[2,5,7],[3,5,7],[2,3,5,11],[2],[2,3,7,13],[3,5,7,13]].getD (((IntKind.wrap .i64 v0).tmod ([[2,3,5],[2,3,5,7],[2,3],[2,3,7],[2,5,7],[3,5,7],[2,3,5,11],[2],[2,3,7,13],[3,5,7,13]].length:Int)).toNat) []),()) else none
noncomputable def HM:Code:=aT Tryz.f63
abbrev SK:Env:=b8 []
theorem aDX:bE Tryz.prog SK:=bF trivial
def O9(id:Nat):Option aS:=none
theorem aCA:aF HM=[]:=by kernel_rfl
theorem aDL:∀ x,cI Tryz.prog SK Tryz.f63 (aD Tryz.f63) O9 HM _ _ x=vD x:=by
 rintro⟨v0,⟨⟩⟩
 kernel_rfl
theorem aJ5:eB Tryz.prog 63 _ _ vD:=by
 exact bL aK aDX Tryz.func63 (c:=HM) (by kernel_rfl) (aZ:=aD Tryz.f63) (lt:=O9) (aE aCA trivial) aDL
abbrev S1:Ent:=⟨63,_,_,vD⟩
theorem aE4:Ent.OK Tryz.prog S1:=aJ5
abbrev k8:List (Nat×Kd):=[(0,.list TyE),(3,.box 52 TyI),(5,.own 3 TyE),(6,.int .i64)]
abbrev oT:List (Ex×List (Nat×Kd)):=[(.exit 0,[(5,.own 3 TyE)])]
def mG(x:Shape.den k8):Option (Shape.den k8⊕aW oT):=match x with
 | (v0,v3,v5,v6,()) =>
  bif ltI v6 (v0.length:Int) then
   bif ltI v6 4 then
    bif eqI v6 0 then
     bif Nat.ble [((IntKind.wrap .i64 v3.1).tmod 10)].length 1048576 then bif Nat.ble v5.length 1048576 then some (.inl (v0,v3,(v5++[((IntKind.wrap .i64 v3.1).tmod 10)]),(aB .i64 (v6+1)),())) else none else none
    else bif eqI v6 1 then
     bif Nat.ble [((IntKind.wrap .i64 v3.2.1).tmod 10)].length 1048576 then bif Nat.ble v5.length 1048576 then some (.inl (v0,v3,(v5++[((IntKind.wrap .i64 v3.2.1).tmod 10)]),(aB .i64 (v6+1)),())) else none else none
    else bif eqI v6 2 then
     bif Nat.ble [((IntKind.wrap .i64 v3.2.2.1).tmod 10)].length 1048576 then bif Nat.ble v5.length 1048576 then some (.inl (v0,v3,(v5++[((IntKind.wrap .i64 v3.2.2.1).tmod 10)]),(aB .i64 (v6+1)),())) else none else none
    else bif eqI v6 3 then bif Nat.ble [((IntKind.wrap .i64 v3.2.2.2).tmod 10)].length 1048576 then bif Nat.ble v5.length 1048576 then some (.inl (v0,v3,(v5++[((IntKind.wrap .i64 v3.2.2.2).tmod 10)]),(aB .i64 (v6+1)),())) else none else none else none
   else some (.inr ((v5,())))
  else some (.inr ((v5,())))
def rH(x:Shape.den k8):Option (aW oT):=bZ mG (2^64) x
def oC(x:aJ [.list TyE,.agg TyI]):Option (aJ [.list TyE]):=match x with
 | (v0,v1,()) =>
  aC (rH (v0,v1,[],0,())) fun z1 =>
  some (z1.1,())
noncomputable def xB:Code:=aT Tryz.f64
abbrev D3:Env:=b8 []
theorem JV:bE Tryz.prog D3:=bF trivial
noncomputable def p6:Code:=dS xB 0
def CL(id:Nat):Option aS:=bif Nat.beq id 3 then some ⟨k8,oT,rH⟩ else none
theorem TI:∀ x,dM Tryz.prog D3 26 (aD Tryz.f64) CL p6 k8 oT x=mG x:=by
 rintro⟨v0,v3,v5,v6,⟨⟩⟩
 kernel_rfl
theorem Z1:aF p6=[]:=by kernel_rfl
theorem TC:aH p6=3:=by kernel_rfl
theorem VQ:cF Tryz.prog 26 p6 ⟨k8,oT,rH⟩:=by
 exact cC JV.callee aK.mixed _ (aE Z1 trivial) TI
theorem ZW:aF xB=[p6]:=by kernel_rfl
theorem Z9:∀ x,cI Tryz.prog D3 Tryz.f64 (aD Tryz.f64) CL xB _ _ x=oC x:=by
 rintro⟨v0,v1,⟨⟩⟩
 kernel_rfl
theorem aEP:eB Tryz.prog 64 _ _ oC:=by
 exact bL aK JV Tryz.func64 (c:=xB) (by kernel_rfl) (aZ:=aD Tryz.f64) (lt:=CL) (aE ZW ⟨cB TC rfl VQ,trivial⟩) Z9
abbrev OA:Ent:=⟨64,_,_,oC⟩
theorem aAJ:Ent.OK Tryz.prog OA:=aEP
def o4(x:aJ [.list TyE,.list TyD,.bool]):Option (aJ [.agg TyG,.int .i64]):=match x with
 | (v0,v1,v2,()) =>
  aC (xC (v0,())) fun y1 =>
  bif !(eqI y1.1 0) then
   some (([],([],[])),y1.1,())
  else aC (DY ((v0.length:Int),v1,())) fun y2 =>
  bif !(eqI y2.2.1 0) then
   some (([],([],[])),y2.2.1,())
  else aC (pD ((y2.1.1,y2.1.2),())) fun y3 =>
  aC (kG ((y2.1.1,y2.1.2),())) fun y4 =>
  bif !(eqI y3.2.1 0) then
   some (([],([],[])),4,())
  else bif !(eqI y4.2.1 0) then
   some (([],([],[])),4,())
  else bif v2 then
   some ((v0,(y4.1.2,y3.1.2)),0,())
  else some ((v0,(y3.1.2,y4.1.2)),0,())
noncomputable def KA:Code:=aT Tryz.f65
abbrev U3:Env:=b8 [AI,aMT,HD,V9]
theorem aH1:bE Tryz.prog U3:=bF ⟨C5,aMW,ID,T3,trivial⟩
def RQ(id:Nat):Option aS:=none
theorem aE3:aF KA=[]:=by kernel_rfl
theorem aH2:∀ x,cI Tryz.prog U3 Tryz.f65 (aD Tryz.f65) RQ KA _ _ x=o4 x:=by
 rintro⟨v0,v1,v2,⟨⟩⟩
 kernel_rfl
theorem aLX:eB Tryz.prog 65 _ _ o4:=by
 exact bL aK aH1 Tryz.func65 (c:=KA) (by kernel_rfl) (aZ:=aD Tryz.f65) (lt:=RQ) (aE aE3 trivial) aH2
abbrev UZ:Ent:=⟨65,_,_,o4⟩
theorem aG3:Ent.OK Tryz.prog UZ:=aLX
abbrev pG:List (Nat×Kd):=[(1,.box 24 TyP),(2,.box 35 TyG),(3,.list TyE),(4,.own 53 TyD),(5,.int .i64)]
abbrev tF:List (Ex×List (Nat×Kd)):=[(.exit 0,[(1,.box 24 TyP),(2,.box 35 TyG),(3,.list TyE),(4,.own 53 TyD)])]
def rD(x:Shape.den pG):Option (Shape.den pG⊕aW tF):=match x with
 | (v1,v2,v3,v4,v5,()) =>
  bif ltI v5 (v1.2.1.length:Int) then
   bif ltI v5 3 then
    bif aL v5 v1.2.1.length then aC (oC (v3,((v1.2.1.getD v5.toNat (0,(0,(0,0)))).1,((v1.2.1.getD v5.toNat (0,(0,(0,0)))).2.1,((v1.2.1.getD v5.toNat (0,(0,(0,0)))).2.2.1,(v1.2.1.getD v5.toNat (0,(0,(0,0)))).2.2.2))),())) fun y3 =>
    bif Nat.ble [y3.1].length 1048576 then bif Nat.ble v4.length 1048576 then some (.inl ((v1.1,(v1.2.1,v1.2.2)),(v2.1,(v2.2.1,v2.2.2)),v3,(v4++[y3.1]),(aB .i64 (v5+1)),())) else none else none else none
   else some (.inr (((v1.1,(v1.2.1,v1.2.2)),(v2.1,(v2.2.1,v2.2.2)),v3,v4,())))
  else some (.inr (((v1.1,(v1.2.1,v1.2.2)),(v2.1,(v2.2.1,v2.2.2)),v3,v4,())))
def vX(x:Shape.den pG):Option (aW tF):=bZ rD (2^64) x
def lB(x:aJ [.agg TyP]):Option (aJ [.agg TyG]):=match x with
 | (v0,()) =>
  aC (vD (v0.1,())) fun y1 =>
  aC (vX ((v0.1,(v0.2.1,v0.2.2)),([],([],[])),y1.1,[],0,())) fun z4 =>
  aC (o4 (z4.2.2.1,z4.2.2.2.1,z4.1.2.2,())) fun y5 =>
  some ((y5.1.1,(y5.1.2.1,y5.1.2.2)),())
noncomputable def EC:Code:=aT Tryz.f15
abbrev MD:Env:=b8 [OA,S1,UZ]
theorem O6:bE Tryz.prog MD:=bF ⟨aAJ,aE4,aG3,trivial⟩
noncomputable def vK:Code:=dS EC 0
def KP(id:Nat):Option aS:=bif Nat.beq id 4 then some ⟨pG,tF,vX⟩ else none
theorem aC4:∀ x,dM Tryz.prog MD 41 (aD Tryz.f15) KP vK pG tF x=rD x:=by
 rintro⟨v1,v2,v3,v4,v5,⟨⟩⟩
 kernel_rfl
theorem aJ1:aF vK=[]:=by kernel_rfl
theorem aBV:aH vK=4:=by kernel_rfl
theorem aDU:cF Tryz.prog 41 vK ⟨pG,tF,vX⟩:=by
 exact cC O6.callee aK.mixed _ (aE aJ1 trivial) aC4
theorem aGI:aF EC=[vK]:=by kernel_rfl
theorem aJF:∀ x,cI Tryz.prog MD Tryz.f15 (aD Tryz.f15) KP EC _ _ x=lB x:=by
 rintro⟨v0,⟨⟩⟩
 kernel_rfl
theorem aN6:eB Tryz.prog 15 _ _ lB:=by
 exact bL aK O6 Tryz.func15 (c:=EC) (by kernel_rfl) (aZ:=aD Tryz.f15) (lt:=KP) (aE aGI ⟨cB aBV rfl aDU,trivial⟩) aJF
abbrev YY:Ent:=⟨15,_,_,lB⟩
theorem aJH:Ent.OK Tryz.prog YY:=aN6
def qN(x:aJ [.agg TyP]):Option (aJ [.bool]):=match x with
 | (v0,()) =>
  some (!(ltI 3 (v0.2.1.length:Int)),())
noncomputable def LQ:Code:=aT Tryz.f13
abbrev ZV:Env:=b8 []
theorem aI1:bE Tryz.prog ZV:=bF trivial
def U2(id:Nat):Option aS:=none
theorem aGO:aF LQ=[]:=by kernel_rfl
theorem aJP:∀ x,cI Tryz.prog ZV Tryz.f13 (aD Tryz.f13) U2 LQ _ _ x=qN x:=by
 rintro⟨v0,⟨⟩⟩
 kernel_rfl
theorem aN3:eB Tryz.prog 13 _ _ qN:=by
 exact bL aK aI1 Tryz.func13 (c:=LQ) (by kernel_rfl) (aZ:=aD Tryz.f13) (lt:=U2) (aE aGO trivial) aJP
abbrev Y1:Ent:=⟨13,_,_,qN⟩
theorem aJT:Ent.OK Tryz.prog Y1:=aN3
def qO(x:aJ [.agg TyQ]):Option (aJ [.agg TyG,.agg TyG]):=match x with
 | (v0,()) =>
  bif v0.2.2 then
   aC (lB ((v0.1.1,(v0.1.2.1,v0.1.2.2)),())) fun y1 =>
   aC (lB ((v0.1.1,(v0.2.1.2.1,v0.2.1.2.2)),())) fun y2 =>
   some ((y1.1.1,(y1.1.2.1,y1.1.2.2)),(y2.1.1,(y2.1.2.1,y2.1.2.2)),())
  else aC (lB ((v0.1.1,(v0.1.2.1,v0.1.2.2)),())) fun y3 =>
  aC (lB ((v0.2.1.1,(v0.2.1.2.1,v0.2.1.2.2)),())) fun y4 =>
  some ((y3.1.1,(y3.1.2.1,y3.1.2.2)),(y4.1.1,(y4.1.2.1,y4.1.2.2)),())
noncomputable def LY:Code:=aT Tryz.f14
abbrev YW:Env:=b8 [YY]
theorem aI9:bE Tryz.prog YW:=bF ⟨aJH,trivial⟩
def UW(id:Nat):Option aS:=none
theorem aGJ:aF LY=[]:=by kernel_rfl
theorem aI6:∀ x,cI Tryz.prog YW Tryz.f14 (aD Tryz.f14) UW LY _ _ x=qO x:=by
 rintro⟨v0,⟨⟩⟩
 kernel_rfl
theorem aOJ:eB Tryz.prog 14 _ _ qO:=by
 exact bL aK aI9 Tryz.func14 (c:=LY) (by kernel_rfl) (aZ:=aD Tryz.f14) (lt:=UW) (aE aGJ trivial) aI6
abbrev XB:Ent:=⟨14,_,_,qO⟩
theorem aJ6:Ent.OK Tryz.prog XB:=aOJ
def gC(x:aJ [.agg TyQ]):Option (aJ [.bool]):=match x with
 | (v0,()) =>
  aC (qN ((v0.1.1,(v0.1.2.1,v0.1.2.2)),())) fun y1 =>
  bif y1.1 then
   aC (qN ((v0.2.1.1,(v0.2.1.2.1,v0.2.1.2.2)),())) fun y2 =>
   some (y2.1,())
  else some (false,())
noncomputable def LV:Code:=aT Tryz.f12
abbrev YZ:Env:=b8 [Y1]
theorem aJQ:bE Tryz.prog YZ:=bF ⟨aJT,trivial⟩
def UT(id:Nat):Option aS:=none
theorem aHH:aF LV=[]:=by kernel_rfl
theorem aJ0:∀ x,cI Tryz.prog YZ Tryz.f12 (aD Tryz.f12) UT LV _ _ x=gC x:=by
 rintro⟨v0,⟨⟩⟩
 kernel_rfl
theorem aOO:eB Tryz.prog 12 _ _ gC:=by
 exact bL aK aJQ Tryz.func12 (c:=LV) (by kernel_rfl) (aZ:=aD Tryz.f12) (lt:=UT) (aE aHH trivial) aJ0
abbrev XK:Ent:=⟨12,_,_,gC⟩
theorem aJ2:Ent.OK Tryz.prog XK:=aOO
abbrev qV:List (Nat×Kd):=[(0,.list TyG),(8,.list TyG),(9,.int .i64),(10,.int .i64)]
abbrev uX:List (Ex×List (Nat×Kd)):=[(.ret,[(2,.int .i64)]),(.exit 0,[(0,.list TyG)])]
def rZ(x:Shape.den qV):Option (Shape.den qV⊕aW uX):=match x with
 | (v0,v8,v9,v10,()) =>
  bif ltI v10 v9 then
   bif aL v10 v8.length then aC (dQ (((v8.getD v10.toNat ([],([],[]))).1,((v8.getD v10.toNat ([],([],[]))).2.1,(v8.getD v10.toNat ([],([],[]))).2.2)),())) fun y2 =>
   bif !(eqI y2.1 0) then
    some (.inr (.inl (y2.1,())))
   else some (.inl (v0,v8,v9,(aB .i64 (v10+1)),())) else none
  else some (.inr (.inr ((v0,()))))
def xF(x:Shape.den qV):Option (aW uX):=bZ rZ (2^64) x
abbrev qW:List (Nat×Kd):=[(0,.list TyG),(20,.list TyG),(21,.int .i64),(22,.int .i64)]
abbrev vB:List (Ex×List (Nat×Kd)):=[(.ret,[(2,.int .i64)]),(.exit 2,[])]
def lE(x:Shape.den qW):Option (Shape.den qW⊕aW vB):=match x with
 | (v0,v20,v21,v22,()) =>
  bif ltI v22 v21 then
   bif aL v22 v20.length then bif aL 0 v0.length then aC (cH ((v20.getD v22.toNat ([],([],[]))).1,(v0.getD 0 ([],([],[]))).1,())) fun y7 =>
   bif y7.1 then
    some (.inl (v0,v20,v21,(aB .i64 (v22+1)),()))
   else some (.inr (.inl (14,()))) else none else none
  else some (.inr (.inr ((()))))
def r6(x:Shape.den qW):Option (aW vB):=bZ lE (2^64) x
def fI(x:aJ [.list TyG]):Option (aJ [.int .i64]):=match x with
 | (v0,()) =>
  aC (xF (v0,v0,(v0.length:Int),0,())) fun z3 =>
  BN z3 (fun a4=>some (a4.1,())) fun b5 =>
  aC (r6 (b5.1,b5.1,(b5.1.length:Int),0,())) fun z8 =>
  BN z8 (fun a9=>some (a9.1,())) fun b10 =>
  some (0,())
noncomputable def AS:Code:=aT Tryz.f66
abbrev HC:Env:=b8 [wP,L2]
theorem HR:bE Tryz.prog HC:=bF ⟨BO,O7,trivial⟩
noncomputable def wW:Code:=dS AS 0
noncomputable def wY:Code:=dS AS 1
def ES(id:Nat):Option aS:=bif Nat.beq id 2 then some ⟨qV,uX,xF⟩ else bif Nat.beq id 9 then some ⟨qW,vB,r6⟩ else none
theorem aD0:∀ x,dM Tryz.prog HC 35 (aD Tryz.f66) ES wW qV uX x=rZ x:=by
 rintro⟨v0,v8,v9,v10,⟨⟩⟩
 kernel_rfl
theorem aLM:aF wW=[]:=by kernel_rfl
theorem aDZ:aH wW=2:=by kernel_rfl
theorem aG5:cF Tryz.prog 35 wW ⟨qV,uX,xF⟩:=by
 exact cC HR.callee aK.mixed _ (aE aLM trivial) aD0
theorem aEF:∀ x,dM Tryz.prog HC 35 (aD Tryz.f66) ES wY qW vB x=lE x:=by
 rintro⟨v0,v20,v21,v22,⟨⟩⟩
 kernel_rfl
theorem aK6:aF wY=[]:=by kernel_rfl
theorem aD9:aH wY=9:=by kernel_rfl
theorem aHE:cF Tryz.prog 35 wY ⟨qW,vB,r6⟩:=by
 exact cC HR.callee aK.mixed _ (aE aK6 trivial) aEF
theorem aJC:aF AS=[wW,wY]:=by kernel_rfl
theorem aL9:∀ x,cI Tryz.prog HC Tryz.f66 (aD Tryz.f66) ES AS _ _ x=fI x:=by
 rintro⟨v0,⟨⟩⟩
 kernel_rfl
theorem aQG:eB Tryz.prog 66 _ _ fI:=by
 exact bL aK HR Tryz.func66 (c:=AS) (by kernel_rfl) (aZ:=aD Tryz.f66) (lt:=ES) (aE aJC ⟨cB aDZ rfl aG5,cB aD9 rfl aHE,trivial⟩) aL9
abbrev AP:Ent:=⟨66,_,_,fI⟩
theorem AK:Ent.OK Tryz.prog AP:=aQG
def iG(x:aJ [.agg TyG]):Option (aJ [.agg TyH]):=match x with
 | (v0,()) =>
  some (((v0.1.length:Int),v0.2.1),())
noncomputable def LJ:Code:=aT Tryz.f69
abbrev YS:Env:=b8 []
theorem aJO:bE Tryz.prog YS:=bF trivial
def UL(id:Nat):Option aS:=none
theorem aGR:aF LJ=[]:=by kernel_rfl
theorem aJM:∀ x,cI Tryz.prog YS Tryz.f69 (aD Tryz.f69) UL LJ _ _ x=iG x:=by
 rintro⟨v0,⟨⟩⟩
 kernel_rfl
theorem aNX:eB Tryz.prog 69 _ _ iG:=by
 exact bL aK aJO Tryz.func69 (c:=LJ) (by kernel_rfl) (aZ:=aD Tryz.f69) (lt:=UL) (aE aGR trivial) aJM
abbrev EY:Ent:=⟨69,_,_,iG⟩
theorem GF:Ent.OK Tryz.prog EY:=aNX
def l4(x:aJ [.agg TyG,.agg TyG]):Option (aJ [.bool,.int .i64]):=match x with
 | (v0,v1,()) =>
  aC (iG ((v0.1,(v0.2.1,v0.2.2)),())) fun y1 =>
  aC (iG ((v1.1,(v1.2.1,v1.2.2)),())) fun y2 =>
  aC (wO ((y1.1.1,y1.1.2),(y2.1.1,y2.1.2),())) fun y3 =>
  some (y3.1,y3.2.1,())
noncomputable def J7:Code:=aT Tryz.f70
abbrev US:Env:=b8 [aIC,EY]
theorem aGG:bE Tryz.prog US:=bF ⟨aQW,GF,trivial⟩
def RL(id:Nat):Option aS:=none
theorem aEK:aF J7=[]:=by kernel_rfl
theorem aHM:∀ x,cI Tryz.prog US Tryz.f70 (aD Tryz.f70) RL J7 _ _ x=l4 x:=by
 rintro⟨v0,v1,⟨⟩⟩
 kernel_rfl
theorem aMF:eB Tryz.prog 70 _ _ l4:=by
 exact bL aK aGG Tryz.func70 (c:=J7) (by kernel_rfl) (aZ:=aD Tryz.f70) (lt:=RL) (aE aEK trivial) aHM
abbrev J8:Ent:=⟨70,_,_,l4⟩
theorem N6:Ent.OK Tryz.prog J8:=aMF
def gJ(x:aJ [.agg TyG,.agg TyG]):Option (aJ [.bool,.int .i64]):=match x with
 | (v0,v1,()) =>
  aC (fI ([(v0.1,(v0.2.1,v0.2.2)),(v1.1,(v1.2.1,v1.2.2))],())) fun y1 =>
  bif !(eqI y1.1 0) then
   some (false,y1.1,())
  else aC (l4 ((v0.1,(v0.2.1,v0.2.2)),(v1.1,(v1.2.1,v1.2.2)),())) fun y2 =>
  some (y2.1,y2.2.1,())
noncomputable def KQ:Code:=aT Tryz.f18
abbrev UQ:Env:=b8 [AP,J8]
theorem aGF:bE Tryz.prog UQ:=bF ⟨AK,N6,trivial⟩
def S0(id:Nat):Option aS:=none
theorem aEB:aF KQ=[]:=by kernel_rfl
theorem aF3:∀ x,cI Tryz.prog UQ Tryz.f18 (aD Tryz.f18) S0 KQ _ _ x=gJ x:=by
 rintro⟨v0,v1,⟨⟩⟩
 kernel_rfl
theorem aK2:eB Tryz.prog 18 _ _ gJ:=by
 exact bL aK aGF Tryz.func18 (c:=KQ) (by kernel_rfl) (aZ:=aD Tryz.f18) (lt:=S0) (aE aEB trivial) aF3
abbrev BX:Ent:=⟨18,_,_,gJ⟩
theorem EM:Ent.OK Tryz.prog BX:=aK2
def o5(x:aJ [.agg TyG,.agg TyG,.agg TyG]):Option (aJ [.bool,.int .i64]):=match x with
 | (v0,v1,v2,()) =>
  aC (fI ([(v0.1,(v0.2.1,v0.2.2)),(v1.1,(v1.2.1,v1.2.2)),(v2.1,(v2.2.1,v2.2.2))],())) fun y1 =>
  bif !(eqI y1.1 0) then
   some (false,y1.1,())
  else aC (l4 ((v0.1,(v0.2.1,v0.2.2)),(v2.1,(v2.2.1,v2.2.2)),())) fun y2 =>
  bif !(eqI y2.2.1 0) then
   some (false,y2.2.1,())
  else bif y2.1 then
   aC (l4 ((v2.1,(v2.2.1,v2.2.2)),(v1.1,(v1.2.1,v1.2.2)),())) fun y3 =>
   some (y3.1,y3.2.1,())
  else some (false,y2.2.1,())
noncomputable def KO:Code:=aT Tryz.f28
abbrev UY:Env:=b8 [AP,J8]
theorem aGY:bE Tryz.prog UY:=bF ⟨AK,N6,trivial⟩
def SZ(id:Nat):Option aS:=none
theorem aFJ:aF KO=[]:=by kernel_rfl
theorem aGK:∀ x,cI Tryz.prog UY Tryz.f28 (aD Tryz.f28) SZ KO _ _ x=o5 x:=by
 rintro⟨v0,v1,v2,⟨⟩⟩
 kernel_rfl
theorem aMV:eB Tryz.prog 28 _ _ o5:=by
 exact bL aK aGY Tryz.func28 (c:=KO) (by kernel_rfl) (aZ:=aD Tryz.f28) (lt:=SZ) (aE aFJ trivial) aGK
abbrev UX:Ent:=⟨28,_,_,o5⟩
theorem aFV:Ent.OK Tryz.prog UX:=aMV
def o3(x:aJ [.agg TyG,.agg TyG]):Option (aJ [.int .i64]):=match x with
 | (v0,v1,()) =>
  aC (gJ ((v0.1,(v0.2.1,v0.2.2)),(v1.1,(v1.2.1,v1.2.2)),())) fun y1 =>
  bif !(eqI y1.2.1 0) then
   some (y1.2.1,())
  else bif y1.1 then
   some (0,())
  else some (6,())
noncomputable def KJ:Code:=aT Tryz.f82
abbrev U8:Env:=b8 [BX]
theorem aHF:bE Tryz.prog U8:=bF ⟨EM,trivial⟩
def RG(id:Nat):Option aS:=none
theorem aEV:aF KJ=[]:=by kernel_rfl
theorem aHI:∀ x,cI Tryz.prog U8 Tryz.f82 (aD Tryz.f82) RG KJ _ _ x=o3 x:=by
 rintro⟨v0,v1,⟨⟩⟩
 kernel_rfl
theorem aLA:eB Tryz.prog 82 _ _ o3:=by
 exact bL aK aHF Tryz.func82 (c:=KJ) (by kernel_rfl) (aZ:=aD Tryz.f82) (lt:=RG) (aE aEV trivial) aHI
abbrev UI:Ent:=⟨82,_,_,o3⟩
theorem aHO:Ent.OK Tryz.prog UI:=aLA
def mO(x:aJ [.agg TyG,.agg TyG]):Option (aJ [.int .i64,.int .i64]):=match x with
 | (v0,v1,()) =>
  aC (o3 ((v0.1,(v0.2.1,v0.2.2)),(v1.1,(v1.2.1,v1.2.2)),())) fun y1 =>
  bif !(eqI y1.1 0) then
   some (0,y1.1,())
  else some ((aB .i64 ((v1.2.1.length:Int)-(v0.2.1.length:Int))),0,())
noncomputable def N9:Code:=aT Tryz.f27
abbrev aA4:Env:=b8 [UI]
theorem aLY:bE Tryz.prog aA4:=bF ⟨aHO,trivial⟩
def XA(id:Nat):Option aS:=none
theorem aJX:aF N9=[]:=by kernel_rfl
theorem aLW:∀ x,cI Tryz.prog aA4 Tryz.f27 (aD Tryz.f27) XA N9 _ _ x=mO x:=by
 rintro⟨v0,v1,⟨⟩⟩
 kernel_rfl
theorem aP6:eB Tryz.prog 27 _ _ mO:=by
 exact bL aK aLY Tryz.func27 (c:=N9) (by kernel_rfl) (aZ:=aD Tryz.f27) (lt:=XA) (aE aJX trivial) aLW
abbrev OP:Ent:=⟨27,_,_,mO⟩
theorem SS:Ent.OK Tryz.prog OP:=aP6
abbrev lT:List (Nat×Kd):=[(3,.box 35 TyG),(10,.list TyD),(11,.int .i64),(12,.int .i64)]
abbrev pX:List (Ex×List (Nat×Kd)):=[(.ret,[(4,.bool)]),(.exit 0,[])]
def gD(x:Shape.den lT):Option (Shape.den lT⊕aW pX):=match x with
 | (v3,v10,v11,v12,()) =>
  bif ltI v12 v11 then
   bif aL v12 v10.length then aC (gG ((v3.1,(v3.2.1,v3.2.2)),(v10.getD v12.toNat []),())) fun y2 =>
   bif !(eqI y2.2.1 0) then
    some (.inr (.inl (false,())))
   else bif y2.1 then
    some (.inl ((v3.1,(v3.2.1,v3.2.2)),v10,v11,(aB .i64 (v12+1)),()))
   else some (.inr (.inl (false,()))) else none
  else some (.inr (.inr ((()))))
def nQ(x:Shape.den lT):Option (aW pX):=bZ gD (2^64) x
def l6(x:aJ [.agg TyG,.agg TyG]):Option (aJ [.bool]):=match x with
 | (v0,v1,()) =>
  aC (nQ ((v1.1,(v1.2.1,v1.2.2)),v0.2.1,(v0.2.1.length:Int),0,())) fun z3 =>
  BN z3 (fun a4=>some (a4.1,())) fun b5 =>
  some (true,())
noncomputable def zE:Code:=aT Tryz.f25
abbrev F7:Env:=b8 [MK]
theorem K4:bE Tryz.prog F7:=bF ⟨ZF,trivial⟩
noncomputable def qQ:Code:=dS zE 0
def E4(id:Nat):Option aS:=bif Nat.beq id 2 then some ⟨lT,pX,nQ⟩ else none
theorem WL:∀ x,dM Tryz.prog F7 29 (aD Tryz.f25) E4 qQ lT pX x=gD x:=by
 rintro⟨v3,v10,v11,v12,⟨⟩⟩
 kernel_rfl
theorem aBQ:aF qQ=[]:=by kernel_rfl
theorem WH:aH qQ=2:=by kernel_rfl
theorem XM:cF Tryz.prog 29 qQ ⟨lT,pX,nQ⟩:=by
 exact cC K4.callee aK.mixed _ (aE aBQ trivial) WL
theorem aAC:aF zE=[qQ]:=by kernel_rfl
theorem aBP:∀ x,cI Tryz.prog F7 Tryz.f25 (aD Tryz.f25) E4 zE _ _ x=l6 x:=by
 rintro⟨v0,v1,⟨⟩⟩
 kernel_rfl
theorem aG0:eB Tryz.prog 25 _ _ l6:=by
 exact bL aK K4 Tryz.func25 (c:=zE) (by kernel_rfl) (aZ:=aD Tryz.f25) (lt:=E4) (aE aAC ⟨cB WH rfl XM,trivial⟩) aBP
abbrev O4:Ent:=⟨25,_,_,l6⟩
theorem aCI:Ent.OK Tryz.prog O4:=aG0
end Go.PM
