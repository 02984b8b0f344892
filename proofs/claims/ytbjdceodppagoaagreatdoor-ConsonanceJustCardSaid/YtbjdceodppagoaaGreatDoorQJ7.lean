/- Texts of one proof, joined (7). -/
import Derived.Lib.AtoiTie
import Derived.Lib.ParseIntBTie
import Derived.Test.YtbjdceodppagoaaGreatDoorQJ6
set_option linter.unusedSimpArgs false
set_option linter.unusedVariables false
set_option maxRecDepth 100000
noncomputable section
namespace Go.PM
open Go Go.RowKit Go.Proofs
def Dn(u:Nat):ByteArray:=⟨(Lib.decDigits u).toArray⟩
def Zn(n:Int):ByteArray:=⟨(Lib.itoa n).toArray⟩
theorem xR u:(Dn u).data.toList=Lib.decDigits u:=by rfl
theorem bAN n:(Zn n).data.toList=Lib.itoa n:=by rfl
theorem aTT(u:Nat):Zn u=Dn u:=by rfl
theorem aXO {n}(h:n.natAbs<10^20):aW9 n=Zn n:=aMV h
theorem VJ {n}(h:n<0):(Zn n).data.toList=45::Lib.decDigits n.natAbs:=by rw[bAN,Lib.itoa,if_pos h]
theorem O1 {n}(h:0<=n):Zn n=Dn n.natAbs:=by
 obtain⟨u,rfl⟩:∃ u:Nat,n=u:=⟨n.natAbs,by omega⟩;rfl
theorem RZ {a b:ByteArray}(h:a.data.toList=b.data.toList):a=b:=by cases a; simp_all
theorem aC1(a:ByteArray):a.size=a.data.toList.length:=by rfl
theorem aN0(l m:List UInt8):∀ (acc:Nat),Lib.decFrom acc (l++m)=(Lib.decFrom acc l).bind λa=>Lib.decFrom a m:=by
 induction l with
 | nil=>intro acc; rfl
 | cons b l ih =>
  intro acc;rw[List.cons_append,Lib.decFrom,Lib.decFrom];split
  ·grind
  ·rfl
theorem aQX {d}(h:d<10):Lib.digitVal (UInt8.ofNat (48+d))=some d:=by
 have h1:(UInt8.ofNat (48+d)).toNat=48+d:=by
  rw[UInt8.toNat_ofNat'];omega
 unfold Lib.digitVal;grind
theorem pZ u:Lib.decFrom 0 (Lib.decDigits u)=some u:=by
 induction u using Nat.strongRecOn with
 | _ u ih =>
  rw[Lib.decDigits];split
  next h=>rw[Lib.decFrom,aQX h];simp[Lib.decFrom]
  ·rw[aN0,ih (u/10) Z];simp only[Option.bind_some];rw[Lib.decFrom,aQX (Nat.mod_lt _ R)];simp only[Lib.decFrom];grind
theorem FX u:Lib.decDigits u≠[]:=by
 rw[Lib.decDigits];split <;> simp
theorem HJ u:∀ b∈Lib.decDigits u,48<=b.toNat/\b.toNat<=57:=by
 induction u using Nat.strongRecOn with
 | _ u ih =>
  intro b hb;rw[Lib.decDigits]at hb;have key:∀ d,d<10->48<=(UInt8.ofNat (48+d)).toNat/\(UInt8.ofNat (48+d)).toNat<=57:=λd h=>by rw[UInt8.toNat_ofNat']; omega
  grind
theorem a6L {a b}(h:Dn a=Dn b):a=b:=by
 have h1:=oZ (λx:ByteArray=>Lib.decFrom 0 x.data.toList) h;simp only[xR,pZ]at h1;grind
theorem aJZ {n}(h:n<0) m:Zn n≠Dn m:=by
 intro e;have h1:=oZ (λx:ByteArray=>x.data.toList) e;simp only[VJ h,xR]at h1;have:=HJ m 45 W;grind
theorem bD3 {a b}(h:Zn a=Zn b):a=b:=by
 rcases(by omega:a<0\/0<=a)with ha|ha
 ·rcases(by omega:b<0\/0<=b)with hb|hb
  ·have h1:=oZ (λx:ByteArray=>x.data.toList) h;simp only[VJ ha,VJ hb,List.cons.injEq,true_and]at h1;have h2:=oZ (Lib.decFrom 0) h1;rw[pZ,pZ]at h2;grind
  ·rw[O1 hb]at h;exact absurd h (aJZ ha _)
 ·rcases(by omega:b<0\/0<=b)with hb|hb
  ·rw[O1 ha]at h;exact absurd h.symm (aJZ hb _)
  ·rw[O1 ha,O1 hb]at h;have:=a6L h;omega
theorem a5I a b:eqS a b=decide (a=b):=by
 unfold eqS
 by_cases h:a=b
 ·grind
 ·have:¬ a.data=b.data:=λe=>h (RZ W)
  simp_all
theorem bEF:ByteArray.mk #[48]=Dn 0:=RZ (by rw[xR,Lib.decDigits]; rfl)
theorem bG9:ByteArray.mk #[49]=Dn 1:=RZ (by rw[xR,Lib.decDigits]; rfl)
theorem TS n:eqS (Zn n) (ByteArray.mk #[48])=decide (n=0):=by
 rw[a5I,bEF,((aTT 0).symm)]
 by_cases h:n=0
 ·grind
 ·have :=λe=>h (bD3 e)
  grind
theorem aMA n:eqS (Dn n) (ByteArray.mk #[48])=decide (n=0):=by
 rw[<- aTT,TS];simp
theorem DL u:(Dn u).size=Lib.nDigits u:=by rw[aC1,xR,Lib.decDigits_length]
theorem D2 {n}(h:n<0):(Zn n).size=Lib.nDigits n.natAbs+1:=by rw[aC1,VJ h,List.length_cons,Lib.decDigits_length]
theorem tS {u k}:u<10^(k+1)->Lib.nDigits u<=k+1:=by
 induction k generalizing u with
 | zero=>intro h; rw[Lib.nDigits_small W]; simp
 | succ k ih =>
  by_cases h1:u<10
  ·grind
  ·rw[Lib.nDigits_big h1];grind
theorem j5 u:u<10^Lib.nDigits u:=by
 have:=Lib.decFrom_lt _ _ _ (pZ u);rw[Lib.decDigits_length]at this;grind
theorem nDigits_pos u:1<=Lib.nDigits u:=by rw[Lib.nDigits]; grind
theorem bCO n:Lib.atoi (Zn n).data.toList=some n:=by
 rcases(by omega:n<0\/0<=n)with h|h
 ·rw[VJ h];have hne:(Lib.decDigits n.natAbs).isEmpty=false:=by
   cases e:Lib.decDigits n.natAbs with
   | nil=>exact absurd e (FX _)
   | cons _ _=>rfl
  simp only[Lib.atoi,Lib.decNat,pZ];grind
 ·rw[O1 h,xR];have h1:=pZ n.natAbs;have h2:=HJ n.natAbs;cases e:Lib.decDigits n.natAbs with
  | nil=>exact absurd e (FX _)
  | cons b r =>
   rw[e]at h1 h2;have hb:=h2 b R;have n45:(b==45)=false:=by
    rw[beq_eq_false_iff_ne]; rintro rfl;grind
   have n43:(b==43)=false:=by
    rw[beq_eq_false_iff_ne]; rintro rfl;grind
   simp only[Lib.atoi,n45,Lib.decNat,h1];grind
theorem aJF u:Lib.decNat (Dn u).data.toList=some u:=by
 have hne:(Lib.decDigits u).isEmpty=false:=by
  cases e:Lib.decDigits u with
  | nil=>exact absurd e (FX _)
  | cons _ _=>rfl
 simp only[xR,Lib.decNat,hne,pZ];rfl
theorem aFG:∀ (l:List UInt8) (acc n:Nat),Lib.decFrom acc l=some n->acc*10^l.length<=n
 | [],acc,n,h=>by
  obtain rfl:=oB h;simp
 | b::l,acc,n,h=>by
  rw[Lib.decFrom]at h;split at h
  next d hd=>have:=aFG l _ n h;rw[List.length_cons,Nat.pow_succ];grind
  ·cases h
theorem WR:∀ l m acc x y,l.length=m.length->Lib.decFrom acc l=some x->Lib.decFrom acc m=some y->Op.bytesLess l m=decide (x<y)
 | [],[],acc,x,y,_,h1,h2=>by
  obtain rfl:=oB h1;obtain rfl:=oB h2;simp[Op.bytesLess]
 | [],_::_,_,_,_,h,_,_=>by simp at h
 | _::_,[],_,_,_,h,_,_=>by simp at h
 | c::l,d::m,acc,x,y,h,h1,h2=>by
  have hl:l.length=m.length:=by simpa using h
  have digit:∀ (b:UInt8) (e:Nat),Lib.digitVal b=some e->b.toNat=48+e/\e<10:=by
   intro b e he;unfold Lib.digitVal at he;grind
  rw[Lib.decFrom]at h1 h2;split at h1
  next e1 he1=>
   split at h2
   ·rename_i e2 he2;obtain⟨c1,c2⟩:=digit c e1 he1;obtain⟨d1,d2⟩:=digit d e2 he2;have x1:=Lib.decFrom_lt l _ x h1;have x2:=aFG l _ x h1;have y1:=Lib.decFrom_lt m _ y h2;have y2:=aFG m _ y h2;rw[hl]at x1 x2;rw[Op.bytesLess];rcases Nat.lt_trichotomy e1 e2 with g|g|g
    ·have lt:c<d:=by rw[UInt8.lt_iff_toNat_lt]; omega
     have:(acc*10+e1+1)*10^m.length<=(acc*10+e2)*10^m.length:=Nat.mul_le_mul_right _ Z;grind
    ·subst g;have e:c=d:=UInt8.toNat_inj.1 Z;subst e;have lt:¬ c<c:=by rw[UInt8.lt_iff_toNat_lt]; omega
     simp[lt,WR l m _ x y hl h1 h2]
    ·have lt:¬ c<d:=by rw[UInt8.lt_iff_toNat_lt]; omega
     have ne:¬ c=d:=by rintro rfl; omega
     have:(acc*10+e2+1)*10^m.length<=(acc*10+e1)*10^m.length:=Nat.mul_le_mul_right _ Z;grind
   ·cases h2
  ·cases h1
theorem bD7 {a b}(h:Lib.nDigits a=Lib.nDigits b):ltS (Dn a) (Dn b)=decide (a<b):=by
 unfold ltS;rw[xR,xR];exact WR _ _ 0 a b (by rw[Lib.decDigits_length,Lib.decDigits_length,h]) (pZ a) (pZ b)
theorem xU {a b}(h:a<=b):Lib.nDigits a<=Lib.nDigits b:=by
 obtain⟨k,hk⟩:∃ k,Lib.nDigits b=k+1:=⟨Lib.nDigits b-1,by have:=nDigits_pos b; omega⟩;rw[hk];refine tS (Nat.lt_of_le_of_lt h ?_);rw[<- hk];exact j5 b
theorem bER a b:eqS (Dn a) (Dn b)=decide (a=b):=by
 rw[a5I]
 by_cases h:a=b
 ·grind
 ·have :=λe=>h (a6L e)
  grind
def aDE(a b:Nat):Int:=if a<b then -1 else if b<a then 1 else 0
theorem wZ a b (ha:Lib.nDigits a<2^32)(hb:Lib.nDigits b<2^32):fU (Dn a,Dn b,())=some (aDE a b,()):=by
 unfold fU;dsimp only;rw[DL,DL]
 by_cases h:Lib.nDigits a=Lib.nDigits b
 ·have h1:eqI (Lib.nDigits a:Int) (Lib.nDigits b:Int)=true:=by rw[bP]; simp[h]
  rw[h1,bD7 h,bER];unfold aDE;grind
 ·have h1:eqI (Lib.nDigits a:Int) (Lib.nDigits b:Int)=false:=by rw[bP]; simp; omega
  rw[h1];rw[wrap64 Z Z];unfold aDE
  by_cases h2:a<b
  ·have:=xU (Nat.le_of_lt h2);grind
  ·have h3:b<a:=by
    grind
   have:=xU (Nat.le_of_lt h3);grind
theorem vQ(n:Int) (h1 : -9223372036854775808<=n) (h2:n<9223372036854775808):kR (n,())=some (Zn n,()):=by
 unfold kR HH;have e1:ltI n (-9223372036854775808)=false:=by rw[aE]; grind
 have e2:ltI 9223372036854775807 n=false:=by rw[aE]; simp; omega
 simp only[e1,e2,Bool.not_false,Bool.and_self,oC,aD,aXO (n:=n) Z]
theorem MY(u:Nat)(h:u<18446744073709551616):uZ ((u:Int),())=some (Dn u,()):=by
 unfold uZ uA;have e1:ltI u 0=false:=by rfl
 have e2:ltI u 18446744073709551616=true:=by rw[aE]; grind
 have e3:eqI 10 10=true:=by rfl
 simp only[e1,e2,e3,Bool.not_false,Bool.and_self,oC,aD,aXO (n:=u) W,aTT]
theorem aD3 u (h:Lib.nDigits u<=18):E4 (Dn u,())=some ((u:Int),true,()):=by
 unfold E4 vR;have e1:Nat.ble (Dn u).size 1000000000=true:=by rw[cT,DL]; grind
 have e2:eqI 10 10=true:=by rfl
 have e3:eqI 64 64=true:=by rfl
 have e4:Lib.parseUintB 64 (Dn u).data.toList=.ok u:=by
  rw[Lib.parseUintB_64,Lib.parseMag_short _ (by rw[xR,Lib.decDigits_length]; omega),aJF];rfl
 simp only[e1,e2,e3,Bool.and_self,oC,aD,e4]
theorem QN a b (ha:Lib.nDigits a<=18)(hb:Lib.nDigits b<=18):sC (Dn a,Dn b,())=some ((a:Int),(b:Int),true,()):=by
 unfold sC;have e1:ltI 18 ((Dn a).size)=false:=by rw[aE,DL]; simp; omega
 have e2:ltI 18 ((Dn b).size)=false:=by rw[aE,DL]; grind
 simp only[e1,e2,oD,aD3 a ha,aD3 b hb,aD]
theorem aCI {s c l}(h:s.data.toList=c::l):aPL s 0=c.toNat:=by
 have h1:s[0]?=some c:=by
  have h3:s.data[0]?=some c:=by rw[<- Array.getElem?_toList,h]; rfl
  have h4:s[0]?=s.data[0]?:=by rfl
  grind
 unfold aPL;grind
theorem a09 u:∃ c l,(Dn u).data.toList=c::l/\c.toNat≠45:=by
 have h:=HJ u;rw[xR];cases e:Lib.decDigits u with
 | nil=>exact absurd e (FX _)
 | cons c l =>
  grind
theorem aSQ {s:ByteArray}{c l}(h:s.data.toList=c::l):s.extract 1 s.size=⟨l.toArray⟩:=by
 refine RZ ?_;have h1:(s.extract 1 s.size).data=s.data.extract 1 s.data.size:=ByteArray.data_extract;rw[h1,Array.toList_extract,List.extract_eq_take_drop,h];have h2:s.data.size=l.length+1:=by rw[<- Array.length_toList,h]; rfl
 grind
theorem uX n:cL (Zn n,())=some (decide (n<0),Dn n.natAbs,()):=by
 unfold cL
 by_cases h:n<0
 ·have hz:=VJ h;have e1:ltI 0 ((Zn n).size:Int)=true:=by rw[aE,D2 h]; simp <;> omega
  have e2:aF 0 (Zn n).size=true:=by rw[aK,D2 h]; simp <;> omega
  have e3:aPL (Zn n) 0=45:=by rw[aCI hz]; rfl
  have e4:Nat.ble 1 (Zn n).size=true:=by rw[cT,D2 h]; simp
  have e5:Nat.ble (Zn n).size (Zn n).size=true:=R
  have e6:eqI 45 45=true:=O
  simp only[e1,e2,e3,e4,e5,e6,oC,aSQ hz,h,decide_true,Dn]
 ·rw[O1 Z];obtain⟨c,l,h1,h2⟩:=a09 n.natAbs;have hs:(Dn n.natAbs).size=l.length+1:=by rw[aC1,h1]; rfl
  have e2:aF 0 (Dn n.natAbs).size=true:=by rw[aK,hs]; simp <;> omega
  have e3:eqI (aPL (Dn n.natAbs) 0) 45=false:=by rw[aCI h1,bP]; simp <;> omega
  grind
theorem aMN(b:Bool) m (hm:Lib.nDigits m<2^32):aA (b,Dn m,())=some (Zn (if b then -m else m),()):=by
 unfold aA;cases b with
 | false=>rfl
 | true =>
  have e2:Nat.ble ((ByteArray.mk #[45]).size+(Dn m).size) 9223372036854775807=true:=by
   rw[cT,DL];have:(ByteArray.mk #[45]).size=1:=rfl;grind
  simp only[aMA,e2]
  by_cases h:m=0
  ·subst h;rfl
  ·simp only[h,decide_false,Bool.not_false,oC];simp only[if_true]
   congr 2
   refine RZ ?_;rw[VJ Z,Joins.data_append,xR];grind
theorem n9 m (hm:Lib.nDigits m<2^32):aA (true,Dn m,())=some (Zn (-m),()):=(aMN true m hm).trans (by rfl)
theorem sH m (hm:Lib.nDigits m<2^32):aA (false,Dn m,())=some (Zn m,()):=(aMN false m hm).trans (by rfl)
theorem FP(n k:Int)(hk:k<=18):r6 (Zn n,k,())=if ((Zn n).size)<=k then some (n,true,()) else some (0,false,()):=by
 unfold r6
 by_cases h:((Zn n).size)<=k
 ·have e1:ltI k ((Zn n).size:Int)=false:=by rw[aE]; grind
  have e2:Nat.ble (Zn n).size 18=true:=by simp <;> omega
  rw[if_pos h];simp only[e1,oD,HQ,e2,oC,bCO,aD]
 ·have e1:ltI k ((Zn n).size)=true:=by rw[aE]; grind
  grind
theorem aEK n:E6 (Zn n,())=some (n.sign,()):=by
 unfold E6;simp only[TS]
 by_cases h0:n=0
 ·grind
 ·by_cases h:n<0
  ·have hz:=VJ h;have e2:aF 0 (Zn n).size=true:=by rw[aK,D2 h]; simp <;> omega
   have e3:aPL (Zn n) 0=45:=by rw[aCI hz]; rfl
   have e6:eqI 45 45=true:=O
   grind
  ·rw[O1 Z];obtain⟨c,l,h1,h2⟩:=a09 n.natAbs;have hs:(Dn n.natAbs).size=l.length+1:=by rw[aC1,h1]; rfl
   have e2:aF 0 (Dn n.natAbs).size=true:=by rw[aK,hs]; simp
   have e3:eqI (aPL (Dn n.natAbs) 0) 45=false:=by rw[aCI h1,bP]; simp <;> omega
   grind
theorem aQL n (h:Lib.nDigits n.natAbs<2^32):RP (Zn n,())=some (Zn (-n),()):=by
 unfold RP;simp only[uX n]
 by_cases h0:n<0
 ·simp only[sH _ h,aD];grind
 ·simp only[n9 _ h,aD];grind
theorem aRZ n:S0 (Zn n,())=some (Zn n.natAbs,()):=by
 unfold S0;simp only[uX n,aD,aTT]
theorem aPP(a b:Nat) (ha:Lib.nDigits a<2^32) (hb:Lib.nDigits b<2^32):JS (Zn (a:Int),Zn (b:Int),())=some (aDE a b,()):=by
 unfold JS;have sg:∀ n:Nat,(n:Int).sign=if n=0 then 0 else 1:=λn=>W
 simp only[aEK (a:Int),aEK (b:Int),uX (a:Int),uX (b:Int),aD,sg];have e0:∀ n:Nat,decide ((n:Int)<0)=false:=λn=>R
 by_cases h1:a=0
 ·by_cases h2:b=0
  ·have e:eqI 0 0=true:=O
   simp only[h1,h2,if_true,e,Bool.not_true,oD,e0,Int.natAbs_natCast];have:=wZ a b ha hb;rw[h1,h2]at this;simp only[this,aD]
  ·have:eqI 0 1=false:=O
   have e:ltI 0 1=true:=O
   simp only[h1,h2,if_true,if_false,this,e,Bool.not_false,oC];unfold aDE;grind
 ·by_cases h2:b=0
  ·have:eqI 1 0=false:=O
   have e:ltI 1 0=false:=O
   simp only[h1,h2,if_true,if_false,this,e,Bool.not_false,oC,oD];unfold aDE;grind
  ·have e:eqI 1 1=true:=O
   simp only[h1,h2,if_false,e,Bool.not_true,oD,e0,Int.natAbs_natCast,wZ a b ha hb,aD]
theorem aKB {u}(h:Lib.nDigits u<=18):u<1000000000000000000:=by
 have h1:=j5 u;have h2:10^Lib.nDigits u<=10^18:=Nat.pow_le_pow_right R h;omega
theorem rX {x}(h1:0<=x)(h2:x<18446744073709551616):aB .u64 x=x:=by
 rw[SD,IntKind.wrap_u64];omega
theorem aVT a b (ha:Lib.nDigits a<=18)(hb:Lib.nDigits b<=18):fE (Dn a,Dn b,())=some (Dn (a+b),()):=by
 have h1:=aKB ha;have h2:=aKB hb;unfold fE;simp only[QN a b ha hb,aD];rw[rX Z Z];have:a+b=((a+b:Nat):Int):=by rfl
 rw[this,MY _ Z];rfl
theorem aX0 a b (ha:Lib.nDigits a<=18)(hb:Lib.nDigits b<=18)(h:b<=a):cS (Dn a,Dn b,())=some (Dn (a-b),0,()):=by
 have h1:=aKB ha;unfold cS;have e:ltI (aDE a b) 0=false:=by
  rw[aE]; unfold aDE;grind
 simp only[wZ a b Z Z,QN a b ha hb,aD,e];rw[rX Z Z];have:a-b=((a-b:Nat):Int):=Z
 rw[this,MY _ Z];rfl
theorem aVX a b (h:Lib.nDigits a+Lib.nDigits b<=18):fF (Dn a,Dn b,())=some (Dn (a*b),()):=by
 have h3:a*b<1000000000000000000:=by
  have h1:=j5 a;have h2:=j5 b;have h4 :=Nat.mul_lt_mul'' h1 h2;rw[<- Nat.pow_add]at h4;have h5:10^(Lib.nDigits a+Lib.nDigits b)<=10^18:=Nat.pow_le_pow_right O h;omega
 unfold fF;have e:ltI 18 (aB .i64 (((Dn a).size:Int)+((Dn b).size:Int)))=false:=by
  rw[DL,DL,wrap64 Z Z,aE];grind
 simp only[e,QN a b Z Z,aD];have e2:(a:Int)*(b:Int)=((a*b:Nat):Int):=by rfl
 rw[e2,rX Z Z,MY _ Z];rfl
theorem aMR a b (ha:Lib.nDigits a<=18)(hb:Lib.nDigits b<=18)(h:b≠0):nQ (Dn a,Dn b,())=some (Dn (a/b),Dn (a%b),0,()):=by
 have h1:=aKB ha;unfold nQ;have e1:eqI (b:Int) 0=false:=by rw[bP]; simp; omega
 have q1:(a:Int).tdiv (b:Int)=((a/b:Nat):Int):=rfl;have q2:(a:Int).tmod (b:Int)=((a%b:Nat):Int):=rfl;have l1:a/b<=a:=Nat.div_le_self _ _;have l2:a%b<=a:=Nat.mod_le _ _;simp only[aMA,h,QN a b ha hb,aD,e1,q1,q2];generalize a/b=q at *;rw[rX Z Z,MY _ Z,aD,MY _ Z];rfl
theorem ML {n}{k:Nat}(h:((Zn n).size:Int)<=k):Lib.nDigits n.natAbs<=k:=by
 rcases(by omega:n<0\/0<=n)with g|g
 ·rw[D2 g]at h; omega
 ·rw[O1 g,DL]at h; omega
theorem p6 {x y f g:Int} (h:x=y*f+g) (hp:0<y->0<=g/\g<y) (hn:y<0->y<g/\g<=0) (h0:y≠0):x.fdiv y=f/\x.fmod y=g:=by
 have key:∀ x y f g:Int,x=y*f+g->0<y->0<=g->g<y->x.fdiv y=f/\x.fmod y=g:=by
  intro x y f g h hy h1 h2;have e1:=Int.fmod_def x y;have e2:=Int.fmod_nonneg_of_pos x hy;have e3:=Int.fmod_lt_of_pos x hy;have e4:y*(x.fdiv y-f)=g-x.fmod y:=by rw[Int.mul_sub]; omega
  have e5:x.fdiv y-f=0:=by
   rcases Int.lt_trichotomy (x.fdiv y-f) 0 with g1|g1|g1
   ·have:y*(x.fdiv y-f)<=y*(-1):=Int.mul_le_mul_of_nonneg_left Z Z;omega
   ·exact g1
   ·have:y*1<=y*(x.fdiv y-f):=Int.mul_le_mul_of_nonneg_left Z Z;omega
  rw[e5]at e4;omega
 rcases Int.lt_or_gt_of_ne h0 with g1|g1
 ·obtain⟨h1,h2⟩:=hn g1;have:=key (-x) (-y) f (-g) (by rw[h]; grind) Z Z Z;rw[Int.neg_fdiv_neg,Int.neg_fmod_neg]at this;omega
 ·obtain⟨h1,h2⟩:=hp g1;exact key x y f g h g1 h1 h2
end Go.PM
namespace Go.De
abbrev pw(i:Nat):Int:=(1000000000:Int)^i
theorem aSS:pw 0=1:=rfl
theorem J5 i:pw (i+1)=1000000000*pw i:=W
theorem PK i:0<pw i:=Int.pow_pos R
theorem aEU i j:pw (i+j)=pw i*pw j:=W
theorem aT9 {i j}(h:i<=j):pw i<=pw j:=by
 obtain⟨k,rfl⟩:=Nat.exists_eq_add_of_le h;rw[aEU];have h1:=PK i;have h2:=PK k;have:pw i*1<=pw i*pw k:=Int.mul_le_mul_of_nonneg_left Z Z;omega
def vl:List Int->Int
 | []=>0
 | x::l=>x+1000000000*vl l
def Pc(l:List Int):Prop:=∀ x∈l,0<=x/\x<1000000000
theorem Pc.nil:Pc []:=λ_ h=>by cases h
theorem Pc.cons {x l}(h:0<=x/\x<1000000000)(hl:Pc l):Pc (x::l):=λy hy=>by
 rcases List.mem_cons.1 hy with rfl|hy
 ·omega
 ·exact hl y hy
theorem Pc.head {x l}(h:Pc (x::l)):0<=x/\x<1000000000:=h x R
theorem Pc.tail {x l}(h:Pc (x::l)):Pc l:=λy hy=>h y W
theorem Pc.append {a b}(ha:Pc a)(hb:Pc b):Pc (a++b):=λx hx=>(List.mem_append.1 hx).elim (ha x) (hb x)
theorem Pc.left {a b}(h:Pc (a++b)):Pc a:=λx hx=>h x (List.mem_append_left _ hx)
theorem Pc.set {l}(h:Pc l){x}(hx:0<=x/\x<1000000000) i:Pc (l.set i x):=λy hy=>by
 rcases List.mem_or_eq_of_mem_set hy with h1|rfl
 ·exact h y h1
 grind
theorem a9J {l:List Int}{i}(h:i<l.length):l.getD i 0∈l:=W
theorem Pc.get {l}(h:Pc l) i:0<=l.getD i 0/\l.getD i 0<1000000000:=by
 rcases Nat.lt_or_ge i l.length with h1|h1
 ·exact h _ (a9J h1)
 grind
theorem Pc.rep n:Pc (List.replicate n 0):=λx hx=>W
theorem IZ:∀ a b,vl (a++b)=vl a+pw a.length*vl b
 | [],b=>by simp[vl]
 | x::a,b=>by
  rw[List.cons_append,vl,vl,IZ a b,List.length_cons,J5];grind
theorem Y4:∀ n,vl (List.replicate n 0)=0
 | 0=>rfl
 | n+1=>by rw[List.replicate_succ,vl,Y4 n]; rfl
theorem aFW:∀ l i x,i<l.length->vl (l.set i x)=vl l+(x-l.getD i 0)*pw i
 | [],i,x,h=>absurd h (Nat.not_lt_zero _)
 | y::l,0,x,h=>by simp[vl]; omega
 | y::l,i+1,x,h=>by
  rw[List.set_cons_succ,vl,vl,aFW l i x W,J5,List.getD_cons_succ];grind
theorem rG:∀ {l},Pc l->0<=vl l
 | [],_=>Int.le_refl _
 | x::l,h=>by
  have h1:=rG h.tail;have h2:=h.head;rw[vl]; omega
theorem OQ:∀ {l},Pc l->vl l<pw l.length
 | [],_=>O
 | x::l,h=>by
  have h1:=OQ h.tail;have h2:=h.head;rw[vl,List.length_cons,J5];omega
theorem FQ:∀ (l:List Int) k,k<l.length->vl (l.take (k+1))=vl (l.take k)+l.getD k 0*pw k:=λl k h=>by
 rw[List.take_succ_eq_append_getElem h,IZ,List.length_take,Nat.min_eq_left Z,List.getD_eq_getElem?_getD,List.getElem?_eq_getElem h];simp[vl,Int.mul_comm]
theorem SV l k (h:k<=l.length):vl l=vl (l.take k)+pw k*vl (l.drop k):=by
 have e:=IZ (l.take k) (l.drop k)
 simp_all
theorem Pc.aDZ {l}(h:Pc l) k:Pc (l.take k):=λx hx=>h x (List.mem_of_mem_take hx)
theorem Pc.bE6 {l}(h:Pc l) k:Pc (l.drop k):=λx hx=>h x (List.mem_of_mem_drop hx)
theorem a1C {l:List Int} (h:Pc l) {k:Nat} (hz:∀ j,k<=j->l.getD j 0=0):vl l<pw k:=by
 rcases Nat.lt_or_ge k l.length with h1|h1
 ·rw[SV l k Z];have:vl (l.drop k)=0:=by
   have:l.drop k=List.replicate (l.drop k).length 0:=by
    rw[List.eq_replicate_iff];refine⟨rfl,λx hx=>?_⟩;obtain⟨i,hi,rfl⟩:=List.getElem_of_mem hx;have:=hz (k+i) Z;grind
   rw[this,Y4]
  have h2:=OQ (h.aDZ k);grind
 ·exact Int.lt_of_lt_of_le (OQ h) (aT9 h1)
theorem IU {l}(h:Pc l){k}(hv:vl l<pw k){j}(hj:k<=j):l.getD j 0=0:=by
 rcases Nat.lt_or_ge j l.length with h1|h1
 ·have e2:=FQ l j h1;have e3:=SV l (j+1) Z;have n1:=rG (h.aDZ j);have n2:=rG (h.bE6 (j+1));have n3:0<=pw (j+1)*vl (l.drop (j+1)):=Int.mul_nonneg (Int.le_of_lt (PK _)) n2;have g:=h.get j;have m:=aT9 hj;have p:=PK j;have :=λh1=>by
   have:1*pw j<=l.getD j 0*pw j:=Int.mul_le_mul_of_nonneg_right h1 Z;omega
  omega
 grind
def Tr(l:List Int):Prop:=∀ x,l.getLast?=some x->x≠0
theorem Tr.nil:Tr []:=λ_ h=>nomatch h
theorem Tr.tail {x l}(h:Tr (x::l)):Tr l:=λy hy=>h y (by
 grind)
theorem aYL:∀ {l},Pc l->Tr l->l≠[]->0<vl l
 | [],_,_,h=>absurd rfl h
 | [x],h,t,_=>by
  have:=h.head;have:=t x rfl;simp only[vl]; omega
 | x::y::l,h,t,_=>by
  have h1:=aYL h.tail t.tail R;have:=h.head;rw[vl]; omega
theorem a1F:∀ {a b},Pc a->Pc b->Tr a->Tr b->vl a=vl b->a=b
 | [],[],_,_,_,_,_=>rfl
 | [],y::b,_,hb,_,tb,e=>by
  have h1:=aYL hb tb R;have h2:vl ([]:List Int)=0:=rfl;omega
 | x::a,[],ha,_,ta,_,e=>by
  have h1:=aYL ha ta R;have h2:vl ([])=0:=rfl;omega
 | x::a,y::b,ha,hb,ta,tb,e=>by
  have h1:=ha.head;have h2:=hb.head;rw[vl,vl]at e;have e1:x=y:=Z
  have e2:vl a=vl b:=Z
  rw[e1,a1F ha.tail hb.tail ta.tail tb.tail e2]
def A0(l:List Int):List Int:=(l.reverse.dropWhile (λx=>decide (x=0))).reverse
theorem ZA l:A0 (l++[0])=A0 l:=by simp[A0]
theorem aFL l {x}(h:x≠0):A0 (l++[x])=l++[x]:=by simp[A0,h]
theorem aZO l:Pc l->Pc (A0 l)/\Tr (A0 l)/\vl (A0 l)=vl l/\(A0 l).length<=l.length:=by
 suffices H:∀ n (l:List Int),l.length=n->Pc l->Pc (A0 l)/\Tr (A0 l)/\vl (A0 l)=vl l/\(A0 l).length<=l.length from H _ l rfl
 intro n
 induction n with
 | zero =>
  intro l hl h;have:l=[]:=List.eq_nil_of_length_eq_zero hl;subst this;exact⟨Pc.nil,Tr.nil,rfl,Nat.le_refl _⟩
 | succ n ih =>
  intro l hl h;rcases List.eq_nil_or_concat l with rfl|⟨a,x,rfl⟩
  ·grind
  ·rw[List.concat_eq_append]at hl h ⊢;rw[List.length_append,List.length_singleton]at hl
   by_cases hx:x=0
   ·subst hx;rw[ZA];obtain⟨h1,h2,h3,h4⟩:=ih a Z h.left;refine⟨h1,h2,?_,by grind⟩;rw[IZ,h3]; simp[vl]
   ·rw[aFL a hx];refine⟨h,λy hy=>?_,rfl,Nat.le_refl _⟩;grind
def pcs(n:Nat):List Int:=if h:n=0 then [] else ((n%1000000000:Nat):Int)::pcs (n/1000000000)
termination_by n
decreasing_by omega
theorem aAC:pcs 0=[]:=by rw[pcs]; rfl
theorem aGV {n}(h:n≠0):pcs n=((n%1000000000:Nat):Int)::pcs (n/1000000000):=by rw[pcs,dif_neg h]
theorem iC n:Pc (pcs n)/\Tr (pcs n)/\vl (pcs n)=n:=by
 induction n using Nat.strongRecOn with
 | _ n ih =>
  by_cases h:n=0
  ·subst h; rw[aAC]; exact⟨Pc.nil,Tr.nil,rfl⟩
  ·obtain⟨h1,h2,h3⟩:=ih (n/1000000000) Z;rw[aGV h];refine⟨Pc.cons Z h1,λy hy=>?_,by rw[vl,h3]; omega⟩;cases hp:pcs (n/1000000000)with
   | nil =>
    rw[hp]at hy h3;have h3:0=((n/1000000000):Int):=h3;grind
   | cons z l =>
    rw[hp]at hy h2;exact h2 y hy
theorem bDP {l}{n:Nat}(h1:Pc l)(h2:Tr l)(h3:vl l=n):l=pcs n :=
 a1F h1 (iC n).1 h2 (iC n).2.1 (h3.trans (iC n).2.2.symm)
theorem I2 {l}{n:Nat}(h1:Pc l)(h3:vl l=n):A0 l=pcs n:=by
 obtain⟨a,b,c,d⟩:=aZO l h1;exact bDP a b (c.trans h3)
theorem XK {n k}(h:n<1000000000^k):(pcs n).length<=k:=by
 rcases Nat.lt_or_ge k (pcs n).length with h1|h1
 ·obtain⟨a,b,c⟩:=iC n;have hlt:vl (pcs n)<pw k:=W
  have hz:=IU a hlt (j:=(pcs n).length-1) Z;have hne:pcs n≠[]:=λh=>W
  have:=b _ (List.getLast?_eq_some_getLast hne);grind
 omega
theorem bD6 {n k}(h:k<(pcs n).length):1000000000^k<=n:=by
 rcases Nat.lt_or_ge n (1000000000^k)with h1|h1
 ·have:=XK h1; omega
 omega
end Go.De
namespace Go.De
def tkS(q:List Int) (n:Int) (at':Nat) (p:List Int):Nat->List Int×Int×Int
 | 0=>(p,0,0)
 | k+1 =>
  let s:=tkS q n at' p k
  let c:=if k<q.length then s.2.2+n*q.getD k 0 else s.2.2
  let d:=s.1.getD (at'+k) 0-c%1000000000-s.2.1
  (s.1.set (at'+k) (if d<0 then d+1000000000 else d),if d<0 then 1 else 0,c/1000000000)
theorem getD_set_ne(l:List Int){i j} x (h:i≠j):(l.set i x).getD j 0=l.getD j 0:=W
structure TkI (q:List Int) (n:Int) (at':Nat) (p:List Int) (k:Nat) (s:List Int×Int×Int):Prop where
 pc:Pc s.1
 len:s.1.length=p.length
 bo:s.2.1=0\/s.2.1=1
 ca:0<=s.2.2/\s.2.2<1000000000
 hi:∀ j,at'+k<=j->s.1.getD j 0=p.getD j 0
 val:vl s.1=vl p-n*pw at'*vl (q.take k)+(s.2.1+s.2.2)*pw (at'+k)
 fin:q.length<k->s.2.2=0
theorem OC {n x:Int}(hn:0<=n/\n<1000000000)(hx:0<=x/\x<1000000000):0<=n*x/\n*x<=999999998000000001:=by
 have h1 :=Int.mul_nonneg hn.1 hx.1;have h2:n*x<=999999999*999999999:=Int.mul_le_mul Z Z hx.1 R;omega
theorem tkI {q n at' p}(hp:Pc p)(hq:Pc q)(hn:0<=n/\n<1000000000)(hl:at'+q.length<p.length):∀ k,k<=q.length+1->TkI q n at' p k (tkS q n at' p k)
 | 0,_=>⟨hp,rfl,.inl rfl,⟨Int.le_refl _,by show (0:Int)<1000000000; decide⟩,λ_ _=>rfl,by simp[tkS,vl],λh=>absurd h (Nat.not_lt_zero _)⟩
 | k+1,hk=>by
  have ih:=tkI hp hq hn hl k Z;rw[tkS];generalize tkS q n at' p k=s at ih;obtain⟨l,bo,ca⟩:=s;obtain⟨h1,h2,h3,h4,h5,h6,h7⟩:=ih;dsimp only at h1 h2 h3 h4 h5 h6 h7 ⊢;have hlen:at'+k<l.length:=Z
  have hx:=h1.get (at'+k);have hqk:=hq.get k;have hm:=OC hn hqk;have hc:∃ c,(if k<q.length then ca+n*q.getD k 0 else ca)=c/\0<=c/\c<1000000000*1000000000/\n*pw at'*vl (q.take (k+1))=n*pw at'*vl (q.take k)+(c-ca)*pw (at'+k)/\(q.length<=k->c=ca):=by
   by_cases h:k<q.length
   ·refine⟨_,if_pos h,by omega,by omega,?_,λh'=>by omega⟩;rw[FQ q k h,aEU];grind
   ·grind
  obtain⟨c,e,c0,c1,c2,c3⟩:=hc;rw[e];have hd0:0<=c/1000000000:=Z
  have hd1:c/1000000000<1000000000:=Z
  have hpw:pw (at'+(k+1))=1000000000*pw (at'+k):=J5 (at'+k);generalize hq':c/1000000000=cq at *;generalize hr':c%1000000000=cr at *;have hr0:0<=cr/\cr<1000000000:=Z
  have hd:∃ d b,(if l.getD (at'+k) 0-cr-bo<0 then l.getD (at'+k) 0-cr-bo+1000000000 else l.getD (at'+k) 0-cr-bo)=d/\(if l.getD (at'+k) 0-cr-bo<0 then (1:Int) else 0)=b/\(0<=d/\d<1000000000)/\(b=0\/b=1)/\d=l.getD (at'+k) 0-cr-bo+1000000000*b:=by
   by_cases h:l.getD (at'+k) 0-cr-bo<0
   ·exact⟨_,_,if_pos h,if_pos h,by omega,.inr rfl,by omega⟩
   ·exact⟨_,_,if_neg h,if_neg h,by omega,.inl rfl,by omega⟩
  obtain⟨d,b,e1,e2,d0,b0,e3⟩:=hd;rw[e1,e2];refine⟨h1.set d0 _,by rw[List.length_set]; exact h2,b0,⟨hd0,hd1⟩,λj hj=>?_,?_,λh=>?_⟩
  ·show (l.set (at'+k) d).getD j 0=_;rw[getD_set_ne _ _ Z];exact h5 j Z
  ·show vl (l.set (at'+k) d)=_+(b+cq)*_;rw[aFW l _ _ hlen,h6,c2,hpw,e3];generalize l.getD (at'+k) 0=x;grind
  ·show cq=0;have:=c3 Z;have hk':k=q.length\/q.length<k:=Z
   omega
def bkS(q:List Int) (at':Nat) (p:List Int):Nat->List Int×Int
 | 0=>(p,0)
 | k+1 =>
  let s:=bkS q at' p k
  let c:=if k<q.length then s.2+s.1.getD (at'+k) 0+q.getD k 0 else s.2+s.1.getD (at'+k) 0
  (s.1.set (at'+k) (c%1000000000),c/1000000000)
structure BkI (q:List Int) (at':Nat) (p:List Int) (k:Nat) (s:List Int×Int):Prop where
 pc:Pc s.1
 len:s.1.length=p.length
 ca:s.2=0\/s.2=1
 hi:∀ j,at'+k<=j->s.1.getD j 0=p.getD j 0
 val:vl s.1=vl p+pw at'*vl (q.take k)-s.2*pw (at'+k)
theorem bkI {q at' p}(hp:Pc p)(hq:Pc q)(hl:at'+q.length<p.length):∀ k,k<=q.length+1->BkI q at' p k (bkS q at' p k)
 | 0,_=>⟨hp,rfl,.inl rfl,λ_ _=>rfl,by simp[bkS,vl]⟩
 | k+1,hk=>by
  have ih:=bkI hp hq hl k Z;rw[bkS];generalize bkS q at' p k=s at ih;obtain⟨l,ca⟩:=s;obtain⟨h1,h2,h3,h5,h6⟩:=ih;dsimp only at h1 h2 h3 h5 h6 ⊢;have hlen:at'+k<l.length:=Z
  have hx:=h1.get (at'+k);have hqk:=hq.get k;have hc:∃ c,(if k<q.length then ca+l.getD (at'+k) 0+q.getD k 0 else ca+l.getD (at'+k) 0)=c/\0<=c/\c<2*1000000000/\pw at'*vl (q.take (k+1))=pw at'*vl (q.take k)+(c-ca-l.getD (at'+k) 0)*pw (at'+k):=by
   by_cases h:k<q.length
   ·refine⟨_,if_pos h,by omega,by omega,?_⟩;rw[FQ q k h,aEU];grind
   ·grind
  obtain⟨c,e,c0,c1,c2⟩:=hc;rw[e];have hdm:=Int.emod_add_mul_ediv c 1000000000;have hpw:pw (at'+(k+1))=1000000000*pw (at'+k):=J5 (at'+k);have hd0:c/1000000000=0\/c/1000000000=1:=Z
  have hr0:0<=c%1000000000/\c%1000000000<1000000000:=Z
  generalize c/1000000000=cq at *;generalize c%1000000000=cr at *;refine⟨h1.set hr0 _,by rw[List.length_set]; exact h2,hd0,λj hj=>?_,?_⟩
  ·grind
  ·show vl (l.set (at'+k) cr)=_-cq*_;rw[aFW l _ _ hlen,h6,c2,hpw];generalize l.getD (at'+k) 0=x at *;grind
def tmI(q:List Int) (a:Int) (i:Nat) (o:List Int):Nat->List Int×Int
 | 0=>(o,0)
 | k+1 =>
  let s:=tmI q a i o k
  let c:=s.2+(s.1.getD (i+k) 0+a*q.getD k 0)
  (s.1.set (i+k) (c%1000000000),c/1000000000)
structure TmI (q:List Int) (a:Int) (i:Nat) (o:List Int) (k:Nat) (s:List Int×Int):Prop where
 pc:Pc s.1
 len:s.1.length=o.length
 ca:0<=s.2/\s.2<1000000000
 hi:∀ j,i+k<=j->s.1.getD j 0=o.getD j 0
 val:vl s.1+s.2*pw (i+k)=vl o+a*pw i*vl (q.take k)
theorem aT4 {q o a i}(ho:Pc o)(hq:Pc q)(ha:0<=a/\a<1000000000)(hl:i+q.length<=o.length):∀ k,k<=q.length->TmI q a i o k (tmI q a i o k)
 | 0,_=>⟨ho,rfl,⟨Int.le_refl _,by show (0:Int)<1000000000; decide⟩,λ_ _=>rfl,by simp[tmI,vl]⟩
 | k+1,hk=>by
  have ih:=aT4 ho hq ha hl k Z;rw[tmI];generalize tmI q a i o k=s at ih;obtain⟨l,ca⟩:=s;obtain⟨h1,h2,h3,h5,h6⟩:=ih;dsimp only at h1 h2 h3 h5 h6 ⊢;have hlen:i+k<l.length:=Z
  have hx:=h1.get (i+k);have hm:=OC ha (hq.get k);have e2:a*pw i*vl (q.take (k+1))=a*pw i*vl (q.take k)+(a*q.getD k 0)*pw (i+k):=by
   rw[FQ q k Z,aEU];grind
  have hpw:pw (i+(k+1))=1000000000*pw (i+k):=J5 (i+k);generalize a*q.getD k 0=m at *;have hdm:=Int.emod_add_mul_ediv (ca+(l.getD (i+k) 0+m)) 1000000000;have hq0:0<=(ca+(l.getD (i+k) 0+m))/1000000000/\(ca+(l.getD (i+k) 0+m))/1000000000<1000000000:=Z
  have hr0:0<=(ca+(l.getD (i+k) 0+m))%1000000000/\(ca+(l.getD (i+k) 0+m))%1000000000<1000000000:=Z
  generalize (ca+(l.getD (i+k) 0+m))/1000000000=cq at *;generalize (ca+(l.getD (i+k) 0+m))%1000000000=cr at *;refine⟨h1.set hr0 _,by rw[List.length_set]; exact h2,hq0,λj hj=>?_,?_⟩
  ·grind
  ·show vl (l.set (i+k) cr)+cq*_=_;rw[aFW l _ _ hlen,e2,hpw];grind
def tmO(p q o:List Int):Nat->List Int
 | 0=>o
 | i+1 =>
  let s:=tmI q (p.getD i 0) i (tmO p q o i) q.length
  s.1.set (i+q.length) s.2
theorem aSI {p q}(hp:Pc p)(hq:Pc q):∀ i,i<=p.length->Pc (tmO p q (List.replicate (p.length+q.length) 0) i)/\(tmO p q (List.replicate (p.length+q.length) 0) i).length=p.length+q.length/\vl (tmO p q (List.replicate (p.length+q.length) 0) i)=vl (p.take i)*vl q/\∀ j,i+q.length<=j->(tmO p q (List.replicate (p.length+q.length) 0) i).getD j 0=0
 | 0,_=>⟨Pc.rep _,by simp[tmO],by simp[tmO,Y4,vl],λj _=>by simp[tmO,List.getD_eq_getElem?_getD,List.getElem?_replicate]; split <;> rfl⟩
 | i+1,hi=>by
  obtain⟨h1,h2,h3,h4⟩:=aSI hp hq i Z;rw[tmO];have k:=aT4 h1 hq (hp.get i) (i:=i) Z q.length (Nat.le_refl _);obtain⟨g1,g2,g3,g4,g5⟩:=k;refine⟨g1.set g3 _,by rw[List.length_set,g2,h2],?_,λj hj=>?_⟩
  ·rw[aFW _ _ _ Z,g4 _ (Nat.le_refl _),h4 _ (Nat.le_refl _),FQ p i Z];grind
  ·rw[getD_set_ne _ _ Z,g4 j Z];grind
theorem a3G a b:A0 (tmO (pcs a) (pcs b) (List.replicate ((pcs a).length+(pcs b).length) 0) (pcs a).length)=pcs (a*b):=by
 obtain⟨a1,a2,a3⟩:=iC a;obtain⟨b1,b2,b3⟩:=iC b;obtain⟨h1,h2,h3,h4⟩:=aSI a1 b1 _ (Nat.le_refl _);refine I2 h1 ?_;grind
def smS(p:List Int) (n:Int):Nat->List Int×Int
 | 0=>(List.replicate p.length 0,0)
 | t+1 =>
  let s:=smS p n t
  let r:=s.2*1000000000+p.getD (p.length-1-t) 0
  (s.1.set (p.length-1-t) (r/n),r%n)
structure SmI (p:List Int) (n:Int) (t:Nat) (s:List Int×Int):Prop where
 pc:Pc s.1
 len:s.1.length=p.length
 re:0<=s.2/\s.2<n
 lo:∀ j,j<p.length-t->s.1.getD j 0=0
 val:vl (p.drop (p.length-t))*pw (p.length-t)=n*vl s.1+s.2*pw (p.length-t)
theorem smI {p n}(hp:Pc p)(hn:0<n/\n<1000000000):∀ t,t<=p.length->SmI p n t (smS p n t)
 | 0,_=>⟨Pc.rep _,by simp[smS],⟨Int.le_refl _,hn.1⟩,λj _=>by simp[smS,List.getD_eq_getElem?_getD,List.getElem?_replicate]; split <;> rfl,by simp[smS,vl,Y4]⟩
 | t+1,ht=>by
  have ih:=smI hp hn t Z;rw[smS];generalize smS p n t=s at ih;obtain⟨l,r⟩:=s;obtain⟨h1,h2,h3,h4,h5⟩:=ih;dsimp only at h1 h2 h3 h4 h5 ⊢;obtain⟨i,hi⟩:∃ i,p.length-1-t=i:=⟨_,rfl⟩;have ei:p.length-t=i+1:=Z
  have ei':p.length-(t+1)=i:=Z
  rw[hi];rw[ei]at h4 h5;have hx:=hp.get i;have hz:l.getD i 0=0:=h4 i Z;have hdr:p.drop i=p.getD i 0::p.drop (i+1):=by rw[List.drop_eq_getElem_cons Z,List.getD_eq_getElem?_getD,List.getElem?_eq_getElem Z]; rfl
  generalize p.getD i 0=x at *;have hdm:=Int.emod_add_mul_ediv (r*1000000000+x) n;have hr0:0<=(r*1000000000+x)%n/\(r*1000000000+x)%n<n:=⟨Int.emod_nonneg _ Z,Int.emod_lt_of_pos _ hn.1⟩;have hq0:0<=(r*1000000000+x)/n:=Int.ediv_nonneg Z Z;have hq1:(r*1000000000+x)/n<1000000000:=by
   refine Int.ediv_lt_of_lt_mul hn.1 ?_;omega
  generalize (r*1000000000+x)/n=cq at *;generalize (r*1000000000+x)%n=cr at *;refine⟨h1.set ⟨hq0,hq1⟩ _,by rw[List.length_set]; exact h2,hr0,λj hj=>?_,?_⟩
  ·show (l.set i cq).getD j 0=0;rw[getD_set_ne _ _ Z];grind
  ·show _=n*vl (l.set i cq)+cr*_;rw[ei',aFW l _ _ Z,hdr,vl,hz];grind
theorem a3R a {n:Nat}(hn:0<n/\n<1000000000):A0 (smS (pcs a) n (pcs a).length).1=pcs (a/n)/\(smS (pcs a) n (pcs a).length).2=((a%n:Nat)):=by
 obtain⟨a1,a2,a3⟩:=iC a;have k:=smI a1 (n:=n) Z _ (Nat.le_refl _);generalize smS (pcs a) n (pcs a).length=s at k;obtain⟨h1,h2,h3,h4,h5⟩:=k;have hv0:=rG h1;obtain⟨v,hv⟩:∃ v:Nat,vl s.1=v:=⟨(vl s.1).toNat,by omega⟩;obtain⟨r,hr⟩:∃ r:Nat,s.2=r:=⟨s.2.toNat,by omega⟩;have e:a=n*v+r:=W
 have e1:a/n=v:=by rw[e,Nat.mul_add_div hn.1,Nat.div_eq_of_lt Z,Nat.add_zero]
 have e2:a%n=r:=by rw[e,Nat.mul_add_mod,Nat.mod_eq_of_lt Z]
 rw[e1,e2];exact⟨I2 h1 hv,hr⟩
end Go.De
namespace Go.De
theorem a9T {a:List Int} (h:Pc a) {k:Nat} (hz:∀ j,k<j->a.getD j 0=0) (hk:k<a.length):a.getD k 0*pw k<=vl a/\vl a<(a.getD k 0+1)*pw k:=by
 have e:=SV a (k+1) Z;have e2:=FQ a k hk;have n1:=rG (h.aDZ k);have n2:=OQ (h.aDZ k);rw[List.length_take,Nat.min_eq_left Z]at n2;have:vl (a.drop (k+1))=0:=by
  have:a.drop (k+1)=List.replicate (a.drop (k+1)).length 0:=by
   rw[List.eq_replicate_iff];refine⟨rfl,λx hx=>?_⟩;obtain⟨i,hi,rfl⟩:=List.getElem_of_mem hx;have:=hz (k+1+i) Z;grind
  rw[this,Y4]
 grind
theorem a02 {a}(h:Pc a){k}(hz:∀ j,k+1<j->a.getD j 0=0)(hk:k+1<a.length):(a.getD (k+1) 0*1000000000+a.getD k 0)*pw k<=vl a/\vl a<(a.getD (k+1) 0*1000000000+a.getD k 0+1)*pw k:=by
 have e:=SV a (k+2) Z;have e2:=FQ a (k+1) hk;have e3:=FQ a k Z;have n1:=rG (h.aDZ k);have n2:=OQ (h.aDZ k);have:vl (a.drop (k+2))=0:=by
  have:a.drop (k+2)=List.replicate (a.drop (k+2)).length 0:=by
   rw[List.eq_replicate_iff];refine⟨rfl,λx hx=>?_⟩;obtain⟨i,hi,rfl⟩:=List.getElem_of_mem hx;have:=hz (k+2+i) Z;grind
  rw[this,Y4]
 rw[this,Int.mul_zero,Int.add_zero,e2,e3,J5]at e;grind
theorem bA6 {a}(h:Pc a){k}(hz:∀ j,k+2<j->a.getD j 0=0)(hk:k+2<a.length):((a.getD (k+2) 0*1000000000+a.getD (k+1) 0)*1000000000+a.getD k 0)*pw k<=vl a/\vl a<((a.getD (k+2) 0*1000000000+a.getD (k+1) 0)*1000000000+a.getD k 0+1)*pw k:=by
 have e:=SV a (k+3) Z;have e1:=FQ a (k+2) hk;have e2:=FQ a (k+1) Z;have e3:=FQ a k Z;have n1:=rG (h.aDZ k);have n2:=OQ (h.aDZ k);rw[List.length_take,Nat.min_eq_left Z]at n2;have:vl (a.drop (k+3))=0:=by
  have:a.drop (k+3)=List.replicate (a.drop (k+3)).length 0:=by
   rw[List.eq_replicate_iff];refine⟨rfl,λx hx=>?_⟩;obtain⟨i,hi,rfl⟩:=List.getElem_of_mem hx;have:=hz (k+3+i) Z;grind
  rw[this,Y4]
 have p1:pw (k+1)=1000000000*pw k:=J5 k;have p2:pw (k+2)=1000000000*(1000000000*pw k):=by rw[J5 (k+1),p1]
 rw[this,Int.mul_zero,Int.add_zero,e1,e2,e3,p1,p2]at e;grind
def SQ(bt b2 a2 g r:Int):Prop:=1000000000<=g\/(r<1000000000/\r*1000000000+a2<g*b2)
instance (bt b2 a2 g r:Int):Decidable (SQ bt b2 a2 g r):=by unfold SQ; infer_instance
structure Gs (A V P K a2 high bt b2:Int):Prop where
 P0:0<P
 K0:0<K
 A2:(high*1000000000+a2)*(K*P)<=A
 A3:A<(high*1000000000+a2+1)*(K*P)
 a20:0<=a2/\a2<1000000000
 V2:(bt*1000000000+b2)*K<=V
 V3:V<(bt*1000000000+b2+1)*K
 b20:0<=b2/\b2<1000000000
 bt0:0<bt
 h0:0<=high
theorem aOE {a b:Int}(ha:0<a)(hb:0<b):0<a*b:=Int.mul_pos ha hb
theorem aBW {a b c:Int}(h:a<=b)(hc:0<=c):a*c<=b*c:=Int.mul_le_mul_of_nonneg_right h hc
theorem Gs.start {A V P K a2 high bt b2 qh:Int} (h:Gs A V P K a2 high bt b2) (hq0:0<=qh) (hq:qh*(V*P)<=A):qh<=high/bt:=by
 rw[Int.le_ediv_iff_mul_le h.bt0];have hKP:=aOE h.K0 h.P0;have h1:qh*((bt*1000000000)*K*P)<=qh*(V*P):=by
  refine Int.mul_le_mul_of_nonneg_left ?_ hq0;refine aBW ?_ (Int.le_of_lt h.P0);refine Int.le_trans ?_ h.V2;exact aBW (by have:=h.b20; omega) (Int.le_of_lt h.K0)
 have h2:A<((high+1)*1000000000)*(K*P):=by
  refine Int.lt_of_lt_of_le h.A3 (aBW ?_ (Int.le_of_lt hKP));have:=h.a20; omega
 have h3:(qh*bt*1000000000)*(K*P)<((high+1)*1000000000)*(K*P):=W
 have h4:=Int.lt_of_mul_lt_mul_right h3 (Int.le_of_lt hKP);omega
theorem Gs.down {A V P K a2 high bt b2 qh g r}(h:Gs A V P K a2 high bt b2)(hq0:0<=qh)(hq:qh*(V*P)<=A)(hqB:qh<1000000000)(hg:qh<=g)(hr:r=high-g*bt)(hc:SQ bt b2 a2 g r):qh<=g-1:=by
 rcases hc with hc|⟨_,hc⟩
 ·omega
 ·have:¬ g=qh:=λe=>by
   subst e;have hKP:=aOE h.K0 h.P0;have h1 :=Int.mul_le_mul_of_nonneg_left (aBW h.V2 (Int.le_of_lt h.P0)) hq0;have h2:high*1000000000+a2+1<=g*(bt*1000000000+b2):=W
   have h3:=aBW h2 (Int.le_of_lt hKP);have h4:g*(bt*1000000000+b2)*(K*P)=g*((bt*1000000000+b2)*K*P):=W
   have:=h.A3;omega
  omega
theorem Gs.stop {A V P K a2 high bt b2 g r}(h:Gs A V P K a2 high bt b2)(hg:0<=g)(hr:r=high-g*bt)(hc:¬ SQ bt b2 a2 g r):(g-1)*(V*P)<=A:=by
 unfold SQ at hc;have hKP:=aOE h.K0 h.P0;have hVP:1000000000*(K*P)<=V*P:=by
  have h1:1000000000*K<=V:=Int.le_trans (aBW (by have:=h.b20; have:=h.bt0; omega) (Int.le_of_lt h.K0)) h.V2;have:=aBW h1 (Int.le_of_lt h.P0);grind
 have hV3:g*(V*P)<=g*((bt*1000000000+b2+1)*K*P):=Int.mul_le_mul_of_nonneg_left (aBW (Int.le_of_lt h.V3) (Int.le_of_lt h.P0)) hg;have e0:g*((bt*1000000000+b2+1)*K*P)=(g*bt*1000000000+g*b2+g)*(K*P):=W
 have e1:(g-1)*(V*P)=g*(V*P)-V*P:=W
 by_cases hrr:1000000000<=r
 ·-- g*(bt+1) <= high
  have h2:g*bt*1000000000+g*b2+g<=high*1000000000+a2+1000000000:=by
   have:=h.a20;have:=h.b20;have:g*b2<=g*999999999:=Int.mul_le_mul_of_nonneg_left Z hg;omega
  have h3:=aBW h2 (Int.le_of_lt hKP);have e3:(high*1000000000+a2+1000000000)*(K*P)=(high*1000000000+a2)*(K*P)+1000000000*(K*P):=W
  have:=h.A2;omega
 ·have h2:g*bt*1000000000+g*b2+g<=high*1000000000+a2+1000000000:=by
   grind
  have h3:=aBW h2 (Int.le_of_lt hKP);have e3:(high*1000000000+a2+1000000000)*(K*P)=(high*1000000000+a2)*(K*P)+1000000000*(K*P):=W
  have:=h.A2;omega
theorem aR3 {C:Nat->Prop} [DecidablePred C]:∀ n,¬ C n->∃ m,m<=n/\¬ C m/\∀ t,t<m->C t
 | 0,h=>⟨0,Nat.le_refl _,h,λt ht=>absurd ht (Nat.not_lt_zero _)⟩
 | n+1,h=>by
  by_cases hall:∃ t,t<=n/\¬ C t
  ·obtain⟨t,ht,hc⟩:=hall;obtain⟨m,h1,h2,h3⟩:=aR3 t hc;grind
  ·grind
theorem Gs.bDI {A V P K a2 high bt b2 qh}(h:Gs A V P K a2 high bt b2)(hq0:0<=qh)(hq:qh*(V*P)<=A)(hq1:A<(qh+1)*(V*P))(hqB:qh<1000000000) :
  ∃ m:Nat,m<=high/bt/\(∀ t ,t<m->SQ bt b2 a2 (high/bt-t) (high%bt+t*bt))/\¬ SQ bt b2 a2 (high/bt-m) (high%bt+m*bt)/\qh<=high/bt-m/\high/bt-m<=qh+1:=by
 have h0:=h.start hq0 hq;have hr:∀ t:Nat,high%bt+t*bt=high-(high/bt-t)*bt:=λt=>by
  have:=Int.emod_add_mul_ediv high bt;grind
 have hge:∀ m:Nat,(∀ t:Nat,t<m->SQ bt b2 a2 (high/bt-t) (high%bt+t*bt))->qh<=high/bt-m:=by
  intro m
  induction m with
  | zero=>intro _; simpa using h0
  | succ m ih =>
   intro hc;have h1:=ih λt ht=>hc t Z
   have h2:=h.down hq0 hq hqB h1 (hr m) (hc m Z);omega
 obtain⟨n,hn⟩:∃ n:Nat,high/bt=n:=⟨(high/bt).toNat,by omega⟩;have hlast:¬ SQ bt b2 a2 (high/bt-((n:Nat):Int)) (high%bt+(n:Nat)*bt):=λhc=>by
  by_cases hall:∀ t:Nat,t<n->SQ bt b2 a2 (high/bt-t) (high%bt+t*bt)
  ·have h1:=hge n hall;have h2:=h.down hq0 hq hqB h1 (hr n) hc;omega
  ·-- a false test below would have stopped: monotone in t
   unfold SQ at hc;rw[hn,Int.sub_self,Int.zero_mul]at hc;have hre:=Int.emod_nonneg high (show bt≠0 by have:=h.bt0; omega);have hnb:0<=(n:Int)*bt:=Int.mul_nonneg Z (Int.le_of_lt h.bt0);have:=h.a20;omega
 obtain⟨m,h1,h2,h3⟩:=aR3 (C:=λt:Nat=>SQ bt b2 a2 (high/bt-t) (high%bt+t*bt)) n hlast;have h4:=hge m h3;refine⟨m,by omega,h3,h2,h4,?_⟩;have h5:=h.stop (g:=high/bt-m) Z (hr m) h2;have:¬ qh+1<high/bt-m:=λhlt=>by
  have hVP:0<V*P:=aOE (by
   have:=h.V2;have:0<(bt*1000000000+b2)*K:=aOE (by have:=h.b20; have:=h.bt0; omega) h.K0;omega) h.P0
  have:=aBW (show qh+1<=high/bt-m-1 by omega) (Int.le_of_lt hVP);omega
 omega
theorem aZF {a b:List Int} {i n:Nat} {g qh:Int} (ha:Pc a) (hb:Pc b) (hbl:b.length=n) (hl:i+n<a.length) (hz:vl a<pw (i+n+1)) (hg:0<=g/\g<1000000000) (hq0:qh*(vl b*pw i)<=vl a) (hq1:vl a<(qh+1)*(vl b*pw i)) (g0:qh<=g) (g1:g<=qh+1) :
  ((tkS b g i a (n+1)).2.1=0/\g=qh/\Pc (tkS b g i a (n+1)).1/\(tkS b g i a (n+1)).1.length=a.length/\vl (tkS b g i a (n+1)).1=vl a-qh*(vl b*pw i)) \/
  ((tkS b g i a (n+1)).2.1=1/\g=qh+1/\Pc (tkS b g i a (n+1)).1/\(tkS b g i a (n+1)).1.length=a.length/\Pc (bkS b i (tkS b g i a (n+1)).1 (n+1)).1/\(bkS b i (tkS b g i a (n+1)).1 (n+1)).1.length=a.length/\vl (bkS b i (tkS b g i a (n+1)).1 (n+1)).1=vl a-qh*(vl b*pw i)):=by
 subst hbl;have k:=tkI ha hb hg hl (b.length+1) (Nat.le_refl _);generalize tkS b g i a (b.length+1)=s at k;obtain⟨h1,h2,h3,h4,h5,h6,h7⟩:=k;have hca:=h7 Z;have hz1:=a1C h1 (k:=i+b.length+1) λj hj=>by
  rw[h5 j Z];exact IU ha hz hj
 rw[List.take_of_length_le (show b.length<=b.length+1 by omega),hca,Int.add_zero]at h6;have hn:=rG h1;have e1:g*pw i*vl b=g*(vl b*pw i):=W
 have p1:pw (i+(b.length+1))=pw (i+b.length+1):=rfl;rcases h3 with hb0|hb1
 ·refine .inl ⟨hb0,?_,h1,h2,?_⟩
  ·have:¬ g=qh+1:=λe=>by
    grind
   omega
  ·have:g=qh:=by
    have:¬ g=qh+1:=λe=>W
    omega
   grind
 ·have eg:g=qh+1:=by
   have:¬ g=qh:=λe=>by
    subst e;rw[hb1,Int.one_mul]at h6;omega
   omega
  refine .inr ⟨hb1,eg,h1,h2,?_⟩;have kb:=bkI h1 hb (at':=i) Z (b.length+1) (Nat.le_refl _);have hz2:∀ j,i+b.length+1<=j->(bkS b i s.1 (b.length+1)).1.getD j 0=0:=λj hj=>by
   rw[kb.hi j Z,h5 j Z];exact IU ha hz hj
  generalize bkS b i s.1 (b.length+1)=u at kb hz2;obtain⟨u1,u2,u3,u5,u6⟩:=kb;have hz3:=a1C u1 hz2;have hn2:=rG u1;rw[List.take_of_length_le (show b.length<=b.length+1 by omega),p1]at u6;rw[hb1,Int.one_mul]at h6;have e2:(qh+1)*(vl b*pw i)=qh*(vl b*pw i)+vl b*pw i:=W
  have e3:pw i*vl b=vl b*pw i:=Int.mul_comm _ _;subst eg;refine⟨u1,u2.trans h2,?_⟩;rcases u3 with hc|hc
  ·rw[hc,Int.zero_mul]at u6;omega
  ·rw[hc,Int.one_mul]at u6;omega
theorem bGE {a b:List Int} {i n:Nat} (ha:Pc a) (hb:Pc b) (hbl:b.length=n+2) (htop:0<b.getD (n+1) 0) (hl:i+n+2<a.length) (hz:vl a<pw (i+n+3)) :
  Gs (vl a) (vl b) (pw i) (pw n) (a.getD (i+n) 0) (a.getD (i+n+2) 0*1000000000+a.getD (i+n+1) 0) (b.getD (n+1) 0) (b.getD n 0):=by
 have h1:=bA6 ha (k:=i+n) (λj hj=>IU ha hz Z) Z;have h2:=a02 hb (k:=n) (λj hj=>IU hb (k:=n+2) (by have:=OQ hb; rw[hbl]at this; exact this) Z) Z;have e:pw n*pw i=pw (i+n):=by rw[aEU,Int.mul_comm]
 exact⟨PK i,PK n,by rw[e]; exact h1.1,by rw[e]; exact h1.2,ha.get _,h2.1,h2.2,hb.get _,htop,by have:=ha.get (i+n+2); have:=ha.get (i+n+1); omega⟩
end Go.De
namespace Go.PM
open Go Go.RowKit Go.Proofs Go.De
theorem a83 {x}(h1:0<=x)(h2:x<256):aB .u8 x=x:=by
 show x%256=x;grind
theorem aZU {x}(h1:0<=x)(h2:x<18446744073709551616):IntKind.wrap .u64 x=x:=rX h1 h2
theorem a1L {x}(h1:0<=x)(h2:x<256):IntKind.wrap .u8 x=x:=a83 h1 h2
theorem aNK(a:Nat):Nat.beq a a=true:=R
theorem S1(l:List Int) i:dQ [l] 0 i 0=l.getD i 0:=rfl
theorem RS l i (x:Int):yE [l] 0 i x=[l.set i x]:=rfl
theorem SR(l:List Int):dE [l] 0=l.length:=rfl
theorem bF9 {σ τ:Type} {step:σ->Option (σ⊕τ)} {N:Nat} {Z:τ->Prop} (I:Nat->σ->Prop) (m:Nat) (x:σ) (hN:m<N) (h0:I 0 x)
  (h:∀ i y,i<m->I i y->∃ y',step y=some (.inl y')/\I (i+1) y') (he:∀ y,I m y->∃ z,step y=some (.inr z)/\Z z):∃ z,aW step N x=some z/\Z z:=by
 suffices H:∀ k i y,i+k=m->I i y->∃ z,aW step (k+1+(N-m-1)) y=some z/\Z z by
  have:=H m 0 x (Nat.zero_add m) h0;grind
 intro k
 induction k with
 | zero =>
  intro i y hi hy;have hi:i=m:=za
  subst hi;obtain⟨z,e1,e2⟩:=he y hy;rw[show 0+1+(N-i-1)=(N-i-1)+1 by omega,bV,e1];grind
 | succ k ih =>
  intro i y hi hy;obtain⟨y',e1,e2⟩:=h i y za hy;rw[show k+1+1+(N-m-1)=(k+1+(N-m-1))+1 by omega,bV,e1];grind
theorem a3S {l:List Int} (hl:l.length<9223372036854775807) (A:List (List Int)):∀ n,l.length<=n->∀ k,aW iT (n+1+k) (l,A,())=some (A0 l,A,()):=by
 intro n
 induction n generalizing l with
 | zero =>
  intro h k;have:l=[]:=List.eq_nil_of_length_eq_zero Z;subst this;rw[show 0+1+k=k+1 by omega,bV];rfl
 | succ n ih =>
  intro h k;rw[show n+1+1+k=(n+1+k)+1 by omega,bV];rcases List.eq_nil_or_concat l with rfl|⟨a,x,rfl⟩
  ·rfl
  ·rw[List.concat_eq_append]at hl h ⊢;have hlen:(a++[x]).length=a.length+1:=R
   have e1:ltI 0 ((a.length+1:Nat):Int)=true:=by rw[aE]; exact oT Z
   have e2:aB .i64 (((a.length+1:Nat):Int)-1)=(a.length:Int):=by rw[wrap64 Z Z]; omega
   have e3:aF (a.length:Int) (a.length+1)=true:=by rw[aK]; exact oT Z
   have e4:Nat.blt a.length (a.length+1)=true:=by rw[bW]; exact oT Z
   have e5:(a++[x]).getD a.length 0=x:=by simp[oQ]
   have e6:ltI (a.length:Int) 0=false:=by rw[aE]; exact oF Z
   have e7:Nat.ble 0 a.length=true:=rfl;have e8:Nat.ble a.length (a.length+1)=true:=by rw[cT]; exact oT Z
   have e9:Nat.blt 0 (a.length+1)=true:=by rw[bW]; exact oT Z
   have e10:(a++[x]).take a.length=a:=R
   simp only[iT,hlen,e1,e2,oN,e3,e4,e5,e6,e7,e8,e9,oC,Nat.sub_zero,e10,bP,Bool.not_false]
   by_cases hx:x=0
   ·subst hx;rw[ZA];grind
   ·simp only[hx,decide_false,oD];rw[aFL a hx]
theorem X5 {l}(hl:l.length<=4000000) A:bF l () A=some (A0 l,A):=by
 have h:=a3S Z A l.length (oM _) (2^64-l.length-1);rw[show l.length+1+(2^64-l.length-1)=2^64 by omega]at h;show (aC (aW iT (2^64) (l,A,())) _)=_;rw[h,aD]
theorem a42 {n:Int}:wI ([n],())=some (A0 [n],()):=by
 have h1:vT ([n],())=if n=0 then some (.inl ([],())) else some (.inr ([n],())):=by
  show (bif eqI n 0 then _ else _)=_;rw[bP,aS];rfl
 show (aC (aW vT (2^64) ([n],())) _)=_;rw[show 2^64=18446744073709551614+1+1 by rfl,bV,h1]
 by_cases h:n=0
 ·subst h;rfl
 ·rw[if_neg h];have:=aFL [] h;show some ([n],())=some (A0 [n],());grind
theorem a2F {x:Int} (h:0<=x):x.tmod 1000000000=x%1000000000:=Int.tmod_eq_emod_of_nonneg h
theorem a2I {x:Int}(h:0<=x):x.tdiv 1000000000=x/1000000000:=Int.tdiv_eq_ediv_of_nonneg h
theorem a2M {p q}{n:Int}{at'}(hp:Pc p)(hq:Pc q)(hn:0<=n/\n<1000000000)(hl:at'+q.length<p.length)(hpl:p.length<=4000000) :
  aDU (t:=.int .u64) eM p (q,n,(at':Int),())=some ((decide (0<(tkS q n at' p (q.length+1)).2.1),()),(tkS q n at' p (q.length+1)).1):=by
 have key:=bH (step:=eP) (N:=2^64) (λt=>((0,0,p.length),q,n,(at':Int),(tkS q n at' p t).2.1,(tkS q n at' p t).2.2,(t:Int),[(tkS q n at' p t).1],())) (q.length+1)
  ((tkS q n at' p (q.length+1)).2.1,[(tkS q n at' p (q.length+1)).1],()) Z (λt ht=>?_) ?_
 ·have key:aW eP (2^64) ((0,0,p.length),q,n,(at':Int),0,0,0,[p],())=_:=key;have hlen:=(tkI hp hq hn hl (q.length+1) (oM _)).len;unfold aDU eM;simp only[pE,key,aD,hlen,aNK,oC,aE]
 ·have hI:=tkI hp hq hn hl t Z;rw[tkS];generalize tkS q n at' p t=s at hI;obtain⟨l,bo,ca⟩:=s;obtain⟨h1,h2,h3,h4,h5,h6,h7⟩:=hI;dsimp only at h1 h2 h3 h4 h5 h6 h7 ⊢;have hx:=h1.get (at'+t);have hqt:=hq.get t;have hm:=OC hn hqt;have e1:ltI (q.length:Int) (t:Int)=false:=by rw[aE]; exact oF Z
  have e2:aB .i64 ((at':Int)+(t:Int))=((at'+t:Nat):Int):=by rw[wrap64 Z Z]; omega
  have e3:aF ((at'+t:Nat):Int) p.length=true:=by rw[aK]; exact oT Z
  have e4:Nat.blt (at'+t) l.length=true:=by rw[bW]; exact oT Z
  have e5:(0+(at'+t))*1=at'+t:=Z
  have e6:=bC t Z;have main:∀ c:Int,0<=c->c<1000000000000000000 ->
    (bif ltI (aB .i64 (aB .i64 (IntKind.wrap .i64 (l.getD (at'+t) 0)-IntKind.wrap .i64 (c.tmod 1000000000))-bo)) 0 then
     (some (Sum.inl ((0,0,p.length),q,n,(at':Int),1,aB .u64 (c.tdiv 1000000000),((t+1:Nat):Int),[l.set (at'+t) (IntKind.wrap .u64 (aB .i64 (aB .i64 (aB .i64 (IntKind.wrap .i64 (l.getD (at'+t) 0)-IntKind.wrap .i64 (c.tmod 1000000000))-bo)+1000000000)))],())):Option (Shape.den fT⊕cD jC))
    else some (Sum.inl ((0,0,p.length),q,n,(at':Int),0,aB .u64 (c.tdiv 1000000000),((t+1:Nat):Int),[l.set (at'+t) (IntKind.wrap .u64 (aB .i64 (aB .i64 (IntKind.wrap .i64 (l.getD (at'+t) 0)-IntKind.wrap .i64 (c.tmod 1000000000))-bo)))],()))) =
    some (Sum.inl ((0,0,p.length),q,n,(at':Int),(if l.getD (at'+t) 0-c%1000000000-bo<0 then 1 else 0),c/1000000000,((t+1:Nat):Int),[l.set (at'+t) (if l.getD (at'+t) 0-c%1000000000-bo<0 then l.getD (at'+t) 0-c%1000000000-bo+1000000000 else l.getD (at'+t) 0-c%1000000000-bo)],())):=by
   intro c c0 c1;have hd1:0<=c%1000000000/\c%1000000000<1000000000:=Z
   have hd2:0<=c/1000000000/\c/1000000000<1000000000:=Z
   rw[a2F c0,a2I c0];generalize c%1000000000=cr at *;generalize c/1000000000=cq at *;rw[TZ (x:=l.getD (at'+t) 0) Z Z,TZ (x:=cr) Z Z,wrap64 (x:=l.getD (at'+t) 0-cr) Z Z,wrap64 (x:=l.getD (at'+t) 0-cr-bo) Z Z,rX (x:=cq) Z Z,aE,aS]
   by_cases h:l.getD (at'+t) 0-cr-bo<0
   ·rw[if_pos h,if_pos h,if_pos h,wrap64 Z Z,aZU Z Z]
   ·rw[if_neg h,if_neg h,if_neg h,aZU Z Z]
  by_cases hqt':t<q.length
  ·have e7:ltI (t:Int) (q.length:Int)=true:=by rw[aE]; exact oT Z
   have e8:aF (t:Int) q.length=true:=by rw[aK]; exact oT Z
   have e9:aB .u64 (ca+aB .u64 (n*q.getD t 0))=ca+n*q.getD t 0:=by rw[rX (x:=n*q.getD t 0) Z Z,rX Z Z]
   rw[if_pos hqt',<- main (ca+n*q.getD t 0) Z Z];simp only[eP,e1,e2,e3,e4,e5,e6,e7,e8,e9,oC,Bool.not_false,oN,S1,RS,SR]
  ·have e7:ltI (t:Int) (q.length:Int)=false:=by rw[aE]; exact oF Z
   rw[if_neg hqt',<- main ca Z Z];simp only[eP,e1,e2,e3,e4,e5,e6,e7,oC,oD,Bool.not_false,oN,S1,RS,SR]
 ·have e1:ltI (q.length:Int) ((q.length+1:Nat):Int)=true:=by rw[aE]; exact oT Z
  simp only[eP,e1,Bool.not_true,oD]
theorem back_eq {p q at'} (hp:Pc p) (hq:Pc q) (hl:at'+q.length<p.length) (hpl:p.length<=4000000) :
  aDI (t:=.int .u64) dC p (q,(at':Int),())=some (bkS q at' p (q.length+1)).1:=by
 have key:=bH (step:=eL) (N:=2^64) (λt=>((0,0,p.length),q,(at':Int),(bkS q at' p t).2,(t:Int),[(bkS q at' p t).1],())) (q.length+1)
  ([(bkS q at' p (q.length+1)).1],()) Z (λt ht=>?_) ?_
 ·have key:aW eL (2^64) ((0,0,p.length),q,(at':Int),0,0,[p],())=_:=key;have hlen:=(bkI hp hq hl (q.length+1) (oM _)).len;unfold aDI dC;simp only[pD,key,aD,hlen,aNK,oC]
 ·have hI:=bkI hp hq hl t Z;rw[bkS];generalize bkS q at' p t=s at hI;obtain⟨l,ca⟩:=s;obtain⟨h1,h2,h3,h5,h6⟩:=hI;dsimp only at h1 h2 h3 h5 h6 ⊢;have hx:=h1.get (at'+t);have hqt:=hq.get t;have e1:ltI (q.length:Int) (t:Int)=false:=by rw[aE]; exact oF Z
  have e2:aB .i64 ((at':Int)+(t:Int))=((at'+t:Nat):Int):=by rw[wrap64 Z Z]; omega
  have e3:aF ((at'+t:Nat):Int) p.length=true:=by rw[aK]; exact oT Z
  have e4:Nat.blt (at'+t) l.length=true:=by rw[bW]; exact oT Z
  have e5:(0+(at'+t))*1=at'+t:=Z
  have e6:=bC t Z;have e10:aB .u64 (ca+l.getD (at'+t) 0)=ca+l.getD (at'+t) 0:=rX Z Z
  by_cases hqt':t<q.length
  ·have e7:ltI (t:Int) (q.length:Int)=true:=by rw[aE]; exact oT Z
   have e8:aF (t:Int) q.length=true:=by rw[aK]; exact oT Z
   have e9:aB .u64 (ca+l.getD (at'+t) 0+q.getD t 0)=ca+l.getD (at'+t) 0+q.getD t 0:=rX Z Z;have e11:aB .u64 ((ca+l.getD (at'+t) 0+q.getD t 0)/1000000000)=(ca+l.getD (at'+t) 0+q.getD t 0)/1000000000:=rX Z Z;rw[if_pos hqt'];simp only[eL,e1,e2,e3,e4,e5,e6,e7,e8,e9,e10,oC,Bool.not_false,oN,S1,RS,SR,a2I (show 0<=ca+l.getD (at'+t) 0+q.getD t 0 by omega),a2F (show 0<=ca+l.getD (at'+t) 0+q.getD t 0 by omega),e11]
  ·have e7:ltI (t:Int) (q.length:Int)=false:=by rw[aE]; exact oF Z
   have e11:aB .u64 ((ca+l.getD (at'+t) 0)/1000000000)=(ca+l.getD (at'+t) 0)/1000000000:=rX Z Z;rw[if_neg hqt'];simp only[eL,e1,e2,e3,e4,e5,e6,e7,e10,oC,oD,Bool.not_false,oN,S1,RS,SR,a2I (show 0<=ca+l.getD (at'+t) 0 by omega),a2F (show 0<=ca+l.getD (at'+t) 0 by omega),e11]
 ·have e1:ltI (q.length:Int) ((q.length+1:Nat):Int)=true:=by rw[aE]; exact oT Z
  simp only[eL,e1,Bool.not_true,oD]
theorem a7R {q o}{a:Int}{i}(ho:Pc o)(hq:Pc q)(ha:0<=a/\a<1000000000)(hl:i+q.length<=o.length)(hol:o.length<=4000000)(v17:List Int)(v18 v19:Int)(A:List (List Int)) :
  mQ (q,o,(i:Int),a,0,v17,v18,v19,q,(q.length:Int),0,A,())=some (q,(tmI q a i o q.length).1,(i:Int),(tmI q a i o q.length).2,v17,v18,v19,A,()):=by
 refine bH (step:=iP) (N:=2^64) (λt=>(q,(tmI q a i o t).1,(i:Int),a,(tmI q a i o t).2,v17,v18,v19,q,(q.length:Int),(t:Int),A,())) q.length _ Z (λt ht=>?_) ?_
 ·have hI:=aT4 ho hq ha hl t Z;rw[tmI];generalize tmI q a i o t=s at hI;obtain⟨l,ca⟩:=s;obtain⟨h1,h2,h3,h5,h6⟩:=hI;dsimp only at h1 h2 h3 h5 h6 ⊢;have hx:=h1.get (i+t);have hm:=OC ha (hq.get t);have e1:ltI (t:Int) (q.length:Int)=true:=by rw[aE]; exact oT Z
  have e2:aB .i64 ((i:Int)+(t:Int))=((i+t:Nat):Int):=by rw[wrap64 Z Z]; omega
  have e3:aF ((i+t:Nat):Int) l.length=true:=by rw[aK]; exact oT Z
  have e4:Nat.blt (i+t) l.length=true:=by rw[bW]; exact oT Z
  have e5:aF (t:Int) q.length=true:=by rw[aK]; exact oT Z
  have e6:=bC t Z;have e7:aB .u64 (a*q.getD t 0)=a*q.getD t 0:=rX Z Z;have e8:aB .u64 (l.getD (i+t) 0+a*q.getD t 0)=l.getD (i+t) 0+a*q.getD t 0:=rX Z Z;have e9:aB .u64 (ca+(l.getD (i+t) 0+a*q.getD t 0))=ca+(l.getD (i+t) 0+a*q.getD t 0):=rX Z Z;have e10:aB .u64 ((ca+(l.getD (i+t) 0+a*q.getD t 0))/1000000000)=(ca+(l.getD (i+t) 0+a*q.getD t 0))/1000000000:=rX Z Z
  simp only[iP,e1,e2,e3,e4,e5,e6,e7,e8,e9,oC,oN,a2I (show 0<=ca+(l.getD (i+t) 0+a*q.getD t 0)by omega),a2F (show 0<=ca+(l.getD (i+t) 0+a*q.getD t 0)by omega),e10]
 ·have e1:ltI (q.length:Int) (q.length:Int)=false:=by rw[aE]; exact oF Z
  simp only[iP,e1,oD]
theorem aVR a b (hl:(pcs a).length+(pcs b).length<=1048576) A:eT () (pcs a,pcs b,()) A=some (pcs (a*b),A):=by
 obtain⟨a1,a2,a3⟩:=iC a;obtain⟨b1,b2,b3⟩:=iC b;have htm:=a3G a b;generalize pcs a=p at *;generalize pcs b=q at *;have key:=bH (step:=iV) (N:=2^64) (λt=>(q,tmO p q (List.replicate (p.length+q.length) 0) t,p,(p.length:Int),(t:Int),A,())) p.length
  (tmO p q (List.replicate (p.length+q.length) 0) p.length,A,()) Z (λt ht=>?_) ?_
 ·have key:mO (q,List.replicate (p.length+q.length) 0,p,(p.length:Int),0,A,())=_:=key;have e2:aB .i64 ((p.length:Int)+(q.length:Int))=((p.length+q.length:Nat):Int):=by rw[wrap64 Z Z]; omega
  have e3:ltI ((p.length+q.length:Nat):Int) 0=false:=by rw[aE]; exact oF Z
  have e4:ltI ((p.length+q.length:Nat):Int) ((p.length+q.length:Nat):Int)=false:=by rw[aE]; exact oF Z
  have e5:ltI 1048576 ((p.length+q.length:Nat):Int)=false:=by rw[aE]; exact oF Z
  have hlen:=(aSI a1 b1 p.length (oM _)).2.1;unfold eT;simp only[e2,e3,e4,e5,Bool.not_false,oC,oN,key,aD,X5 (show (tmO p q (List.replicate (p.length+q.length) 0) p.length).length<=4000000 by omega),htm]
 ·obtain⟨h1,h2,h3,h4⟩:=aSI a1 b1 t Z;have hi:=a7R (q:=q) (o:=tmO p q (List.replicate (p.length+q.length) 0) t) (a:=p.getD t 0) (i:=t) h1 b1 (a1.get t) Z Z p (p.length:Int) (t:Int) A;have hI:=(aT4 h1 b1 (a1.get t) (i:=t) Z q.length (oM _)).len;rw[tmO];generalize tmO p q (List.replicate (p.length+q.length) 0) t=o at *;have e1:ltI (t:Int) (p.length:Int)=true:=by rw[aE]; exact oT Z
  have e2:aF (t:Int) p.length=true:=by rw[aK]; exact oT Z
  have e3:aB .i64 ((t:Int)+(q.length:Int))=((t+q.length:Nat):Int):=by rw[wrap64 Z Z]; omega
  have e4:aF ((t+q.length:Nat):Int) (tmI q (p.getD t 0) t o q.length).1.length=true:=by rw[aK]; exact oT Z
  have e5:Nat.blt (t+q.length) (tmI q (p.getD t 0) t o q.length).1.length=true:=by rw[bW]; exact oT Z
  have e6:=bC t Z;simp only[iV,e1,e2,oC,oN,hi,aD,e3,e4,e5,e6]
 ·have e1:ltI (p.length:Int) (p.length:Int)=false:=by rw[aE]; exact oF Z
  simp only[iV,e1,oD]
theorem aVV {n:Nat}(h:n<1000000000):A0 [n]=pcs n:=I2 (λx hx=>by grind) (by rfl)
theorem a3I {n}(h:n<1000000000):(pcs n).length<=1:=XK Z
theorem aQH a {n:Nat}(hn:n<1000000000)(hl:(pcs a).length+1<=1048576) A:fQ () (pcs a,(n:Int),()) A=some (pcs (a*n),A):=by
 have:=a3I hn;show (aC (wI ([n],())) _)=_;rw[a42,aD,aVV hn];rw[aVR a n Z,aD]
theorem aWO a {n:Nat}(hn:0<n/\n<1000000000)(hl:(pcs a).length<=1048576) A:fJ () (pcs a,(n:Int),()) A=some ((pcs (a/n),((a%n:Nat):Int),()),A):=by
 obtain⟨a1,a2,a3⟩:=iC a;obtain⟨s1,s2⟩:=a3R a hn;generalize pcs a=p at *;have hn':0<(n:Int)/\(n:Int)<1000000000:=Z
 have key:=bH (step:=jL) (N:=2^64) (λt=>(p,(n:Int),(smS p n t).1,(smS p n t).2,(p.length:Int)-1-(t:Int),A,())) p.length
  ((smS p n p.length).1,(smS p n p.length).2,A,()) Z (λt ht=>?_) ?_
 ·rw[show (p.length:Int)-1-((0:Nat):Int)=(p.length:Int)-1 by omega]at key;have key:nU (p,(n:Int),List.replicate p.length 0,0,(p.length:Int)-1,A,())=_:=key;have e2:aB .i64 ((p.length:Int)-1)=(p.length:Int)-1:=wrap64 Z Z;have e3:ltI (p.length:Int) 0=false:=by rw[aE]; exact oF Z
  have e4:ltI (p.length:Int) (p.length:Int)=false:=by rw[aE]; exact oF Z
  have e5:ltI 1048576 (p.length:Int)=false:=by rw[aE]; exact oF Z
  have hlen:=(smI a1 hn' p.length (oM _)).len;unfold fJ;simp only[e2,e3,e4,e5,Bool.not_false,oC,oN,key,aD,X5 (show (smS p n p.length).1.length<=4000000 by omega),s1,s2]
 ·have hI:=smI a1 hn' t Z;rw[smS];generalize smS p n t=s at hI;obtain⟨l,r⟩:=s;obtain⟨h1,h2,h3,h4,h5⟩:=hI;dsimp only at h1 h2 h3 h4 h5 ⊢;obtain⟨i,hi⟩:∃ i,p.length-1-t=i:=⟨_,rfl⟩;have ei:(p.length:Int)-1-(t:Int)=(i:Int):=Z
  have ei':(p.length:Int)-1-((t+1:Nat):Int)=(i:Int)-1:=Z
  rw[hi,ei,ei'];have hx:=a1.get i;have e1:ltI (i:Int) 0=false:=by rw[aE]; exact oF Z
  have e2:aF (i:Int) p.length=true:=by rw[aK]; exact oT Z
  have e3:eqI (n:Int) 0=false:=by rw[bP]; exact oF Z
  have e4:aF (i:Int) l.length=true:=by rw[aK]; exact oT Z
  have e5:Nat.blt i l.length=true:=by rw[bW]; exact oT Z
  have e6:aB .i64 ((i:Int)-1)=(i:Int)-1:=wrap64 Z Z;have e7:aB .u64 (r*1000000000)=r*1000000000:=rX Z Z;have e8:aB .u64 (r*1000000000+p.getD i 0)=r*1000000000+p.getD i 0:=rX Z Z;have e9:(r*1000000000+p.getD i 0).tdiv n=(r*1000000000+p.getD i 0)/n:=Int.tdiv_eq_ediv_of_nonneg Z;have e10:(r*1000000000+p.getD i 0).tmod n=(r*1000000000+p.getD i 0)%n:=Int.tmod_eq_emod_of_nonneg Z
  have q0:0<=(r*1000000000+p.getD i 0)/n:=Int.ediv_nonneg Z Z;have q1:(r*1000000000+p.getD i 0)/n<=r*1000000000+p.getD i 0:=Int.ediv_le_self _ Z;have e11:aB .u64 ((r*1000000000+p.getD i 0)/n)=(r*1000000000+p.getD i 0)/n:=rX q0 Z;simp only[jL,e1,e2,e3,e4,e5,e6,e7,e8,e9,e10,e11,oC,oD,Bool.not_false,oN]
 ·have e1:ltI ((p.length:Int)-1-(p.length:Int)) 0=true:=by rw[aE]; exact oT Z
  simp only[jL,e1,Bool.not_true,oD]
theorem aX1 {p q} (hp:Pc p) (hq:Pc q) {i} (hl:p.length=q.length) (hi:i<p.length) (he:p.drop (i+1)=q.drop (i+1)) (hlt:p.getD i 0<q.getD i 0):vl p<vl q:=by
 have e1:=SV p (i+1) Z;have e2:=SV q (i+1) Z;have e3:=FQ p i hi;have e4:=FQ q i Z;have n1:=OQ (hp.aDZ i);have n2:=rG (hq.aDZ i);rw[List.length_take,Nat.min_eq_left Z]at n1;have hm:(p.getD i 0+1)*pw i<=q.getD i 0*pw i:=Int.mul_le_mul_of_nonneg_right Z (Int.le_of_lt (PK i));grind
theorem a6R {p q}(hp:Pc p)(hq:Pc q)(hl:p.length=q.length)(hpl:p.length<=4000000):∀ n,n<=p.length->p.drop n=q.drop n->∀ k,
  aW nO (n+1+k) (p,q,(n:Int)-1,())=some (if vl p<vl q then .inl (-1,()) else if vl q<vl p then .inl (1,()) else .inr ()):=by
 intro n
 induction n with
 | zero =>
  intro _ he k;have hpq:p=q:=he;subst hpq;rw[show 0+1+k=k+1 by omega,bV,if_neg (Int.lt_irrefl _),if_neg (Int.lt_irrefl _)];rfl
 | succ n ih =>
  intro h he k;rw[show n+1+1+k=(n+1+k)+1 by omega,bV];have e0:((n+1:Nat):Int)-1=(n:Int):=Z
  rw[e0];have e1:ltI (n:Int) 0=false:=by rw[aE]; exact oF Z
  have e2:aF (n:Int) p.length=true:=by rw[aK]; exact oT Z
  have e3:aF (n:Int) q.length=true:=by rw[aK]; exact oT Z
  have e4:aB .i64 ((n:Int)-1)=(n:Int)-1:=wrap64 Z Z;simp only[nO,e1,e2,e3,e4,oC,Bool.not_false,oN,aE,aS]
  by_cases h1:p.getD n 0<q.getD n 0
  ·have:=aX1 hp hq hl Z he h1;rw[if_pos h1,if_pos this]
  ·rw[if_neg h1]
   by_cases h2:q.getD n 0<p.getD n 0
   ·have:=aX1 hq hp hl.symm Z he.symm h2;rw[if_pos h2,if_neg Z,if_pos this]
   ·rw[if_neg h2];refine ih Z ?_ k;have hg:p.getD n 0=q.getD n 0:=Z
    rw[oQ,List.getElem?_eq_getElem (show n<p.length by omega),oQ,List.getElem?_eq_getElem (show n<q.length by omega)]at hg;rw[List.drop_eq_getElem_cons (show n<p.length by omega),List.drop_eq_getElem_cons (show n<q.length by omega),he];have hg:p[n]=q[n]:=hg;rw[hg]
theorem aZ6 a b (ha:(pcs a).length<=1048576)(hb:(pcs b).length<=1048576):tD (pcs a,pcs b,())=some (if a<b then -1 else if b<a then 1 else 0,()):=by
 obtain⟨a1,a2,a3⟩:=iC a;obtain⟨b1,b2,b3⟩:=iC b;have len:∀ {x y:Nat},(pcs x).length<(pcs y).length->x<y:=λ{x y} h=>by
  rcases oG x y with h1|h1
  ·exact h1
  ·have h2:(pcs y).length<=(pcs x).length:=by
    obtain⟨x1,x2,x3⟩:=iC x;have:=OQ x1;rw[x3]at this;refine XK (k:=(pcs x).length) ?_;have e:((1000000000^(pcs x).length:Nat):Int)=pw (pcs x).length:=by unfold pw; rw[Int.natCast_pow]; rfl
    omega
   omega
 unfold tD;dsimp only;rw[bP]
 by_cases hl:((pcs a).length:Int)=(pcs b).length
 ·have hl':(pcs a).length=(pcs b).length:=Z
  have h:=a6R a1 b1 hl' Z (pcs a).length (oM _) (by rw[List.drop_of_length_le (oM _),List.drop_of_length_le Z]) (2^64-(pcs a).length-1);rw[show (pcs a).length+1+(2^64-(pcs a).length-1)=2^64 by omega,a3,b3]at h;have e2:aB .i64 (((pcs a).length:Int)-1)=((pcs a).length:Int)-1:=wrap64 Z Z;rw[oT hl,e2];show (aC (aW nO (2^64) (pcs a,pcs b,((pcs a).length:Int)-1,())) _)=_
  rw[h,aD]
  by_cases h1:a<b
  ·rw[if_pos (show ((a:Nat):Int)<b by omega),if_pos h1]; rfl
  ·rw[if_neg (show ¬ ((a:Nat):Int)<b by omega),if_neg h1]
   by_cases h2:b<a
   ·rw[if_pos (show ((b:Nat):Int)<a by omega),if_pos h2]; rfl
   ·rw[if_neg (show ¬ ((b:Nat):Int)<a by omega),if_neg h2]; rfl
 ·have e2:aB .i64 (((pcs a).length:Int)-((pcs b).length:Int))=((pcs a).length:Int)-((pcs b).length:Int):=wrap64 Z Z;rw[oF hl,e2];rcases Nat.lt_or_gt_of_ne (show (pcs a).length≠(pcs b).length by omega)with h|h
  ·have:=len h;rw[if_pos this];show some ((if (if (-1:Int)<((pcs a).length:Int)-((pcs b).length:Int) then ((pcs a).length:Int)-((pcs b).length:Int) else -1)<1 then (if (-1:Int)<((pcs a).length:Int)-((pcs b).length:Int) then ((pcs a).length:Int)-((pcs b).length:Int) else -1) else 1),())=_;rw[if_neg (show ¬ (-1:Int)<((pcs a).length:Int)-((pcs b).length:Int)by omega),if_pos O]
  ·have:=len h;have e3:(if a<b then (-1:Int) else if b<a then 1 else 0)=1:=by rw[if_neg Z,if_pos this]
   rw[e3];show some ((if (if (-1:Int)<((pcs a).length:Int)-((pcs b).length:Int) then ((pcs a).length:Int)-((pcs b).length:Int) else -1)<1 then (if (-1:Int)<((pcs a).length:Int)-((pcs b).length:Int) then ((pcs a).length:Int)-((pcs b).length:Int) else -1) else 1),())=_;rw[if_pos (show (-1:Int)<((pcs a).length:Int)-((pcs b).length:Int)by omega),if_neg Z]
theorem a9A u m j:10*(u/10^(m+1)%10^j)+u/10^m%10=u/10^m%10^(j+1):=by
 have e:u/10^(m+1)=u/10^m/10:=by rw[Nat.pow_succ,Nat.div_div_eq_div_mul]
 rw[e,Nat.pow_succ,Nat.mul_comm (10^j) 10,Nat.mod_mul];omega
theorem bEC u t:((Lib.dg u t).toNat)=48+((u/10^t%10:Nat):Int):=by
 unfold Lib.dg;rw[UInt8.toNat_ofNat'];omega
theorem a4G u lo hi (h1:lo<=hi)(h2:hi<=Lib.nDigits u):VN ((Dn u).extract lo hi)=(List.range (hi-lo)).map λj=>48+((u/10^(Lib.nDigits u-1-(lo+j))%10:Nat):Int):=by
 have e:((Dn u).extract lo hi).data.toList=((Lib.decDigits u).drop lo).take (hi-lo):=by rw[ByteArray.data_extract,Array.toList_extract,List.extract_eq_take_drop,xR]
 unfold VN;rw[e,Lib.decDigits_eq];refine List.ext_getElem W λi h3 h4=>?_
 simp only[List.getElem_map,List.getElem_take,List.getElem_drop,List.getElem_range];exact bEC u _
theorem a38 u {lo hi}(h1:lo<=hi)(h2:hi<=Lib.nDigits u)(h9:hi-lo<=9)(v0:ByteArray)(v3:List Int)(v4:Int)(A:List (List Int)) :
  xE (v0,v3,v4,0,VN ((Dn u).extract lo hi),((VN ((Dn u).extract lo hi)).length:Int),0,A,())=some (v0,v3,v4,((u/10^(Lib.nDigits u-hi)%10^(hi-lo):Nat):Int),A,()):=by
 rw[a4G u lo hi h1 h2];have hlen:((List.range (hi-lo)).map λj=>48+((u/10^(Lib.nDigits u-1-(lo+j))%10:Nat):Int)).length=hi-lo:=R
 rw[hlen];have key:=bH (step:=sK) (N:=2^64) (λt=>(v0,v3,v4,((u/10^(Lib.nDigits u-lo-t)%10^t:Nat):Int),((List.range (hi-lo)).map λj=>48+((u/10^(Lib.nDigits u-1-(lo+j))%10:Nat):Int)),((hi-lo:Nat):Int),(t:Int),A,())) (hi-lo)
  (v0,v3,v4,((u/10^(Lib.nDigits u-hi)%10^(hi-lo):Nat):Int),A,()) Z (λt ht=>?_) ?_
 ·have e0:((u/10^(Lib.nDigits u-lo-0)%10^0:Nat):Int)=0:=by simp[Nat.mod_one]
  rw[e0]at key;exact key
 ·have e1:ltI (t:Int) ((hi-lo:Nat):Int)=true:=by rw[aE]; exact oT Z
  have e2:aF (t:Int) (hi-lo)=true:=by rw[aK]; exact oT Z
  have e3:((List.range (hi-lo)).map λj=>48+((u/10^(Lib.nDigits u-1-(lo+j))%10:Nat):Int)).getD t 0=48+((u/10^(Lib.nDigits u-1-(lo+t))%10:Nat):Int):=W
  obtain⟨m,hm⟩:∃ m,Lib.nDigits u-1-(lo+t)=m:=⟨_,rfl⟩;have hm1:Lib.nDigits u-lo-t=m+1:=Z
  have hm2:Lib.nDigits u-lo-(t+1)=m:=Z
  rw[hm]at e3;rw[hm1,hm2,<- a9A u m t];have hd:u/10^m%10<10:=Nat.mod_lt _ O;have ha:u/10^(m+1)%10^t<10^9:=by
   have h4:10^t<=10^9:=Nat.pow_le_pow_right O Z;omega
  have h109:(10:Nat)^9=1000000000:=O
  generalize u/10^m%10=d at *;generalize u/10^(m+1)%10^t=a at *;have e4:aB .u8 (48+(d:Int)-48)=(d:Int):=by rw[a83 Z Z]; omega
  have e5:IntKind.wrap .u64 (d:Int)=(d:Int):=aZU Z Z;have e6:aB .u64 (10*(a:Int))=10*(a:Int):=rX Z Z;have e7:aB .u64 (10*(a:Int)+(d:Int))=((10*a+d:Nat):Int):=by rw[rX Z Z]; omega
  have e8:=bC t Z;simp only[sK,e1,e2,e3,e4,e5,e6,e7,e8,hlen,oC,oN]
 ·have e1:ltI ((hi-lo:Nat):Int) ((hi-lo:Nat):Int)=false:=by rw[aE]; exact oF Z
  have e2:Lib.nDigits u-lo-(hi-lo)=Lib.nDigits u-hi:=Z
  simp only[sK,e1,e2,oD]
theorem bBH t:10^(9*t)=1000000000^t:=by rw[Nat.pow_mul]
theorem aSA u:∀ t,vl ((List.range t).map λj=>((u/1000000000^j%1000000000:Nat)))=((u%1000000000^t:Nat))
 | 0=>by simp[vl,Nat.mod_one]
 | t+1=>by
  rw[List.range_succ,List.map_append,IZ,aSA u t,List.length_map,List.length_range,Nat.pow_succ,Nat.mod_mul];have e:pw t=((1000000000^t:Nat):Int):=by unfold pw; rw[Int.natCast_pow]; rfl
  rw[e];simp only[List.map_cons,List.map_nil,vl,Int.mul_zero,Int.add_zero];rw[Int.natCast_add,Int.natCast_mul]
theorem aCA u (hu:Lib.nDigits u<=1000000) A:dZ () (Dn u,()) A=some (pcs u,A):=by
 have hsz:=DL u;generalize hnd:Lib.nDigits u=nd at *;obtain⟨T,hT⟩:∃ T,T=(nd+8)/9:=⟨_,rfl⟩;have key:=bH (step:=sY) (N:=2^64) (λt=>(Dn u,((List.range t).map λj=>((u/1000000000^j%1000000000:Nat):Int)),(nd:Int)-9*(t:Int),A,())) T
  ((List.range T).map λj=>((u/1000000000^j%1000000000:Nat):Int),A,()) Z (λt ht=>?_) ?_
 ·have key:xL (Dn u,List.replicate 0 0,(nd:Int),A,())=some ((List.range T).map (λj=>((u/1000000000^j%1000000000:Nat):Int)),A,()):=by
   exact key
  have e1:((nd:Nat):Int).tdiv 9=((nd/9:Nat):Int):=rfl;have e2:aB .i64 ((nd/9:Nat):Int)=((nd/9:Nat):Int):=wrap64 Z Z;have e3:=bC (nd/9) Z;have e4:ltI ((nd/9+1:Nat):Int) 0=false:=by rw[aE]; exact oF Z
  have e5:ltI 1048576 ((nd/9+1:Nat):Int)=false:=by rw[aE]; exact oF Z
  have ht:A0 ((List.range T).map λj=>((u/1000000000^j%1000000000:Nat):Int))=pcs u:=by
   refine I2 (λx hx=>?_) ?_
   ·grind
   ·rw[aSA,Nat.mod_eq_of_lt];have h1:=Lib.lt_pow_nDigits u;have h2:(10:Nat)^nd<=10^(9*T):=Nat.pow_le_pow_right O Z;rw[bBH]at h2;grind
  unfold dZ;simp only[hsz,e1,e2,e3,e4,e5,Bool.not_false,oC,key,aD,X5 (show ((List.range T).map λj=>((u/1000000000^j%1000000000:Nat):Int)).length<=4000000 by simp; omega),ht]
 ·obtain⟨hi,hhi⟩:∃ hi:Nat,hi=nd-9*t:=⟨_,rfl⟩;obtain⟨lo,hlo⟩:∃ lo:Nat,lo=hi-9:=⟨_,rfl⟩;have ehi:(nd:Int)-9*(t:Int)=(hi:Int):=Z
  have ehi':(nd:Int)-9*((t+1:Nat):Int)=(hi:Int)-9:=Z
  rw[ehi,ehi'];have e1:ltI 0 (hi:Int)=true:=by rw[aE]; exact oT Z
  have e2:aB .i64 ((hi:Int)-9)=(hi:Int)-9:=wrap64 Z Z;have e3:(if 0<(hi:Int)-9 then (hi:Int)-9 else 0)=(lo:Int):=by
   by_cases h:0<(hi:Int)-9
   ·rw[if_pos h]; omega
   ·rw[if_neg h]; omega
  have e4:ltI (lo:Int) 0=false:=by rw[aE]; exact oF Z
  have e5:ltI (hi:Int) 0=false:=by rw[aE]; exact oF Z
  have e6:Nat.ble lo hi=true:=by rw[cT]; exact oT Z
  have e7:Nat.ble hi nd=true:=by rw[cT]; exact oT Z
  have hin:=a38 u (lo:=lo) (hi:=hi) Z Z Z (Dn u) ((List.range t).map λj=>((u/1000000000^j%1000000000:Nat):Int)) (hi:Int) A;have hval:u/10^(Lib.nDigits u-hi)%10^(hi-lo)=u/1000000000^t%1000000000:=by
   rw[hnd,show nd-hi=9*t by omega,bBH]
   by_cases h:9<=hi
   ·rw[show hi-lo=9 by omega]
   ·have h1:=Lib.lt_pow_nDigits u;rw[hnd]at h1;have h2:u/1000000000^t<10^hi:=by
     rw[Nat.div_lt_iff_lt_mul (Nat.pow_pos O),<- bBH,<- Nat.pow_add,show hi+9*t=nd by omega];exact h1
    have h3:(10:Nat)^hi<=10^9:=Nat.pow_le_pow_right O Z;have h4:(10:Nat)^9=1000000000:=O
    rw[show hi-lo=hi by omega,Nat.mod_eq_of_lt h2,Nat.mod_eq_of_lt Z]
  rw[hval]at hin;have e8:Nat.ble [((u/1000000000^t%1000000000:Nat):Int)].length 1048576=true:=rfl;have e9:Nat.ble ((List.range t).map λj=>((u/1000000000^j%1000000000:Nat):Int)).length 1048576=true:=by rw[cT]; simp; omega
  simp only[sY,hsz,e1,e2,e3,e4,e5,e6,e7,e8,e9,oC,Bool.not_false,oN,hin,aD];rw[List.range_succ,List.map_append];rfl
 ·have e1:ltI 0 ((nd:Int)-9*(T:Int))=false:=by rw[aE]; exact oF Z
  simp only[sY,e1,oD]
def aDH(u:Nat):List Int:=(Lib.decDigits u).reverse.map λb=>(b.toNat:Int)
theorem aZL {u}(h:u<10):aDH u=[48+(u:Int)]:=by
 unfold aDH;rw[Lib.decDigits,dif_pos h];simp;omega
theorem aV9 {u}(h:¬ u<10):aDH u=(48+((u%10:Nat):Int))::aDH (u/10):=by
 unfold aDH;rw[Lib.decDigits,dif_neg h];simp only[List.reverse_append,List.reverse_cons,List.reverse_nil,List.nil_append,List.cons_append,List.map_cons,List.cons.injEq,and_true];rw[UInt8.toNat_ofNat'];omega
theorem aAL u:(aDH u).length=Lib.nDigits u:=by simp[aDH,Lib.decDigits_length]
def U5(x:Nat):Nat->List Int
 | 0=>[]
 | k+1=>U5 x k++[48+((x/10^k%10:Nat):Int)]
theorem aKF x:∀ k,(U5 x k).length=k
 | 0=>rfl
 | k+1=>by rw[U5,oH,aKF x k]; rfl
theorem aRH x:∀ k,U5 x (k+1)=(48+((x%10:Nat):Int))::U5 (x/10) k
 | 0=>by simp[U5]
 | k+1=>by rw[U5,aRH x k,U5,List.cons_append,Nat.pow_succ,Nat.mul_comm,<- Nat.div_div_eq_div_mul]
theorem aX6:∀ k u,10^k<=u->aDH u=U5 u k++aDH (u/10^k)
 | 0,u,_=>by simp[U5]
 | k+1,u,h=>by
  have h1:10^k<=u/10:=W
  have hp:1<=10^k:=Nat.one_le_pow _ _ R;rw[aV9 Z,aRH,aX6 k (u/10) h1,List.cons_append,Nat.pow_succ,Nat.mul_comm,<- Nat.div_div_eq_div_mul]
theorem aVK x y:∀ k,k<=9->x%1000000000=y%1000000000->U5 x k=U5 y k
 | 0,_,_=>rfl
 | k+1,hk,h=>by
  rw[U5,U5,aVK x y k Z h];have key:∀ z ,z/10^k%10=z%1000000000/10^k%10:=λz=>by
   have e:1000000000=10^k*(10*10^(8-k)):=by rw[<- Nat.mul_assoc,<- Nat.pow_succ,<- Nat.pow_add,show k.succ+(8-k)=9 by omega]
   rw[e,Nat.mod_mul_right_div_self,Nat.mod_mul_right_mod]
  simp_all
theorem a3Z(p:List Int) (v3:List Int) {i x:Nat} (hi:i+1<p.length) (hp:p.length<=4000000) (hx:x<1000000000) (hv:v3.length<=1000100) (v14:List Int) (v15 v16:Int) :
  l9 (p,v3,(i:Int),(x:Int),0,v14,v15,v16,())=some (p,v3++U5 x 9,v14,v15,v16,()):=by
 have key:=bH (step:=eD) (N:=2^64) (λt=>(p,v3++U5 x t,(i:Int),((x/10^t:Nat):Int),(t:Int),v14,v15,v16,())) 9
  (p,v3++U5 x 9,v14,v15,v16,()) Z (λt ht=>?_) ?_
 ·have hp0:U5 x 0=[]:=rfl;rw[hp0,List.append_nil,Nat.pow_zero,Nat.div_one]at key;exact key
 ·have e1:ltI (t:Int) 9=true:=by rw[aE]; exact oT Z
  have e2:=bC i Z;have e3:ltI ((i+1:Nat):Int) (p.length:Int)=true:=by rw[aE]; exact oT Z
  have hy:x/10^t<=x:=Nat.div_le_self _ _;have e9:x/10^(t+1)=x/10^t/10:=by rw[Nat.pow_succ,Nat.div_div_eq_div_mul]
  rw[e9,U5,<- List.append_assoc];generalize x/10^t=y at *;have e4:((y:Nat):Int).tmod 10=((y%10:Nat):Int):=rfl;have e5:((y:Nat):Int).tdiv 10=((y/10:Nat):Int):=rfl;have e6:IntKind.wrap .u8 (aB .u64 (48+((y%10:Nat):Int)))=48+((y%10:Nat):Int):=by rw[rX Z Z,a1L Z Z]
  have e7:aB .u64 ((y/10:Nat):Int)=((y/10:Nat):Int):=rX Z Z;have e8:=bC t Z;have e10:Nat.ble [48+((y%10:Nat):Int)].length 1048576=true:=rfl;have e11:Nat.ble (v3++U5 x t).length 1048576=true:=by rw[cT,oH,aKF]; exact oT Z
  simp only[eD,e1,e2,e3,e4,e5,e6,e7,e8,e10,e11,oC]
 ·rfl
theorem aQ0(p:List Int){i}(hi:p.length=i+1)(hp:p.length<=4000000)(v14:List Int)(v15 v16:Int):∀ (k x:Nat) (v3:List Int),0<x->x<10^k->k<=9->v3.length+k<=1000100->∀ N,
  aW eD (k+1+N) (p,v3,(i:Int),(x:Int),((9-k:Nat):Int),v14,v15,v16,())=some (p,v3++aDH x,v14,v15,v16,())
 | 0,x,v3,h0,h1,_,_,N=>W
 | k+1,x,v3,h0,h1,h9,hv,N=>by
  rw[show k+1+1+N=(k+1+N)+1 by omega,bV];have e1:ltI ((9-(k+1):Nat):Int) 9=true:=by rw[aE]; exact oT Z
  have e2:=bC i Z;have e3:ltI ((i+1:Nat):Int) (p.length:Int)=false:=by rw[aE]; exact oF Z
  have e0:ltI 0 (x:Int)=true:=by rw[aE]; exact oT Z
  have hxB:x<10^9:=Nat.lt_of_lt_of_le h1 (Nat.pow_le_pow_right O h9);have e4:((x:Nat):Int).tmod 10=((x%10:Nat):Int):=rfl;have e5:((x:Nat):Int).tdiv 10=((x/10:Nat):Int):=rfl;have e6:IntKind.wrap .u8 (aB .u64 (48+((x%10:Nat):Int)))=48+((x%10:Nat):Int):=by rw[rX Z Z,a1L Z Z]
  have e7:aB .u64 ((x/10:Nat):Int)=((x/10:Nat):Int):=rX Z Z;have e8:aB .i64 (((9-(k+1):Nat):Int)+1)=((9-k:Nat):Int):=by rw[wrap64 Z Z]; omega
  have e10:Nat.ble [48+((x%10:Nat):Int)].length 1048576=true:=rfl;have e11:Nat.ble v3.length 1048576=true:=by rw[cT]; exact oT Z
  simp only[eD,e1,e2,e3,e0,e4,e5,e6,e7,e8,e10,e11,oC,oD]
  by_cases hx:x<10
  ·have hz:x/10=0:=Z
   have hm:x%10=x:=Nat.mod_eq_of_lt hx;rw[hz,hm,aZL hx,show k+1+N=(k+N)+1 by omega,bV];have e12:ltI 0 ((0:Nat):Int)=false:=rfl;cases hk:ltI ((9-k:Nat):Int) 9 with
   | true=>simp only[eD,hk,e2,e3,e12,oC,oD]
   | false=>simp only[eD,hk,oD]
  ·rw[aV9 hx,aQ0 p hi hp v14 v15 v16 k (x/10) (v3++[48+((x%10:Nat):Int)]) Z (by rw[Nat.pow_succ]at h1; omega) Z (by rw[oH,List.length_singleton]; omega) N,List.append_assoc];rfl
theorem aPC u i:(pcs u).getD i 0=((u/1000000000^i%1000000000:Nat)):=by
 induction i generalizing u with
 | zero =>
  by_cases h:u=0
  ·subst h; rw[aAC]; rfl
  ·rw[aGV h]; simp
 | succ i ih =>
  by_cases h:u=0
  ·subst h; rw[aAC]; simp
  ·rw[aGV h,List.getD_cons_succ,ih,Nat.pow_succ,Nat.mul_comm,<- Nat.div_div_eq_div_mul]
theorem aKT {u i}(h:i<(pcs u).length):0<u/1000000000^i:=by
 have:=bD6 h;exact Nat.div_pos this (Nat.pow_pos R)
theorem aTP {u i}(h:(pcs u).length<=i):u/1000000000^i=0:=by
 refine Nat.div_eq_of_lt ?_;obtain⟨a,b,c⟩:=iC u;have h1:=OQ a;have h2:=aT9 h;grind
def aHC(u:Nat):Nat->List Int
 | 0=>[]
 | i+1=>if i+1<(pcs u).length then aHC u i++U5 (u/1000000000^i%1000000000) 9 else aHC u i++aDH (u/1000000000^i)
theorem aM1 u:∀ i,i<(pcs u).length->aHC u i++aDH (u/1000000000^i)=aDH u
 | 0,_=>by simp[aHC]
 | i+1,h=>by
  have ih:=aM1 u i Z;have hp:=aKT h;have e:u/1000000000^(i+1)=u/1000000000^i/1000000000:=by rw[Nat.pow_succ,Nat.div_div_eq_div_mul]
  have h109:(10:Nat)^9=1000000000:=O
  have hr:=aX6 9 (u/1000000000^i) Z;rw[h109,<- e,<- aVK (u/1000000000^i%1000000000) (u/1000000000^i) 9 O (by rw[Nat.mod_mod])]at hr;rw[aHC,if_pos h,List.append_assoc,<- hr];exact ih
theorem a7V {u}(h:0<(pcs u).length):aHC u (pcs u).length=aDH u:=by
 obtain⟨k,hk⟩:∃ k,(pcs u).length=k+1:=⟨(pcs u).length-1,by omega⟩;rw[hk,aHC,if_neg Z];exact aM1 u k Z
theorem a7Z u {i}(h:i<(pcs u).length):(aHC u i).length<=Lib.nDigits u:=by
 have:=oZ List.length (aM1 u i h);rw[oH,aAL,aAL]at this;omega
theorem aFJ {u}(hu:Lib.nDigits u<=1000000):(pcs u).length*9<=1000008:=by
 have h1:=Lib.lt_pow_nDigits u;have h2:10^Lib.nDigits u<=10^(9*((Lib.nDigits u+8)/9)):=Nat.pow_le_pow_right R Z;rw[bBH]at h2;have:=XK (n:=u) (k:=(Lib.nDigits u+8)/9) Z;omega
theorem a23 u (hu:Lib.nDigits u<=1000000)(h0:0<(pcs u).length):qU (pcs u,List.replicate 0 0,pcs u,((pcs u).length:Int),0,())=some (aDH u,()):=by
 have hlen:=aFJ hu;have key:=bH (step:=jE) (N:=2^64) (λt=>(pcs u,aHC u t,pcs u,((pcs u).length:Int),(t:Int),())) (pcs u).length (aHC u (pcs u).length,()) Z (λt ht=>?_) ?_
 ·rw[a7V h0]at key;exact key
 ·have e1:ltI (t:Int) ((pcs u).length:Int)=true:=by rw[aE]; exact oT Z
  have e2:aF (t:Int) (pcs u).length=true:=by rw[aK]; exact oT Z
  have e3:=bC t Z;have hol:=a7Z u ht;have hx:u/1000000000^t%1000000000<1000000000:=Nat.mod_lt _ O;rw[aHC]
  by_cases h:t+1<(pcs u).length
  ·have hi:=a3Z (pcs u) (aHC u t) (i:=t) (x:=u/1000000000^t%1000000000) h Z hx Z (pcs u) ((pcs u).length:Int) (t:Int);rw[if_pos h];simp only[jE,e1,e2,e3,oC,oN,aPC,hi,aD]
  ·have hz:u/1000000000^(t+1)=0:=aTP Z;have hp:=aKT ht;have hm:u/1000000000^t%1000000000=u/1000000000^t:=by
    rw[Nat.pow_succ,<- Nat.div_div_eq_div_mul]at hz;grind
   rw[hm]at hx;have h109:(10:Nat)^9=1000000000:=O
   have hi:=aQ0 (pcs u) (i:=t) Z Z (pcs u) ((pcs u).length:Int) (t:Int) 9 (u/1000000000^t) (aHC u t) hp (by rw[h109]; exact hx) (oM _) Z (2^64-10);have hi:l9 (pcs u,aHC u t,(t:Int),((u/1000000000^t:Nat):Int),0,pcs u,((pcs u).length:Int),(t:Int),())=_:=hi;rw[if_neg h];simp only[jE,e1,e2,e3,oC,oN,aPC,hm,hi,aD]
 ·have e1:ltI ((pcs u).length:Int) ((pcs u).length:Int)=false:=by rw[aE]; exact oF Z
  simp only[jE,e1,oD]
def aT2(l:List Int):Nat->List Int
 | 0=>l
 | t+1=>((aT2 l t).set t (l.getD (l.length-1-t) 0)).set (l.length-1-t) (l.getD t 0)
theorem aIR l:∀ t,2*t<=l.length->(aT2 l t).length=l.length/\∀ x,x<l.length->(aT2 l t).getD x 0=if x<t\/l.length-1-t<x then l.getD (l.length-1-x) 0 else l.getD x 0
 | 0,_=>⟨rfl,λx hx=>by rw[if_neg Z]; rfl⟩
 | t+1,h=>by
  obtain⟨h1,h2⟩:=aIR l t Z;refine⟨by rw[aT2,List.length_set,List.length_set,h1],λx hx=>?_⟩;rw[aT2];grind
theorem a7G l:aT2 l (l.length/2)=l.reverse:=by
 obtain⟨h1,h2⟩:=aIR l (l.length/2) Z;refine List.ext_getElem W λx hx hy=>?_
 grind
theorem aZB {l:List Int}(hl:l.length<=4000000):aDI (t:=.int .u8) eQ l ()=some l.reverse:=by
 have key:=bH (step:=fZ) (N:=2^64) (λt=>((0,0,l.length),(t:Int),(l.length:Int)-1-(t:Int),[aT2 l t],())) (l.length/2) ([l.reverse],()) Z (λt ht=>?_) ?_
 ·have key:kD ((0,0,l.length),0,(l.length:Int)-1,[l],())=some ([l.reverse],()):=by
   rw[show (l.length:Int)-1-((0:Nat):Int)=(l.length:Int)-1 by omega]at key;exact key
  have e2:aB .i64 (((l.length:Nat):Int)-1)=(l.length:Int)-1:=wrap64 Z Z;unfold aDI eQ;simp only[e2,key,aD,List.length_reverse,aNK,oC]
 ·obtain⟨h1,h2⟩:=aIR l t Z;obtain⟨j,hj⟩:∃ j:Nat,l.length-1-t=j:=⟨_,rfl⟩;have ej:(l.length:Int)-1-(t:Int)=(j:Int):=Z
  have ej':(l.length:Int)-1-((t+1:Nat):Int)=(j:Int)-1:=Z
  have g1:=h2 t Z;have g2:=h2 j Z;rw[if_neg Z]at g1 g2;rw[aT2,ej,ej',hj];generalize aT2 l t=r at *;have e1:ltI (t:Int) (j:Int)=true:=by rw[aE]; exact oT Z
  have e2:aF (t:Int) l.length=true:=by rw[aK]; exact oT Z
  have e3:aF (j:Int) l.length=true:=by rw[aK]; exact oT Z
  have e4:Nat.blt t r.length=true:=by rw[bW]; exact oT Z
  have e5:Nat.blt j r.length=true:=by rw[bW]; exact oT Z
  have e6:(0+t)*1=t:=Z
  have e7:(0+j)*1=j:=Z
  have e8:=bC t Z;have e9:aB .i64 ((j:Int)-1)=(j:Int)-1:=wrap64 Z Z;simp only[fZ,e1,e2,e3,e4,e5,e6,e7,e8,e9,oC,oN,S1,RS,SR,List.length_set,g1,g2]
 ·have e1:ltI ((l.length/2:Nat):Int) ((l.length:Int)-1-((l.length/2:Nat):Int))=false:=by rw[aE]; exact oF Z
  simp only[fZ,e1,oD,a7G]
theorem aYS(L:List UInt8):aMW (L.map λb=>b.toNat)=⟨L.toArray⟩:=by
 have key:∀ (L:List UInt8) (r:ByteArray),(L.map λb=>(b.toNat:Int)).foldl (λr n=>r.push (UInt8.ofNat n.toNat)) r=⟨r.data++L.toArray⟩:=by
  intro L
  induction L with
  | nil=>simp
  | cons b L ih =>
   simp_all
 unfold aMW
 simp_all
theorem aHF u (hu:Lib.nDigits u<=1000000):cR (pcs u,())=some (Dn u,()):=by
 have hlen:=aFJ hu;unfold cR;dsimp only;rw[bP]
 by_cases h0:u=0
 ·subst h0;rw[aAC,oT (by rfl),oC,bEF]
 ·have hp:0<(pcs u).length:=by rw[aGV h0]; simp
  have e1:aB .i64 (9*((pcs u).length:Int))=((9*(pcs u).length:Nat):Int):=by rw[wrap64 Z Z]; omega
  have e2:ltI ((9*(pcs u).length:Nat):Int) 0=false:=by rfl
  have e3:ltI 1048576 ((9*(pcs u).length:Nat):Int)=false:=by rw[aE]; grind
  rw[oF Z,oD,e1,e2,e3];rw[a23 u hu hp,aD];rw[aZB (by rw[aAL]; omega),aD];unfold aDH;rw[<- List.map_reverse,List.reverse_reverse,aYS];rfl
theorem a5S k:pw k=((1000000000^k:Nat)):=by rfl
theorem aOI u:u<1000000000^(pcs u).length:=by
 obtain⟨a,b,c⟩:=iC u;have:=OQ a;grind
theorem W0 {x y}(h:x<=y):(pcs x).length<=(pcs y).length:=XK (Nat.lt_of_le_of_lt h (aOI y))
theorem a1I {u k}(h:(pcs u).length=k+1):0<(pcs u).getD k 0:=by
 obtain⟨a,b,c⟩:=iC u;have hne:pcs u≠[]:=λh0=>W
 have h1:=b _ (List.getLast?_eq_some_getLast hne);have h2:=a.get k;grind
theorem aYF {acur b1 out:List Int} {f n i2:Int} {i m:Nat} (A:List (List Int)) (ha:Pc acur) (hb:Pc b1) (hbl:b1.length=m+2) (hn:n=((m+2:Nat):Int)) (hi2:i2=(i:Int)) (hl:i+m+2<acur.length) (hal:acur.length<=4000000)
  {g0 r0 bt:Int} (hbt:bt=b1.getD (m+1) 0) (hbt0:0<bt) {high:Int} (h0:0<=high/\high<1000000000000000000) (hg0:g0=high/bt) (hr0:r0=high%bt) {mm:Nat} (hmm:(mm:Int)<=g0)
  (hc:∀ t:Nat,t<mm->SQ bt (b1.getD m 0) (acur.getD (i+m) 0) (g0-t) (r0+t*bt)) (hs:¬ SQ bt (b1.getD m 0) (acur.getD (i+m) 0) (g0-mm) (r0+mm*bt)) :
  mJ (f,acur,b1,n,out,i2,g0,r0,A,())=some (f,acur,b1,n,out,i2,g0-mm,A,()):=by
 subst hn; subst hi2;have hg2:g0<1000000000000000000:=by rw[hg0]; exact Int.lt_of_le_of_lt (Int.ediv_le_self _ h0.1) h0.2
 have hr1:0<=r0:=by rw[hr0]; exact Int.emod_nonneg _ Z
 have hdm:r0+bt*g0=high:=by rw[hg0,hr0]; exact Int.emod_add_mul_ediv high bt
 have hrt:∀ t:Nat,(t:Int)<=g0->0<=r0+t*bt/\r0+t*bt<=high:=λt ht=>by
  have h1:0<=(t:Int)*bt:=Int.mul_nonneg Z Z;have h2:(t:Int)*bt<=g0*bt:=Int.mul_le_mul_of_nonneg_right ht Z;grind
 have e1:aB .i64 (((m+2:Nat):Int)-1)=((m+1:Nat):Int):=by rw[wrap64 Z Z]; omega
 have e2:aB .i64 (((m+2:Nat):Int)-2)=((m:Nat):Int):=by rw[wrap64 Z Z]; omega
 have e3:aF ((m+1:Nat):Int) b1.length=true:=by rw[aK]; exact oT Z
 have e4:aF ((m:Nat):Int) b1.length=true:=by rw[aK]; exact oT Z
 have e5:aB .i64 (aB .i64 ((i:Int)+((m+2:Nat):Int))-2)=((i+m:Nat):Int):=by rw[wrap64 (x:=(i:Int)+((m+2:Nat):Int)) Z Z,wrap64 Z Z]; omega
 have e6:aF ((i+m:Nat):Int) acur.length=true:=by rw[aK]; exact oT Z
 have e7:Nat.blt (i+m) acur.length=true:=by rw[bW]; exact oT Z
 have ha2:=ha.get (i+m);have hb2:=hb.get m;have stepE:∀ g r:Int,0<=g->g<=g0->0<=r->r<=high->iX (f,acur,b1,((m+2:Nat):Int),out,(i:Int),g,r,A,()) =
   if SQ bt (b1.getD m 0) (acur.getD (i+m) 0) g r then some (.inl (f,acur,b1,((m+2:Nat):Int),out,(i:Int),aB .u64 (g-1),aB .u64 (r+bt),A,())) else some (.inr (f,acur,b1,((m+2:Nat):Int),out,(i:Int),g,A,())):=by
  intro g r g1 g2 r1 r2;simp only[iX,e1,e2,e3,e4,e5,e6,e7,oC,oN,aE,<- hbt,pG,aS]
  by_cases c1:1000000000<=g
  ·rw[if_pos (show ¬ g<1000000000 by omega),if_pos (.inl c1)]
  ·rw[if_neg (show ¬ ¬ g<1000000000 by omega)]
   by_cases c2:r<1000000000
   ·have hm:=OC (n:=g) (x:=b1.getD m 0) Z hb2;have w1:aB .u64 (r*1000000000)=r*1000000000:=rX Z Z;have w2:aB .u64 (r*1000000000+acur.getD (i+m) 0)=r*1000000000+acur.getD (i+m) 0:=rX Z Z;have w3:aB .u64 (g*b1.getD m 0)=g*b1.getD m 0:=rX Z Z;rw[if_pos c2,w1,w2,w3]
    by_cases c3:r*1000000000+acur.getD (i+m) 0<g*b1.getD m 0
    ·rw[if_pos c3,if_pos (.inr ⟨c2,c3⟩)]
    ·rw[if_neg c3,if_neg (λh=>by rcases h with h|h; exact c1 h; exact c3 h.2)]
   ·rw[if_neg c2,if_neg (λh=>by rcases h with h|h; exact c1 h; exact c2 h.1)]
 have key:=bH (step:=iX) (N:=2^64) (λt=>(f,acur,b1,((m+2:Nat):Int),out,(i:Int),g0-(t:Int),r0+(t:Int)*bt,A,())) mm (f,acur,b1,((m+2:Nat):Int),out,(i:Int),g0-mm,A,()) Z (λt ht=>?_) ?_
 ·rw[show g0-((0:Nat):Int)=g0 by omega,show r0+((0:Nat):Int)*bt=r0 by simp]at key;exact key
 ·obtain⟨q1,q2⟩:=hrt t Z;obtain⟨q3,q4⟩:=hrt (t+1) Z;have e9:r0+((t+1:Nat):Int)*bt=r0+(t:Int)*bt+bt:=by rw[Int.natCast_add,Int.add_mul]; simp[Int.add_assoc]
  rw[stepE _ _ Z Z q1 q2,if_pos (hc t ht),e9];rw[e9]at q3 q4;rw[rX (x:=g0-(t:Int)-1) Z Z,rX (x:=r0+(t:Int)*bt+bt) q3 Z,show g0-(t:Int)-1=g0-((t+1:Nat):Int)by omega]
 ·obtain⟨q1,q2⟩:=hrt mm Z;rw[stepE _ _ Z Z q1 q2,if_neg hs]
theorem aTL {acur b1 out:List Int} {f:Int} {i m L:Nat} (A:List (List Int)) (ha:Pc acur) (hb:Pc b1) (hbl:b1.length=m+2) (htop:0<b1.getD (m+1) 0) (hal:acur.length=L) (hl:i+m+2<L) (hL:L<=4000000)
  (hol:out.length=L-(m+2)) (hoi:out.getD i 0=0) (ho:Pc out) (hz:vl acur<pw (i+1)*vl b1) :
  ∃ acur' out',dS (f,acur,b1,((m+2:Nat):Int),out,(i:Int),A,())=some (.inl (f,acur',b1,((m+2:Nat):Int),out',(i:Int)-1,A,())) /\
   Pc acur'/\acur'.length=L/\Pc out'/\out'.length=out.length/\vl acur'<pw i*vl b1/\vl out'*vl b1+vl acur'=vl out*vl b1+vl acur/\∀ j,j<i->out'.getD j 0=out.getD j 0:=by
 have hV0:=OQ hb;rw[hbl]at hV0;have pP:=PK i;have hV1:0<vl b1:=by
  have:=(a02 hb (k:=m) (λj hj=>IU hb hV0 Z) Z).1;have h1:0<(b1.getD (m+1) 0*1000000000+b1.getD m 0)*pw m:=Int.mul_pos (by have:=hb.get m; omega) (PK m);omega
 have hzz:vl acur<pw (i+m+3):=by
  have h1:pw (i+1)*vl b1<=pw (i+1)*pw (m+2):=Int.mul_le_mul_of_nonneg_left (Int.le_of_lt hV0) (Int.le_of_lt (PK _));rw[<- aEU,show i+1+(m+2)=i+m+3 by omega]at h1;omega
 have gs:=bGE ha hb hbl htop (i:=i) Z hzz;have hn:=rG ha;have hVP:0<vl b1*pw i:=Int.mul_pos hV1 pP;obtain⟨qh,hqh⟩:∃ qh,qh=vl acur/(vl b1*pw i):=⟨_,rfl⟩;have q0:0<=qh:=by rw[hqh]; exact Int.ediv_nonneg hn (Int.le_of_lt hVP)
 have q1:qh*(vl b1*pw i)<=vl acur:=by rw[hqh]; exact Int.ediv_mul_le _ Z
 have q2:vl acur<(qh+1)*(vl b1*pw i):=by rw[hqh]; exact Int.lt_ediv_add_one_mul_self _ hVP
 have qB:qh<1000000000:=by
  rw[hqh];refine Int.ediv_lt_of_lt_mul hVP ?_;rw[J5]at hz;have:1000000000*pw i*vl b1=1000000000*(vl b1*pw i):=W
  omega
 have hx1:=ha.get (i+m+2);have hx2:=ha.get (i+m+1);obtain⟨high,hhigh⟩:∃ high,high=acur.getD (i+m+2) 0*1000000000+acur.getD (i+m+1) 0:=⟨_,rfl⟩;rw[<- hhigh]at gs;have hb0:0<=high/\high<1000000000000000000:=Z
 obtain⟨mm,m1,m2,m3,m4,m5⟩:=gs.bDI q0 q1 q2 qB;have gl:=aYF (f:=f) (n:=((m+2:Nat):Int)) (i2:=(i:Int)) (out:=out) A ha hb hbl rfl rfl Z Z rfl htop hb0 rfl rfl m1 m2 m3;have hg:0<=high/b1.getD (m+1) 0-(mm:Int)/\high/b1.getD (m+1) 0-(mm:Int)<1000000000:=⟨by omega,by
  rcases Int.lt_or_le (high/b1.getD (m+1) 0-(mm:Int)) 1000000000 with h|h
  ·exact h
  ·exact absurd (.inl h) m3⟩
 obtain⟨g,hgd⟩:∃ g,g=high/b1.getD (m+1) 0-(mm:Int):=⟨_,rfl⟩;rw[<- hgd]at gl m4 m5 hg;have tr:=aZF (i:=i) (n:=m+2) ha hb hbl Z (by rw[show i+(m+2)+1=i+m+3 by omega]; exact hzz) hg q1 q2 m4 m5;have te:=a2M (n:=g) (at':=i) ha hb hg Z Z;rw[hbl]at te
 -- the operations
 have e1:ltI (i:Int) 0=false:=by rw[aE]; exact oF Z
 have e2:aB .i64 ((i:Int)+((m+2:Nat):Int))=((i+m+2:Nat):Int):=by rw[wrap64 Z Z]; omega
 have e3:aF ((i+m+2:Nat):Int) acur.length=true:=by rw[aK]; exact oT Z
 have e4:Nat.blt (i+m+2) acur.length=true:=by rw[bW]; exact oT Z
 have e5:aB .i64 (((i+m+2:Nat):Int)-1)=((i+m+1:Nat):Int):=by rw[wrap64 Z Z]; omega
 have e6:aF ((i+m+1:Nat):Int) acur.length=true:=by rw[aK]; exact oT Z
 have e7:Nat.blt (i+m+1) acur.length=true:=by rw[bW]; exact oT Z
 have e8:aB .i64 (((m+2:Nat):Int)-1)=((m+1:Nat):Int):=by rw[wrap64 Z Z]; omega
 have e9:aF ((m+1:Nat):Int) b1.length=true:=by rw[aK]; exact oT Z
 have e10:eqI (b1.getD (m+1) 0) 0=false:=by rw[bP]; exact oF Z
 have e11:aB .u64 (acur.getD (i+m+2) 0*1000000000)=acur.getD (i+m+2) 0*1000000000:=rX Z Z;have e12:aB .u64 (acur.getD (i+m+2) 0*1000000000+acur.getD (i+m+1) 0)=high:=by rw[rX Z Z,hhigh]
 have e13:high.tdiv (b1.getD (m+1) 0)=high/b1.getD (m+1) 0:=Int.tdiv_eq_ediv_of_nonneg hb0.1;have e14:high.tmod (b1.getD (m+1) 0)=high%b1.getD (m+1) 0:=Int.tmod_eq_emod_of_nonneg hb0.1;have hq0:0<=high/b1.getD (m+1) 0:=Int.ediv_nonneg hb0.1 Z;have hq1:high/b1.getD (m+1) 0<=high:=Int.ediv_le_self _ hb0.1;have e15:aB .u64 (high/b1.getD (m+1) 0)=high/b1.getD (m+1) 0:=rX hq0 Z;have e16:aF (i:Int) out.length=true:=by rw[aK]; exact oT Z
 have e17:Nat.blt i out.length=true:=by rw[bW]; exact oT Z
 have e18:aB .i64 ((i:Int)-1)=(i:Int)-1:=wrap64 Z Z;have hpwi:pw i*vl b1=vl b1*pw i:=Int.mul_comm _ _;have fin:∀ a':List Int,Pc a'->a'.length=acur.length->vl a'=vl acur-qh*(vl b1*pw i) ->
   Pc a'/\a'.length=L/\Pc (out.set i qh)/\(out.set i qh).length=out.length/\vl a'<pw i*vl b1/\vl (out.set i qh)*vl b1+vl a'=vl out*vl b1+vl acur/\∀ j,j<i->(out.set i qh).getD j 0=out.getD j 0:=by
  intro a' p1 p2 p3;refine⟨p1,p2.trans hal,ho.set ⟨q0,qB⟩ _,List.length_set,?_,?_,λj hj=>Go.De.getD_set_ne _ _ Z⟩
  ·rw[p3,hpwi];have:(qh+1)*(vl b1*pw i)=qh*(vl b1*pw i)+vl b1*pw i:=W
   omega
  ·rw[aFW out i qh Z,hoi,p3];grind
 rcases tr with ⟨t1,t2,t3,t4,t5⟩|⟨t1,t2,t3,t4,t5,t6,t7⟩
 ·refine⟨(tkS b1 g i acur (m+2+1)).1,out.set i qh,?_,fin _ t3 t4 t5⟩;rw[t1]at te;have d0:decide ((0:Int)<0)=false:=rfl;rw[d0,t2]at te;rw[t2]at gl ⊢;simp only[dS,e1,e2,e3,e4,e5,e6,e7,e8,e9,e10,e11,e12,e13,e14,e15,oC,oD,Bool.not_false,oN,gl,aD,te,e16,e17,e18]
 ·refine⟨(bkS b1 i (tkS b1 g i acur (m+2+1)).1 (m+2+1)).1,out.set i qh,?_,fin _ t5 t6 t7⟩;have be:=back_eq (at':=i) t3 hb Z Z;rw[hbl]at be;rw[t1]at te;have d0:decide ((0:Int)<1)=true:=rfl;rw[d0]at te;have e19:aB .u64 (g-1)=qh:=by rw[rX Z Z]; omega
  simp only[dS,e1,e2,e3,e4,e5,e6,e7,e8,e9,e10,e11,e12,e13,e14,e15,oC,oD,Bool.not_false,oN,gl,aD,te,be,e16,e17,e18,e19]
theorem a2V(a b:Nat)(hb2:2<=(pcs b).length)(hab:b<=a)(hl:(pcs a).length<=500000)(A:List (List Int)):gD () (pcs a,pcs b,()) A=some ((pcs (a/b),pcs (a%b),()),A):=by
 obtain⟨m,hm⟩:∃ m,(pcs b).length=m+2:=⟨(pcs b).length-2,by omega⟩;have hba:=W0 hab;have htop:=a1I (u:=b) (k:=m+1) hm;have hb0:0<b:=by
  rcases Nat.eq_zero_or_pos b with h|h
  ·subst h; rw[aAC]at hm; cases hm
  ·exact h
 have htB:=((iC b).1.get (m+1)).2;obtain⟨top,htop'⟩:∃ top:Nat,(pcs b).getD (m+1) 0=top:=⟨((pcs b).getD (m+1) 0).toNat,by omega⟩;rw[htop']at htop htB;obtain⟨f,hf⟩:∃ f:Nat,f=1000000000/(top+1):=⟨_,rfl⟩;have hf1:1<=f:=by rw[hf]; exact Nat.div_pos za za
 have hf2:(top+1)*f<=1000000000:=by rw[hf]; exact Nat.mul_div_le _ _
 have hfB:f<1000000000:=by
  have:2*f<=(top+1)*f:=Nat.mul_le_mul_right _ za;omega
 -- the divisor keeps its length
 have hbf:(pcs (b*f)).length=m+2:=by
  have h1:b<(top+1)*1000000000^(m+1):=by
   have:=(a9T (iC b).1 (k:=m+1) (λj hj=>IU (iC b).1 (k:=m+2) (by have:=OQ (iC b).1; rw[hm]at this; exact this) za) za).2;rw[(iC b).2.2,htop',a5S]at this;have e:((top:Int)+1)*((1000000000^(m+1):Nat):Int)=(((top+1)*1000000000^(m+1):Nat):Int):=by rw[Int.natCast_mul]; rfl
   omega
  have h2:b*f<1000000000^(m+2):=by
   have h3:b*f<(top+1)*1000000000^(m+1)*f:=Nat.mul_lt_mul_of_pos_right h1 hf1;have h4:(top+1)*1000000000^(m+1)*f=(top+1)*f*1000000000^(m+1):=by rw[Nat.mul_right_comm]
   have h5:(top+1)*f*1000000000^(m+1)<=1000000000*1000000000^(m+1):=Nat.mul_le_mul_right _ hf2;have h6:1000000000^(m+2)=1000000000*1000000000^(m+1):=by rw[Nat.pow_succ,Nat.mul_comm]
   omega
  have h3:=XK h2;have h4:=W0 (show b<=b*f from Nat.le_mul_of_pos_right b hf1);omega
 have haf:=W0 (show a<=a*f from Nat.le_mul_of_pos_right a hf1);have habf:=W0 (show b*f<=a*f from Nat.mul_le_mul_right f hab);have hafl:(pcs (a*f)).length<=(pcs a).length+1:=by
  refine XK ?_;rw[Nat.pow_succ];exact Nat.mul_lt_mul'' (aOI a) hfB
 obtain⟨x1,x2,x3⟩:=iC (a*f);obtain⟨y1,y2,y3⟩:=iC (b*f);obtain⟨L,hL⟩:∃ L,L=(pcs (a*f)).length+1:=⟨_,rfl⟩;have ha1:Pc (pcs (a*f)++[0]):=x1.append (λx hx=>by rw[List.mem_singleton.1 hx]; decide);have ha2:(pcs (a*f)++[0]).length=L:=by simp[hL]
 have ha3:vl (pcs (a*f)++[0])=((a*f:Nat):Int):=by rw[IZ,x3]; simp[vl]
 have hbtop:=a1I (u:=b*f) (k:=m+1) hbf;have hbfpos:0<vl (pcs (b*f)):=by rw[y3]; have:=Nat.mul_pos hb0 hf1; omega
 -- the rounds
 have rounds:=bF9 (step:=dS) (N:=2^64)
  (Z:=λz=>∃ acur out,z=((f:Int),acur,out,A,())/\Pc acur/\acur.length=L/\Pc out/\out.length=L-(m+2)/\vl acur<vl (pcs (b*f))/\vl out*vl (pcs (b*f))+vl acur=((a*f:Nat):Int))
  (λt y=>∃ acur out,y=((f:Int),acur,pcs (b*f),((m+2:Nat):Int),out,((L-(m+2):Nat):Int)-1-(t:Int),A,())/\Pc acur/\acur.length=L/\Pc out/\out.length=L-(m+2)/\vl acur<pw (L-(m+2)-t)*vl (pcs (b*f))/\vl out*vl (pcs (b*f))+vl acur=((a*f:Nat):Int)/\∀ j,j<L-(m+2)-t->out.getD j 0=0)
  (L-(m+2)) ((f:Int),pcs (a*f)++[0],pcs (b*f),((m+2:Nat):Int),List.replicate (L-(m+2)) 0,((L-(m+2):Nat):Int)-1,A,()) za ?_ ?_ ?_
 ·obtain⟨z,z1,acur,out,rfl,c1,c2,c3,c4,c5,c6⟩:=rounds;have z1:mN ((f:Int),pcs (a*f)++[0],pcs (b*f),((m+2:Nat):Int),List.replicate (L-(m+2)) 0,((L-(m+2):Nat):Int)-1,A,())=_:=z1;obtain⟨r,hr⟩:∃ r:Nat,vl acur=r:=⟨(vl acur).toNat,by have:=rG c1; omega⟩;obtain⟨q,hq⟩:∃ q:Nat,vl out=q:=⟨(vl out).toNat,by have:=rG c3; omega⟩;rw[hr,hq,y3]at c6;rw[hr,y3]at c5;have e:q*(b*f)+r=a*f:=by
   have:((q*(b*f)+r:Nat):Int)=((a*f:Nat):Int):=by rw[Int.natCast_add,Int.natCast_mul]; exact c6
   exact Int.ofNat_inj.1 this
  have hrlt:r<b*f:=za
  have hbf0:0<b*f:=Nat.mul_pos hb0 hf1;have hq':q=a/b:=by
   have:a*f/(b*f)=q:=by rw[<- e,Nat.mul_comm q,Nat.mul_add_div hbf0,Nat.div_eq_of_lt hrlt,Nat.add_zero]
   rw[<- this,Nat.mul_div_mul_right _ _ hf1]
  have hr':r=a%b*f:=by
   have:a*f%(b*f)=r:=by rw[<- e,Nat.mul_comm q,Nat.mul_add_mod,Nat.mod_eq_of_lt hrlt]
   rw[<- this,Nat.mul_mod_mul_right]
  have t1:A0 acur=pcs r:=I2 c1 hr;have t2:A0 out=pcs q:=I2 c3 hq;have hrl:(pcs r).length<=1048576:=by
   have:=W0 (show r<=a*f by omega);omega
  have sm:=aWO r (n:=f) ⟨hf1,hfB⟩ hrl A;have hrf:r/f=a%b:=by rw[hr',Nat.mul_div_cancel _ hf1]
  rw[hrf]at sm
  -- the first operations
  have w1:aB .i64 (((m+2:Nat):Int)-1)=((m+1:Nat):Int):=by rw[wrap64 za za]; omega
  have w2:aF ((m+1:Nat):Int) (m+2)=true:=by rw[aK]; exact oT za
  have w3:aB .u64 ((top:Int)+1)=((top+1:Nat):Int):=by rw[rX za za]; omega
  have w4:eqI ((top+1:Nat):Int) 0=false:=by rw[bP]; exact oF za
  have w5:(1000000000:Int).tdiv ((top+1:Nat):Int)=(f:Int):=by rw[hf]; rfl
  have w6:aB .u64 (f:Int)=(f:Int):=rX za za;have s1:=aQH a (n:=f) hfB za A;have s2:=aQH b (n:=f) hfB za A;have w7:Nat.ble [(0:Int)].length 1048576=true:=rfl;have w8:Nat.ble (pcs (a*f)).length 1048576=true:=by rw[cT]; exact oT za
  have w9:mL (pcs a,(f:Int),pcs (a*f)++[0],pcs (b*f),((m+2:Nat):Int),A,())=some ((f:Int),pcs (a*f)++[0],pcs (b*f),((m+2:Nat):Int),A,()):=by
   show aW mP (2^64) _=_;rw[show (2:Nat)^64=18446744073709551615+1 by rfl,bV];have:ltI ((pcs a).length:Int) (L:Int)=true:=by rw[aE]; exact oT za
   simp only[mP,ha2,this,Bool.not_true,oD]
  have w10:aB .i64 ((L:Int)-((m+2:Nat):Int))=((L-(m+2):Nat):Int):=by rw[wrap64 za za]; omega
  have w11:ltI ((L-(m+2):Nat):Int) 0=false:=by rw[aE]; exact oF za
  have w12:ltI ((L-(m+2):Nat):Int) ((L-(m+2):Nat):Int)=false:=by rw[aE]; exact oF za
  have w13:ltI 1048576 ((L-(m+2):Nat):Int)=false:=by rw[aE]; exact oF za
  have w14:aB .i64 (((L-(m+2):Nat):Int)-1)=((L-(m+2):Nat):Int)-1:=wrap64 za za;unfold gD;simp only[hm,w1,w2,oN,htop',w3,w4,w5,w6,oC,oD,s1,aD,w7,w8,s2,hbf,w9,ha2,w10,w11,w12,w13,w14,Bool.not_false,z1,X5 (show acur.length<=4000000 by omega),t1,sm,X5 (show out.length<=4000000 by omega),t2,hq'];rfl
 ·refine⟨_,_,by rw[show ((L-(m+2):Nat):Int)-1-((0:Nat):Int)=((L-(m+2):Nat):Int)-1 by omega],ha1,ha2,Pc.rep _,by simp,?_,by rw[Y4,ha3]; simp,λj hj=>by simp[oQ,List.getElem?_replicate]; split <;> rfl⟩;rw[ha3,<- x3,Nat.sub_zero];have h1:=OQ x1;have h2:=(a9T y1 (k:=m+1) (λj hj=>IU y1 (k:=m+2) (by have:=OQ y1; rw[hbf]at this; exact this) za) za).1;have h3:pw (m+1)<=vl (pcs (b*f)):=by
   have:1*pw (m+1)<=(pcs (b*f)).getD (m+1) 0*pw (m+1):=Int.mul_le_mul_of_nonneg_right za (Int.le_of_lt (PK _));omega
  have h4:pw (L-(m+2))*pw (m+1)<=pw (L-(m+2))*vl (pcs (b*f)):=Int.mul_le_mul_of_nonneg_left h3 (Int.le_of_lt (PK _));rw[<- aEU,show L-(m+2)+(m+1)=(pcs (a*f)).length by omega]at h4;omega
 ·rintro t y ht ⟨acur,out,rfl,c1,c2,c3,c4,c5,c6,c7⟩;obtain⟨i,hi⟩:∃ i,i=L-(m+2)-t-1:=⟨_,rfl⟩;have ei:((L-(m+2):Nat):Int)-1-(t:Int)=(i:Int):=za
  have ei':((L-(m+2):Nat):Int)-1-((t+1:Nat):Int)=(i:Int)-1:=za
  rw[show L-(m+2)-t=i+1 by omega]at c5 c7;obtain⟨acur',out',s,d1,d2,d3,d4,d5,d6,d7⟩:=aTL (f:=(f:Int)) A c1 y1 hbf hbtop c2 (i:=i) za za c4 (c7 i za) c3 c5;rw[ei];refine⟨_,s,acur',out',by rw[ei'],d1,d2,d3,d4.trans c4,?_,d6.trans c6,λj hj=>?_⟩
  ·rw[show L-(m+2)-(t+1)=i by omega]; exact d5
  ·rw[d7 j za]; exact c7 j za
 ·rintro y ⟨acur,out,rfl,c1,c2,c3,c4,c5,c6,c7⟩;rw[Nat.sub_self,aSS,Int.one_mul]at c5;have e1:ltI (((L-(m+2):Nat):Int)-1-((L-(m+2):Nat):Int)) 0=true:=by rw[aE]; exact oT za
  exact⟨_,by simp only[dS,e1,Bool.not_true,oD],acur,out,rfl,c1,c2,c3,c4,c5,c6⟩
theorem T5 a b:Lib.nDigits (a+b)<=max (Lib.nDigits a) (Lib.nDigits b)+1:=by
 have h1:=j5 a;have h2:=j5 b;have h3:10^Lib.nDigits a<=10^max (Lib.nDigits a) (Lib.nDigits b):=Nat.pow_le_pow_right R Z;have h4:10^Lib.nDigits b<=10^max (Lib.nDigits a) (Lib.nDigits b):=Nat.pow_le_pow_right R Z;refine tS ?_;grind
theorem aH0 a b:Lib.nDigits (a*b)<=Lib.nDigits a+Lib.nDigits b:=by
 have p1:=nDigits_pos a;obtain⟨k,hk⟩:∃ k,Lib.nDigits a+Lib.nDigits b=k+1:=⟨Lib.nDigits a+Lib.nDigits b-1,by omega⟩;rw[hk];refine tS ?_;rw[<- hk,Nat.pow_add];exact Nat.mul_lt_mul'' (j5 a) (j5 b)
theorem aIK {a b}(h:18<Lib.nDigits a\/18<Lib.nDigits b):sC (Dn a,Dn b,())=some (0,0,false,()):=by
 unfold sC;simp only[DL,aE];grind
theorem aFR {u}(hu:Lib.nDigits u<=1000000):(pcs u).length<=111112:=by
 have:=aFJ hu;omega
theorem aXV u:vl (pcs u++[0])=u:=by rw[IZ,(iC u).2.2]; rfl
theorem aYA u:Pc (pcs u++[0]):=(iC u).1.append (λx hx=>by grind)
theorem a69 u k:vl (pcs u++List.replicate k 0)=u:=by rw[IZ,(iC u).2.2,Y4]; rfl
theorem a9F u k:Pc (pcs u++List.replicate k 0):=(iC u).1.append (Pc.rep k)
theorem a7A {a b k:Nat} (h:(pcs b).length+k=(pcs a).length) (hl:(pcs a).length<=1048576) :
  ∃ l,aDI (t:=.int .u64) dC (pcs a++[0]) (pcs b++List.replicate k 0,0,())=some l/\l.length<=1048577/\A0 l=pcs (a+b):=by
 have hq:=a9F b k;have hp:=aYA a;have hql:(pcs b++List.replicate k (0:Int)).length=(pcs a).length:=by simp; omega
 have hpl:(pcs a++[(0:Int)]).length=(pcs a).length+1:=R
 have be:=back_eq (at':=0) hp hq Z Z;have bi:=bkI hp hq (at':=0) Z ((pcs b++List.replicate k 0).length+1) (oM _);refine⟨_,be,by rw[bi.len]; omega,I2 bi.pc ?_⟩;have hv:=bi.val;rw[List.take_of_length_le Z,aXV,a69,hql,aSS,Int.one_mul]at hv;have hn:=OQ bi.pc;have n0:=rG bi.pc;have ha:=aOI a;have hb:=aOI b;have hb2:1000000000^(pcs b).length<=1000000000^(pcs a).length:=Nat.pow_le_pow_right O Z
 have e2:pw (0+((pcs a).length+1))=1000000000*((1000000000^(pcs a).length:Nat):Int):=by rw[Nat.zero_add,J5,a5S]
 rw[hql]at n0 hn ⊢;rcases bi.ca with hc|hc
 ·grind
 ·grind
theorem QM a b (ha:Lib.nDigits a<=900000)(hb:Lib.nDigits b<=900000):fE (Dn a,Dn b,())=some (Dn (a+b),()):=by
 by_cases hs:Lib.nDigits a<=18/\Lib.nDigits b<=18
 ·exact aVT a b hs.1 hs.2
 ·have hba:=aIK (a:=a) (b:=b) Z;have ca:=aCA a Z [];have cb:=aCA b Z [];have la:=aFR (u:=a) Z;have lb:=aFR (u:=b) Z;have hsum:=T5 a b;have tx:=aHF (a+b) Z;have long:∀ x y:Nat,(pcs y).length<=(pcs x).length->(pcs x).length<=111112->x+y=a+b->(bif Nat.ble [0].length 1048576 then bif Nat.ble (pcs x).length 1048576 then bif !(ltI (aB .i64 ((aB .i64 (((pcs x++[0]).length:Int)-1))-((pcs y).length:Int))) 0) then bif !(ltI 1048576 (aB .i64 ((aB .i64 (((pcs x++[0]).length:Int)-1))-((pcs y).length:Int)))) then bif Nat.ble (pcs y).length 1048576 then aC (aDI (t:=(.int .u64)) dC (pcs x++[0]) ((pcs y++List.replicate (aB .i64 ((aB .i64 (((pcs x++[0]).length:Int)-1))-((pcs y).length:Int))).toNat (0:Ty.den (.int .u64))),0,())) λy8 =>
    aC (bF y8 (()) []) λy9 =>
    aC (cR (y9.1,())) λy10 =>
    some (y10.1,()) else none else none else none else none else none)=some (Dn (a+b),()):=by
   intro x y h1 h2 h3;obtain⟨k,hk⟩:∃ k,(pcs y).length+k=(pcs x).length:=⟨(pcs x).length-(pcs y).length,by omega⟩;obtain⟨l,l1,l2,l3⟩:=a7A hk Z;have e0:((pcs x++[0]).length:Int)=((pcs x).length:Int)+1:=R
   have e1:aB .i64 (aB .i64 (((pcs x).length:Int)+1-1)-((pcs y).length:Int))=(k:Int):=by rw[wrap64 (x:=((pcs x).length:Int)+1-1) Z Z,wrap64 Z Z]; omega
   have e2:ltI (k:Int) 0=false:=by rw[aE]; exact oF Z
   have e3:ltI 1048576 (k:Int)=false:=by rw[aE]; exact oF Z
   have e4:Nat.ble (pcs x).length 1048576=true:=by rw[cT]; exact oT Z
   have e5:Nat.ble (pcs y).length 1048576=true:=by rw[cT]; exact oT Z
   rw[h3]at l3;rw[e0,e1,e2,e3,e4,e5,oN];rw[l1,aD,X5 Z,l3,aD];show (aC (cR (pcs (a+b),())) _)=_;rw[tx,aD]
  unfold fE;simp only[hba,aD,oD,ca,cb,aE (((pcs a).length:Nat):Int) ((pcs b).length:Int)];grind
theorem a6I {a b k}(hab:b<=a)(h:(pcs b).length+k=(pcs a).length)(hl:(pcs a).length<=1048576) :
  ∃ c l,aDU (t:=.int .u64) eM (pcs a++[0]) (pcs b++List.replicate k 0,1,0,())=some (c,l)/\l.length<=1048577/\A0 l=pcs (a-b):=by
 have hq:=a9F b k;have hp:=aYA a;have hql:(pcs b++List.replicate k (0:Int)).length=(pcs a).length:=by simp; omega
 have hpl:(pcs a++[(0:Int)]).length=(pcs a).length+1:=R
 have te:=a2M (n:=1) (at':=0) hp hq Z Z Z;have ti:=tkI hp hq (n:=1) (at':=0) Z Z ((pcs b++List.replicate k 0).length+1) (oM _);refine⟨_,_,te,by rw[ti.len]; omega,I2 ti.pc ?_⟩;have hv:=ti.val;have hfin:=ti.fin Z;rw[List.take_of_length_le Z,aXV,a69,hfin,Int.add_zero,hql,aSS]at hv;have hn:=OQ ti.pc;rw[ti.len,hpl]at hn;have n0:=rG ti.pc;rw[hql]at n0 hn ⊢
 rcases ti.bo with hc|hc
 ·grind
 ·grind
theorem FC a b (ha:Lib.nDigits a<=900000)(hb:Lib.nDigits b<=900000)(h:b<=a):cS (Dn a,Dn b,())=some (Dn (a-b),0,()):=by
 by_cases hs:Lib.nDigits a<=18/\Lib.nDigits b<=18
 ·exact aX0 a b hs.1 hs.2 h
 ·have hba:=aIK (a:=a) (b:=b) Z;have ca:=aCA a Z [];have cb:=aCA b Z [];have la:=aFR (u:=a) Z;have hd:=xU (show a-b<=a by omega);have tx:=aHF (a-b) Z;have hmono:=W0 h;have e:ltI (aDE a b) 0=false:=by
   rw[aE]; unfold aDE;grind
  obtain⟨k,hk⟩:∃ k,(pcs b).length+k=(pcs a).length:=⟨(pcs a).length-(pcs b).length,by omega⟩;obtain⟨c,l,l1,l2,l3⟩:=a6I h hk Z;have e0:((pcs a++[0]).length:Int)=((pcs a).length:Int)+1:=R
  have e1:aB .i64 (aB .i64 (((pcs a).length:Int)+1-1)-((pcs b).length:Int))=(k:Int):=by rw[wrap64 (x:=((pcs a).length:Int)+1-1) Z Z,wrap64 Z Z]; omega
  have e2:ltI (k:Int) 0=false:=by rw[aE]; exact oF Z
  have e3:ltI 1048576 (k:Int)=false:=by rw[aE]; exact oF Z
  have e4:Nat.ble (pcs a).length 1048576=true:=by rw[cT]; exact oT Z
  have e5:Nat.ble (pcs b).length 1048576=true:=by rw[cT]; exact oT Z
  unfold cS;simp only[wZ a b Z Z,e,hba,aD,oD,ca,cb];rw[e0,e1,e2,e3,e4,e5,oN];rw[l1,aD];show (aC (bF l () []) _)=_;rw[X5 Z,l3,aD];rw[tx,aD]
theorem aSX a b (h:Lib.nDigits a+Lib.nDigits b<=900000):fF (Dn a,Dn b,())=some (Dn (a*b),()):=by
 by_cases hs:Lib.nDigits a+Lib.nDigits b<=18
 ·exact aVX a b hs
 ·have ca:=aCA a Z [];have cb:=aCA b Z [];have la:=aFR (u:=a) Z;have lb:=aFR (u:=b) Z;have hm:=aH0 a b;have tx:=aHF (a*b) Z;have tm:=aVR a b Z [];have e1:aB .i64 ((Lib.nDigits a:Int)+(Lib.nDigits b:Int))=(Lib.nDigits a:Int)+(Lib.nDigits b:Int):=wrap64 Z Z;have e2:ltI 18 ((Lib.nDigits a)+(Lib.nDigits b:Int))=true:=by rw[aE]; grind
  unfold fF;simp only[DL,e1,e2,Bool.not_true,oD,ca,cb,aD,tm,tx]
theorem aLM a b (ha:Lib.nDigits a<=900000)(hb:Lib.nDigits b<=900000)(h:b≠0):nQ (Dn a,Dn b,())=some (Dn (a/b),Dn (a%b),0,()):=by
 by_cases hs:Lib.nDigits a<=18/\Lib.nDigits b<=18
 ·exact aMR a b hs.1 hs.2 h
 ·have hba:=aIK (a:=a) (b:=b) Z;have ca:=aCA a Z [];have cb:=aCA b Z [];have la:=aFR (u:=a) Z;have lb:=aFR (u:=b) Z;have cp:=aZ6 a b Z Z;have nq:=xU (Nat.div_le_self a b);have nr:=xU (Nat.mod_le a b);have tq:=aHF (a/b) Z;have tr:=aHF (a%b) Z;have hd0:eqS (Dn b) (ByteArray.mk #[48])=false:=by rw[aMA]; exact oF h
  unfold nQ;simp only[hd0,oD,hba,aD,ca,cb,cp]
  by_cases hlt:a<b
  ·rw[if_pos hlt];have:ltI (-1) 0=true:=rfl;rw[this,Nat.div_eq_of_lt hlt,Nat.mod_eq_of_lt hlt,<- bEF];rfl
  ·rw[if_neg hlt];have e1:ltI (if b<a then (1:Int) else 0) 0=false:=by
    rw[aE]; refine oF ?_;grind
   rw[e1,oD]
   by_cases h1:(pcs b).length=1
   ·have hbB:b<1000000000:=by have:=aOI b; rw[h1]at this; simpa using this
    have e2:eqI ((pcs b).length:Int) 1=true:=by rw[bP]; exact oT Z
    have e3:aF 0 (pcs b).length=true:=by rw[aK]; exact oT Z
    have e4:Nat.blt 0 (pcs b).length=true:=by rw[bW]; exact oT Z
    have e5:(pcs b).getD 0 0=(b:Int):=by rw[aPC]; simp; omega
    have sm:=aWO a (n:=b) ⟨by omega,hbB⟩ Z [];have hr:a%b<b:=Nat.mod_lt _ Z;rw[e2,e3,e4,e5];rw[sm,aD];rw[tq,aD];show (aC (uZ (((a%b:Nat):Int),())) _)=_;rw[MY _ Z,aD]
   ·have h0:0<(pcs b).length:=by rw[aGV h]; simp
    have e2:eqI ((pcs b).length:Int) 1=false:=by rw[bP]; exact oF Z
    have dv:=a2V a b Z Z Z [];rw[e2];rw[dv,aD];rw[tq,aD];show (aC (cR (pcs (a%b),())) _)=_;rw[tr,aD]
theorem aM9(x y:Int) (hx:Lib.nDigits x.natAbs<=400000) (hy:Lib.nDigits y.natAbs<=400000):SZ (Zn x,Zn y,())=some (Zn (x+y),()):=by
 have slow:(aC (cL (Zn x,())) λy4=>aC (cL (Zn y,())) λy5 =>
   bif y4.1 then
    bif y5.1 then
     aC (fE (y4.2.1,y5.2.1,())) λy6 =>
     aC (aA (y4.1,y6.1,())) λy7 =>
     some (y7.1,())
    else aC (fU (y4.2.1,y5.2.1,())) λy8 =>
    bif ltI y8.1 0 then
     aC (cS (y5.2.1,y4.2.1,())) λy9 =>
     aC (aA (y5.1,y9.1,())) λy10 =>
     some (y10.1,())
    else aC (cS (y4.2.1,y5.2.1,())) λy11 =>
    aC (aA (y4.1,y11.1,())) λy12 =>
    some (y12.1,())
   else bif y5.1 then
    aC (fU (y4.2.1,y5.2.1,())) λy13 =>
    bif ltI y13.1 0 then
     aC (cS (y5.2.1,y4.2.1,())) λy14 =>
     aC (aA (y5.1,y14.1,())) λy15 =>
     some (y15.1,())
    else aC (cS (y4.2.1,y5.2.1,())) λy16 =>
    aC (aA (y4.1,y16.1,())) λy17 =>
    some (y17.1,())
   else aC (fE (y4.2.1,y5.2.1,())) λy18 =>
   aC (aA (y4.1,y18.1,())) λy19 =>
   some (y19.1,()))=some (Zn (x+y),()):=by
  simp only[uX x,uX y,aD];have dg:∀ u:Nat,u<=x.natAbs+y.natAbs->Lib.nDigits u<2^32:=λu hu=>by
   have h1:=xU hu;have h2:=T5 x.natAbs y.natAbs;omega
  have cm:∀ a b:Nat,ltI (aDE a b) 0=decide (a<b):=λa b=>by
   rw[aE]; unfold aDE;grind
  rcases(by omega:x<0\/0<=x)with gx|gx
  ·rcases(by omega:y<0\/0<=y)with gy|gy
   ·simp only[gx,gy,decide_true,oC,QM _ _ (oR hx O) (oR hy O),aD,n9 (x.natAbs+y.natAbs) (dg _ Z)];grind
   ·have gy':¬ y<0:=Z
    simp only[gx,gy',decide_true,decide_false,oC,oD,wZ x.natAbs y.natAbs Z Z,aD,cm]
    by_cases g:x.natAbs<y.natAbs
    ·simp only[g,decide_true,oC,FC _ _ (oR hy O) (oR hx O) (Nat.le_of_lt g),aD,sH (y.natAbs-x.natAbs) (dg _ Z)];have:((y.natAbs-x.natAbs:Nat):Int)=x+y:=Z
     rw[this]
    ·simp only[g,decide_false,oD,FC _ _ (oR hx O) (oR hy O) (Nat.not_lt.1 g),aD,n9 (x.natAbs-y.natAbs) (dg _ Z)];have : -((x.natAbs-y.natAbs:Nat):Int)=x+y:=Z
     rw[this]
  ·have gx':¬ x<0:=Z
   rcases(by omega:y<0\/0<=y)with gy|gy
   ·simp only[gx',gy,decide_true,decide_false,oC,oD,wZ x.natAbs y.natAbs Z Z,aD,cm]
    by_cases g:x.natAbs<y.natAbs
    ·simp only[g,decide_true,oC,FC _ _ (oR hy O) (oR hx O) (Nat.le_of_lt g),aD,n9 (y.natAbs-x.natAbs) (dg _ Z)];have : -((y.natAbs-x.natAbs:Nat):Int)=x+y:=Z
     rw[this]
    ·simp only[g,decide_false,oD,FC _ _ (oR hx O) (oR hy O) (Nat.not_lt.1 g),aD,sH (x.natAbs-y.natAbs) (dg _ Z)];have:((x.natAbs-y.natAbs:Nat):Int)=x+y:=Z
     rw[this]
   ·have gy':¬ y<0:=Z
    simp only[gx',gy',decide_false,oD,QM _ _ (oR hx O) (oR hy O),aD,sH (x.natAbs+y.natAbs) (dg _ Z)];have:((x.natAbs+y.natAbs:Nat):Int)=x+y:=Z
    rw[this]
 unfold SZ;simp only[FP x 18 O,FP y 18 O,aD]
 by_cases g1:((Zn x).size:Int)<=18
 ·simp only[g1,if_true,aD,oC]
  by_cases g2:((Zn y).size:Int)<=18
  ·have h1:=aKB (ML (k:=18) g1);have h2:=aKB (ML (k:=18) g2);simp only[g2,if_true,aD,oC];rw[wrap64 Z Z,vQ _ Z Z];rfl
  ·simp only[g2,if_false,aD,oD];exact slow
 ·simp only[g1,if_false,aD,oD];exact slow
theorem aZ0 x y (hx:Lib.nDigits x.natAbs<=400000)(hy:Lib.nDigits y.natAbs<=400000):X0 (Zn x,Zn y,())=some (Zn (x-y),()):=by
 unfold X0;simp only[aQL y Z,aD];rw[aM9 x (-y) hx W];rfl
theorem aNN(x y:Int) (h:Lib.nDigits x.natAbs+Lib.nDigits y.natAbs<=400000):RV (Zn x,Zn y,())=some (Zn (x*y),()):=by
 have hab:(x*y).natAbs=x.natAbs*y.natAbs:=Int.natAbs_mul _ _;have slow:(aC (cL ((Zn x),())) λy14 =>
  aC (cL ((Zn y),())) λy15 =>
  bif y14.1 then
   bif y15.1 then
    aC (fF (y14.2.1,y15.2.1,())) λy16 =>
    aC (aA (false,y16.1,())) λy17 =>
    some (y17.1,())
   else aC (fF (y14.2.1,y15.2.1,())) λy18 =>
   aC (aA (true,y18.1,())) λy19 =>
   some (y19.1,())
  else bif y15.1 then
   aC (fF (y14.2.1,y15.2.1,())) λy20 =>
   aC (aA (true,y20.1,())) λy21 =>
   some (y21.1,())
  else aC (fF (y14.2.1,y15.2.1,())) λy22 =>
  aC (aA (false,y22.1,())) λy23 =>
  some (y23.1,()))=some (Zn (x*y),()):=by
  have dg:Lib.nDigits (x.natAbs*y.natAbs)<2^32:=by
   have:=aH0 x.natAbs y.natAbs;omega
  have dm:=aSX _ _ (oR h O);simp only[uX x,uX y,aD,dm];rcases(by omega:x<0\/0<=x)with gx|gx
  ·rcases(by omega:y<0\/0<=y)with gy|gy
   ·have:((x.natAbs*y.natAbs:Nat):Int)=x*y:=by
     grind
    simp only[gx,gy,decide_true,oC,sH _ dg,aD,this]
   ·have gy':¬ y<0:=Z
    have : -((x.natAbs*y.natAbs:Nat):Int)=x*y:=W
    simp only[gx,gy',decide_true,decide_false,oC,oD,n9 _ dg,aD,this]
  ·have gx':¬ x<0:=Z
   rcases(by omega:y<0\/0<=y)with gy|gy
   ·have : -((x.natAbs*y.natAbs:Nat):Int)=x*y:=by
     grind
    simp only[gx',gy,decide_true,decide_false,oC,oD,n9 _ dg,aD,this]
   ·have gy':¬ y<0:=Z
    have:((x.natAbs*y.natAbs:Nat):Int)=x*y:=W
    simp only[gx',gy',decide_false,oD,sH _ dg,aD,this]
 unfold RV;simp only[FP x 9 O,FP y 9 O,aD]
 by_cases g1:((Zn x).size:Int)<=9
 ·simp only[g1,if_true,aD,oC]
  by_cases g2:((Zn y).size:Int)<=9
  ·have h1:=j5 x.natAbs;have h2:=j5 y.natAbs;have h3:=ML (k:=9) g1;have h4:=ML (k:=9) g2;have hb:x.natAbs*y.natAbs<1000000000000000000:=by
    have h5:x.natAbs*y.natAbs<10^Lib.nDigits x.natAbs*10^Lib.nDigits y.natAbs:=Nat.mul_lt_mul'' h1 h2;rw[<- Nat.pow_add]at h5;have h6:10^(Lib.nDigits x.natAbs+Lib.nDigits y.natAbs)<=10^18:=Nat.pow_le_pow_right O Z;have h7:(10:Nat)^18=1000000000000000000:=O
    omega
   simp only[g2,if_true,aD,oC];rw[wrap64 Z Z,vQ _ Z Z];rfl
  ·simp only[g2,if_false,aD,oD];exact slow
 ·simp only[g1,if_false,aD,oD];exact slow
theorem aDX(x y:Int) (hx:Lib.nDigits x.natAbs<=400000) (hy:Lib.nDigits y.natAbs<=400000) (h0:y≠0):HS (Zn x,Zn y,())=some (Zn (x.fdiv y),Zn (x.fmod y),0,()):=by
 have slow:(aC (cL ((Zn x),())) λy68 =>
  aC (cL ((Zn y),())) λy69 =>
  aC (nQ (y68.2.1,y69.2.1,())) λy70 =>
  bif !(eqI y70.2.2.1 0) then
   some ((ByteArray.mk #[]),(ByteArray.mk #[]),y70.2.2.1,())
  else bif y68.1 then
   bif y69.1 then
    bif y68.1 then
     bif y69.1 then
      aC (aA (false,y70.1,())) λy71 =>
      aC (aA (y69.1,y70.2.1,())) λy72 =>
      some (y71.1,y72.1,0,())
     else aC (aA (true,y70.1,())) λy73 =>
     aC (aA (y69.1,y70.2.1,())) λy74 =>
     some (y73.1,y74.1,0,())
    else bif y69.1 then
     aC (aA (true,y70.1,())) λy75 =>
     aC (aA (y69.1,y70.2.1,())) λy76 =>
     some (y75.1,y76.1,0,())
    else aC (aA (false,y70.1,())) λy77 =>
    aC (aA (y69.1,y70.2.1,())) λy78 =>
    some (y77.1,y78.1,0,())
   else bif !(eqS y70.2.1 (ByteArray.mk #[48])) then
    aC (fE (y70.1,(ByteArray.mk #[49]),())) λy79 =>
    aC (cS (y69.2.1,y70.2.1,())) λy80 =>
    bif y68.1 then
     bif y69.1 then
      aC (aA (false,y79.1,())) λy81 =>
      aC (aA (y69.1,y80.1,())) λy82 =>
      some (y81.1,y82.1,0,())
     else aC (aA (true,y79.1,())) λy83 =>
     aC (aA (y69.1,y80.1,())) λy84 =>
     some (y83.1,y84.1,0,())
    else bif y69.1 then
     aC (aA (true,y79.1,())) λy85 =>
     aC (aA (y69.1,y80.1,())) λy86 =>
     some (y85.1,y86.1,0,())
    else aC (aA (false,y79.1,())) λy87 =>
    aC (aA (y69.1,y80.1,())) λy88 =>
    some (y87.1,y88.1,0,())
   else bif y68.1 then
    bif y69.1 then
     aC (aA (false,y70.1,())) λy89 =>
     aC (aA (y69.1,y70.2.1,())) λy90 =>
     some (y89.1,y90.1,0,())
    else aC (aA (true,y70.1,())) λy91 =>
    aC (aA (y69.1,y70.2.1,())) λy92 =>
    some (y91.1,y92.1,0,())
   else bif y69.1 then
    aC (aA (true,y70.1,())) λy93 =>
    aC (aA (y69.1,y70.2.1,())) λy94 =>
    some (y93.1,y94.1,0,())
   else aC (aA (false,y70.1,())) λy95 =>
   aC (aA (y69.1,y70.2.1,())) λy96 =>
   some (y95.1,y96.1,0,())
  else bif y69.1 then
   bif !(eqS y70.2.1 (ByteArray.mk #[48])) then
    aC (fE (y70.1,(ByteArray.mk #[49]),())) λy97 =>
    aC (cS (y69.2.1,y70.2.1,())) λy98 =>
    bif y68.1 then
     bif y69.1 then
      aC (aA (false,y97.1,())) λy99 =>
      aC (aA (y69.1,y98.1,())) λy100 =>
      some (y99.1,y100.1,0,())
     else aC (aA (true,y97.1,())) λy101 =>
     aC (aA (y69.1,y98.1,())) λy102 =>
     some (y101.1,y102.1,0,())
    else bif y69.1 then
     aC (aA (true,y97.1,())) λy103 =>
     aC (aA (y69.1,y98.1,())) λy104 =>
     some (y103.1,y104.1,0,())
    else aC (aA (false,y97.1,())) λy105 =>
    aC (aA (y69.1,y98.1,())) λy106 =>
    some (y105.1,y106.1,0,())
   else bif y68.1 then
    bif y69.1 then
     aC (aA (false,y70.1,())) λy107 =>
     aC (aA (y69.1,y70.2.1,())) λy108 =>
     some (y107.1,y108.1,0,())
    else aC (aA (true,y70.1,())) λy109 =>
    aC (aA (y69.1,y70.2.1,())) λy110 =>
    some (y109.1,y110.1,0,())
   else bif y69.1 then
    aC (aA (true,y70.1,())) λy111 =>
    aC (aA (y69.1,y70.2.1,())) λy112 =>
    some (y111.1,y112.1,0,())
   else aC (aA (false,y70.1,())) λy113 =>
   aC (aA (y69.1,y70.2.1,())) λy114 =>
   some (y113.1,y114.1,0,())
  else bif y68.1 then
   bif y69.1 then
    aC (aA (false,y70.1,())) λy115 =>
    aC (aA (y69.1,y70.2.1,())) λy116 =>
    some (y115.1,y116.1,0,())
   else aC (aA (true,y70.1,())) λy117 =>
   aC (aA (y69.1,y70.2.1,())) λy118 =>
   some (y117.1,y118.1,0,())
  else bif y69.1 then
   aC (aA (true,y70.1,())) λy119 =>
   aC (aA (y69.1,y70.2.1,())) λy120 =>
   some (y119.1,y120.1,0,())
  else aC (aA (false,y70.1,())) λy121 =>
  aC (aA (y69.1,y70.2.1,())) λy122 =>
  some (y121.1,y122.1,0,()))=some (Zn (x.fdiv y),Zn (x.fmod y),0,()):=by
  have dm:=aLM _ _ (oR hx O) (oR hy O) (show y.natAbs≠0 by omega);have ed:x.natAbs=y.natAbs*(x.natAbs/y.natAbs)+x.natAbs%y.natAbs:=(Nat.div_add_mod _ _).symm;have lm:x.natAbs%y.natAbs<y.natAbs:=Nat.mod_lt _ Z;have lq:x.natAbs/y.natAbs<=x.natAbs:=Nat.div_le_self _ _;have e00:eqI 0 0=true:=O
  simp only[uX x,uX y,aD,dm,e00,Bool.not_true,oD,aMA,bG9];generalize x.natAbs/y.natAbs=q at *;generalize x.natAbs%y.natAbs=r at *;have dg:∀ u:Nat,u<=x.natAbs+y.natAbs+1->Lib.nDigits u<2^32:=λu hu=>by
   have h1:=xU hu;have h2:=T5 x.natAbs y.natAbs;have h3:=T5 (x.natAbs+y.natAbs) 1;have h4:Lib.nDigits 1=1:=Lib.nDigits_small O;omega
  have d18:∀ u:Nat,u<=x.natAbs\/u<=y.natAbs->Lib.nDigits u<=900000:=λu hu=>by
   rcases hu with h|h
   ·have:=xU h; omega
   ·have:=xU h; omega
  have edI:(x.natAbs:Int)=(y.natAbs:Int)*(q:Int)+(r:Int):=by rw[ed]; simp
  rcases(by omega:x<0\/0<=x)with gx|gx
  ·rcases(by omega:y<0\/0<=y)with gy|gy
   ·simp only[gx,gy,decide_true,oC,sH q (dg _ Z),n9 r (dg _ Z),aD];have ex:x=y*(q:Int) + -(r:Int):=by
     have a1:(x.natAbs:Int) = -x:=Z
     have a2:(y.natAbs:Int) = -y:=Z
     rw[a1,a2]at edI;grind
    obtain⟨u1,u2⟩:=p6 ex Z Z h0;rw[u1,u2]
   ·have gy':¬ y<0:=Z
    by_cases hr:r=0
    ·simp only[gx,gy',hr,decide_true,decide_false,Bool.not_true,oC,oD,n9 q (dg _ Z),sH 0 (dg _ Z),aD];have ex:x=y * -(q:Int)+((0:Nat):Int):=by
      have a1:(x.natAbs:Int) = -x:=Z
      have a2:(y.natAbs:Int)=y:=Z
      rw[a1,a2,hr]at edI;grind
     obtain⟨u1,u2⟩:=p6 ex Z Z h0;rw[u1,u2]
    ·simp only[gx,gy',hr,decide_true,decide_false,Bool.not_false,Bool.not_true,oC,oD,QM q 1 (d18 _ Z) (d18 _ Z),FC y.natAbs r (oR hy O) (d18 _ Z) (Nat.le_of_lt lm),n9 (q+1) (dg _ Z),sH (y.natAbs-r) (dg _ Z),aD];have ex:x=y * -((q+1:Nat):Int)+((y.natAbs-r:Nat):Int):=by
      have a1:(x.natAbs:Int) = -x:=Z
      have a2:(y.natAbs:Int)=y:=Z
      have a3:((y.natAbs-r:Nat):Int)=y-r:=Z
      have a4:((q+1:Nat):Int)=(q:Int)+1:=Z
      rw[a1,a2]at edI;rw[a3,a4];grind
     obtain⟨u1,u2⟩:=p6 ex Z Z h0;rw[u1,u2]
  ·have gx':¬ x<0:=Z
   rcases(by omega:y<0\/0<=y)with gy|gy
   ·by_cases hr:r=0
    ·simp only[gx',gy,hr,decide_true,decide_false,Bool.not_true,oC,oD,n9 q (dg _ Z),n9 0 (dg _ Z),aD];have ex:x=y * -(q:Int) + -((0:Nat):Int):=by
      have a1:(x.natAbs:Int)=x:=Z
      have a2:(y.natAbs:Int) = -y:=Z
      rw[a1,a2,hr]at edI;grind
     obtain⟨u1,u2⟩:=p6 ex Z Z h0;rw[u1,u2]
    ·simp only[gx',gy,hr,decide_true,decide_false,Bool.not_false,Bool.not_true,oC,oD,QM q 1 (d18 _ Z) (d18 _ Z),FC y.natAbs r (oR hy O) (d18 _ Z) (Nat.le_of_lt lm),n9 (q+1) (dg _ Z),n9 (y.natAbs-r) (dg _ Z),aD];have ex:x=y * -((q+1:Nat):Int) + -((y.natAbs-r:Nat):Int):=by
      have a1:(x.natAbs:Int)=x:=Z
      have a2:(y.natAbs:Int) = -y:=Z
      have a3:((y.natAbs-r:Nat):Int) = -y-r:=Z
      have a4:((q+1:Nat):Int)=(q:Int)+1:=Z
      rw[a1,a2]at edI;rw[a3,a4];grind
     obtain⟨u1,u2⟩:=p6 ex Z Z h0;rw[u1,u2]
   ·have gy':¬ y<0:=Z
    simp only[gx',gy',decide_true,decide_false,oD,sH q (dg _ Z),sH r (dg _ Z),aD];have ex:x=y*(q:Int)+(r:Int):=by
     have a1:(x.natAbs:Int)=x:=Z
     have a2:(y.natAbs:Int)=y:=Z
     rw[a1,a2]at edI;exact edI
    obtain⟨u1,u2⟩:=p6 ex Z Z h0;rw[u1,u2]
 unfold HS;simp only[FP x 18 O,FP y 18 O,aD,TS,h0,decide_false,oD]
 by_cases g1:((Zn x).size:Int)<=18
 ·simp only[g1,if_true,aD,oC]
  by_cases g2:((Zn y).size:Int)<=18
  ·have b1:=aKB (ML (k:=18) g1);have b2:=aKB (ML (k:=18) g2);simp only[g2,if_true,aD,oC];have e1:eqI y 0=false:=by rw[bP]; simp[h0]
   have t1:x=y*x.tdiv y+x.tmod y:=(Int.mul_tdiv_add_tmod x y).symm;have t2:(x.tmod y).natAbs<y.natAbs:=by rw[Int.natAbs_tmod]; exact Nat.mod_lt _ Z
   have t3:(x.tdiv y).natAbs<=x.natAbs:=by rw[Int.natAbs_tdiv]; exact Nat.div_le_self _ _
   have t4:0<=x->0<=x.tmod y:=λh=>Int.tmod_nonneg y h
   have t5:x<=0->x.tmod y<=0:=λh=>by
    have:=Int.tmod_nonneg (a:=-x) y Z;rw[Int.neg_tmod]at this;omega
   simp only[e1,oD,bP,aE];generalize x.tdiv y=q at *;generalize x.tmod y=r at *
   by_cases hr:r=0
   ·obtain⟨u1,u2⟩:=p6 (x:=x) (y:=y) (f:=q) (g:=r) t1 Z Z h0;simp only[hr,decide_true,Bool.not_true,oD];rw[wrap64 Z Z,vQ _ Z Z,aD,vQ _ Z Z,aD,u1,u2,hr]
   ·simp only[hr,decide_false,Bool.not_false,oC]
    by_cases r1:r<0
    ·by_cases y1:y<0
     ·obtain⟨u1,u2⟩:=p6 (x:=x) (y:=y) (f:=q) (g:=r) t1 Z Z h0;simp only[r1,y1,decide_true,oC];rw[wrap64 Z Z,vQ _ Z Z,aD,vQ _ Z Z,aD,u1,u2]
     ·obtain⟨u1,u2⟩:=p6 (x:=x) (y:=y) (f:=q-1) (g:=r+y) W Z Z h0;simp only[r1,y1,decide_true,decide_false,oC,oD];rw[wrap64 (x:=q) Z Z,wrap64 Z Z,vQ _ Z Z,aD,wrap64 Z Z,vQ _ Z Z,aD,u1,u2]
    ·by_cases y1:y<0
     ·obtain⟨u1,u2⟩:=p6 (x:=x) (y:=y) (f:=q-1) (g:=r+y) W Z Z h0;simp only[r1,y1,decide_true,decide_false,oC,oD];rw[wrap64 (x:=q) Z Z,wrap64 Z Z,vQ _ Z Z,aD,wrap64 Z Z,vQ _ Z Z,aD,u1,u2]
     ·obtain⟨u1,u2⟩:=p6 (x:=x) (y:=y) (f:=q) (g:=r) t1 Z Z h0;simp only[r1,y1,decide_false,oD];rw[wrap64 Z Z,vQ _ Z Z,aD,vQ _ Z Z,aD,u1,u2]
  ·simp only[g2,if_false,aD,oD];exact slow
 ·simp only[g1,if_false,aD,oD];exact slow
end Go.PM
namespace Go.Lz
abbrev V:=Nat->Int
inductive Sp (k:Nat) (M:Nat->V):V->Prop
 | zero:Sp k M (λ_=>0)
 | add {v:V} (j:Nat) (t:Int):j<k->Sp k M v->Sp k M (λi=>v i+t*M j i)
theorem Sp.mem {k M j}(h:j<k):Sp k M (M j):=by
 have:=Sp.add j 1 h (Sp.zero (M:=M));grind
theorem Sp.comb {k M u v} t (hu:Sp k M u)(hv:Sp k M v):Sp k M (λi=>u i+t*v i):=by
 induction hv with
 | zero=>grind
 | add j s hj _ ih =>
  have:=Sp.add j (t*s) hj ih;grind
theorem Sp.smul {k M v} t (hv:Sp k M v):Sp k M (λi=>t*v i):=by
 have:=Sp.comb t Sp.zero hv;grind
theorem Sp.sub {k M u v}(hu:Sp k M u)(hv:Sp k M v):Sp k M (λi=>u i-v i):=by
 have:=Sp.comb (-1) hu hv;grind
theorem Sp.trans {k k' M M'}(h:∀ j,j<k->Sp k' M' (M j)){v}(hv:Sp k M v):Sp k' M' v:=by
 induction hv with
 | zero=>exact .zero
 | add j t hj _ ih=>exact Sp.comb t ih (h j hj)
theorem Sp.aB7 {k M x}(h:∀ j,j<k->M j x=0){v}(hv:Sp k M v):v x=0:=by
 induction hv with
 | zero=>rfl
 | add j t hj _ ih=>grind
def Same(k:Nat) (M:Nat->V) (k':Nat) (M':Nat->V):Prop:=∀ v,Sp k M v↔Sp k' M' v
theorem Same.refl k M:Same k M k M:=λ_=>Iff.rfl
theorem Same.symm {k k' M M'}(h:Same k M k' M'):Same k' M' k M:=λv=>(h v).symm
theorem Same.trans {k k' k'' M M' M''}(h:Same k M k' M')(g:Same k' M' k'' M''):Same k M k'' M'':=λv=>(h v).trans (g v)
theorem Same.of {k k' M M'}(h:∀ j,j<k->Sp k' M' (M j))(g:∀ j,j<k'->Sp k M (M' j)):Same k M k' M':=λ_=>⟨Sp.trans h,Sp.trans g⟩
theorem Sp.first {k:Nat} {M:Nat->V} {v:V} (h:Sp (k+1) M v):∃ t u,Sp k (λi=>M (i+1)) u/\v=λi=>u i+t*M 0 i:=by
 induction h with
 | zero=>exact⟨0,λ_=>0,.zero,by funext i; simp⟩
 | add j s hj _ ih =>
  obtain⟨t,u,hu,rfl⟩:=ih;cases j with
  | zero=>exact⟨t+s,u,hu,by funext i; grind⟩
  | succ j=>exact⟨t,_,Sp.add j s Z hu,by funext i; grind⟩
theorem Sp.behind {k M u}(h:Sp k (λi=>M (i+1)) u):Sp (k+1) M u :=
 Sp.trans (λj hj=>Sp.mem Z) h
structure Hn (k:Nat) (M:Nat->V) (c:Nat->Nat):Prop where
 inc:∀ i j,i<j->j<k->c i<c j
 low:∀ i,i<k->∀ x,x<c i->M i x=0
 pos:∀ i,i<k->0<M i (c i)
 red:∀ i j,i<j->j<k->0<=M i (c j)/\M i (c j)<M j (c j)
theorem Hn.tail {k M c}(h:Hn (k+1) M c):Hn k (λi=>M (i+1)) (λi=>c (i+1)) where
 inc:=λi j hij hj=>h.inc _ _ Z Z
 low:=λi hi=>h.low _ Z
 pos:=λi hi=>h.pos _ Z
 red:=λi j hij hj=>h.red _ _ Z Z
theorem Hn.aK8 {k M c}(h:Hn (k+1) M c){u}(hu:Sp k (λi=>M (i+1)) u){x}(hx:x<=c 0):u x=0 :=
 Sp.aB7 (λj hj=>h.low (j+1) Z x (by have:=h.inc 0 (j+1) R Z; omega)) hu
theorem Hn.small:∀ {k:Nat} {M:Nat->V} {c:Nat->Nat},Hn k M c->∀ {v:V},Sp k M v->(∀ i,i<k->-(M i (c i))<v (c i)/\v (c i)<M i (c i))->v=λ_=>0
 | 0,M,c,h,v,hv,_=>by
  cases hv with
  | zero=>rfl
  | add j t hj _=>omega
 | k+1,M,c,h,v,hv,hs=>by
  obtain⟨t,u,hu,rfl⟩:=hv.first;have h0:=h.aK8 hu (Nat.le_refl _);have hs0:=hs 0 Z;simp only[h0,Int.zero_add]at hs0;have ht:t=0:=by
   rcases Int.lt_trichotomy t 0 with h1|h1|h1
   ·have:t*M 0 (c 0)<=(-1)*M 0 (c 0):=Int.mul_le_mul_of_nonneg_right Z Z;omega
   ·exact h1
   ·have:1*M 0 (c 0)<=t*M 0 (c 0):=Int.mul_le_mul_of_nonneg_right Z Z;omega
  subst ht;have e:(λi=>u i+0*M 0 i)=u:=by funext i; simp
  rw[e]at hs ⊢;exact Hn.small h.tail hu λi hi=>hs (i+1) Z
theorem Hn.unique:∀ {k k':Nat} {M M':Nat->V} {c c':Nat->Nat},Hn k M c->Hn k' M' c'->Same k M k' M'->k=k'/\(∀ i,i<k->c i=c' i)/\∀ i,i<k->M i=M' i
 | 0,0,_,_,_,_,_,_,_=>⟨rfl,λi hi=>by omega,λi hi=>by omega⟩
 | 0,k'+1,M,M',c,c',h,h',e=>by
  have:=Hn.small h ((e _).2 (Sp.mem (M:=M') (Nat.succ_pos k'))) (λi hi=>by omega);have hp:=h'.pos 0 Z;grind
 | k+1,0,M,M',c,c',h,h',e=>by
  have:=Hn.small h' ((e _).1 (Sp.mem (M:=M) (Nat.succ_pos k))) (λi hi=>by omega);have hp:=h.pos 0 Z;grind
 | k+1,k'+1,M,M',c,c',h,h',e=>by
  have hp:=h.pos 0 Z;have hp':=h'.pos 0 Z;obtain⟨t,u,hu,ht⟩:=Sp.first ((e _).1 (Sp.mem (M:=M) (Nat.succ_pos k)));obtain⟨t',u',hu',ht'⟩:=Sp.first ((e _).2 (Sp.mem (M:=M') (Nat.succ_pos k')));have hc:c 0=c' 0:=by
   rcases Nat.lt_trichotomy (c 0) (c' 0)with h1|h1|h1
   ·exfalso;have a1:=congrFun ht (c 0);have a2:=h'.aK8 hu (x:=c 0) Z;have a3:=h'.low 0 Z _ h1;grind
   ·exact h1
   ·exfalso;have a1:=congrFun ht' (c' 0);have a2:=h.aK8 hu' (x:=c' 0) Z;have a3:=h.low 0 Z _ h1;grind
  have e1:M 0 (c 0)=t*M' 0 (c 0):=by
   have a1:=congrFun ht (c 0);have a2:=h'.aK8 hu (x:=c 0) Z;grind
  have e2:M' 0 (c 0)=t'*M 0 (c 0):=by
   have a1:=congrFun ht' (c 0);have a2:=h.aK8 hu' (x:=c 0) Z;grind
  rw[<- hc]at hp';have e3:M 0 (c 0)=M' 0 (c 0):=Int.le_antisymm (Int.le_of_dvd hp' ⟨t',by rw[e2]; exact Int.mul_comm _ _⟩) (Int.le_of_dvd hp ⟨t,by rw[e1]; exact Int.mul_comm _ _⟩);have tails:Same k (λi=>M (i+1)) k' (λi=>M' (i+1)):=by
   intro v;constructor
   ·intro hv;obtain⟨s,w,hw,rfl⟩:=Sp.first ((e _).1 hv.behind);have a1:=h.aK8 hv (Nat.le_refl _);have a2:=h'.aK8 hw (x:=c 0) Z;simp only[a2,Int.zero_add]at a1;have:s=0:=by
     rcases Int.mul_eq_zero.1 a1 with h1|h1
     ·exact h1
     ·omega
    subst this;grind
   ·intro hv;obtain⟨s,w,hw,rfl⟩:=Sp.first ((e _).2 hv.behind);have a1:=h'.aK8 hv (x:=c 0) Z;have a2:=h.aK8 hw (x:=c 0) Z;simp only[a2,Int.zero_add]at a1;have:s=0:=by
     rcases Int.mul_eq_zero.1 a1 with h1|h1
     ·exact h1
     ·omega
    subst this;have e:(λi=>w i+0*M 0 i)=w:=by funext i; simp
    rw[e]; exact hw
  obtain⟨q1,q2,q3⟩:=Hn.unique h.tail h'.tail tails;subst q1;have hd:Sp k (λi=>M (i+1)) (λx=>M 0 x-M' 0 x):=by
   obtain⟨s,w,hw,hs⟩:=Sp.first (Sp.sub (Sp.mem (M:=M) (Nat.succ_pos k)) ((e _).2 (Sp.mem (M:=M') (Nat.succ_pos k))));have a1:=congrFun hs (c 0);have a2:=h.aK8 hw (Nat.le_refl _);simp only[a2,e3,Int.zero_add,Int.sub_self]at a1;have:s=0:=by
    rcases Int.mul_eq_zero.1 a1.symm with h1|h1
    ·exact h1
    ·omega
   subst this;have e:(λi=>w i+0*M 0 i)=w:=by funext i; simp
   rw[hs,e]; exact hw
  have hz:=Hn.small h.tail hd (λi hi=>by
   have r1:=h.red 0 (i+1) Z Z;have r2:=h'.red 0 (i+1) Z Z;have r3:=q2 i hi;have r4:=congrFun (q3 i hi) (c (i+1));rw[<- r3]at r2;rw[<- r4]at r2;constructor <;> omega)
  refine⟨rfl,λi hi=>?_,λi hi=>?_⟩
  ·cases i with
   | zero=>exact hc
   | succ i=>exact q2 i Z
  ·cases i with
   | zero =>
    funext x
    have:=congrFun hz x;omega
   | succ i=>exact q3 i Z
def up(M:Nat->V) (i:Nat) (r:V):Nat->V:=λj=>if j=i then r else M j
theorem US M i r:up M i r i=r:=by simp[up]
theorem KJ M {i j} r (h:j≠i):up M i r j=M j:=by simp[up,h]
def swp(M:Nat->V)(a b:Nat):Nat->V:=λj=>if j=a then M b else if j=b then M a else M j
theorem a6J {k a b} M (ha:a<k)(hb:b<k):Same k M k (swp M a b):=by
 refine Same.of (λj hj=>?_) (λj hj=>?_)
 ·by_cases h1:j=a
  ·subst h1
   by_cases h2:b=j
   ·have:=Sp.mem (M:=swp M j b) ha;simp only[swp,h2]at this ⊢;exact this
   ·have:=Sp.mem (M:=swp M j b) hb;simp only[swp,h2]at this ⊢;exact this
  ·by_cases h2:j=b
   ·subst h2;have:=Sp.mem (M:=swp M a j) ha;simp only[swp]at this ⊢;grind
   ·have:=Sp.mem (M:=swp M a b) hj;simp only[swp]at this ⊢;grind
 ·unfold swp;split
  ·exact Sp.mem hb
  ·split
   ·exact Sp.mem ha
   ·exact Sp.mem hj
theorem aR7 {k i d} M q (hi:i<k)(hd:d<k)(hne:i≠d):Same k M k (up M i λx=>M i x-q*M d x):=by
 refine Same.of (λj hj=>?_) (λj hj=>?_)
 ·by_cases h:j=i
  ·subst h;have h1:=Sp.mem (M:=up M j λx=>M j x-q*M d x) hj;have h2:=Sp.mem (M:=up M j λx=>M j x-q*M d x) hd;rw[US]at h1;rw[KJ _ _ (Ne.symm hne)]at h2;have:=Sp.comb q h1 h2;grind
  ·have:=Sp.mem (M:=up M i λx=>M i x-q*M d x) hj;rwa[KJ _ _ h]at this
 ·by_cases h:j=i
  ·subst h;rw[US];have:=Sp.comb (-q) (Sp.mem hj) (Sp.mem (M:=M) hd);grind
  ·rw[KJ _ _ h]; exact Sp.mem hj
theorem a8B {k i} M (hi:i<k):Same k M k (up M i λx=>-(M i x)):=by
 refine Same.of (λj hj=>?_) (λj hj=>?_)
 ·by_cases h:j=i
  ·subst h;have h1:=Sp.mem (M:=up M j λx=>-(M j x)) hj;rw[US]at h1;have:=Sp.smul (-1) h1;grind
  ·have:=Sp.mem (M:=up M i λx=>-(M i x)) hj;rwa[KJ _ _ h]at this
 ·by_cases h:j=i
  ·subst h;rw[US];have:=Sp.smul (-1) (Sp.mem (M:=M) hj);grind
  ·rw[KJ _ _ h]; exact Sp.mem hj
theorem a8D {k d:Nat} (M:Nat->V) (hd:d<=k) (h:∀ i,d<=i->i<k->M i=λ_=>0):Same k M d M:=by
 refine Same.of (λj hj=>?_) (λj hj=>Sp.mem Z);rcases Nat.lt_or_ge j d with h1|h1
 ·exact Sp.mem h1
 ·rw[h j h1 hj]; exact .zero
structure Fo (k:Nat) (M0 M:Nat->V) (d c:Nat) (p:Nat->Nat):Prop where
 le:d<=k
 same:Same k M0 k M
 inc:∀ i j,i<j->j<d->p i<p j
 lt:∀ i,i<d->p i<c
 low:∀ i,i<d->∀ x,x<p i->M i x=0
 pos:∀ i,i<d->0<M i (p i)
 red:∀ i j,i<j->j<d->0<=M i (p j)/\M i (p j)<M j (p j)
 rest:∀ i,d<=i->i<k->∀ x,x<c->M i x=0
theorem Fo.start k M:Fo k M M 0 0 (λ_=>0) where
 le:=Nat.zero_le _
 same:=Same.refl _ _
 inc:=λi j _ h=>Z
 lt:=λi h=>Z
 low:=λi h=>R
 pos:=λi h=>Z
 red:=λi j _ h=>Z
 rest:=λi _ _ x h=>Z
section
variable {k d c:Nat} {M0 M:Nat->V} {p:Nat->Nat}
theorem Fo.aK0 (h:Fo k M0 M d c p) {M':Nat->V} (hs:Same k M k M') (h1:∀ i,i<d->M' i=M i) (h2:∀ i,d<=i->i<k->∀ x,x<c->M' i x=0):Fo k M0 M' d c p where
 le:=h.le
 same:=h.same.trans hs
 inc:=h.inc
 lt:=h.lt
 low:=λi hi=>by rw[h1 i hi]; exact h.low i hi
 pos:=λi hi=>by rw[h1 i hi]; exact h.pos i hi
 red:=λi j hij hj=>by rw[h1 i Z,h1 j hj]; exact h.red i j hij hj
 rest:=h2
theorem Fo.swap (h:Fo k M0 M d c p){a}(ha:d<=a)(hk:a<k):Fo k M0 (swp M d a) d c p:=by
 refine h.aK0 (a6J M Z hk) (λi hi=>?_) (λi h1 h2 x hx=>?_)
 ·have e1:¬ i=d:=Z
  have e2:¬ i=a:=Z
  simp only[swp,e1,e2,if_false]
 ·unfold swp;split
  ·exact h.rest a ha hk x hx
  ·split
   ·exact h.rest d (Nat.le_refl _) Z x hx
   ·exact h.rest i h1 h2 x hx
theorem Fo.less (h:Fo k M0 M d c p){i} q (hi:d<i)(hk:i<k):Fo k M0 (up M i λx=>M i x-q*M d x) d c p:=by
 refine h.aK0 (aR7 M q hk Z Z) (λj hj=>KJ _ _ Z) (λj h1 h2 x hx=>?_)
 by_cases e:j=i
 ·subst e;rw[US,h.rest j h1 h2 x hx,h.rest d (Nat.le_refl _) Z x hx];simp
 ·rw[KJ _ _ e]; exact h.rest j h1 h2 x hx
theorem Fo.neg (h:Fo k M0 M d c p)(hk:d<k):Fo k M0 (up M d λx=>-(M d x)) d c p:=by
 refine h.aK0 (a8B M hk) (λj hj=>KJ _ _ Z) (λj h1 h2 x hx=>?_)
 by_cases e:j=d
 ·subst e;rw[US,h.rest j h1 h2 x hx];rfl
 ·rw[KJ _ _ e]; exact h.rest j h1 h2 x hx
theorem Fo.skip (h:Fo k M0 M d c p) (hz:∀ i,d<=i->i<k->M i c=0):Fo k M0 M d (c+1) p where
 le:=h.le
 same:=h.same
 inc:=h.inc
 lt:=λi hi=>by have:=h.lt i hi; omega
 low:=h.low
 pos:=h.pos
 red:=h.red
 rest:=λi h1 h2 x hx=>by
  rcases Nat.lt_or_ge x c with h3|h3
  ·exact h.rest i h1 h2 x h3
  ·grind
structure Fp (k:Nat) (M0 M:Nat->V) (d c:Nat) (p:Nat->Nat) (m:Nat):Prop extends Fo k M0 M d c p where
 dk:d<k
 piv:0<M d c
 below:∀ i,d<i->i<k->M i c=0
 up:∀ i,i<m->0<=M i c/\M i c<M d c
theorem Fp.less {m}(h:Fp k M0 M d c p m)(hm:m<d):Fp k M0 (Lz.up M m λx=>M m x-(M m c).fdiv (M d c)*M d x) d c p (m+1):=by
 have hd0:∀ x,x<c->M d x=0:=h.rest d (Nat.le_refl _) h.dk;have hr:∀ x,x<c->∀ i,Lz.up M m (λx=>M m x-(M m c).fdiv (M d c)*M d x) i x=M i x:=by
  intro x hx i
  by_cases e:i=m
  ·subst e;rw[US,hd0 x hx]; simp
  ·rw[KJ _ _ e]
 have hne:∀ i,i≠m->Lz.up M m (λx=>M m x-(M m c).fdiv (M d c)*M d x) i=M i:=λi e=>KJ _ _ e
 refine { le:=h.le,same:=h.same.trans (aR7 M _ (by have:=h.le; omega) h.dk Z),inc:=h.inc,lt:=h.lt,low:=λi hi x hx=>?_,pos:=λi hi=>?_,red:=λi j hij hj=>?_,rest:=λi h1 h2 x hx=>?_,dk:=h.dk,piv:=?_,below:=λi h1 h2=>?_,up:=λi hi=>?_ }
 ·rw[hr x (by have:=h.lt i hi; omega)]; exact h.low i hi x hx
 ·rw[hr _ (h.lt i hi)]; exact h.pos i hi
 ·rw[hr _ (h.lt j hj),hr _ (h.lt j hj)]; exact h.red i j hij hj
 ·rw[hr x hx]; exact h.rest i h1 h2 x hx
 ·rw[hne d Z]; exact h.piv
 ·rw[hne i Z]; exact h.below i h1 h2
 ·rw[hne d Z]
  by_cases e:i=m
  ·subst e;rw[US];have h1:=Int.fmod_def (M i c) (M d c);have h2:=Int.fmod_nonneg_of_pos (M i c) h.piv;have h3:=Int.fmod_lt_of_pos (M i c) h.piv;grind
  ·rw[hne i e]; exact h.up i Z
theorem Fp.done (h:Fp k M0 M d c p d):Fo k M0 M (d+1) (c+1) (λi=>if i=d then c else p i):=by
 have hp:∀ i,i<d->(if i=d then c else p i)=p i:=λi hi=>by rw[if_neg Z]
 refine { le:=h.dk,same:=h.same,inc:=λi j hij hj=>?_,lt:=λi hi=>?_,low:=λi hi x hx=>?_,pos:=λi hi=>?_,red:=λi j hij hj=>?_,rest:=λi h1 h2 x hx=>?_ }
 ·rw[hp i Z]
  by_cases e:j=d
  ·subst e; rw[if_pos rfl]; exact h.lt i hij
  ·rw[if_neg e]; exact h.inc i j hij Z
 ·by_cases e:i=d
  ·grind
  ·rw[if_neg e]; have:=h.lt i Z; omega
 ·by_cases e:i=d
  ·subst e; rw[if_pos rfl]at hx; exact h.rest i (Nat.le_refl _) h.dk x hx
  ·rw[if_neg e]at hx; exact h.low i Z x hx
 ·by_cases e:i=d
  ·subst e; rw[if_pos rfl]; exact h.piv
  ·rw[if_neg e]; exact h.pos i Z
 ·by_cases e:j=d
  ·subst e; rw[if_pos rfl]; exact h.up i hij
  ·rw[if_neg e]; exact h.red i j hij Z
 ·rcases Nat.lt_or_ge x c with h3|h3
  ·exact h.rest i Z h2 x h3
  ·have:x=c:=Z
   subst this;exact h.below i Z h2
theorem Fo.hn (h:Fo k M0 M d c p) (hz:d=k\/∀ i,i<k->∀ x,c<=x->M i x=0):Hn d M p/\Same k M0 d M:=by
 refine⟨⟨h.inc,h.low,h.pos,h.red⟩,h.same.trans ?_⟩;rcases hz with rfl|hz
 ·exact Same.refl _ _
 ·refine a8D M h.le λi h1 h2=>?_
  funext x
  rcases Nat.lt_or_ge x c with h3|h3
  ·exact h.rest i h1 h2 x h3
  ·grind
end
def dot:Nat->V->V->Int
 | 0,_,_=>0
 | n+1,a,b=>dot n a b+a n*b n
theorem JV a b:∀ n,dot n a b=dot n b a
 | 0=>rfl
 | n+1=>by rw[dot,dot,JV a b n,Int.mul_comm]
theorem aBQ u v b t:∀ n,dot n (λi=>u i+t*v i) b=dot n u b+t*dot n v b
 | 0=>by simp[dot]
 | n+1=>by
  rw[dot,dot,dot,aBQ u v b t n];grind
theorem aHA b:∀ n,dot n (λ_=>0) b=0
 | 0=>rfl
 | n+1=>by rw[dot,aHA b n]; simp
def Ker(n m:Nat) (A:Nat->V) (y:V):Prop:=(∀ c,n<=c->y c=0)/\∀ x,x<m->dot n y (A x)=0
theorem Ker.span {n m A y}(h:Ker n m A y){v}(hv:Sp m A v):dot n y v=0:=by
 induction hv with
 | zero=>rw[JV]; exact aHA _ _
 | add j t hj _ ih=>rw[JV,aBQ,JV _ y,ih,JV _ y,h.2 j hj]; simp
theorem Ker.a1Z {n m A y}(h1:∀ c,n<=c->y c=0)(h2:∀ v,Sp m A v->dot n y v=0):Ker n m A y:=⟨h1,λx hx=>h2 _ (Sp.mem hx)⟩
theorem Ker.same {n m m' A A'}(h:Same m A m' A'){y}:Ker n m A y↔Ker n m' A' y :=
 ⟨λg=>.a1Z g.1 λv hv=>g.span ((h v).2 hv),λg=>.a1Z g.1 λv hv=>g.span ((h v).1 hv)⟩
def xP(n m:Nat) (A:Nat->V) (k:Nat) (K:Nat->V):Prop:=∀ y,Sp k K y↔Ker n m A y
theorem xP.width {n m k A K}(h:xP n m A k K){i}(hi:i<k):∀ c,n<=c->K i c=0:=((h _).1 (Sp.mem hi)).1
def wide(n m:Nat) (A:Nat->V):Nat->V:=λc x=>if x<m then A x c else if x=m+c then 1 else 0
theorem aW5 {n m A} y:∀ j,j<=n->Sp n (wide n m A) (λx=>if x<m then dot j y (A x) else if x<m+j then y (x-m) else 0)
 | 0,_=>by
  refine cast (congrArg _ ?_) Sp.zero
  funext x
  split
  ·rfl
  grind
 | j+1,h=>by
  have:=Sp.comb (y j) (aW5 y j Z) (Sp.mem (M:=wide n m A) (show j<n by omega));refine cast (congrArg _ ?_) this
  funext x
  simp only[wide];split
  ·rfl
  ·grind
theorem bAZ {n m A v}(h:Sp n (wide n m A) v):(∀ x,x<m->v x=dot n (λc=>v (m+c)) (A x))/\∀ c,n<=c->v (m+c)=0:=by
 have unit:∀ (j:Nat) (b:V),∀ n,dot n (λc=>if m+c=m+j then (1:Int) else 0) b=if j<n then b j else 0:=by
  intro j b n
  induction n with
  | zero=>rfl
  | succ n ih =>
   rw[dot,ih];grind
 induction h with
 | zero=>exact⟨λx _=>(aHA _ _).symm,λ_ _=>rfl⟩
 | add j t hj _ ih =>
  obtain⟨h1,h2⟩:=ih;refine⟨λx hx=>?_,λc hc=>?_⟩
  ·rw[aBQ,<- h1 x hx];have e:(λc=>wide n m A j (m+c))=λc=>if m+c=m+j then 1 else 0:=by
    funext c
    have:¬ m+c<m:=Z
    simp only[wide,this,if_false]
   rw[e,unit,if_pos hj];simp only[wide,hx,if_true]
  ·have h3:=h2 c hc;have e1:¬ m+c<m:=Z
   have e2:¬ m+c=m+j:=Z
   simp only[wide,e1,e2,if_false,Int.mul_zero,Int.add_zero,h3]
theorem Hn.drop:∀ {j k:Nat} {M:Nat->V} {p:Nat->Nat} {m:Nat},Hn k M p->j<=k->(∀ i,i<j->p i<m)->∀ {v:V},Sp k M v->(∀ x,x<m->v x=0)->Sp (k-j) (λi=>M (j+i)) v
 | 0,k,M,p,m,h,_,_,v,hv,_=>W
 | j+1,0,M,p,m,h,hj,_,v,hv,_=>Z
 | j+1,k+1,M,p,m,h,hj,hp,v,hv,hz=>by
  obtain⟨t,u,hu,rfl⟩:=hv.first;have h0:=hz (p 0) (hp 0 Z);have h1:=h.aK8 hu (Nat.le_refl _);have h2:=h.pos 0 Z;simp only[h1,Int.zero_add]at h0;have ht:t=0:=by
   rcases Int.mul_eq_zero.1 h0 with h3|h3
   ·exact h3
   ·omega
  subst ht;have e:(λi=>u i+0*M 0 i)=u:=by funext i; simp
  rw[e]at hz ⊢;have:=Hn.drop (j:=j) h.tail Z (λi hi=>hp (i+1) Z) hu hz;grind
theorem a4Z {n m k j:Nat} {A W:Nat->V} {p:Nat->Nat} (h:Hn k W p) (hs:Same n (wide n m A) k W) (hj:j<=k) (h1:∀ i,i<j->p i<m) (h2:∀ i,j<=i->i<k->m<=p i) :
  xP n m A (k-j) (λi y=>W (j+i) (m+y)):=by
 intro y;constructor
 ·intro hy;have key:∃ v,Sp k W v/\(∀ x,x<m->v x=0)/\y=λc=>v (m+c):=by
   induction hy with
   | zero=>exact⟨_,.zero,λ_ _=>rfl,rfl⟩
   | add i t hi _ ih =>
    obtain⟨v,g1,g2,rfl⟩:=ih;refine⟨_,Sp.add (j+i) t Z g1,λx hx=>?_,rfl⟩;have:=h.low (j+i) Z x (by have:=h2 (j+i) Z Z; omega);grind
  obtain⟨v,g1,g2,rfl⟩:=key;obtain⟨q1,q2⟩:=bAZ ((hs v).2 g1);exact⟨q2,λx hx=>by rw[<- q1 x hx]; exact g2 x hx⟩
 ·rintro⟨g1,g2⟩;have hv:=aW5 (A:=A) (n:=n) (m:=m) y n (Nat.le_refl _);have:=Hn.drop h hj h1 ((hs _).1 hv) (λx hx=>by simp only[hx,if_true]; exact g2 x hx);have key:∀ {v:V},Sp (k-j) (λi=>W (j+i)) v->Sp (k-j) (λi y=>W (j+i) (m+y)) (λc=>v (m+c)):=by
   intro v hv
   induction hv with
   | zero=>exact .zero
   | add i t hi _ ih=>exact Sp.add i t hi ih
  have:=key this;refine cast (congrArg _ ?_) this;grind
theorem aBP(a:Int){m}(h:m<0):m<a.fmod m/\a.fmod m<=0:=by
 have h1:=Int.neg_fmod_neg (-a) (-m);rw[Int.neg_neg,Int.neg_neg]at h1;have h2:=Int.fmod_nonneg_of_pos (-a) (show 0 < -m by omega);have h3:=Int.fmod_lt_of_pos (-a) (show 0 < -m by omega);omega
theorem aWA(a m:Int)(hm:m≠0):(a.fdiv m).natAbs*m.natAbs<=a.natAbs+m.natAbs:=by
 have h1:=Int.fmod_def a m;have h2:(m*a.fdiv m).natAbs=(a.fdiv m).natAbs*m.natAbs:=by rw[Int.natAbs_mul,Nat.mul_comm]
 rcases Int.lt_or_gt_of_ne hm with h|h
 ·have h3:=aBP a h;omega
 ·have h3:=Int.fmod_nonneg_of_pos a h;have h4:=Int.fmod_lt_of_pos a h;omega
theorem aV6(a m:Int)(hm:m≠0):(a.fmod m).natAbs<m.natAbs:=by
 rcases Int.lt_or_gt_of_ne hm with h|h
 ·have h3:=aBP a h;omega
 ·have h3:=Int.fmod_nonneg_of_pos a h;have h4:=Int.fmod_lt_of_pos a h;omega
theorem aNP(a m:Int):a-a.fdiv m*m=a.fmod m:=by rw[Int.fmod_def,Int.mul_comm]
theorem a9L {a b q:Int} {E Q:Nat} (ha:a.natAbs<=E) (hb:b.natAbs<=E) (hq:q.natAbs<=Q):(a-q*b).natAbs<=E+Q*E:=by
 have h1:(q*b).natAbs=q.natAbs*b.natAbs:=Int.natAbs_mul _ _;have h2:q.natAbs*b.natAbs<=Q*E:=Nat.mul_le_mul hq hb;omega
def Wi(k:Nat) (M:Nat->V) (d c E A:Nat):Prop:=∀ i,d<=i->i<k->(∀ x,(M i x).natAbs<=E)/\(M i c).natAbs<=A
def Rd(k:Nat) (M M':Nat->V) (d c:Nat):Prop:=M' d=M d/\∀ i,d<i->i<k->M' i=λx=>M i x-(M i c).fdiv (M d c)*M d x
theorem Rd.a0U {k d c E A:Nat} {M M':Nat->V} (h:Rd k M M' d c) (hw:Wi k M d c E A) (hk:d<k) (hm:M d c≠0) (hA:(M d c).natAbs<=A) :
  ∃ E',Wi k M' d c E' (M d c).natAbs/\E'*(M d c).natAbs<=3*(E*A):=by
 have hmp:0<(M d c).natAbs:=Z
 refine⟨E+(A/(M d c).natAbs+1)*E,λi h1 h2=>?_,?_⟩
 ·by_cases e:i=d
  ·subst e;rw[h.1];refine⟨λx=>?_,Nat.le_refl _⟩;have:=(hw i h1 h2).1 x;grind
  ·have hr:=h.2 i Z h2;have hq:((M i c).fdiv (M d c)).natAbs<=A/(M d c).natAbs+1:=by
    have h3:=aWA (M i c) (M d c) hm;have h4:=(hw i h1 h2).2;have h5:((M i c).fdiv (M d c)).natAbs<=(A+(M d c).natAbs)/(M d c).natAbs:=by
     rw[Nat.le_div_iff_mul_le hmp];omega
    simp_all
   rw[hr];refine⟨λx=>a9L ((hw i h1 h2).1 x) ((hw d (Nat.le_refl _) hk).1 x) hq,?_⟩;dsimp only;rw[aNP];exact Nat.le_of_lt (aV6 _ _ hm)
 ·have h1:A/(M d c).natAbs*(M d c).natAbs<=A:=Nat.div_mul_le_self _ _;generalize A/(M d c).natAbs=q at h1;generalize (M d c).natAbs=m at *;have h2:(E+(q+1)*E)*m=2*(E*m)+E*(q*m):=W
  have h3:E*(q*m)<=E*A:=Nat.mul_le_mul_left _ h1;have h4:E*m<=E*A:=Nat.mul_le_mul_left _ hA;omega
theorem a8Q a b c (h:a+b<=c):4*(a*b)<=c*c:=by
 have h1 :=Nat.mul_le_mul h h;have h2 :=by
  have:(a+b)*(a+b)=4*(a*b)+(a-b)*(a-b)+(b-a)*(b-a):=by
   rcases Nat.le_total a b with g|g
   ·obtain⟨e,rfl⟩:=Nat.exists_eq_add_of_le g;grind
   ·obtain⟨e,rfl⟩:=Nat.exists_eq_add_of_le g;grind
  omega
 omega
structure Bt (k:Nat) (M:Nat->V) (d c C:Nat):Prop where
 dk:d<k
 ex:∃ E,Wi k M d c E (M d c).natAbs/\∃ i,d<i/\i<k/\M i c≠0/\E*(M d c).natAbs^3*(M i c).natAbs<=C
 piv:M d c≠0
 sign:∀ i,d<i->i<k->(M i c).natAbs<(M d c).natAbs/\(0<M d c->0<=M i c)/\(M d c<0->M i c<=0)
theorem Wi.swap {k d c E A a M}(h:Wi k M d c E A)(ha:d<=a)(hk:a<k):Wi k (swp M d a) d c E A:=by
 intro i h1 h2;unfold swp;split
 ·exact h a ha hk
 ·split
  ·exact h d (Nat.le_refl _) Z
  ·exact h i h1 h2
theorem Rd.sign {k d c M M'}(h:Rd k M M' d c)(hm:M d c≠0):∀ i,d<i->i<k->M' i c=(M i c).fmod (M d c)/\(M' i c).natAbs<(M' d c).natAbs/\(0<M' d c->0<=M' i c)/\(M' d c<0->M' i c<=0):=by
 intro i h1 h2;have e:M' i c=(M i c).fmod (M d c):=by
  rw[h.2 i h1 h2];exact aNP _ _
 rw[e,h.1];exact⟨rfl,aV6 _ _ hm,λhp=>Int.fmod_nonneg_of_pos _ hp,λhn=>(aBP _ hn).2⟩
theorem a9G {p n:Int} (hs:(0<p/\0<n)\/(p<0/\n<0)) (hl:n.natAbs<p.natAbs):(p.fmod n).natAbs+n.natAbs<=p.natAbs:=by
 have key:∀ p n:Int,0<n->n<p->(p.fmod n).natAbs+n.natAbs<=p.natAbs:=by
  intro p n h1 h2;have h3:=Int.fmod_def p n;have h4:=Int.fmod_nonneg_of_pos p h1;have h5:=Int.fmod_lt_of_pos p h1;have h6:1<=p.fdiv n:=by
   rcases(by omega:p.fdiv n<1\/1<=p.fdiv n)with h|h
   ·have:n*p.fdiv n<=n*0:=Int.mul_le_mul_of_nonneg_left Z Z;omega
   ·exact h
  have h7:n*1<=n*p.fdiv n:=Int.mul_le_mul_of_nonneg_left h6 Z;omega
 rcases hs with ⟨h1,h2⟩|⟨h1,h2⟩
 ·grind
 ·have:=key (-p) (-n) Z Z
  simp_all
theorem Rd.first {k d c E A:Nat} {M M':Nat->V} (h:Rd k M M' d c) (hw:Wi k M d c E A) (hk:d<k) (hm:M d c≠0) :
  ((∀ i,d<i->i<k->M' i c=0)/\Wi k M' d c (3*(E*A)) A)\/Bt k M' d c (3*(E*A)*A^3):=by
 have hA:=(hw d (Nat.le_refl _) hk).2;have hmp:0<(M d c).natAbs:=Z
 obtain⟨E',h1,h2⟩:=h.a0U hw hk hm hA;have hs:=h.sign hm
 by_cases hz:∀ i,d<i->i<k->M' i c=0
 ·refine .inl ⟨hz,λi g1 g2=>⟨λx=>?_,?_⟩⟩
  ·have a1:=(h1 i g1 g2).1 x;have a2:E'*1<=E'*(M d c).natAbs:=Nat.mul_le_mul_left _ hmp;omega
  ·exact Nat.le_trans (h1 i g1 g2).2 hA
 ·refine .inr ⟨hk,⟨E',by rw[h.1]; exact h1,?_⟩,by rw[h.1]; exact hm,λi g1 g2=>(hs i g1 g2).2⟩;obtain⟨i,hi⟩:=Classical.not_forall.1 hz;obtain⟨g1,hi⟩:=Classical.not_forall.1 hi;obtain⟨g2,g3⟩:=Classical.not_forall.1 hi;refine⟨i,g1,g2,g3,?_⟩;have a1:=(hs i g1 g2).2.1;rw[h.1]at a1 ⊢;have a2:(M d c).natAbs^2*(M' i c).natAbs<=A^2*A:=Nat.mul_le_mul (Nat.pow_le_pow_left hA 2) Z;have a3:E'*(M d c).natAbs*((M d c).natAbs^2*(M' i c).natAbs)<=3*(E*A)*(A^2*A):=Nat.mul_le_mul h2 a2
  grind
theorem Bt.left {k d c C a:Nat} {M M':Nat->V} (h:Bt k M d c C) (ha:d<=a) (hk:a<k) (hm:M a c≠0) (hmin:∀ i,d<=i->i<k->M i c≠0->(M a c).natAbs<=(M i c).natAbs) (hr:Rd k (swp M d a) M' d c) (hz:¬ ∀ i,d<i->i<k->M' i c=0):M' d=M a/\(M a c).natAbs<(M d c).natAbs/\∃ i,d<i/\i<k/\M' i c≠0/\(M' i c).natAbs+(M a c).natAbs<=(M d c).natAbs/\(M' i c).natAbs<(M a c).natAbs:=by
 obtain⟨E,h1,i0,g1,g2,g3,g4⟩:=h.ex;have hda:d<a:=by
  rcases Nat.lt_or_ge d a with h9|h9
  ·exact h9
  ·have:a=d:=Z
   subst this;have:=hmin i0 Z g2 g3;have:=(h.sign i0 g1 g2).1;omega
 have e1:swp M d a d=M a:=by simp[swp]
 have e2:swp M d a a=M d:=by
  have:¬ a=d:=Z
  simp[swp,this]
 have hsa:=h.sign a hda hk;have hs:=hr.sign (by rw[e1]; exact hm);have hMd:M' d=M a:=by rw[hr.1,e1]
 have main:∃ i,d<i/\i<k/\M' i c≠0/\(M' i c).natAbs+(M a c).natAbs<=(M d c).natAbs:=by
  have ea:=(hs a hda hk).1;rw[e1,e2]at ea
  by_cases hz2:M' a c=0
  ·obtain⟨i,hi⟩:=Classical.not_forall.1 hz;obtain⟨z1,hi⟩:=Classical.not_forall.1 hi;obtain⟨z2,z3⟩:=Classical.not_forall.1 hi;refine⟨i,z1,z2,z3,?_⟩;have a1:=(hs i z1 z2).2.1;rw[hMd]at a1;have a2:(M a c).natAbs ∣ (M d c).natAbs:=by
    have:M a c ∣ M d c:=by
     rw[hz2]at ea;exact Int.dvd_of_fmod_eq_zero ea.symm
    simp_all
   obtain⟨t,ht⟩:=a2;have h2t:2<=t:=by
    rcases Nat.lt_or_ge t 2 with h|h
    ·have:(M a c).natAbs*t<=(M a c).natAbs*1:=Nat.mul_le_mul_left _ Z;omega
    ·exact h
   have:(M a c).natAbs*2<=(M a c).natAbs*t:=Nat.mul_le_mul_left _ h2t;omega
  ·refine⟨a,hda,hk,hz2,?_⟩;rw[ea];refine a9G ?_ hsa.1;grind
 grind
def Pt(k:Nat) (M:Nat->V) (d c P:Nat):Prop:=∃ i,d<i/\i<k/\M i c≠0/\(M d c).natAbs*(M i c).natAbs<=P
theorem Bt.half {k d c C a M M'}(h:Bt k M d c C)(ha:d<=a)(hk:a<k)(hm:M a c≠0)(hmin:∀ i,d<=i->i<k->M i c≠0->(M a c).natAbs<=(M i c).natAbs)(hr:Rd k (swp M d a) M' d c)(hz:¬ ∀ i,d<i->i<k->M' i c=0){P}(hP:Pt k M d c P):Pt k M' d c (P/2):=by
 obtain⟨q1,q2,i,z1,z2,z3,z4,z5⟩:=h.left ha hk hm hmin hr hz;obtain⟨i0,w1,w2,w3,w4⟩:=hP;have w5:=hmin i0 Z w2 w3;refine⟨i,z1,z2,z3,?_⟩;have a1:(M a c).natAbs*(2*(M' i c).natAbs)<=(M a c).natAbs*(M d c).natAbs:=Nat.mul_le_mul_left _ Z;have a2:(M d c).natAbs*(M a c).natAbs<=(M d c).natAbs*(M i0 c).natAbs:=Nat.mul_le_mul_left _ w5;grind
theorem Bt.round {k d c C a:Nat} {M M':Nat->V} (h:Bt k M d c C) (ha:d<=a) (hk:a<k) (hm:M a c≠0) (hmin:∀ i,d<=i->i<k->M i c≠0->(M a c).natAbs<=(M i c).natAbs) (hr:Rd k (swp M d a) M' d c) :
  ((∀ i,d<i->i<k->M' i c=0)/\∃ A,Wi k M' d c (3*C) A)\/(Bt k M' d c C/\(M' d c).natAbs<(M d c).natAbs):=by
 obtain⟨E,h1,i0,g1,g2,g3,g4⟩:=h.ex;have hda:d<a:=by
  rcases Nat.lt_or_ge d a with h9|h9
  ·exact h9
  ·have:a=d:=Z
   subst this;have:=hmin i0 Z g2 g3;have:=(h.sign i0 g1 g2).1;omega
 have e1:swp M d a d=M a:=by simp[swp]
 have hsa:=h.sign a hda hk;have hA:(swp M d a d c).natAbs<=(M d c).natAbs:=by rw[e1]; omega
 obtain⟨E',q1,q2⟩:=hr.a0U (h1.swap ha hk) h.dk (by rw[e1]; exact hm) hA;rw[e1]at q1 q2;have hs:=hr.sign (by rw[e1]; exact hm);have hC:E*(M d c).natAbs^3*(M a c).natAbs<=C:=Nat.le_trans (Nat.mul_le_mul_left _ (hmin i0 Z g2 g3)) g4;have hmp:0<(M a c).natAbs:=Z
 have hMd:M' d=M a:=by rw[hr.1,e1]
 by_cases hz:∀ i,d<i->i<k->M' i c=0
 ·refine .inl ⟨hz,(M a c).natAbs,λi z1 z2=>⟨λx=>?_,(q1 i z1 z2).2⟩⟩;have a1:=(q1 i z1 z2).1 x;have a2:E'*1<=E'*(M a c).natAbs:=Nat.mul_le_mul_left _ hmp;have a3:E*(M d c).natAbs*1<=E*(M d c).natAbs*((M d c).natAbs^2*(M a c).natAbs):=Nat.mul_le_mul_left _ (Nat.mul_pos (Nat.pow_pos Z) hmp);grind
 ·refine .inr ⟨⟨h.dk,⟨E',by rw[hMd]; exact q1,?_⟩,by rw[hMd]; exact hm,λi z1 z2=>(hs i z1 z2).2⟩,by rw[hMd]; exact hsa.1⟩;obtain⟨_,_,i,z1,z2,z3,z4,_⟩:=h.left ha hk hm hmin hr hz;refine⟨i,z1,z2,z3,?_⟩;rw[hMd];have a1:=a8Q _ _ _ z4;generalize (M' i c).natAbs=y at *;generalize (M a c).natAbs=x at *;generalize (M d c).natAbs=m at *;have a2:E'*x*(x^2*y)<=3*(E*m)*(x^2*y):=Nat.mul_le_mul_right _ q2;have a3:(E*m*x)*(4*(y*x))<=(E*m*x)*(m*m):=Nat.mul_le_mul_left _ a1
  grind
theorem Hn.shift {k M p}(h:Hn k M p) j (hj:j<=k):Hn (k-j) (λi=>M (j+i)) (λi=>p (j+i)) where
 inc:=λa b hab hb=>h.inc _ _ Z Z
 low:=λi hi=>h.low _ Z
 pos:=λi hi=>h.pos _ Z
 red:=λa b hab hb=>h.red _ _ Z Z
end Go.Lz
namespace Go.PM
open Go Go.RowKit Go.Proofs Go.Lz
abbrev yD:Nat:=400000
def Zr(n:Nat) (v:V):List ByteArray:=(List.range n).map λi=>Zn (v i)
theorem AG n v:(Zr n v).length=n:=by simp[Zr]
theorem aNF {n i} v (h:i<n) d:(Zr n v).getD i d=Zn (v i):=by simp[Zr,h]
theorem aAG {n u v}(h:∀ i,i<n->u i=v i):Zr n u=Zr n v:=by
 refine List.map_congr_left λi hi=>?_
 grind
theorem a6M {n}(u v:V) t (h:t<n):(Zr n λx=>if x<t then v x else u x).set t (Zn (v t))=Zr n λx=>if x<t+1 then v x else u x:=by
 refine List.ext_getElem? λi=>?_
 simp only[Zr];grind
theorem aED {α:Type}(A:List α) j x d (h:j<A.length):(A.set j x).getD j d=x:=W
theorem getD_set_ne {α:Type}(A:List α){j k} x d (h:j≠k):(A.set j x).getD k d=A.getD k d:=W
theorem aHQ {α:Type}{A:List α}{j x} d (h:A[j]?=some x):A.getD j d=x:=W
structure aS8 (n:Nat) (u v:V) (q:Int):Prop where
 mul:∀ i,i<n->Lib.nDigits q.natAbs+Lib.nDigits (v i).natAbs<=yD
 sub:∀ i,i<n->Lib.nDigits (u i).natAbs<=yD
theorem aW7 a b:Lib.nDigits (a*b)<=Lib.nDigits a+Lib.nDigits b:=by
 have h1:=j5 a;have h2:=j5 b;have p2:=nDigits_pos b;have h4 :=Nat.mul_lt_mul'' h1 h2;rw[<- Nat.pow_add]at h4;obtain⟨k,hk⟩:∃ k,Lib.nDigits a+Lib.nDigits b=k+1:=⟨Lib.nDigits a+Lib.nDigits b-1,by omega⟩;rw[hk]at h4 ⊢;exact tS h4
theorem Z9 {α:Type}{pre l:List α}{o t}(h:pre.length=o) d:(pre++l).getD (o+t) d=l.getD t d:=W
theorem a2B {α:Type}{pre l:List α}{o t}(h:pre.length=o) x:(pre++l).set (o+t) x=pre++l.set t x:=W
theorem a43 {A:List (List ByteArray)}{J K o n u v q pre pre'}(hn:n<1048576)(hne:J≠K)(hp:pre.length=o)(hp':pre'.length=o)(hJ:A[J]?=some (pre++Zr n u))(hK:A[K]?=some (pre'++Zr n v))(ok:aS8 n u v q) :
  qV ((J,o,n),Zn q,(K,o,n),(n:Int),0,A,())=some (A.set J (pre++Zr n λx=>u x-q*v x),()):=by
 have hJl:J<A.length:=(oO.1 hJ).1;have key:=bH (step:=mB) (N:=2^64)
  (λt=>((J,o,n),Zn q,(K,o,n),(n:Int),(t:Int),A.set J (pre++Zr n λx=>if x<t then u x-q*v x else u x),())) n (A.set J (pre++Zr n λx=>u x-q*v x),()) Z (λt ht=>?_) ?_
 ·have h0:(A.set J (pre++Zr n λx=>if x<0 then u x-q*v x else u x))=A:=by
   have:Zr n (λx=>if x<0 then u x-q*v x else u x)=Zr n u:=aAG λi _=>R
   rw[this];refine List.ext_getElem? λi=>?_
   grind
  simp only[h0]at key;exact key
 ·have hg:(A.set J (pre++Zr n λx=>if x<t then u x-q*v x else u x)).getD J []=pre++Zr n λx=>if x<t then u x-q*v x else u x:=aED _ _ _ _ hJl
  have hk:(A.set J (pre++Zr n λx=>if x<t then u x-q*v x else u x)).getD K []=pre'++Zr n v:=by rw[getD_set_ne _ _ _ hne]; exact aHQ _ hK
  have e1:ltI (t:Int) (n:Int)=true:=by rw[aE]; simp; omega
  have e2:aF (t:Int) n=true:=by rw[aK]; simp; omega
  have e3:(o+((t:Nat):Int).toNat)*1=o+t:=R
  have e4:dE (A.set J (pre++Zr n λx=>if x<t then u x-q*v x else u x)) J=o+n:=by rw[dE,hg,oH,AG,hp]
  have e5:dE (A.set J (pre++Zr n λx=>if x<t then u x-q*v x else u x)) K=o+n:=by rw[dE,hk,oH,AG,hp']
  have e6:Nat.blt (o+t) (o+n)=true:=by rw[bW]; simpa using ht
  have e7:dQ (A.set J (pre++Zr n λx=>if x<t then u x-q*v x else u x)) J (o+t) ByteArray.empty=Zn (u t):=by rw[dQ,hg,Z9 hp,aNF _ ht]; simp
  have e8:dQ (A.set J (pre++Zr n λx=>if x<t then u x-q*v x else u x)) K (o+t) ByteArray.empty=Zn (v t):=by rw[dQ,hk,Z9 hp',aNF _ ht]
  have e9:yE (A.set J (pre++Zr n λx=>if x<t then u x-q*v x else u x)) J (o+t) (Zn (u t-q*v t))=A.set J (pre++Zr n λx=>if x<t+1 then u x-q*v x else u x):=by
   rw[yE,hg,List.set_set,a2B hp];exact oZ (λl=>A.set J (pre++l)) (a6M u (λx=>u x-q*v x) t ht)
  have m1:=aNN q (v t) (ok.mul t ht);have m2:=aZ0 (u t) (q*v t) (ok.sub t ht) (by rw[Int.natAbs_mul]; exact oR (aW7 _ _) (ok.mul t ht));have e10:=bC t Z;simp only[mB,e1,oC,e2,e3,e5,e6,e4,e7,e8,m1,aD,m2,e9,e10]
 ·have e1:ltI (n:Int) (n:Int)=false:=by rw[aE]; simp
  simp only[mB,e1,oD];have:Zr n (λx=>if x<n then u x-q*v x else u x)=Zr n λx=>u x-q*v x:=aAG λi hi=>by simp[hi]
  rw[this]
theorem aW6 {α:Type}{A:List α}{J x}(h:A[J]?=some x):A.set J x=A:=by
 refine List.ext_getElem? λi=>?_
 grind
theorem bCX {A:List (List ByteArray)} {J K o n:Nat} {u v:V} {q:Int} {pre pre':List ByteArray} (hn:n<1048576) (hne:J≠K) (hp:pre.length=o) (hp':pre'.length=o) (hJ:A[J]?=some (pre++Zr n u)) (hK:A[K]?=some (pre'++Zr n v)) (ok:aS8 n u v q) :
  fY () ((J,o,n),Zn q,(K,o,n),()) A=some ((),A.set J (pre++Zr n λx=>u x-q*v x)):=by
 unfold fY;simp only[TS]
 by_cases hq:q=0
 ·subst hq;simp only[decide_true,oC];have:Zr n (λx=>u x-0*v x)=Zr n u:=aAG λi _=>R
  rw[this,aW6 hJ]
 ·simp only[hq,decide_false,oD,a43 hn hne hp hp' hJ hK ok,aD]
theorem negate_eq {A:List (List ByteArray)} {J o n:Nat} {u:V} {pre:List ByteArray} (hn:n<1048576) (hp:pre.length=o) (hJ:A[J]?=some (pre++Zr n u)) (ok:∀ i,i<n->Lib.nDigits (u i).natAbs<=yD) :
  eK () ((J,o,n),()) A=some ((),A.set J (pre++Zr n λx=>-(u x))):=by
 have hJl:J<A.length:=(oO.1 hJ).1;have key:=bH (step:=kH) (N:=2^64)
  (λt=>((J,o,n),(J,o,n),(n:Int),(t:Int),A.set J (pre++Zr n λx=>if x<t then -(u x) else u x),())) n (A.set J (pre++Zr n λx=>-(u x)),()) Z (λt ht=>?_) ?_
 ·have h0:(A.set J (pre++Zr n λx=>if x<0 then -(u x) else u x))=A:=by
   have:Zr n (λx=>if x<0 then -(u x) else u x)=Zr n u:=aAG λi _=>R
   rw[this,aW6 hJ]
  simp only[h0]at key;unfold eK pI;have e0:((0:Nat):Int)=0:=rfl;rw[e0]at key;simp only[key,aD]
 ·have hg:(A.set J (pre++Zr n λx=>if x<t then -(u x) else u x)).getD J []=pre++Zr n λx=>if x<t then -(u x) else u x:=aED _ _ _ _ hJl
  have e1:ltI (t:Int) (n:Int)=true:=by rw[aE]; simp; omega
  have e2:aF (t:Int) n=true:=by rw[aK]; simp; omega
  have e3:(o+((t:Nat):Int).toNat)*1=o+t:=R
  have e4:dE (A.set J (pre++Zr n λx=>if x<t then -(u x) else u x)) J=o+n:=by rw[dE,hg,oH,AG,hp]
  have e6:Nat.blt (o+t) (o+n)=true:=by rw[bW]; simpa using ht
  have e7:dQ (A.set J (pre++Zr n λx=>if x<t then -(u x) else u x)) J (o+t) ByteArray.empty=Zn (u t):=by rw[dQ,hg,Z9 hp,aNF _ ht]; simp
  have e9:yE (A.set J (pre++Zr n λx=>if x<t then -(u x) else u x)) J (o+t) (Zn (-(u t)))=A.set J (pre++Zr n λx=>if x<t+1 then -(u x) else u x):=by
   rw[yE,hg,List.set_set,a2B hp];exact oZ (λl=>A.set J (pre++l)) (a6M u (λx=>-(u x)) t ht)
  have m1:=aQL (u t) (Nat.lt_of_le_of_lt (ok t ht) O);have e10:=bC t Z;simp only[kH,e1,oC,e2,e3,e6,e4,e7,m1,aD,e9,e10]
 ·have e1:ltI (n:Int) (n:Int)=false:=by rw[aE]; simp
  simp only[kH,e1,oD];have:Zr n (λx=>if x<n then -(u x) else u x)=Zr n λx=>-(u x):=aAG λi hi=>by simp[hi]
  rw[this]
theorem aJU {σ τ:Type} {step:σ->Option (σ⊕τ)} {N:Nat} (m:Nat) (I:Nat->σ->Prop) (Q:τ->Prop) (hN:m<N) (x:σ) (h0:I 0 x) (h:∀ t x,t<m->I t x->∃ y,step x=some (.inl y)/\I (t+1) y) (he:∀ x,I m x->∃ z,step x=some (.inr z)/\Q z) :
  ∃ z,aW step N x=some z/\Q z:=by
 have key:∀ (j t:Nat) (x:σ) (N:Nat),t+j=m->j<N->I t x->∃ z,aW step N x=some z/\Q z:=by
  intro j
  induction j with
  | zero =>
   intro t x N ht hN hI;have:t=m:=Z
   subst this;obtain⟨N,rfl⟩:∃ M,N=M+1:=⟨N-1,by omega⟩;obtain⟨z,h1,h2⟩:=he x hI;exact⟨z,by rw[bV,h1],h2⟩
  | succ j ih =>
   intro t x N ht hN hI;obtain⟨N,rfl⟩:∃ M,N=M+1:=⟨N-1,by omega⟩;obtain⟨y,h1,h2⟩:=h t x Z hI;obtain⟨z,h3,h4⟩:=ih (t+1) y N Z Z h2;exact⟨z,by rw[bV,h1]; exact h3,h4⟩
 grind
structure l6 (o k n:Nat) (m:List (Nat×Nat×Nat)) (A:List (List ByteArray)) (J:Nat->Nat) (M:Nat->V):Prop where
 ml:m=(List.range k).map λi=>(J i,o,n)
 at_:∀ i,i<k->∃ pre:List ByteArray,pre.length=o/\A[J i]?=some (pre++Zr n (M i))
 inj:∀ i j,i<k->j<k->J i=J j->i=j
section
variable {o k n:Nat} {m:List (Nat×Nat×Nat)} {A:List (List ByteArray)} {J:Nat->Nat} {M:Nat->V}
theorem l6.len (h:l6 o k n m A J M):m.length=k:=by rw[h.ml]; simp
theorem l6.get (h:l6 o k n m A J M){i}(hi:i<k):m.getD i (0,0,0)=(J i,o,n):=by rw[h.ml]; grind
theorem l6.dE (h:l6 o k n m A J M){i}(hi:i<k):dE A (J i)=o+n:=by
 obtain⟨pre,h1,h2⟩:=h.at_ i hi;rw[PM.dE,aHQ _ h2,oH,AG,h1]
theorem l6.dQ (h:l6 o k n m A J M){i c}(hi:i<k)(hc:c<n):dQ A (J i) (o+c) ByteArray.empty=Zn (M i c):=by
 obtain⟨pre,h1,h2⟩:=h.at_ i hi;rw[PM.dQ,aHQ _ h2,Z9 h1,aNF _ hc]
theorem l6.aK0 (h:l6 o k n m A J M){i}(hi:i<k) r {pre}(hp:pre.length=o):l6 o k n m (A.set (J i) (pre++Zr n r)) J (up M i r) where
 ml:=h.ml
 at_:=λj hj=>by
  by_cases e:j=i
  ·subst e;obtain⟨pre',h1,h2⟩:=h.at_ j hj;exact⟨pre,hp,by rw[List.getElem?_set_self (oO.1 h2).1,US]⟩
  ·obtain⟨pre',h1,h2⟩:=h.at_ j hj;exact⟨pre',h1,by rw[List.getElem?_set_ne (λe'=>e (h.inj i j hi hj e').symm),KJ _ _ e]; grind⟩
 inj:=h.inj
theorem l6.less (h:l6 o k n m A J M)(hn:n<1048576){i d}(hi:i<k)(hd:d<k)(hne:i≠d) q (ok:aS8 n (M i) (M d) q) :
  ∃ A',fY () ((J i,o,n),Zn q,(J d,o,n),()) A=some ((),A')/\l6 o k n m A' J (up M i λx=>M i x-q*M d x):=by
 obtain⟨pre,h1,h2⟩:=h.at_ i hi;obtain⟨pre',h3,h4⟩:=h.at_ d hd;exact⟨_,bCX hn (λe=>hne (h.inj i d hi hd e)) h1 h3 h2 h4 ok,h.aK0 hi _ h1⟩
theorem l6.neg (h:l6 o k n m A J M)(hn:n<1048576){i}(hi:i<k)(ok:∀ x,x<n->Lib.nDigits (M i x).natAbs<=yD) :
  ∃ A',eK () ((J i,o,n),()) A=some ((),A')/\l6 o k n m A' J (up M i λx=>-(M i x)):=by
 obtain⟨pre,h1,h2⟩:=h.at_ i hi;exact⟨_,negate_eq hn h1 h2 ok,h.aK0 hi _ h1⟩
theorem l6.swap (h:l6 o k n m A J M){a b}(ha:a<k)(hb:b<k):l6 o k n ((m.set a (J b,o,n)).set b (J a,o,n)) A (λi=>if i=a then J b else if i=b then J a else J i) (swp M a b) where
 ml:=by
  refine List.ext_getElem? λi=>?_
  have hl:=h.len;rw[List.getElem?_map]
  by_cases e1:i=b
  ·grind
  ·rw[List.getElem?_set_ne (Ne.symm e1)]
   by_cases e2:i=a
   ·grind
   ·rw[List.getElem?_set_ne (Ne.symm e2),h.ml,List.getElem?_map];grind
 at_:=λi hi=>by
  by_cases e1:i=a
  ·subst e1;simp only[if_true,swp];exact h.at_ b hb
  ·by_cases e2:i=b
   ·subst e2;simp only[e1,if_false,if_true,swp];exact h.at_ a ha
   ·simp only[e1,e2,if_false,swp];exact h.at_ i hi
 inj:=λi j hi hj e=>by
  have key:∀ i,i<k->(if i=a then J b else if i=b then J a else J i)=J (if i=a then b else if i=b then a else i):=λi _=>W
  simp only[key i hi,key j hj]at e;have lt:∀ i,i<k->(if i=a then b else if i=b then a else i)<k:=λi hi=>W
  have:=h.inj _ _ (lt i hi) (lt j hj) e;grind
end
def atv:Option Nat->Int
 | none=>-1
 | some a=>a
structure a6N (M:Nat->V) (c d t:Nat) (r:Option Nat):Prop where
 none:r=Option.none->∀ i,d<=i->i<d+t->M i c=0
 some:∀ a,r=Option.some a->d<=a/\a<d+t/\M a c≠0/\∀ i,d<=i->i<d+t->M i c≠0->(M a c).natAbs<=(M i c).natAbs
def Cm(k n:Nat) (M:Nat->V):Prop:=∀ i,i<k->∀ x,x<n->Lib.nDigits (M i x).natAbs<=yD
theorem aWY {o k n m A J M}(h:l6 o k n m A J M)(hk:k<1048576)(hc:Cm k n M){c d}(hcn:c<n)(hd:d<=k)(cols:Int) :
  ∃ r,jO (m,cols,(d:Int),(c:Int),-1,(d:Int),A,())=some (m,cols,(d:Int),(c:Int),atv r,A,())/\a6N M c d (k-d) r:=by
 have:=aJU (step:=dH) (N:=2^64) (k-d)
  (λt x=>∃ r,x=(m,cols,(d:Int),(c:Int),atv r,((d+t:Nat):Int),A,())/\a6N M c d t r)
  (λz=>∃ r,z=(m,cols,(d:Int),(c:Int),atv r,A,())/\a6N M c d (k-d) r) Z (m,cols,(d:Int),(c:Int),-1,(d:Int),A,())
  ⟨none,rfl,⟨λ_ i h1 h2=>by omega,λa ha=>by cases ha⟩⟩ ?_ ?_
 ·obtain⟨z,h1,r,rfl,h2⟩:=this;exact⟨r,h1,h2⟩
 ·rintro t x ht ⟨r,rfl,hr⟩;have hi:d+t<k:=Z
  have e1:ltI ((d+t:Nat):Int) (m.length:Int)=true:=by rw[aE,h.len]; simp; omega
  have e2:aF ((d+t:Nat):Int) m.length=true:=by rw[aK,h.len]; simp; omega
  have e3:(((d+t:Nat):Int)).toNat=d+t:=oN _;have e4:Nat.blt (d+t) m.length=true:=by rw[bW,h.len]; simpa using hi
  have e5:aF (c:Int) n=true:=by rw[aK]; simp; omega
  have e6:(o+((c:Nat):Int).toNat)*1=o+c:=R
  have e7:Nat.blt (o+c) (o+n)=true:=by rw[bW]; simpa using hcn
  have e8:=bC (d+t) Z;have e9:=h.get hi;have e10:=h.dE hi;have e11:=h.dQ hi hcn
  by_cases hz:M (d+t) c=0
  ·refine⟨_,?_,r,rfl,⟨λhr0 i h1 h2=>?_,λa ha=>?_⟩⟩
   ·have e12:eqS (Zn (M (d+t) c)) (ByteArray.mk #[48])=true:=by rw[TS]; simp[hz]
    simp only[dH,e1,e2,e3,e4,e9,e5,e6,e10,e7,e11,e12,e8,oC,Bool.not_true,oD];rfl
   ·by_cases e:i=d+t
    ·grind
    ·exact hr.none hr0 i h1 Z
   ·obtain⟨q1,q2,q3,q4⟩:=hr.some a ha;grind
  ·have e12:eqS (Zn (M (d+t) c)) (ByteArray.mk #[48])=false:=by rw[TS]; simp[hz]
   cases r with
   | none =>
    have e13:ltI (atv none) 0=true:=O
    refine⟨_,?_,some (d+t),rfl,⟨λhr0=>by (cases hr0),λa ha=>?_⟩⟩
    ·simp only[dH,e1,e2,e3,e4,e9,e5,e6,e10,e7,e11,e12,e8,oC,Bool.not_false,e13];rfl
    ·obtain rfl:=oB ha;refine⟨by omega,by omega,hz,λi h1 h2 h3=>?_⟩
     by_cases e:i=d+t
     ·subst e; exact oM _
     ·exact absurd (hr.none rfl i h1 Z) h3
   | some a =>
    obtain⟨q1,q2,q3,q4⟩:=hr.some a rfl;have ha:a<k:=Z
    have e13:ltI (atv (some a)) 0=false:=by rw[aE]; exact oF (by unfold atv; dsimp only; omega)
    have f2:aF (atv (some a)) m.length=true:=by rw[aK,h.len]; simp[atv]; omega
    have f3:(atv (some a)).toNat=a:=by simp[atv]
    have f4:Nat.blt a m.length=true:=by rw[bW,h.len]; simpa using ha
    have f9:=h.get ha;have f10:=h.dE ha;have f11:=h.dQ ha hcn;have c1:=aRZ (M (d+t) c);have c2:=aRZ (M a c);have c3:=aPP (M (d+t) c).natAbs (M a c).natAbs (Nat.lt_of_le_of_lt (hc _ hi c hcn) O) (Nat.lt_of_le_of_lt (hc _ ha c hcn) O)
    by_cases hl:(M (d+t) c).natAbs<(M a c).natAbs
    ·have c4:ltI (aDE (M (d+t) c).natAbs (M a c).natAbs) 0=true:=by rw[aE,aDE,if_pos hl]; rfl
     refine⟨_,?_,some (d+t),rfl,⟨λhr0=>by (cases hr0),λb hb=>?_⟩⟩
     ·simp only[dH,e1,e2,e3,e4,e9,e5,e6,e10,e7,e11,e12,e8,oC,Bool.not_false,e13,oD,f2,f3,f4,f9,f10,f11,c1,c2,c3,c4,aD];rfl
     ·obtain rfl:=oB hb;refine⟨by omega,by omega,hz,λi h1 h2 h3=>?_⟩
      by_cases e:i=d+t
      ·subst e; exact oM _
      ·have:=q4 i h1 Z h3; omega
    ·have c4:ltI (aDE (M (d+t) c).natAbs (M a c).natAbs) 0=false:=by
      rw[aE,aDE,if_neg hl]; split <;> rfl
     refine⟨_,?_,some a,rfl,⟨λhr0=>by (cases hr0),λb hb=>?_⟩⟩
     ·simp only[dH,e1,e2,e3,e4,e9,e5,e6,e10,e7,e11,e12,e8,oC,Bool.not_false,e13,oD,f2,f3,f4,f9,f10,f11,c1,c2,c3,c4,aD];rfl
     ·obtain rfl:=oB hb;refine⟨q1,by omega,q3,λi h1 h2 h3=>?_⟩
      by_cases e:i=d+t
      ·subst e; omega
      ·exact q4 i h1 Z h3
 ·rintro x ⟨r,rfl,hr⟩;have e1:ltI ((d+(k-d):Nat):Int) (m.length:Int)=false:=by rw[aE,h.len]; simp; omega
  refine⟨_,?_,r,rfl,hr⟩;simp only[dH,e1,oD]
end Go.PM
