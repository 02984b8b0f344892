/- Texts of one proof, joined (8). -/
import Derived.Lib.AtoiAllCases
import Derived.Test.YtmghkhgpkefgeaaGreatDoorQR7
set_option linter.unusedSimpArgs false
set_option linter.unusedVariables false
set_option maxRecDepth 100000
noncomputable section
namespace Go.PM
open Go Go.RowKit Go.Proofs Go.De
theorem T3 a b:Lib.nDigits (a+b)<=max (Lib.nDigits a) (Lib.nDigits b)+1:=by
 have h1:=jJ a;have h2:=jJ b;have h3:10^Lib.nDigits a<=10^max (Lib.nDigits a) (Lib.nDigits b):=Nat.pow_le_pow_right R Z;have h4:10^Lib.nDigits b<=10^max (Lib.nDigits a) (Lib.nDigits b):=Nat.pow_le_pow_right R Z;refine ES ?_;grind
theorem aGV a b:Lib.nDigits (a*b)<=Lib.nDigits a+Lib.nDigits b:=by
 have p1:=nDigits_pos a;obtain⟨k,hk⟩:∃ k,Lib.nDigits a+Lib.nDigits b=k+1:=⟨Lib.nDigits a+Lib.nDigits b-1,by omega⟩;rw[hk];refine ES ?_;rw[<- hk,Nat.pow_add];exact Nat.mul_lt_mul'' (jJ a) (jJ b)
theorem aHD {a b}(h:18<Lib.nDigits a\/18<Lib.nDigits b):sV (Dn a,Dn b,())=some (0,0,false,()):=by
 unfold sV;simp only[F9,aE];grind
theorem aEV {u}(hu:Lib.nDigits u<=1000000):(pcs u).length<=111112:=by
 have:=aEN hu;omega
theorem aWR u:vl (pcs u++[0])=u:=by rw[JC,(iY u).2.2]; rfl
theorem aW6 u:Pc (pcs u++[0]):=(iY u).1.append (λx hx=>by grind)
theorem a4V u k:vl (pcs u++List.replicate k 0)=u:=by rw[JC,(iY u).2.2,YS]; rfl
theorem a6U u k:Pc (pcs u++List.replicate k 0):=(iY u).1.append (Pc.rep k)
theorem a4W {a b k:Nat} (h:(pcs b).length+k=(pcs a).length) (hl:(pcs a).length<=1048576) :
  ∃ l,X8 (t:=.int .u64) dG (pcs a++[0]) (pcs b++List.replicate k 0,0,())=some l/\l.length<=1048577/\BU l=pcs (a+b):=by
 have hq:=a6U b k;have hp:=aW6 a;have hql:(pcs b++List.replicate k (0:Int)).length=(pcs a).length:=by simp; omega
 have hpl:(pcs a++[(0:Int)]).length=(pcs a).length+1:=R
 have be:=back_eq (at':=0) hp hq Z Z;have bi:=bkI hp hq (at':=0) Z ((pcs b++List.replicate k 0).length+1) (oM _);refine⟨_,be,by rw[bi.len]; omega,JH bi.pc ?_⟩;have hv:=bi.val;rw[List.take_of_length_le Z,aWR,a4V,hql,aQ7,Int.one_mul]at hv;have hn:=OJ bi.pc;have n0:=sC bi.pc;have ha:=aM3 a;have hb:=aM3 b;have hb2:1000000000^(pcs b).length<=1000000000^(pcs a).length:=Nat.pow_le_pow_right O Z
 have e2:pw (0+((pcs a).length+1))=1000000000*((1000000000^(pcs a).length:Nat):Int):=by rw[Nat.zero_add,KA,a3N]
 rw[hql]at n0 hn ⊢;rcases bi.ca with hc|hc
 ·grind
 ·grind
theorem QC a b (ha:Lib.nDigits a<=900000)(hb:Lib.nDigits b<=900000):fM (Dn a,Dn b,())=some (Dn (a+b),()):=by
 by_cases hs:Lib.nDigits a<=18/\Lib.nDigits b<=18
 ·exact aUQ a b hs.1 hs.2
 ·have hba:=aHD (a:=a) (b:=b) Z;have ca:=aBN a Z [];have cb:=aBN b Z [];have la:=aEV (u:=a) Z;have lb:=aEV (u:=b) Z;have hsum:=T3 a b;have tx:=aGC (a+b) Z;have long:∀ x y:Nat,(pcs y).length<=(pcs x).length->(pcs x).length<=111112->x+y=a+b->(bif Nat.ble [0].length 1048576 then bif Nat.ble (pcs x).length 1048576 then bif !(ltI (aC .i64 ((aC .i64 (((pcs x++[0]).length:Int)-1))-((pcs y).length:Int))) 0) then bif !(ltI 1048576 (aC .i64 ((aC .i64 (((pcs x++[0]).length:Int)-1))-((pcs y).length:Int)))) then bif Nat.ble (pcs y).length 1048576 then aB (X8 (t:=(.int .u64)) dG (pcs x++[0]) ((pcs y++List.replicate (aC .i64 ((aC .i64 (((pcs x++[0]).length:Int)-1))-((pcs y).length:Int))).toNat (0:Ty.den (.int .u64))),0,())) λy8 =>
    aB (bN y8 (()) []) λy9 =>
    aB (cX (y9.1,())) λy10 =>
    some (y10.1,()) else none else none else none else none else none)=some (Dn (a+b),()):=by
   intro x y h1 h2 h3;obtain⟨k,hk⟩:∃ k,(pcs y).length+k=(pcs x).length:=⟨(pcs x).length-(pcs y).length,by omega⟩;obtain⟨l,l1,l2,l3⟩:=a4W hk Z;have e0:((pcs x++[0]).length:Int)=((pcs x).length:Int)+1:=R
   have e1:aC .i64 (aC .i64 (((pcs x).length:Int)+1-1)-((pcs y).length:Int))=(k:Int):=by rw[wrap64 (x:=((pcs x).length:Int)+1-1) Z Z,wrap64 Z Z]; omega
   have e2:ltI (k:Int) 0=false:=by rw[aE]; exact oF Z
   have e3:ltI 1048576 (k:Int)=false:=by rw[aE]; exact oF Z
   have e4:Nat.ble (pcs x).length 1048576=true:=by rw[dM]; exact oT Z
   have e5:Nat.ble (pcs y).length 1048576=true:=by rw[dM]; exact oT Z
   rw[h3]at l3;rw[e0,e1,e2,e3,e4,e5,oN];rw[l1,aD,XW Z,l3,aD];show (aB (cX (pcs (a+b),())) _)=_;rw[tx,aD]
  unfold fM;simp only[hba,aD,oD,ca,cb,aE (((pcs a).length:Nat):Int) ((pcs b).length:Int)];grind
theorem a4B {a b k}(hab:b<=a)(h:(pcs b).length+k=(pcs a).length)(hl:(pcs a).length<=1048576) :
  ∃ c l,aC1 (t:=.int .u64) eW (pcs a++[0]) (pcs b++List.replicate k 0,1,0,())=some (c,l)/\l.length<=1048577/\BU l=pcs (a-b):=by
 have hq:=a6U b k;have hp:=aW6 a;have hql:(pcs b++List.replicate k (0:Int)).length=(pcs a).length:=by simp; omega
 have hpl:(pcs a++[(0:Int)]).length=(pcs a).length+1:=R
 have te:=a1A (n:=1) (at':=0) hp hq Z Z Z;have ti:=tkI hp hq (n:=1) (at':=0) Z Z ((pcs b++List.replicate k 0).length+1) (oM _);refine⟨_,_,te,by rw[ti.len]; omega,JH ti.pc ?_⟩;have hv:=ti.val;have hfin:=ti.fin Z;rw[List.take_of_length_le Z,aWR,a4V,hfin,Int.add_zero,hql,aQ7]at hv;have hn:=OJ ti.pc;rw[ti.len,hpl]at hn;have n0:=sC ti.pc;rw[hql]at n0 hn ⊢
 rcases ti.bo with hc|hc
 ·grind
 ·grind
theorem F7 a b (ha:Lib.nDigits a<=900000)(hb:Lib.nDigits b<=900000)(h:b<=a):cY (Dn a,Dn b,())=some (Dn (a-b),0,()):=by
 by_cases hs:Lib.nDigits a<=18/\Lib.nDigits b<=18
 ·exact aWY a b hs.1 hs.2 h
 ·have hba:=aHD (a:=a) (b:=b) Z;have ca:=aBN a Z [];have cb:=aBN b Z [];have la:=aEV (u:=a) Z;have hd:=yX (show a-b<=a by omega);have tx:=aGC (a-b) Z;have hmono:=WH h;have e:ltI (aCL a b) 0=false:=by
   rw[aE]; unfold aCL;grind
  obtain⟨k,hk⟩:∃ k,(pcs b).length+k=(pcs a).length:=⟨(pcs a).length-(pcs b).length,by omega⟩;obtain⟨c,l,l1,l2,l3⟩:=a4B h hk Z;have e0:((pcs a++[0]).length:Int)=((pcs a).length:Int)+1:=R
  have e1:aC .i64 (aC .i64 (((pcs a).length:Int)+1-1)-((pcs b).length:Int))=(k:Int):=by rw[wrap64 (x:=((pcs a).length:Int)+1-1) Z Z,wrap64 Z Z]; omega
  have e2:ltI (k:Int) 0=false:=by rw[aE]; exact oF Z
  have e3:ltI 1048576 (k:Int)=false:=by rw[aE]; exact oF Z
  have e4:Nat.ble (pcs a).length 1048576=true:=by rw[dM]; exact oT Z
  have e5:Nat.ble (pcs b).length 1048576=true:=by rw[dM]; exact oT Z
  unfold cY;simp only[yH a b Z Z,e,hba,aD,oD,ca,cb];rw[e0,e1,e2,e3,e4,e5,oN];rw[l1,aD];show (aB (bN l () []) _)=_;rw[XW Z,l3,aD];rw[tx,aD]
theorem aRB a b (h:Lib.nDigits a+Lib.nDigits b<=900000):fN (Dn a,Dn b,())=some (Dn (a*b),()):=by
 by_cases hs:Lib.nDigits a+Lib.nDigits b<=18
 ·exact aUW a b hs
 ·have ca:=aBN a Z [];have cb:=aBN b Z [];have la:=aEV (u:=a) Z;have lb:=aEV (u:=b) Z;have hm:=aGV a b;have tx:=aGC (a*b) Z;have tm:=aUN a b Z [];have e1:aC .i64 ((Lib.nDigits a:Int)+(Lib.nDigits b:Int))=(Lib.nDigits a:Int)+(Lib.nDigits b:Int):=wrap64 Z Z;have e2:ltI 18 ((Lib.nDigits a)+(Lib.nDigits b:Int))=true:=by rw[aE]; grind
  unfold fN;simp only[F9,e1,e2,Bool.not_true,oD,ca,cb,aD,tm,tx]
theorem aKG a b (ha:Lib.nDigits a<=900000)(hb:Lib.nDigits b<=900000)(h:b≠0):o8 (Dn a,Dn b,())=some (Dn (a/b),Dn (a%b),0,()):=by
 by_cases hs:Lib.nDigits a<=18/\Lib.nDigits b<=18
 ·exact aLG a b hs.1 hs.2 h
 ·have hba:=aHD (a:=a) (b:=b) Z;have ca:=aBN a Z [];have cb:=aBN b Z [];have la:=aEV (u:=a) Z;have lb:=aEV (u:=b) Z;have cp:=aY6 a b Z Z;have nq:=yX (Nat.div_le_self a b);have nr:=yX (Nat.mod_le a b);have tq:=aGC (a/b) Z;have tr:=aGC (a%b) Z;have hd0:eqS (Dn b) (ByteArray.mk #[48])=false:=by rw[aKW]; exact oF h
  unfold o8;simp only[hd0,oD,hba,aD,ca,cb,cp]
  by_cases hlt:a<b
  ·rw[if_pos hlt];have:ltI (-1) 0=true:=rfl;rw[this,Nat.div_eq_of_lt hlt,Nat.mod_eq_of_lt hlt,<- bBE];rfl
  ·rw[if_neg hlt];have e1:ltI (if b<a then (1:Int) else 0) 0=false:=by
    rw[aE]; refine oF ?_;grind
   rw[e1,oD]
   by_cases h1:(pcs b).length=1
   ·have hbB:b<1000000000:=by have:=aM3 b; rw[h1]at this; simpa using this
    have e2:eqI ((pcs b).length:Int) 1=true:=by rw[dW]; exact oT Z
    have e3:aF 0 (pcs b).length=true:=by rw[aL]; exact oT Z
    have e4:Nat.blt 0 (pcs b).length=true:=by rw[cA]; exact oT Z
    have e5:(pcs b).getD 0 0=(b:Int):=by rw[aNU]; simp; omega
    have sm:=aVM a (n:=b) ⟨by omega,hbB⟩ Z [];have hr:a%b<b:=Nat.mod_lt _ Z;rw[e2,e3,e4,e5];rw[sm,aD];rw[tq,aD];show (aB (vV (((a%b:Nat):Int),())) _)=_;rw[ML _ Z,aD]
   ·have h0:0<(pcs b).length:=by rw[aFX h]; simp
    have e2:eqI ((pcs b).length:Int) 1=false:=by rw[dW]; exact oF Z
    have dv:=a1G a b Z Z Z [];rw[e2];rw[dv,aD];rw[tq,aD];show (aB (cX (pcs (a%b),())) _)=_;rw[tr,aD]
theorem aX7(x y:Int) (hx:Lib.nDigits x.natAbs<=400000) (hy:Lib.nDigits y.natAbs<=400000):YZ (Zn x,Zn y,())=some (Zn (x+y),()):=by
 have slow:(aB (cU (Zn x,())) λy4=>aB (cU (Zn y,())) λy5 =>
   bif y4.1 then
    bif y5.1 then
     aB (fM (y4.2.1,y5.2.1,())) λy6 =>
     aB (aA (y4.1,y6.1,())) λy7 =>
     some (y7.1,())
    else aB (gB (y4.2.1,y5.2.1,())) λy8 =>
    bif ltI y8.1 0 then
     aB (cY (y5.2.1,y4.2.1,())) λy9 =>
     aB (aA (y5.1,y9.1,())) λy10 =>
     some (y10.1,())
    else aB (cY (y4.2.1,y5.2.1,())) λy11 =>
    aB (aA (y4.1,y11.1,())) λy12 =>
    some (y12.1,())
   else bif y5.1 then
    aB (gB (y4.2.1,y5.2.1,())) λy13 =>
    bif ltI y13.1 0 then
     aB (cY (y5.2.1,y4.2.1,())) λy14 =>
     aB (aA (y5.1,y14.1,())) λy15 =>
     some (y15.1,())
    else aB (cY (y4.2.1,y5.2.1,())) λy16 =>
    aB (aA (y4.1,y16.1,())) λy17 =>
    some (y17.1,())
   else aB (fM (y4.2.1,y5.2.1,())) λy18 =>
   aB (aA (y4.1,y18.1,())) λy19 =>
   some (y19.1,()))=some (Zn (x+y),()):=by
  simp only[vR x,vR y,aD];have dg:∀ u:Nat,u<=x.natAbs+y.natAbs->Lib.nDigits u<2^32:=λu hu=>by
   have h1:=yX hu;have h2:=T3 x.natAbs y.natAbs;omega
  have cm:∀ a b:Nat,ltI (aCL a b) 0=decide (a<b):=λa b=>by
   rw[aE]; unfold aCL;grind
  rcases(by omega:x<0\/0<=x)with gx|gx
  ·rcases(by omega:y<0\/0<=y)with gy|gy
   ·simp only[gx,gy,decide_true,oC,QC _ _ (oR hx O) (oR hy O),aD,pK (x.natAbs+y.natAbs) (dg _ Z)];grind
   ·have gy':¬ y<0:=Z
    simp only[gx,gy',decide_true,decide_false,oC,oD,yH x.natAbs y.natAbs Z Z,aD,cm]
    by_cases g:x.natAbs<y.natAbs
    ·simp only[g,decide_true,oC,F7 _ _ (oR hy O) (oR hx O) (Nat.le_of_lt g),aD,s9 (y.natAbs-x.natAbs) (dg _ Z)];have:((y.natAbs-x.natAbs:Nat):Int)=x+y:=Z
     rw[this]
    ·simp only[g,decide_false,oD,F7 _ _ (oR hx O) (oR hy O) (Nat.not_lt.1 g),aD,pK (x.natAbs-y.natAbs) (dg _ Z)];have : -((x.natAbs-y.natAbs:Nat):Int)=x+y:=Z
     rw[this]
  ·have gx':¬ x<0:=Z
   rcases(by omega:y<0\/0<=y)with gy|gy
   ·simp only[gx',gy,decide_true,decide_false,oC,oD,yH x.natAbs y.natAbs Z Z,aD,cm]
    by_cases g:x.natAbs<y.natAbs
    ·simp only[g,decide_true,oC,F7 _ _ (oR hy O) (oR hx O) (Nat.le_of_lt g),aD,pK (y.natAbs-x.natAbs) (dg _ Z)];have : -((y.natAbs-x.natAbs:Nat):Int)=x+y:=Z
     rw[this]
    ·simp only[g,decide_false,oD,F7 _ _ (oR hx O) (oR hy O) (Nat.not_lt.1 g),aD,s9 (x.natAbs-y.natAbs) (dg _ Z)];have:((x.natAbs-y.natAbs:Nat):Int)=x+y:=Z
     rw[this]
   ·have gy':¬ y<0:=Z
    simp only[gx',gy',decide_false,oD,QC _ _ (oR hx O) (oR hy O),aD,s9 (x.natAbs+y.natAbs) (dg _ Z)];have:((x.natAbs+y.natAbs:Nat):Int)=x+y:=Z
    rw[this]
 unfold YZ;simp only[GJ x 18 O,GJ y 18 O,aD]
 by_cases g1:((Zn x).size:Int)<=18
 ·simp only[g1,if_true,aD,oC]
  by_cases g2:((Zn y).size:Int)<=18
  ·have h1:=aI5 (L7 (k:=18) g1);have h2:=aI5 (L7 (k:=18) g2);simp only[g2,if_true,aD,oC];rw[wrap64 Z Z,AY _ Z Z];rfl
  ·simp only[g2,if_false,aD,oD];exact slow
 ·simp only[g1,if_false,aD,oD];exact slow
theorem aYY x y (hx:Lib.nDigits x.natAbs<=400000)(hy:Lib.nDigits y.natAbs<=400000):RX (Zn x,Zn y,())=some (Zn (x-y),()):=by
 unfold RX;simp only[aO6 y Z,aD];rw[aX7 x (-y) hx W];rfl
theorem aYF(x y:Int) (h:Lib.nDigits x.natAbs+Lib.nDigits y.natAbs<=400000):RZ (Zn x,Zn y,())=some (Zn (x*y),()):=by
 have hab:(x*y).natAbs=x.natAbs*y.natAbs:=Int.natAbs_mul _ _;have slow:(aB (cU ((Zn x),())) λy14 =>
  aB (cU ((Zn y),())) λy15 =>
  bif y14.1 then
   bif y15.1 then
    aB (fN (y14.2.1,y15.2.1,())) λy16 =>
    aB (aA (false,y16.1,())) λy17 =>
    some (y17.1,())
   else aB (fN (y14.2.1,y15.2.1,())) λy18 =>
   aB (aA (true,y18.1,())) λy19 =>
   some (y19.1,())
  else bif y15.1 then
   aB (fN (y14.2.1,y15.2.1,())) λy20 =>
   aB (aA (true,y20.1,())) λy21 =>
   some (y21.1,())
  else aB (fN (y14.2.1,y15.2.1,())) λy22 =>
  aB (aA (false,y22.1,())) λy23 =>
  some (y23.1,()))=some (Zn (x*y),()):=by
  have dg:Lib.nDigits (x.natAbs*y.natAbs)<2^32:=by
   have:=aGV x.natAbs y.natAbs;omega
  have dm:=aRB _ _ (oR h O);simp only[vR x,vR y,aD,dm];rcases(by omega:x<0\/0<=x)with gx|gx
  ·rcases(by omega:y<0\/0<=y)with gy|gy
   ·have:((x.natAbs*y.natAbs:Nat):Int)=x*y:=by
     grind
    simp only[gx,gy,decide_true,oC,s9 _ dg,aD,this]
   ·have gy':¬ y<0:=Z
    have : -((x.natAbs*y.natAbs:Nat):Int)=x*y:=W
    simp only[gx,gy',decide_true,decide_false,oC,oD,pK _ dg,aD,this]
  ·have gx':¬ x<0:=Z
   rcases(by omega:y<0\/0<=y)with gy|gy
   ·have : -((x.natAbs*y.natAbs:Nat):Int)=x*y:=by
     grind
    simp only[gx',gy,decide_true,decide_false,oC,oD,pK _ dg,aD,this]
   ·have gy':¬ y<0:=Z
    have:((x.natAbs*y.natAbs:Nat):Int)=x*y:=W
    simp only[gx',gy',decide_false,oD,s9 _ dg,aD,this]
 unfold RZ;simp only[GJ x 9 O,GJ y 9 O,aD]
 by_cases g1:((Zn x).size:Int)<=9
 ·simp only[g1,if_true,aD,oC]
  by_cases g2:((Zn y).size:Int)<=9
  ·have h1:=jJ x.natAbs;have h2:=jJ y.natAbs;have h3:=L7 (k:=9) g1;have h4:=L7 (k:=9) g2;have hb:x.natAbs*y.natAbs<1000000000000000000:=by
    have h5:x.natAbs*y.natAbs<10^Lib.nDigits x.natAbs*10^Lib.nDigits y.natAbs:=Nat.mul_lt_mul'' h1 h2;rw[<- Nat.pow_add]at h5;have h6:10^(Lib.nDigits x.natAbs+Lib.nDigits y.natAbs)<=10^18:=Nat.pow_le_pow_right O Z;have h7:(10:Nat)^18=1000000000000000000:=O
    omega
   simp only[g2,if_true,aD,oC];rw[wrap64 Z Z,AY _ Z Z];rfl
  ·simp only[g2,if_false,aD,oD];exact slow
 ·simp only[g1,if_false,aD,oD];exact slow
theorem UT(x y:Int) (hx:Lib.nDigits x.natAbs<=400000) (hy:Lib.nDigits y.natAbs<=400000) (h0:y≠0):DA (Zn x,Zn y,())=some (Zn (x.fdiv y),Zn (x.fmod y),0,()):=by
 have slow:(aB (cU ((Zn x),())) λy68 =>
  aB (cU ((Zn y),())) λy69 =>
  aB (o8 (y68.2.1,y69.2.1,())) λy70 =>
  bif !(eqI y70.2.2.1 0) then
   some ((ByteArray.mk #[]),(ByteArray.mk #[]),y70.2.2.1,())
  else bif y68.1 then
   bif y69.1 then
    bif y68.1 then
     bif y69.1 then
      aB (aA (false,y70.1,())) λy71 =>
      aB (aA (y69.1,y70.2.1,())) λy72 =>
      some (y71.1,y72.1,0,())
     else aB (aA (true,y70.1,())) λy73 =>
     aB (aA (y69.1,y70.2.1,())) λy74 =>
     some (y73.1,y74.1,0,())
    else bif y69.1 then
     aB (aA (true,y70.1,())) λy75 =>
     aB (aA (y69.1,y70.2.1,())) λy76 =>
     some (y75.1,y76.1,0,())
    else aB (aA (false,y70.1,())) λy77 =>
    aB (aA (y69.1,y70.2.1,())) λy78 =>
    some (y77.1,y78.1,0,())
   else bif !(eqS y70.2.1 (ByteArray.mk #[48])) then
    aB (fM (y70.1,(ByteArray.mk #[49]),())) λy79 =>
    aB (cY (y69.2.1,y70.2.1,())) λy80 =>
    bif y68.1 then
     bif y69.1 then
      aB (aA (false,y79.1,())) λy81 =>
      aB (aA (y69.1,y80.1,())) λy82 =>
      some (y81.1,y82.1,0,())
     else aB (aA (true,y79.1,())) λy83 =>
     aB (aA (y69.1,y80.1,())) λy84 =>
     some (y83.1,y84.1,0,())
    else bif y69.1 then
     aB (aA (true,y79.1,())) λy85 =>
     aB (aA (y69.1,y80.1,())) λy86 =>
     some (y85.1,y86.1,0,())
    else aB (aA (false,y79.1,())) λy87 =>
    aB (aA (y69.1,y80.1,())) λy88 =>
    some (y87.1,y88.1,0,())
   else bif y68.1 then
    bif y69.1 then
     aB (aA (false,y70.1,())) λy89 =>
     aB (aA (y69.1,y70.2.1,())) λy90 =>
     some (y89.1,y90.1,0,())
    else aB (aA (true,y70.1,())) λy91 =>
    aB (aA (y69.1,y70.2.1,())) λy92 =>
    some (y91.1,y92.1,0,())
   else bif y69.1 then
    aB (aA (true,y70.1,())) λy93 =>
    aB (aA (y69.1,y70.2.1,())) λy94 =>
    some (y93.1,y94.1,0,())
   else aB (aA (false,y70.1,())) λy95 =>
   aB (aA (y69.1,y70.2.1,())) λy96 =>
   some (y95.1,y96.1,0,())
  else bif y69.1 then
   bif !(eqS y70.2.1 (ByteArray.mk #[48])) then
    aB (fM (y70.1,(ByteArray.mk #[49]),())) λy97 =>
    aB (cY (y69.2.1,y70.2.1,())) λy98 =>
    bif y68.1 then
     bif y69.1 then
      aB (aA (false,y97.1,())) λy99 =>
      aB (aA (y69.1,y98.1,())) λy100 =>
      some (y99.1,y100.1,0,())
     else aB (aA (true,y97.1,())) λy101 =>
     aB (aA (y69.1,y98.1,())) λy102 =>
     some (y101.1,y102.1,0,())
    else bif y69.1 then
     aB (aA (true,y97.1,())) λy103 =>
     aB (aA (y69.1,y98.1,())) λy104 =>
     some (y103.1,y104.1,0,())
    else aB (aA (false,y97.1,())) λy105 =>
    aB (aA (y69.1,y98.1,())) λy106 =>
    some (y105.1,y106.1,0,())
   else bif y68.1 then
    bif y69.1 then
     aB (aA (false,y70.1,())) λy107 =>
     aB (aA (y69.1,y70.2.1,())) λy108 =>
     some (y107.1,y108.1,0,())
    else aB (aA (true,y70.1,())) λy109 =>
    aB (aA (y69.1,y70.2.1,())) λy110 =>
    some (y109.1,y110.1,0,())
   else bif y69.1 then
    aB (aA (true,y70.1,())) λy111 =>
    aB (aA (y69.1,y70.2.1,())) λy112 =>
    some (y111.1,y112.1,0,())
   else aB (aA (false,y70.1,())) λy113 =>
   aB (aA (y69.1,y70.2.1,())) λy114 =>
   some (y113.1,y114.1,0,())
  else bif y68.1 then
   bif y69.1 then
    aB (aA (false,y70.1,())) λy115 =>
    aB (aA (y69.1,y70.2.1,())) λy116 =>
    some (y115.1,y116.1,0,())
   else aB (aA (true,y70.1,())) λy117 =>
   aB (aA (y69.1,y70.2.1,())) λy118 =>
   some (y117.1,y118.1,0,())
  else bif y69.1 then
   aB (aA (true,y70.1,())) λy119 =>
   aB (aA (y69.1,y70.2.1,())) λy120 =>
   some (y119.1,y120.1,0,())
  else aB (aA (false,y70.1,())) λy121 =>
  aB (aA (y69.1,y70.2.1,())) λy122 =>
  some (y121.1,y122.1,0,()))=some (Zn (x.fdiv y),Zn (x.fmod y),0,()):=by
  have dm:=aKG _ _ (oR hx O) (oR hy O) (show y.natAbs≠0 by omega);have ed:x.natAbs=y.natAbs*(x.natAbs/y.natAbs)+x.natAbs%y.natAbs:=(Nat.div_add_mod _ _).symm;have lm:x.natAbs%y.natAbs<y.natAbs:=Nat.mod_lt _ Z;have lq:x.natAbs/y.natAbs<=x.natAbs:=Nat.div_le_self _ _;have e00:eqI 0 0=true:=O
  simp only[vR x,vR y,aD,dm,e00,Bool.not_true,oD,aKW,bDF];generalize x.natAbs/y.natAbs=q at *;generalize x.natAbs%y.natAbs=r at *;have dg:∀ u:Nat,u<=x.natAbs+y.natAbs+1->Lib.nDigits u<2^32:=λu hu=>by
   have h1:=yX hu;have h2:=T3 x.natAbs y.natAbs;have h3:=T3 (x.natAbs+y.natAbs) 1;have h4:Lib.nDigits 1=1:=Lib.nDigits_small O;omega
  have d18:∀ u:Nat,u<=x.natAbs\/u<=y.natAbs->Lib.nDigits u<=900000:=λu hu=>by
   rcases hu with h|h
   ·have:=yX h; omega
   ·have:=yX h; omega
  have edI:(x.natAbs:Int)=(y.natAbs:Int)*(q:Int)+(r:Int):=by rw[ed]; simp
  rcases(by omega:x<0\/0<=x)with gx|gx
  ·rcases(by omega:y<0\/0<=y)with gy|gy
   ·simp only[gx,gy,decide_true,oC,s9 q (dg _ Z),pK r (dg _ Z),aD];have ex:x=y*(q:Int) + -(r:Int):=by
     have a1:(x.natAbs:Int) = -x:=Z
     have a2:(y.natAbs:Int) = -y:=Z
     rw[a1,a2]at edI;grind
    obtain⟨u1,u2⟩:=qU ex Z Z h0;rw[u1,u2]
   ·have gy':¬ y<0:=Z
    by_cases hr:r=0
    ·simp only[gx,gy',hr,decide_true,decide_false,Bool.not_true,oC,oD,pK q (dg _ Z),s9 0 (dg _ Z),aD];have ex:x=y * -(q:Int)+((0:Nat):Int):=by
      have a1:(x.natAbs:Int) = -x:=Z
      have a2:(y.natAbs:Int)=y:=Z
      rw[a1,a2,hr]at edI;grind
     obtain⟨u1,u2⟩:=qU ex Z Z h0;rw[u1,u2]
    ·simp only[gx,gy',hr,decide_true,decide_false,Bool.not_false,Bool.not_true,oC,oD,QC q 1 (d18 _ Z) (d18 _ Z),F7 y.natAbs r (oR hy O) (d18 _ Z) (Nat.le_of_lt lm),pK (q+1) (dg _ Z),s9 (y.natAbs-r) (dg _ Z),aD];have ex:x=y * -((q+1:Nat):Int)+((y.natAbs-r:Nat):Int):=by
      have a1:(x.natAbs:Int) = -x:=Z
      have a2:(y.natAbs:Int)=y:=Z
      have a3:((y.natAbs-r:Nat):Int)=y-r:=Z
      have a4:((q+1:Nat):Int)=(q:Int)+1:=Z
      rw[a1,a2]at edI;rw[a3,a4];grind
     obtain⟨u1,u2⟩:=qU ex Z Z h0;rw[u1,u2]
  ·have gx':¬ x<0:=Z
   rcases(by omega:y<0\/0<=y)with gy|gy
   ·by_cases hr:r=0
    ·simp only[gx',gy,hr,decide_true,decide_false,Bool.not_true,oC,oD,pK q (dg _ Z),pK 0 (dg _ Z),aD];have ex:x=y * -(q:Int) + -((0:Nat):Int):=by
      have a1:(x.natAbs:Int)=x:=Z
      have a2:(y.natAbs:Int) = -y:=Z
      rw[a1,a2,hr]at edI;grind
     obtain⟨u1,u2⟩:=qU ex Z Z h0;rw[u1,u2]
    ·simp only[gx',gy,hr,decide_true,decide_false,Bool.not_false,Bool.not_true,oC,oD,QC q 1 (d18 _ Z) (d18 _ Z),F7 y.natAbs r (oR hy O) (d18 _ Z) (Nat.le_of_lt lm),pK (q+1) (dg _ Z),pK (y.natAbs-r) (dg _ Z),aD];have ex:x=y * -((q+1:Nat):Int) + -((y.natAbs-r:Nat):Int):=by
      have a1:(x.natAbs:Int)=x:=Z
      have a2:(y.natAbs:Int) = -y:=Z
      have a3:((y.natAbs-r:Nat):Int) = -y-r:=Z
      have a4:((q+1:Nat):Int)=(q:Int)+1:=Z
      rw[a1,a2]at edI;rw[a3,a4];grind
     obtain⟨u1,u2⟩:=qU ex Z Z h0;rw[u1,u2]
   ·have gy':¬ y<0:=Z
    simp only[gx',gy',decide_true,decide_false,oD,s9 q (dg _ Z),s9 r (dg _ Z),aD];have ex:x=y*(q:Int)+(r:Int):=by
     have a1:(x.natAbs:Int)=x:=Z
     have a2:(y.natAbs:Int)=y:=Z
     rw[a1,a2]at edI;exact edI
    obtain⟨u1,u2⟩:=qU ex Z Z h0;rw[u1,u2]
 unfold DA;simp only[GJ x 18 O,GJ y 18 O,aD,TV,h0,decide_false,oD]
 by_cases g1:((Zn x).size:Int)<=18
 ·simp only[g1,if_true,aD,oC]
  by_cases g2:((Zn y).size:Int)<=18
  ·have b1:=aI5 (L7 (k:=18) g1);have b2:=aI5 (L7 (k:=18) g2);simp only[g2,if_true,aD,oC];have e1:eqI y 0=false:=by rw[dW]; simp[h0]
   have t1:x=y*x.tdiv y+x.tmod y:=(Int.mul_tdiv_add_tmod x y).symm;have t2:(x.tmod y).natAbs<y.natAbs:=by rw[Int.natAbs_tmod]; exact Nat.mod_lt _ Z
   have t3:(x.tdiv y).natAbs<=x.natAbs:=by rw[Int.natAbs_tdiv]; exact Nat.div_le_self _ _
   have t4:0<=x->0<=x.tmod y:=λh=>Int.tmod_nonneg y h
   have t5:x<=0->x.tmod y<=0:=λh=>by
    have:=Int.tmod_nonneg (a:=-x) y Z;rw[Int.neg_tmod]at this;omega
   simp only[e1,oD,dW,aE];generalize x.tdiv y=q at *;generalize x.tmod y=r at *
   by_cases hr:r=0
   ·obtain⟨u1,u2⟩:=qU (x:=x) (y:=y) (f:=q) (g:=r) t1 Z Z h0;simp only[hr,decide_true,Bool.not_true,oD];rw[wrap64 Z Z,AY _ Z Z,aD,AY _ Z Z,aD,u1,u2,hr]
   ·simp only[hr,decide_false,Bool.not_false,oC]
    by_cases r1:r<0
    ·by_cases y1:y<0
     ·obtain⟨u1,u2⟩:=qU (x:=x) (y:=y) (f:=q) (g:=r) t1 Z Z h0;simp only[r1,y1,decide_true,oC];rw[wrap64 Z Z,AY _ Z Z,aD,AY _ Z Z,aD,u1,u2]
     ·obtain⟨u1,u2⟩:=qU (x:=x) (y:=y) (f:=q-1) (g:=r+y) W Z Z h0;simp only[r1,y1,decide_true,decide_false,oC,oD];rw[wrap64 (x:=q) Z Z,wrap64 Z Z,AY _ Z Z,aD,wrap64 Z Z,AY _ Z Z,aD,u1,u2]
    ·by_cases y1:y<0
     ·obtain⟨u1,u2⟩:=qU (x:=x) (y:=y) (f:=q-1) (g:=r+y) W Z Z h0;simp only[r1,y1,decide_true,decide_false,oC,oD];rw[wrap64 (x:=q) Z Z,wrap64 Z Z,AY _ Z Z,aD,wrap64 Z Z,AY _ Z Z,aD,u1,u2]
     ·obtain⟨u1,u2⟩:=qU (x:=x) (y:=y) (f:=q) (g:=r) t1 Z Z h0;simp only[r1,y1,decide_false,oD];rw[wrap64 Z Z,AY _ Z Z,aD,AY _ Z Z,aD,u1,u2]
  ·simp only[g2,if_false,aD,oD];exact slow
 ·simp only[g1,if_false,aD,oD];exact slow
end Go.PM
namespace Go.Lz
abbrev V:=Nat->Int
inductive Sp (k:Nat) (M:Nat->V):V->Prop
 | zero:Sp k M (λ_=>0)
 | add {v:V} (j:Nat) (t:Int):j<k->Sp k M v->Sp k M (λi=>v i+t*M j i)
theorem Sp.mem {k M j}(h:j<k):Sp k M (M j):=by
 have:=Sp.add j 1 h (Sp.zero (M:=M));grind
theorem Sp.comb {k M u v} t (hu:Sp k M u)(hv:Sp k M v):Sp k M (λi=>u i+t*v i):=by
 induction hv with
 | zero=>grind
 | add j s hj _ ih =>
  have:=Sp.add j (t*s) hj ih;grind
theorem Sp.sum {k M u v}(hu:Sp k M u)(hv:Sp k M v):Sp k M (λi=>u i+v i):=by
 have:=Sp.comb 1 hu hv;grind
theorem Sp.smul {k M v} t (hv:Sp k M v):Sp k M (λi=>t*v i):=by
 have:=Sp.comb t Sp.zero hv;grind
theorem Sp.sub {k M u v}(hu:Sp k M u)(hv:Sp k M v):Sp k M (λi=>u i-v i):=by
 have:=Sp.comb (-1) hu hv;grind
theorem Sp.trans {k k' M M'}(h:∀ j,j<k->Sp k' M' (M j)){v}(hv:Sp k M v):Sp k' M' v:=by
 induction hv with
 | zero=>exact .zero
 | add j t hj _ ih=>exact Sp.comb t ih (h j hj)
theorem Sp.kH {k M x}(h:∀ j,j<k->M j x=0){v}(hv:Sp k M v):v x=0:=by
 induction hv with
 | zero=>rfl
 | add j t hj _ ih=>grind
def Same(k:Nat) (M:Nat->V) (k':Nat) (M':Nat->V):Prop:=∀ v,Sp k M v↔Sp k' M' v
theorem Same.refl k M:Same k M k M:=λ_=>Iff.rfl
theorem Same.symm {k k' M M'}(h:Same k M k' M'):Same k' M' k M:=λv=>(h v).symm
theorem Same.trans {k k' k'' M M' M''}(h:Same k M k' M')(g:Same k' M' k'' M''):Same k M k'' M'':=λv=>(h v).trans (g v)
theorem Same.of {k k' M M'}(h:∀ j,j<k->Sp k' M' (M j))(g:∀ j,j<k'->Sp k M (M' j)):Same k M k' M':=λ_=>⟨Sp.trans h,Sp.trans g⟩
theorem Same.congr {k M M'}(h:∀ j,j<k->M j=M' j):Same k M k M' :=
 Same.of (λj hj=>by rw[h j hj]; exact Sp.mem hj) (λj hj=>by rw[<- h j hj]; exact Sp.mem hj)
theorem Sp.first {k:Nat} {M:Nat->V} {v:V} (h:Sp (k+1) M v):∃ t u,Sp k (λi=>M (i+1)) u/\v=λi=>u i+t*M 0 i:=by
 induction h with
 | zero=>exact⟨0,λ_=>0,.zero,by funext i; simp⟩
 | add j s hj _ ih =>
  obtain⟨t,u,hu,rfl⟩:=ih;cases j with
  | zero=>exact⟨t+s,u,hu,by funext i; grind⟩
  | succ j=>exact⟨t,_,Sp.add j s Z hu,by funext i; grind⟩
theorem Sp.behind {k M u}(h:Sp k (λi=>M (i+1)) u):Sp (k+1) M u :=
 Sp.trans (λj hj=>Sp.mem Z) h
structure Hn (k:Nat) (M:Nat->V) (c:Nat->Nat):Prop where
 inc:∀ i j,i<j->j<k->c i<c j
 low:∀ i,i<k->∀ x,x<c i->M i x=0
 pos:∀ i,i<k->0<M i (c i)
 red:∀ i j,i<j->j<k->0<=M i (c j)/\M i (c j)<M j (c j)
theorem Hn.tail {k M c}(h:Hn (k+1) M c):Hn k (λi=>M (i+1)) (λi=>c (i+1)) where
 inc:=λi j hij hj=>h.inc _ _ Z Z
 low:=λi hi=>h.low _ Z
 pos:=λi hi=>h.pos _ Z
 red:=λi j hij hj=>h.red _ _ Z Z
theorem Hn.aJ3 {k M c}(h:Hn (k+1) M c){u}(hu:Sp k (λi=>M (i+1)) u){x}(hx:x<=c 0):u x=0 :=
 Sp.kH (λj hj=>h.low (j+1) Z x (by have:=h.inc 0 (j+1) R Z; omega)) hu
theorem Hn.small:∀ {k:Nat} {M:Nat->V} {c:Nat->Nat},Hn k M c->∀ {v:V},Sp k M v->(∀ i,i<k->-(M i (c i))<v (c i)/\v (c i)<M i (c i))->v=λ_=>0
 | 0,M,c,h,v,hv,_=>by
  cases hv with
  | zero=>rfl
  | add j t hj _=>omega
 | k+1,M,c,h,v,hv,hs=>by
  obtain⟨t,u,hu,rfl⟩:=hv.first;have h0:=h.aJ3 hu (Nat.le_refl _);have hs0:=hs 0 Z;simp only[h0,Int.zero_add]at hs0;have ht:t=0:=by
   rcases Int.lt_trichotomy t 0 with h1|h1|h1
   ·have:t*M 0 (c 0)<=(-1)*M 0 (c 0):=Int.mul_le_mul_of_nonneg_right Z Z;omega
   ·exact h1
   ·have:1*M 0 (c 0)<=t*M 0 (c 0):=Int.mul_le_mul_of_nonneg_right Z Z;omega
  subst ht;have e:(λi=>u i+0*M 0 i)=u:=by funext i; simp
  rw[e]at hs ⊢;exact Hn.small h.tail hu λi hi=>hs (i+1) Z
theorem Hn.unique:∀ {k k':Nat} {M M':Nat->V} {c c':Nat->Nat},Hn k M c->Hn k' M' c'->Same k M k' M'->k=k'/\(∀ i,i<k->c i=c' i)/\∀ i,i<k->M i=M' i
 | 0,0,_,_,_,_,_,_,_=>⟨rfl,λi hi=>by omega,λi hi=>by omega⟩
 | 0,k'+1,M,M',c,c',h,h',e=>by
  have:=Hn.small h ((e _).2 (Sp.mem (M:=M') (Nat.succ_pos k'))) (λi hi=>by omega);have hp:=h'.pos 0 Z;grind
 | k+1,0,M,M',c,c',h,h',e=>by
  have:=Hn.small h' ((e _).1 (Sp.mem (M:=M) (Nat.succ_pos k))) (λi hi=>by omega);have hp:=h.pos 0 Z;grind
 | k+1,k'+1,M,M',c,c',h,h',e=>by
  have hp:=h.pos 0 Z;have hp':=h'.pos 0 Z;obtain⟨t,u,hu,ht⟩:=Sp.first ((e _).1 (Sp.mem (M:=M) (Nat.succ_pos k)));obtain⟨t',u',hu',ht'⟩:=Sp.first ((e _).2 (Sp.mem (M:=M') (Nat.succ_pos k')));have hc:c 0=c' 0:=by
   rcases Nat.lt_trichotomy (c 0) (c' 0)with h1|h1|h1
   ·exfalso;have a1:=congrFun ht (c 0);have a2:=h'.aJ3 hu (x:=c 0) Z;have a3:=h'.low 0 Z _ h1;grind
   ·exact h1
   ·exfalso;have a1:=congrFun ht' (c' 0);have a2:=h.aJ3 hu' (x:=c' 0) Z;have a3:=h.low 0 Z _ h1;grind
  have e1:M 0 (c 0)=t*M' 0 (c 0):=by
   have a1:=congrFun ht (c 0);have a2:=h'.aJ3 hu (x:=c 0) Z;grind
  have e2:M' 0 (c 0)=t'*M 0 (c 0):=by
   have a1:=congrFun ht' (c 0);have a2:=h.aJ3 hu' (x:=c 0) Z;grind
  rw[<- hc]at hp';have e3:M 0 (c 0)=M' 0 (c 0):=Int.le_antisymm (Int.le_of_dvd hp' ⟨t',by rw[e2]; exact Int.mul_comm _ _⟩) (Int.le_of_dvd hp ⟨t,by rw[e1]; exact Int.mul_comm _ _⟩);have tails:Same k (λi=>M (i+1)) k' (λi=>M' (i+1)):=by
   intro v;constructor
   ·intro hv;obtain⟨s,w,hw,rfl⟩:=Sp.first ((e _).1 hv.behind);have a1:=h.aJ3 hv (Nat.le_refl _);have a2:=h'.aJ3 hw (x:=c 0) Z;simp only[a2,Int.zero_add]at a1;have:s=0:=by
     rcases Int.mul_eq_zero.1 a1 with h1|h1
     ·exact h1
     ·omega
    subst this;grind
   ·intro hv;obtain⟨s,w,hw,rfl⟩:=Sp.first ((e _).2 hv.behind);have a1:=h'.aJ3 hv (x:=c 0) Z;have a2:=h.aJ3 hw (x:=c 0) Z;simp only[a2,Int.zero_add]at a1;have:s=0:=by
     rcases Int.mul_eq_zero.1 a1 with h1|h1
     ·exact h1
     ·omega
    subst this;have e:(λi=>w i+0*M 0 i)=w:=by funext i; simp
    rw[e]; exact hw
  obtain⟨q1,q2,q3⟩:=Hn.unique h.tail h'.tail tails;subst q1;have hd:Sp k (λi=>M (i+1)) (λx=>M 0 x-M' 0 x):=by
   obtain⟨s,w,hw,hs⟩:=Sp.first (Sp.sub (Sp.mem (M:=M) (Nat.succ_pos k)) ((e _).2 (Sp.mem (M:=M') (Nat.succ_pos k))));have a1:=congrFun hs (c 0);have a2:=h.aJ3 hw (Nat.le_refl _);simp only[a2,e3,Int.zero_add,Int.sub_self]at a1;have:s=0:=by
    rcases Int.mul_eq_zero.1 a1.symm with h1|h1
    ·exact h1
    ·omega
   subst this;have e:(λi=>w i+0*M 0 i)=w:=by funext i; simp
   rw[hs,e]; exact hw
  have hz:=Hn.small h.tail hd (λi hi=>by
   have r1:=h.red 0 (i+1) Z Z;have r2:=h'.red 0 (i+1) Z Z;have r3:=q2 i hi;have r4:=congrFun (q3 i hi) (c (i+1));rw[<- r3]at r2;rw[<- r4]at r2;constructor <;> omega)
  refine⟨rfl,λi hi=>?_,λi hi=>?_⟩
  ·cases i with
   | zero=>exact hc
   | succ i=>exact q2 i Z
  ·cases i with
   | zero =>
    funext x
    have:=congrFun hz x;omega
   | succ i=>exact q3 i Z
def up(M:Nat->V) (i:Nat) (r:V):Nat->V:=λj=>if j=i then r else M j
theorem KV M i r:up M i r i=r:=by simp[up]
theorem CZ M {i j} r (h:j≠i):up M i r j=M j:=by simp[up,h]
def swp(M:Nat->V)(a b:Nat):Nat->V:=λj=>if j=a then M b else if j=b then M a else M j
theorem a4E {k a b} M (ha:a<k)(hb:b<k):Same k M k (swp M a b):=by
 refine Same.of (λj hj=>?_) (λj hj=>?_)
 ·by_cases h1:j=a
  ·subst h1
   by_cases h2:b=j
   ·have:=Sp.mem (M:=swp M j b) ha;simp only[swp,h2]at this ⊢;exact this
   ·have:=Sp.mem (M:=swp M j b) hb;simp only[swp,h2]at this ⊢;exact this
  ·by_cases h2:j=b
   ·subst h2;have:=Sp.mem (M:=swp M a j) ha;simp only[swp]at this ⊢;grind
   ·have:=Sp.mem (M:=swp M a b) hj;simp only[swp]at this ⊢;grind
 ·unfold swp;split
  ·exact Sp.mem hb
  ·split
   ·exact Sp.mem ha
   ·exact Sp.mem hj
theorem aQN {k i d} M q (hi:i<k)(hd:d<k)(hne:i≠d):Same k M k (up M i λx=>M i x-q*M d x):=by
 refine Same.of (λj hj=>?_) (λj hj=>?_)
 ·by_cases h:j=i
  ·subst h;have h1:=Sp.mem (M:=up M j λx=>M j x-q*M d x) hj;have h2:=Sp.mem (M:=up M j λx=>M j x-q*M d x) hd;rw[KV]at h1;rw[CZ _ _ (Ne.symm hne)]at h2;have:=Sp.comb q h1 h2;grind
  ·have:=Sp.mem (M:=up M i λx=>M i x-q*M d x) hj;rwa[CZ _ _ h]at this
 ·by_cases h:j=i
  ·subst h;rw[KV];have:=Sp.comb (-q) (Sp.mem hj) (Sp.mem (M:=M) hd);grind
  ·rw[CZ _ _ h]; exact Sp.mem hj
theorem a5Q {k i} M (hi:i<k):Same k M k (up M i λx=>-(M i x)):=by
 refine Same.of (λj hj=>?_) (λj hj=>?_)
 ·by_cases h:j=i
  ·subst h;have h1:=Sp.mem (M:=up M j λx=>-(M j x)) hj;rw[KV]at h1;have:=Sp.smul (-1) h1;grind
  ·have:=Sp.mem (M:=up M i λx=>-(M i x)) hj;rwa[CZ _ _ h]at this
 ·by_cases h:j=i
  ·subst h;rw[KV];have:=Sp.smul (-1) (Sp.mem (M:=M) hj);grind
  ·rw[CZ _ _ h]; exact Sp.mem hj
theorem aVH {k d:Nat} (M:Nat->V) (hd:d<=k) (h:∀ i,d<=i->i<k->M i=λ_=>0):Same k M d M:=by
 refine Same.of (λj hj=>?_) (λj hj=>Sp.mem Z);rcases Nat.lt_or_ge j d with h1|h1
 ·exact Sp.mem h1
 ·rw[h j h1 hj]; exact .zero
structure Fo (k:Nat) (M0 M:Nat->V) (d c:Nat) (p:Nat->Nat):Prop where
 le:d<=k
 same:Same k M0 k M
 inc:∀ i j,i<j->j<d->p i<p j
 lt:∀ i,i<d->p i<c
 low:∀ i,i<d->∀ x,x<p i->M i x=0
 pos:∀ i,i<d->0<M i (p i)
 red:∀ i j,i<j->j<d->0<=M i (p j)/\M i (p j)<M j (p j)
 rest:∀ i,d<=i->i<k->∀ x,x<c->M i x=0
theorem Fo.start k M:Fo k M M 0 0 (λ_=>0) where
 le:=Nat.zero_le _
 same:=Same.refl _ _
 inc:=λi j _ h=>Z
 lt:=λi h=>Z
 low:=λi h=>R
 pos:=λi h=>Z
 red:=λi j _ h=>Z
 rest:=λi _ _ x h=>Z
section
variable {k d c:Nat} {M0 M:Nat->V} {p:Nat->Nat}
theorem Fo.aJW (h:Fo k M0 M d c p) {M':Nat->V} (hs:Same k M k M') (h1:∀ i,i<d->M' i=M i) (h2:∀ i,d<=i->i<k->∀ x,x<c->M' i x=0):Fo k M0 M' d c p where
 le:=h.le
 same:=h.same.trans hs
 inc:=h.inc
 lt:=h.lt
 low:=λi hi=>by rw[h1 i hi]; exact h.low i hi
 pos:=λi hi=>by rw[h1 i hi]; exact h.pos i hi
 red:=λi j hij hj=>by rw[h1 i Z,h1 j hj]; exact h.red i j hij hj
 rest:=h2
theorem Fo.swap (h:Fo k M0 M d c p){a}(ha:d<=a)(hk:a<k):Fo k M0 (swp M d a) d c p:=by
 refine h.aJW (a4E M Z hk) (λi hi=>?_) (λi h1 h2 x hx=>?_)
 ·have e1:¬ i=d:=Z
  have e2:¬ i=a:=Z
  simp only[swp,e1,e2,if_false]
 ·unfold swp;split
  ·exact h.rest a ha hk x hx
  ·split
   ·exact h.rest d (Nat.le_refl _) Z x hx
   ·exact h.rest i h1 h2 x hx
theorem Fo.less (h:Fo k M0 M d c p){i} q (hi:d<i)(hk:i<k):Fo k M0 (up M i λx=>M i x-q*M d x) d c p:=by
 refine h.aJW (aQN M q hk Z Z) (λj hj=>CZ _ _ Z) (λj h1 h2 x hx=>?_)
 by_cases e:j=i
 ·subst e;rw[KV,h.rest j h1 h2 x hx,h.rest d (Nat.le_refl _) Z x hx];simp
 ·rw[CZ _ _ e]; exact h.rest j h1 h2 x hx
theorem Fo.neg (h:Fo k M0 M d c p)(hk:d<k):Fo k M0 (up M d λx=>-(M d x)) d c p:=by
 refine h.aJW (a5Q M hk) (λj hj=>CZ _ _ Z) (λj h1 h2 x hx=>?_)
 by_cases e:j=d
 ·subst e;rw[KV,h.rest j h1 h2 x hx];rfl
 ·rw[CZ _ _ e]; exact h.rest j h1 h2 x hx
theorem Fo.skip (h:Fo k M0 M d c p) (hz:∀ i,d<=i->i<k->M i c=0):Fo k M0 M d (c+1) p where
 le:=h.le
 same:=h.same
 inc:=h.inc
 lt:=λi hi=>by have:=h.lt i hi; omega
 low:=h.low
 pos:=h.pos
 red:=h.red
 rest:=λi h1 h2 x hx=>by
  rcases Nat.lt_or_ge x c with h3|h3
  ·exact h.rest i h1 h2 x h3
  ·grind
structure Fp (k:Nat) (M0 M:Nat->V) (d c:Nat) (p:Nat->Nat) (m:Nat):Prop extends Fo k M0 M d c p where
 dk:d<k
 piv:0<M d c
 below:∀ i,d<i->i<k->M i c=0
 up:∀ i,i<m->0<=M i c/\M i c<M d c
theorem Fp.less {m}(h:Fp k M0 M d c p m)(hm:m<d):Fp k M0 (Lz.up M m λx=>M m x-(M m c).fdiv (M d c)*M d x) d c p (m+1):=by
 have hd0:∀ x,x<c->M d x=0:=h.rest d (Nat.le_refl _) h.dk;have hr:∀ x,x<c->∀ i,Lz.up M m (λx=>M m x-(M m c).fdiv (M d c)*M d x) i x=M i x:=by
  intro x hx i
  by_cases e:i=m
  ·subst e;rw[KV,hd0 x hx]; simp
  ·rw[CZ _ _ e]
 have hne:∀ i,i≠m->Lz.up M m (λx=>M m x-(M m c).fdiv (M d c)*M d x) i=M i:=λi e=>CZ _ _ e
 refine { le:=h.le,same:=h.same.trans (aQN M _ (by have:=h.le; omega) h.dk Z),inc:=h.inc,lt:=h.lt,low:=λi hi x hx=>?_,pos:=λi hi=>?_,red:=λi j hij hj=>?_,rest:=λi h1 h2 x hx=>?_,dk:=h.dk,piv:=?_,below:=λi h1 h2=>?_,up:=λi hi=>?_ }
 ·rw[hr x (by have:=h.lt i hi; omega)]; exact h.low i hi x hx
 ·rw[hr _ (h.lt i hi)]; exact h.pos i hi
 ·rw[hr _ (h.lt j hj),hr _ (h.lt j hj)]; exact h.red i j hij hj
 ·rw[hr x hx]; exact h.rest i h1 h2 x hx
 ·rw[hne d Z]; exact h.piv
 ·rw[hne i Z]; exact h.below i h1 h2
 ·rw[hne d Z]
  by_cases e:i=m
  ·subst e;rw[KV];have h1:=Int.fmod_def (M i c) (M d c);have h2:=Int.fmod_nonneg_of_pos (M i c) h.piv;have h3:=Int.fmod_lt_of_pos (M i c) h.piv;grind
  ·rw[hne i e]; exact h.up i Z
theorem Fp.done (h:Fp k M0 M d c p d):Fo k M0 M (d+1) (c+1) (λi=>if i=d then c else p i):=by
 have hp:∀ i,i<d->(if i=d then c else p i)=p i:=λi hi=>by rw[if_neg Z]
 refine { le:=h.dk,same:=h.same,inc:=λi j hij hj=>?_,lt:=λi hi=>?_,low:=λi hi x hx=>?_,pos:=λi hi=>?_,red:=λi j hij hj=>?_,rest:=λi h1 h2 x hx=>?_ }
 ·rw[hp i Z]
  by_cases e:j=d
  ·subst e; rw[if_pos rfl]; exact h.lt i hij
  ·rw[if_neg e]; exact h.inc i j hij Z
 ·by_cases e:i=d
  ·grind
  ·rw[if_neg e]; have:=h.lt i Z; omega
 ·by_cases e:i=d
  ·subst e; rw[if_pos rfl]at hx; exact h.rest i (Nat.le_refl _) h.dk x hx
  ·rw[if_neg e]at hx; exact h.low i Z x hx
 ·by_cases e:i=d
  ·subst e; rw[if_pos rfl]; exact h.piv
  ·rw[if_neg e]; exact h.pos i Z
 ·by_cases e:j=d
  ·subst e; rw[if_pos rfl]; exact h.up i hij
  ·rw[if_neg e]; exact h.red i j hij Z
 ·rcases Nat.lt_or_ge x c with h3|h3
  ·exact h.rest i Z h2 x h3
  ·have:x=c:=Z
   subst this;exact h.below i Z h2
theorem Fo.hn (h:Fo k M0 M d c p) (hz:d=k\/∀ i,i<k->∀ x,c<=x->M i x=0):Hn d M p/\Same k M0 d M:=by
 refine⟨⟨h.inc,h.low,h.pos,h.red⟩,h.same.trans ?_⟩;rcases hz with rfl|hz
 ·exact Same.refl _ _
 ·refine aVH M h.le λi h1 h2=>?_
  funext x
  rcases Nat.lt_or_ge x c with h3|h3
  ·exact h.rest i h1 h2 x h3
  ·grind
end
def dot:Nat->V->V->Int
 | 0,_,_=>0
 | n+1,a,b=>dot n a b+a n*b n
theorem rS a b:∀ n,dot n a b=dot n b a
 | 0=>rfl
 | n+1=>by rw[dot,dot,rS a b n,Int.mul_comm]
theorem KR u v b t:∀ n,dot n (λi=>u i+t*v i) b=dot n u b+t*dot n v b
 | 0=>by simp[dot]
 | n+1=>by
  rw[dot,dot,dot,KR u v b t n];grind
theorem KP b:∀ n,dot n (λ_=>0) b=0
 | 0=>rfl
 | n+1=>by rw[dot,KP b n]; simp
theorem aPJ {a b a' b'}:∀ {n},(∀ i,i<n->a i=a' i)->(∀ i,i<n->b i=b' i)->dot n a b=dot n a' b'
 | 0,_,_=>rfl
 | n+1,h,g=>by rw[dot,dot,aPJ (λi hi=>h i Z) (λi hi=>g i Z),h n R,g n R]
def Ker(n m:Nat) (A:Nat->V) (y:V):Prop:=(∀ c,n<=c->y c=0)/\∀ x,x<m->dot n y (A x)=0
theorem Ker.span {n m A y}(h:Ker n m A y){v}(hv:Sp m A v):dot n y v=0:=by
 induction hv with
 | zero=>rw[rS]; exact KP _ _
 | add j t hj _ ih=>rw[rS,KR,rS _ y,ih,rS _ y,h.2 j hj]; simp
theorem Ker.a0S {n m A y}(h1:∀ c,n<=c->y c=0)(h2:∀ v,Sp m A v->dot n y v=0):Ker n m A y:=⟨h1,λx hx=>h2 _ (Sp.mem hx)⟩
theorem Ker.same {n m m' A A'}(h:Same m A m' A'){y}:Ker n m A y↔Ker n m' A' y :=
 ⟨λg=>.a0S g.1 λv hv=>g.span ((h v).2 hv),λg=>.a0S g.1 λv hv=>g.span ((h v).1 hv)⟩
def dS(n m:Nat) (A:Nat->V) (k:Nat) (K:Nat->V):Prop:=∀ y,Sp k K y↔Ker n m A y
theorem dS.width {n m k A K}(h:dS n m A k K){i}(hi:i<k):∀ c,n<=c->K i c=0:=((h _).1 (Sp.mem hi)).1
def wide(n m:Nat) (A:Nat->V):Nat->V:=λc x=>if x<m then A x c else if x=m+c then 1 else 0
theorem aVZ {n m A} y:∀ j,j<=n->Sp n (wide n m A) (λx=>if x<m then dot j y (A x) else if x<m+j then y (x-m) else 0)
 | 0,_=>by
  refine cast (congrArg _ ?_) Sp.zero
  funext x
  split
  ·rfl
  grind
 | j+1,h=>by
  have:=Sp.comb (y j) (aVZ y j Z) (Sp.mem (M:=wide n m A) (show j<n by omega));refine cast (congrArg _ ?_) this
  funext x
  simp only[wide];split
  ·rfl
  ·grind
theorem a8A {n m A v}(h:Sp n (wide n m A) v):(∀ x,x<m->v x=dot n (λc=>v (m+c)) (A x))/\∀ c,n<=c->v (m+c)=0:=by
 have unit:∀ (j:Nat) (b:V),∀ n,dot n (λc=>if m+c=m+j then (1:Int) else 0) b=if j<n then b j else 0:=by
  intro j b n
  induction n with
  | zero=>rfl
  | succ n ih =>
   rw[dot,ih];grind
 induction h with
 | zero=>exact⟨λx _=>(KP _ _).symm,λ_ _=>rfl⟩
 | add j t hj _ ih =>
  obtain⟨h1,h2⟩:=ih;refine⟨λx hx=>?_,λc hc=>?_⟩
  ·rw[KR,<- h1 x hx];have e:(λc=>wide n m A j (m+c))=λc=>if m+c=m+j then 1 else 0:=by
    funext c
    have:¬ m+c<m:=Z
    simp only[wide,this,if_false]
   rw[e,unit,if_pos hj];simp only[wide,hx,if_true]
  ·have h3:=h2 c hc;have e1:¬ m+c<m:=Z
   have e2:¬ m+c=m+j:=Z
   simp only[wide,e1,e2,if_false,Int.mul_zero,Int.add_zero,h3]
theorem Hn.drop:∀ {j k:Nat} {M:Nat->V} {p:Nat->Nat} {m:Nat},Hn k M p->j<=k->(∀ i,i<j->p i<m)->∀ {v:V},Sp k M v->(∀ x,x<m->v x=0)->Sp (k-j) (λi=>M (j+i)) v
 | 0,k,M,p,m,h,_,_,v,hv,_=>W
 | j+1,0,M,p,m,h,hj,_,v,hv,_=>Z
 | j+1,k+1,M,p,m,h,hj,hp,v,hv,hz=>by
  obtain⟨t,u,hu,rfl⟩:=hv.first;have h0:=hz (p 0) (hp 0 Z);have h1:=h.aJ3 hu (Nat.le_refl _);have h2:=h.pos 0 Z;simp only[h1,Int.zero_add]at h0;have ht:t=0:=by
   rcases Int.mul_eq_zero.1 h0 with h3|h3
   ·exact h3
   ·omega
  subst ht;have e:(λi=>u i+0*M 0 i)=u:=by funext i; simp
  rw[e]at hz ⊢;have:=Hn.drop (j:=j) h.tail Z (λi hi=>hp (i+1) Z) hu hz;grind
theorem a2W {n m k j:Nat} {A W:Nat->V} {p:Nat->Nat} (h:Hn k W p) (hs:Same n (wide n m A) k W) (hj:j<=k) (h1:∀ i,i<j->p i<m) (h2:∀ i,j<=i->i<k->m<=p i) :
  dS n m A (k-j) (λi y=>W (j+i) (m+y)):=by
 intro y;constructor
 ·intro hy;have key:∃ v,Sp k W v/\(∀ x,x<m->v x=0)/\y=λc=>v (m+c):=by
   induction hy with
   | zero=>exact⟨_,.zero,λ_ _=>rfl,rfl⟩
   | add i t hi _ ih =>
    obtain⟨v,g1,g2,rfl⟩:=ih;refine⟨_,Sp.add (j+i) t Z g1,λx hx=>?_,rfl⟩;have:=h.low (j+i) Z x (by have:=h2 (j+i) Z Z; omega);grind
  obtain⟨v,g1,g2,rfl⟩:=key;obtain⟨q1,q2⟩:=a8A ((hs v).2 g1);exact⟨q2,λx hx=>by rw[<- q1 x hx]; exact g2 x hx⟩
 ·rintro⟨g1,g2⟩;have hv:=aVZ (A:=A) (n:=n) (m:=m) y n (Nat.le_refl _);have:=Hn.drop h hj h1 ((hs _).1 hv) (λx hx=>by simp only[hx,if_true]; exact g2 x hx);have key:∀ {v:V},Sp (k-j) (λi=>W (j+i)) v->Sp (k-j) (λi y=>W (j+i) (m+y)) (λc=>v (m+c)):=by
   intro v hv
   induction hv with
   | zero=>exact .zero
   | add i t hi _ ih=>exact Sp.add i t hi ih
  have:=key this;refine cast (congrArg _ ?_) this;grind
theorem aA8(a:Int){m}(h:m<0):m<a.fmod m/\a.fmod m<=0:=by
 have h1:=Int.neg_fmod_neg (-a) (-m);rw[Int.neg_neg,Int.neg_neg]at h1;have h2:=Int.fmod_nonneg_of_pos (-a) (show 0 < -m by omega);have h3:=Int.fmod_lt_of_pos (-a) (show 0 < -m by omega);omega
theorem aU7(a m:Int)(hm:m≠0):(a.fdiv m).natAbs*m.natAbs<=a.natAbs+m.natAbs:=by
 have h1:=Int.fmod_def a m;have h2:(m*a.fdiv m).natAbs=(a.fdiv m).natAbs*m.natAbs:=by rw[Int.natAbs_mul,Nat.mul_comm]
 rcases Int.lt_or_gt_of_ne hm with h|h
 ·have h3:=aA8 a h;omega
 ·have h3:=Int.fmod_nonneg_of_pos a h;have h4:=Int.fmod_lt_of_pos a h;omega
theorem aU0(a m:Int)(hm:m≠0):(a.fmod m).natAbs<m.natAbs:=by
 rcases Int.lt_or_gt_of_ne hm with h|h
 ·have h3:=aA8 a h;omega
 ·have h3:=Int.fmod_nonneg_of_pos a h;have h4:=Int.fmod_lt_of_pos a h;omega
theorem aMC(a m:Int):a-a.fdiv m*m=a.fmod m:=by rw[Int.fmod_def,Int.mul_comm]
theorem a6Z {a b q:Int} {E Q:Nat} (ha:a.natAbs<=E) (hb:b.natAbs<=E) (hq:q.natAbs<=Q):(a-q*b).natAbs<=E+Q*E:=by
 have h1:(q*b).natAbs=q.natAbs*b.natAbs:=Int.natAbs_mul _ _;have h2:q.natAbs*b.natAbs<=Q*E:=Nat.mul_le_mul hq hb;omega
def Wi(k:Nat) (M:Nat->V) (d c E A:Nat):Prop:=∀ i,d<=i->i<k->(∀ x,(M i x).natAbs<=E)/\(M i c).natAbs<=A
def Rd(k:Nat) (M M':Nat->V) (d c:Nat):Prop:=M' d=M d/\∀ i,d<i->i<k->M' i=λx=>M i x-(M i c).fdiv (M d c)*M d x
theorem Rd.aZV {k d c E A:Nat} {M M':Nat->V} (h:Rd k M M' d c) (hw:Wi k M d c E A) (hk:d<k) (hm:M d c≠0) (hA:(M d c).natAbs<=A) :
  ∃ E',Wi k M' d c E' (M d c).natAbs/\E'*(M d c).natAbs<=3*(E*A):=by
 have hmp:0<(M d c).natAbs:=Z
 refine⟨E+(A/(M d c).natAbs+1)*E,λi h1 h2=>?_,?_⟩
 ·by_cases e:i=d
  ·subst e;rw[h.1];refine⟨λx=>?_,Nat.le_refl _⟩;have:=(hw i h1 h2).1 x;grind
  ·have hr:=h.2 i Z h2;have hq:((M i c).fdiv (M d c)).natAbs<=A/(M d c).natAbs+1:=by
    have h3:=aU7 (M i c) (M d c) hm;have h4:=(hw i h1 h2).2;have h5:((M i c).fdiv (M d c)).natAbs<=(A+(M d c).natAbs)/(M d c).natAbs:=by
     rw[Nat.le_div_iff_mul_le hmp];omega
    simp_all
   rw[hr];refine⟨λx=>a6Z ((hw i h1 h2).1 x) ((hw d (Nat.le_refl _) hk).1 x) hq,?_⟩;dsimp only;rw[aMC];exact Nat.le_of_lt (aU0 _ _ hm)
 ·have h1:A/(M d c).natAbs*(M d c).natAbs<=A:=Nat.div_mul_le_self _ _;generalize A/(M d c).natAbs=q at h1;generalize (M d c).natAbs=m at *;have h2:(E+(q+1)*E)*m=2*(E*m)+E*(q*m):=W
  have h3:E*(q*m)<=E*A:=Nat.mul_le_mul_left _ h1;have h4:E*m<=E*A:=Nat.mul_le_mul_left _ hA;omega
theorem a6A a b c (h:a+b<=c):4*(a*b)<=c*c:=by
 have h1 :=Nat.mul_le_mul h h;have h2 :=by
  have:(a+b)*(a+b)=4*(a*b)+(a-b)*(a-b)+(b-a)*(b-a):=by
   rcases Nat.le_total a b with g|g
   ·obtain⟨e,rfl⟩:=Nat.exists_eq_add_of_le g;grind
   ·obtain⟨e,rfl⟩:=Nat.exists_eq_add_of_le g;grind
  omega
 omega
structure Bt (k:Nat) (M:Nat->V) (d c C:Nat):Prop where
 dk:d<k
 ex:∃ E,Wi k M d c E (M d c).natAbs/\∃ i,d<i/\i<k/\M i c≠0/\E*(M d c).natAbs^3*(M i c).natAbs<=C
 piv:M d c≠0
 sign:∀ i,d<i->i<k->(M i c).natAbs<(M d c).natAbs/\(0<M d c->0<=M i c)/\(M d c<0->M i c<=0)
theorem Wi.swap {k d c E A a M}(h:Wi k M d c E A)(ha:d<=a)(hk:a<k):Wi k (swp M d a) d c E A:=by
 intro i h1 h2;unfold swp;split
 ·exact h a ha hk
 ·split
  ·exact h d (Nat.le_refl _) Z
  ·exact h i h1 h2
theorem Rd.sign {k d c M M'}(h:Rd k M M' d c)(hm:M d c≠0):∀ i,d<i->i<k->M' i c=(M i c).fmod (M d c)/\(M' i c).natAbs<(M' d c).natAbs/\(0<M' d c->0<=M' i c)/\(M' d c<0->M' i c<=0):=by
 intro i h1 h2;have e:M' i c=(M i c).fmod (M d c):=by
  rw[h.2 i h1 h2];exact aMC _ _
 rw[e,h.1];exact⟨rfl,aU0 _ _ hm,λhp=>Int.fmod_nonneg_of_pos _ hp,λhn=>(aA8 _ hn).2⟩
theorem a6V {p n:Int} (hs:(0<p/\0<n)\/(p<0/\n<0)) (hl:n.natAbs<p.natAbs):(p.fmod n).natAbs+n.natAbs<=p.natAbs:=by
 have key:∀ p n:Int,0<n->n<p->(p.fmod n).natAbs+n.natAbs<=p.natAbs:=by
  intro p n h1 h2;have h3:=Int.fmod_def p n;have h4:=Int.fmod_nonneg_of_pos p h1;have h5:=Int.fmod_lt_of_pos p h1;have h6:1<=p.fdiv n:=by
   rcases(by omega:p.fdiv n<1\/1<=p.fdiv n)with h|h
   ·have:n*p.fdiv n<=n*0:=Int.mul_le_mul_of_nonneg_left Z Z;omega
   ·exact h
  have h7:n*1<=n*p.fdiv n:=Int.mul_le_mul_of_nonneg_left h6 Z;omega
 rcases hs with ⟨h1,h2⟩|⟨h1,h2⟩
 ·grind
 ·have:=key (-p) (-n) Z Z
  simp_all
theorem Rd.first {k d c E A:Nat} {M M':Nat->V} (h:Rd k M M' d c) (hw:Wi k M d c E A) (hk:d<k) (hm:M d c≠0) :
  ((∀ i,d<i->i<k->M' i c=0)/\Wi k M' d c (3*(E*A)) A)\/Bt k M' d c (3*(E*A)*A^3):=by
 have hA:=(hw d (Nat.le_refl _) hk).2;have hmp:0<(M d c).natAbs:=Z
 obtain⟨E',h1,h2⟩:=h.aZV hw hk hm hA;have hs:=h.sign hm
 by_cases hz:∀ i,d<i->i<k->M' i c=0
 ·refine .inl ⟨hz,λi g1 g2=>⟨λx=>?_,?_⟩⟩
  ·have a1:=(h1 i g1 g2).1 x;have a2:E'*1<=E'*(M d c).natAbs:=Nat.mul_le_mul_left _ hmp;omega
  ·exact Nat.le_trans (h1 i g1 g2).2 hA
 ·refine .inr ⟨hk,⟨E',by rw[h.1]; exact h1,?_⟩,by rw[h.1]; exact hm,λi g1 g2=>(hs i g1 g2).2⟩;obtain⟨i,hi⟩:=Classical.not_forall.1 hz;obtain⟨g1,hi⟩:=Classical.not_forall.1 hi;obtain⟨g2,g3⟩:=Classical.not_forall.1 hi;refine⟨i,g1,g2,g3,?_⟩;have a1:=(hs i g1 g2).2.1;rw[h.1]at a1 ⊢;have a2:(M d c).natAbs^2*(M' i c).natAbs<=A^2*A:=Nat.mul_le_mul (Nat.pow_le_pow_left hA 2) Z;have a3:E'*(M d c).natAbs*((M d c).natAbs^2*(M' i c).natAbs)<=3*(E*A)*(A^2*A):=Nat.mul_le_mul h2 a2
  grind
theorem Bt.left {k d c C a:Nat} {M M':Nat->V} (h:Bt k M d c C) (ha:d<=a) (hk:a<k) (hm:M a c≠0) (hmin:∀ i,d<=i->i<k->M i c≠0->(M a c).natAbs<=(M i c).natAbs) (hr:Rd k (swp M d a) M' d c) (hz:¬ ∀ i,d<i->i<k->M' i c=0):M' d=M a/\(M a c).natAbs<(M d c).natAbs/\∃ i,d<i/\i<k/\M' i c≠0/\(M' i c).natAbs+(M a c).natAbs<=(M d c).natAbs/\(M' i c).natAbs<(M a c).natAbs:=by
 obtain⟨E,h1,i0,g1,g2,g3,g4⟩:=h.ex;have hda:d<a:=by
  rcases Nat.lt_or_ge d a with h9|h9
  ·exact h9
  ·have:a=d:=Z
   subst this;have:=hmin i0 Z g2 g3;have:=(h.sign i0 g1 g2).1;omega
 have e1:swp M d a d=M a:=by simp[swp]
 have e2:swp M d a a=M d:=by
  have:¬ a=d:=Z
  simp[swp,this]
 have hsa:=h.sign a hda hk;have hs:=hr.sign (by rw[e1]; exact hm);have hMd:M' d=M a:=by rw[hr.1,e1]
 have main:∃ i,d<i/\i<k/\M' i c≠0/\(M' i c).natAbs+(M a c).natAbs<=(M d c).natAbs:=by
  have ea:=(hs a hda hk).1;rw[e1,e2]at ea
  by_cases hz2:M' a c=0
  ·obtain⟨i,hi⟩:=Classical.not_forall.1 hz;obtain⟨z1,hi⟩:=Classical.not_forall.1 hi;obtain⟨z2,z3⟩:=Classical.not_forall.1 hi;refine⟨i,z1,z2,z3,?_⟩;have a1:=(hs i z1 z2).2.1;rw[hMd]at a1;have a2:(M a c).natAbs ∣ (M d c).natAbs:=by
    have:M a c ∣ M d c:=by
     rw[hz2]at ea;exact Int.dvd_of_fmod_eq_zero ea.symm
    simp_all
   obtain⟨t,ht⟩:=a2;have h2t:2<=t:=by
    rcases Nat.lt_or_ge t 2 with h|h
    ·have:(M a c).natAbs*t<=(M a c).natAbs*1:=Nat.mul_le_mul_left _ Z;omega
    ·exact h
   have:(M a c).natAbs*2<=(M a c).natAbs*t:=Nat.mul_le_mul_left _ h2t;omega
  ·refine⟨a,hda,hk,hz2,?_⟩;rw[ea];refine a6V ?_ hsa.1;grind
 grind
def Pt(k:Nat) (M:Nat->V) (d c P:Nat):Prop:=∃ i,d<i/\i<k/\M i c≠0/\(M d c).natAbs*(M i c).natAbs<=P
theorem Bt.half {k d c C a M M'}(h:Bt k M d c C)(ha:d<=a)(hk:a<k)(hm:M a c≠0)(hmin:∀ i,d<=i->i<k->M i c≠0->(M a c).natAbs<=(M i c).natAbs)(hr:Rd k (swp M d a) M' d c)(hz:¬ ∀ i,d<i->i<k->M' i c=0){P}(hP:Pt k M d c P):Pt k M' d c (P/2):=by
 obtain⟨q1,q2,i,z1,z2,z3,z4,z5⟩:=h.left ha hk hm hmin hr hz;obtain⟨i0,w1,w2,w3,w4⟩:=hP;have w5:=hmin i0 Z w2 w3;refine⟨i,z1,z2,z3,?_⟩;have a1:(M a c).natAbs*(2*(M' i c).natAbs)<=(M a c).natAbs*(M d c).natAbs:=Nat.mul_le_mul_left _ Z;have a2:(M d c).natAbs*(M a c).natAbs<=(M d c).natAbs*(M i0 c).natAbs:=Nat.mul_le_mul_left _ w5;grind
theorem Bt.round {k d c C a:Nat} {M M':Nat->V} (h:Bt k M d c C) (ha:d<=a) (hk:a<k) (hm:M a c≠0) (hmin:∀ i,d<=i->i<k->M i c≠0->(M a c).natAbs<=(M i c).natAbs) (hr:Rd k (swp M d a) M' d c) :
  ((∀ i,d<i->i<k->M' i c=0)/\∃ A,Wi k M' d c (3*C) A)\/(Bt k M' d c C/\(M' d c).natAbs<(M d c).natAbs):=by
 obtain⟨E,h1,i0,g1,g2,g3,g4⟩:=h.ex;have hda:d<a:=by
  rcases Nat.lt_or_ge d a with h9|h9
  ·exact h9
  ·have:a=d:=Z
   subst this;have:=hmin i0 Z g2 g3;have:=(h.sign i0 g1 g2).1;omega
 have e1:swp M d a d=M a:=by simp[swp]
 have hsa:=h.sign a hda hk;have hA:(swp M d a d c).natAbs<=(M d c).natAbs:=by rw[e1]; omega
 obtain⟨E',q1,q2⟩:=hr.aZV (h1.swap ha hk) h.dk (by rw[e1]; exact hm) hA;rw[e1]at q1 q2;have hs:=hr.sign (by rw[e1]; exact hm);have hC:E*(M d c).natAbs^3*(M a c).natAbs<=C:=Nat.le_trans (Nat.mul_le_mul_left _ (hmin i0 Z g2 g3)) g4;have hmp:0<(M a c).natAbs:=Z
 have hMd:M' d=M a:=by rw[hr.1,e1]
 by_cases hz:∀ i,d<i->i<k->M' i c=0
 ·refine .inl ⟨hz,(M a c).natAbs,λi z1 z2=>⟨λx=>?_,(q1 i z1 z2).2⟩⟩;have a1:=(q1 i z1 z2).1 x;have a2:E'*1<=E'*(M a c).natAbs:=Nat.mul_le_mul_left _ hmp;have a3:E*(M d c).natAbs*1<=E*(M d c).natAbs*((M d c).natAbs^2*(M a c).natAbs):=Nat.mul_le_mul_left _ (Nat.mul_pos (Nat.pow_pos Z) hmp);grind
 ·refine .inr ⟨⟨h.dk,⟨E',by rw[hMd]; exact q1,?_⟩,by rw[hMd]; exact hm,λi z1 z2=>(hs i z1 z2).2⟩,by rw[hMd]; exact hsa.1⟩;obtain⟨_,_,i,z1,z2,z3,z4,_⟩:=h.left ha hk hm hmin hr hz;refine⟨i,z1,z2,z3,?_⟩;rw[hMd];have a1:=a6A _ _ _ z4;generalize (M' i c).natAbs=y at *;generalize (M a c).natAbs=x at *;generalize (M d c).natAbs=m at *;have a2:E'*x*(x^2*y)<=3*(E*m)*(x^2*y):=Nat.mul_le_mul_right _ q2;have a3:(E*m*x)*(4*(y*x))<=(E*m*x)*(m*m):=Nat.mul_le_mul_left _ a1
  grind
theorem Hn.shift {k M p}(h:Hn k M p) j (hj:j<=k):Hn (k-j) (λi=>M (j+i)) (λi=>p (j+i)) where
 inc:=λa b hab hb=>h.inc _ _ Z Z
 low:=λi hi=>h.low _ Z
 pos:=λi hi=>h.pos _ Z
 red:=λa b hab hb=>h.red _ _ Z Z
end Go.Lz
namespace Go.PM
open Go Go.RowKit Go.Proofs Go.Lz
abbrev pD:Nat:=400000
def Zr(n:Nat) (v:V):List ByteArray:=(List.range n).map λi=>Zn (v i)
theorem pU n v:(Zr n v).length=n:=by simp[Zr]
theorem aLZ {n i} v (h:i<n) d:(Zr n v).getD i d=Zn (v i):=by simp[Zr,h]
theorem Z6 {n u v}(h:∀ i,i<n->u i=v i):Zr n u=Zr n v:=by
 refine List.map_congr_left λi hi=>?_
 grind
theorem a4I {n}(u v:V) t (h:t<n):(Zr n λx=>if x<t then v x else u x).set t (Zn (v t))=Zr n λx=>if x<t+1 then v x else u x:=by
 refine List.ext_getElem? λi=>?_
 simp only[Zr];grind
theorem aDG {α:Type}(A:List α) j x d (h:j<A.length):(A.set j x).getD j d=x:=W
theorem getD_set_ne {α:Type}(A:List α){j k} x d (h:j≠k):(A.set j x).getD k d=A.getD k d:=W
theorem aGK {α:Type}{A:List α}{j x} d (h:A[j]?=some x):A.getD j d=x:=W
structure aRN (n:Nat) (u v:V) (q:Int):Prop where
 mul:∀ i,i<n->Lib.nDigits q.natAbs+Lib.nDigits (v i).natAbs<=pD
 sub:∀ i,i<n->Lib.nDigits (u i).natAbs<=pD
theorem aV1 a b:Lib.nDigits (a*b)<=Lib.nDigits a+Lib.nDigits b:=by
 have h1:=jJ a;have h2:=jJ b;have p2:=nDigits_pos b;have h4 :=Nat.mul_lt_mul'' h1 h2;rw[<- Nat.pow_add]at h4;obtain⟨k,hk⟩:∃ k,Lib.nDigits a+Lib.nDigits b=k+1:=⟨Lib.nDigits a+Lib.nDigits b-1,by omega⟩;rw[hk]at h4 ⊢;exact ES h4
theorem Z1 {α:Type}{pre l:List α}{o t}(h:pre.length=o) d:(pre++l).getD (o+t) d=l.getD t d:=W
theorem a0Y {α:Type}{pre l:List α}{o t}(h:pre.length=o) x:(pre++l).set (o+t) x=pre++l.set t x:=W
theorem a2Y {A:List (List ByteArray)}{J K o n u v q pre pre'}(hn:n<1048576)(hne:J≠K)(hp:pre.length=o)(hp':pre'.length=o)(hJ:A[J]?=some (pre++Zr n u))(hK:A[K]?=some (pre'++Zr n v))(ok:aRN n u v q) :
  rP ((J,o,n),Zn q,(K,o,n),(n:Int),0,A,())=some (A.set J (pre++Zr n λx=>u x-q*v x),()):=by
 have hJl:J<A.length:=(oO.1 hJ).1;have key:=aY (step:=mU) (N:=2^64)
  (λt=>((J,o,n),Zn q,(K,o,n),(n:Int),(t:Int),A.set J (pre++Zr n λx=>if x<t then u x-q*v x else u x),())) n (A.set J (pre++Zr n λx=>u x-q*v x),()) Z (λt ht=>?_) ?_
 ·have h0:(A.set J (pre++Zr n λx=>if x<0 then u x-q*v x else u x))=A:=by
   have:Zr n (λx=>if x<0 then u x-q*v x else u x)=Zr n u:=Z6 λi _=>R
   rw[this];refine List.ext_getElem? λi=>?_
   grind
  simp only[h0]at key;exact key
 ·have hg:(A.set J (pre++Zr n λx=>if x<t then u x-q*v x else u x)).getD J []=pre++Zr n λx=>if x<t then u x-q*v x else u x:=aDG _ _ _ _ hJl
  have hk:(A.set J (pre++Zr n λx=>if x<t then u x-q*v x else u x)).getD K []=pre'++Zr n v:=by rw[getD_set_ne _ _ _ hne]; exact aGK _ hK
  have e1:ltI (t:Int) (n:Int)=true:=by rw[aE]; simp; omega
  have e2:aF (t:Int) n=true:=by rw[aL]; simp; omega
  have e3:(o+((t:Nat):Int).toNat)*1=o+t:=R
  have e4:cT (A.set J (pre++Zr n λx=>if x<t then u x-q*v x else u x)) J=o+n:=by rw[cT,hg,oH,pU,hp]
  have e5:cT (A.set J (pre++Zr n λx=>if x<t then u x-q*v x else u x)) K=o+n:=by rw[cT,hk,oH,pU,hp']
  have e6:Nat.blt (o+t) (o+n)=true:=by rw[cA]; simpa using ht
  have e7:dC (A.set J (pre++Zr n λx=>if x<t then u x-q*v x else u x)) J (o+t) ByteArray.empty=Zn (u t):=by rw[dC,hg,Z1 hp,aLZ _ ht]; simp
  have e8:dC (A.set J (pre++Zr n λx=>if x<t then u x-q*v x else u x)) K (o+t) ByteArray.empty=Zn (v t):=by rw[dC,hk,Z1 hp',aLZ _ ht]
  have e9:xX (A.set J (pre++Zr n λx=>if x<t then u x-q*v x else u x)) J (o+t) (Zn (u t-q*v t))=A.set J (pre++Zr n λx=>if x<t+1 then u x-q*v x else u x):=by
   rw[xX,hg,List.set_set,a0Y hp];exact oZ (λl=>A.set J (pre++l)) (a4I u (λx=>u x-q*v x) t ht)
  have m1:=aYF q (v t) (ok.mul t ht);have m2:=aYY (u t) (q*v t) (ok.sub t ht) (by rw[Int.natAbs_mul]; exact oR (aV1 _ _) (ok.mul t ht));have e10:=bO t Z;simp only[mU,e1,oC,e2,e3,e5,e6,e4,e7,e8,m1,aD,m2,e9,e10]
 ·have e1:ltI (n:Int) (n:Int)=false:=by rw[aE]; simp
  simp only[mU,e1,oD];have:Zr n (λx=>if x<n then u x-q*v x else u x)=Zr n λx=>u x-q*v x:=Z6 λi hi=>by simp[hi]
  rw[this]
theorem aV0 {α:Type}{A:List α}{J x}(h:A[J]?=some x):A.set J x=A:=by
 refine List.ext_getElem? λi=>?_
 grind
theorem a9U {A:List (List ByteArray)} {J K o n:Nat} {u v:V} {q:Int} {pre pre':List ByteArray} (hn:n<1048576) (hne:J≠K) (hp:pre.length=o) (hp':pre'.length=o) (hJ:A[J]?=some (pre++Zr n u)) (hK:A[K]?=some (pre'++Zr n v)) (ok:aRN n u v q) :
  gI () ((J,o,n),Zn q,(K,o,n),()) A=some ((),A.set J (pre++Zr n λx=>u x-q*v x)):=by
 unfold gI;simp only[TV]
 by_cases hq:q=0
 ·subst hq;simp only[decide_true,oC];have:Zr n (λx=>u x-0*v x)=Zr n u:=Z6 λi _=>R
  rw[this,aV0 hJ]
 ·simp only[hq,decide_false,oD,a2Y hn hne hp hp' hJ hK ok,aD]
theorem negate_eq {A:List (List ByteArray)} {J o n:Nat} {u:V} {pre:List ByteArray} (hn:n<1048576) (hp:pre.length=o) (hJ:A[J]?=some (pre++Zr n u)) (ok:∀ i,i<n->Lib.nDigits (u i).natAbs<=pD) :
  dX () ((J,o,n),()) A=some ((),A.set J (pre++Zr n λx=>-(u x))):=by
 have hJl:J<A.length:=(oO.1 hJ).1;have key:=aY (step:=lF) (N:=2^64)
  (λt=>((J,o,n),(J,o,n),(n:Int),(t:Int),A.set J (pre++Zr n λx=>if x<t then -(u x) else u x),())) n (A.set J (pre++Zr n λx=>-(u x)),()) Z (λt ht=>?_) ?_
 ·have h0:(A.set J (pre++Zr n λx=>if x<0 then -(u x) else u x))=A:=by
   have:Zr n (λx=>if x<0 then -(u x) else u x)=Zr n u:=Z6 λi _=>R
   rw[this,aV0 hJ]
  simp only[h0]at key;unfold dX qD;have e0:((0:Nat):Int)=0:=rfl;rw[e0]at key;simp only[key,aD]
 ·have hg:(A.set J (pre++Zr n λx=>if x<t then -(u x) else u x)).getD J []=pre++Zr n λx=>if x<t then -(u x) else u x:=aDG _ _ _ _ hJl
  have e1:ltI (t:Int) (n:Int)=true:=by rw[aE]; simp; omega
  have e2:aF (t:Int) n=true:=by rw[aL]; simp; omega
  have e3:(o+((t:Nat):Int).toNat)*1=o+t:=R
  have e4:cT (A.set J (pre++Zr n λx=>if x<t then -(u x) else u x)) J=o+n:=by rw[cT,hg,oH,pU,hp]
  have e6:Nat.blt (o+t) (o+n)=true:=by rw[cA]; simpa using ht
  have e7:dC (A.set J (pre++Zr n λx=>if x<t then -(u x) else u x)) J (o+t) ByteArray.empty=Zn (u t):=by rw[dC,hg,Z1 hp,aLZ _ ht]; simp
  have e9:xX (A.set J (pre++Zr n λx=>if x<t then -(u x) else u x)) J (o+t) (Zn (-(u t)))=A.set J (pre++Zr n λx=>if x<t+1 then -(u x) else u x):=by
   rw[xX,hg,List.set_set,a0Y hp];exact oZ (λl=>A.set J (pre++l)) (a4I u (λx=>-(u x)) t ht)
  have m1:=aO6 (u t) (Nat.lt_of_le_of_lt (ok t ht) O);have e10:=bO t Z;simp only[lF,e1,oC,e2,e3,e6,e4,e7,m1,aD,e9,e10]
 ·have e1:ltI (n:Int) (n:Int)=false:=by rw[aE]; simp
  simp only[lF,e1,oD];have:Zr n (λx=>if x<n then -(u x) else u x)=Zr n λx=>-(u x):=Z6 λi hi=>by simp[hi]
  rw[this]
theorem W6 {σ τ:Type} {step:σ->Option (σ⊕τ)} {N:Nat} (m:Nat) (I:Nat->σ->Prop) (Q:τ->Prop) (hN:m<N) (x:σ) (h0:I 0 x) (h:∀ t x,t<m->I t x->∃ y,step x=some (.inl y)/\I (t+1) y) (he:∀ x,I m x->∃ z,step x=some (.inr z)/\Q z) :
  ∃ z,bH step N x=some z/\Q z:=by
 have key:∀ (j t:Nat) (x:σ) (N:Nat),t+j=m->j<N->I t x->∃ z,bH step N x=some z/\Q z:=by
  intro j
  induction j with
  | zero =>
   intro t x N ht hN hI;have:t=m:=Z
   subst this;obtain⟨N,rfl⟩:∃ M,N=M+1:=⟨N-1,by omega⟩;obtain⟨z,h1,h2⟩:=he x hI;exact⟨z,by rw[cZ,h1],h2⟩
  | succ j ih =>
   intro t x N ht hN hI;obtain⟨N,rfl⟩:∃ M,N=M+1:=⟨N-1,by omega⟩;obtain⟨y,h1,h2⟩:=h t x Z hI;obtain⟨z,h3,h4⟩:=ih (t+1) y N Z Z h2;exact⟨z,by rw[cZ,h1]; exact h3,h4⟩
 grind
structure fT (o k n:Nat) (m:List (Nat×Nat×Nat)) (A:List (List ByteArray)) (J:Nat->Nat) (M:Nat->V):Prop where
 ml:m=(List.range k).map λi=>(J i,o,n)
 at_:∀ i,i<k->∃ pre:List ByteArray,pre.length=o/\A[J i]?=some (pre++Zr n (M i))
 inj:∀ i j,i<k->j<k->J i=J j->i=j
section
variable {o k n:Nat} {m:List (Nat×Nat×Nat)} {A:List (List ByteArray)} {J:Nat->Nat} {M:Nat->V}
theorem fT.len (h:fT o k n m A J M):m.length=k:=by rw[h.ml]; simp
theorem fT.get (h:fT o k n m A J M){i}(hi:i<k):m.getD i (0,0,0)=(J i,o,n):=by rw[h.ml]; grind
theorem fT.cT (h:fT o k n m A J M){i}(hi:i<k):cT A (J i)=o+n:=by
 obtain⟨pre,h1,h2⟩:=h.at_ i hi;rw[PM.cT,aGK _ h2,oH,pU,h1]
theorem fT.dC (h:fT o k n m A J M){i c}(hi:i<k)(hc:c<n):dC A (J i) (o+c) ByteArray.empty=Zn (M i c):=by
 obtain⟨pre,h1,h2⟩:=h.at_ i hi;rw[PM.dC,aGK _ h2,Z1 h1,aLZ _ hc]
theorem fT.aJW (h:fT o k n m A J M){i}(hi:i<k) r {pre}(hp:pre.length=o):fT o k n m (A.set (J i) (pre++Zr n r)) J (up M i r) where
 ml:=h.ml
 at_:=λj hj=>by
  by_cases e:j=i
  ·subst e;obtain⟨pre',h1,h2⟩:=h.at_ j hj;exact⟨pre,hp,by rw[List.getElem?_set_self (oO.1 h2).1,KV]⟩
  ·obtain⟨pre',h1,h2⟩:=h.at_ j hj;exact⟨pre',h1,by rw[List.getElem?_set_ne (λe'=>e (h.inj i j hi hj e').symm),CZ _ _ e]; grind⟩
 inj:=h.inj
theorem fT.less (h:fT o k n m A J M)(hn:n<1048576){i d}(hi:i<k)(hd:d<k)(hne:i≠d) q (ok:aRN n (M i) (M d) q) :
  ∃ A',gI () ((J i,o,n),Zn q,(J d,o,n),()) A=some ((),A')/\fT o k n m A' J (up M i λx=>M i x-q*M d x):=by
 obtain⟨pre,h1,h2⟩:=h.at_ i hi;obtain⟨pre',h3,h4⟩:=h.at_ d hd;exact⟨_,a9U hn (λe=>hne (h.inj i d hi hd e)) h1 h3 h2 h4 ok,h.aJW hi _ h1⟩
theorem fT.neg (h:fT o k n m A J M)(hn:n<1048576){i}(hi:i<k)(ok:∀ x,x<n->Lib.nDigits (M i x).natAbs<=pD) :
  ∃ A',dX () ((J i,o,n),()) A=some ((),A')/\fT o k n m A' J (up M i λx=>-(M i x)):=by
 obtain⟨pre,h1,h2⟩:=h.at_ i hi;exact⟨_,negate_eq hn h1 h2 ok,h.aJW hi _ h1⟩
theorem fT.swap (h:fT o k n m A J M){a b}(ha:a<k)(hb:b<k):fT o k n ((m.set a (J b,o,n)).set b (J a,o,n)) A (λi=>if i=a then J b else if i=b then J a else J i) (swp M a b) where
 ml:=by
  refine List.ext_getElem? λi=>?_
  have hl:=h.len;rw[List.getElem?_map]
  by_cases e1:i=b
  ·grind
  ·rw[List.getElem?_set_ne (Ne.symm e1)]
   by_cases e2:i=a
   ·grind
   ·rw[List.getElem?_set_ne (Ne.symm e2),h.ml,List.getElem?_map];grind
 at_:=λi hi=>by
  by_cases e1:i=a
  ·subst e1;simp only[if_true,swp];exact h.at_ b hb
  ·by_cases e2:i=b
   ·subst e2;simp only[e1,if_false,if_true,swp];exact h.at_ a ha
   ·simp only[e1,e2,if_false,swp];exact h.at_ i hi
 inj:=λi j hi hj e=>by
  have key:∀ i,i<k->(if i=a then J b else if i=b then J a else J i)=J (if i=a then b else if i=b then a else i):=λi _=>W
  simp only[key i hi,key j hj]at e;have lt:∀ i,i<k->(if i=a then b else if i=b then a else i)<k:=λi hi=>W
  have:=h.inj _ _ (lt i hi) (lt j hj) e;grind
end
def atv:Option Nat->Int
 | none=>-1
 | some a=>a
structure a4J (M:Nat->V) (c d t:Nat) (r:Option Nat):Prop where
 none:r=Option.none->∀ i,d<=i->i<d+t->M i c=0
 some:∀ a,r=Option.some a->d<=a/\a<d+t/\M a c≠0/\∀ i,d<=i->i<d+t->M i c≠0->(M a c).natAbs<=(M i c).natAbs
def Cm(k n:Nat) (M:Nat->V):Prop:=∀ i,i<k->∀ x,x<n->Lib.nDigits (M i x).natAbs<=pD
theorem aGD {o k n m A J M}(h:fT o k n m A J M)(hk:k<1048576)(hc:Cm k n M){c d}(hcn:c<n)(hd:d<=k)(cols:Int) :
  ∃ r,gF (m,cols,(d:Int),(c:Int),-1,(d:Int),A,())=some (m,cols,(d:Int),(c:Int),atv r,A,())/\a4J M c d (k-d) r:=by
 have:=W6 (step:=dJ) (N:=2^64) (k-d)
  (λt x=>∃ r,x=(m,cols,(d:Int),(c:Int),atv r,((d+t:Nat):Int),A,())/\a4J M c d t r)
  (λz=>∃ r,z=(m,cols,(d:Int),(c:Int),atv r,A,())/\a4J M c d (k-d) r) Z (m,cols,(d:Int),(c:Int),-1,(d:Int),A,())
  ⟨none,rfl,⟨λ_ i h1 h2=>by omega,λa ha=>by cases ha⟩⟩ ?_ ?_
 ·obtain⟨z,h1,r,rfl,h2⟩:=this;exact⟨r,h1,h2⟩
 ·rintro t x ht ⟨r,rfl,hr⟩;have hi:d+t<k:=Z
  have e1:ltI ((d+t:Nat):Int) (m.length:Int)=true:=by rw[aE,h.len]; simp; omega
  have e2:aF ((d+t:Nat):Int) m.length=true:=by rw[aL,h.len]; simp; omega
  have e3:(((d+t:Nat):Int)).toNat=d+t:=oN _;have e4:Nat.blt (d+t) m.length=true:=by rw[cA,h.len]; simpa using hi
  have e5:aF (c:Int) n=true:=by rw[aL]; simp; omega
  have e6:(o+((c:Nat):Int).toNat)*1=o+c:=R
  have e7:Nat.blt (o+c) (o+n)=true:=by rw[cA]; simpa using hcn
  have e8:=bO (d+t) Z;have e9:=h.get hi;have e10:=h.cT hi;have e11:=h.dC hi hcn
  by_cases hz:M (d+t) c=0
  ·refine⟨_,?_,r,rfl,⟨λhr0 i h1 h2=>?_,λa ha=>?_⟩⟩
   ·have e12:eqS (Zn (M (d+t) c)) (ByteArray.mk #[48])=true:=by rw[TV]; simp[hz]
    simp only[dJ,e1,e2,e3,e4,e9,e5,e6,e10,e7,e11,e12,e8,oC,Bool.not_true,oD];rfl
   ·by_cases e:i=d+t
    ·grind
    ·exact hr.none hr0 i h1 Z
   ·obtain⟨q1,q2,q3,q4⟩:=hr.some a ha;grind
  ·have e12:eqS (Zn (M (d+t) c)) (ByteArray.mk #[48])=false:=by rw[TV]; simp[hz]
   cases r with
   | none =>
    have e13:ltI (atv none) 0=true:=O
    refine⟨_,?_,some (d+t),rfl,⟨λhr0=>by (cases hr0),λa ha=>?_⟩⟩
    ·simp only[dJ,e1,e2,e3,e4,e9,e5,e6,e10,e7,e11,e12,e8,oC,Bool.not_false,e13];rfl
    ·obtain rfl:=oB ha;refine⟨by omega,by omega,hz,λi h1 h2 h3=>?_⟩
     by_cases e:i=d+t
     ·subst e; exact oM _
     ·exact absurd (hr.none rfl i h1 Z) h3
   | some a =>
    obtain⟨q1,q2,q3,q4⟩:=hr.some a rfl;have ha:a<k:=Z
    have e13:ltI (atv (some a)) 0=false:=by rw[aE]; exact oF (by unfold atv; dsimp only; omega)
    have f2:aF (atv (some a)) m.length=true:=by rw[aL,h.len]; simp[atv]; omega
    have f3:(atv (some a)).toNat=a:=by simp[atv]
    have f4:Nat.blt a m.length=true:=by rw[cA,h.len]; simpa using ha
    have f9:=h.get ha;have f10:=h.cT ha;have f11:=h.dC ha hcn;have c1:=aQH (M (d+t) c);have c2:=aQH (M a c);have c3:=aN7 (M (d+t) c).natAbs (M a c).natAbs (Nat.lt_of_le_of_lt (hc _ hi c hcn) O) (Nat.lt_of_le_of_lt (hc _ ha c hcn) O)
    by_cases hl:(M (d+t) c).natAbs<(M a c).natAbs
    ·have c4:ltI (aCL (M (d+t) c).natAbs (M a c).natAbs) 0=true:=by rw[aE,aCL,if_pos hl]; rfl
     refine⟨_,?_,some (d+t),rfl,⟨λhr0=>by (cases hr0),λb hb=>?_⟩⟩
     ·simp only[dJ,e1,e2,e3,e4,e9,e5,e6,e10,e7,e11,e12,e8,oC,Bool.not_false,e13,oD,f2,f3,f4,f9,f10,f11,c1,c2,c3,c4,aD];rfl
     ·obtain rfl:=oB hb;refine⟨by omega,by omega,hz,λi h1 h2 h3=>?_⟩
      by_cases e:i=d+t
      ·subst e; exact oM _
      ·have:=q4 i h1 Z h3; omega
    ·have c4:ltI (aCL (M (d+t) c).natAbs (M a c).natAbs) 0=false:=by
      rw[aE,aCL,if_neg hl]; split <;> rfl
     refine⟨_,?_,some a,rfl,⟨λhr0=>by (cases hr0),λb hb=>?_⟩⟩
     ·simp only[dJ,e1,e2,e3,e4,e9,e5,e6,e10,e7,e11,e12,e8,oC,Bool.not_false,e13,oD,f2,f3,f4,f9,f10,f11,c1,c2,c3,c4,aD];rfl
     ·obtain rfl:=oB hb;refine⟨q1,by omega,q3,λi h1 h2 h3=>?_⟩
      by_cases e:i=d+t
      ·subst e; omega
      ·exact q4 i h1 Z h3
 ·rintro x ⟨r,rfl,hr⟩;have e1:ltI ((d+(k-d):Nat):Int) (m.length:Int)=false:=by rw[aE,h.len]; simp; omega
  refine⟨_,?_,r,rfl,hr⟩;simp only[dJ,e1,oD]
theorem MS {T}(hT:2*Lib.nDigits (T+1)<=pD){a}(h:a<=T+1):2*Lib.nDigits a<=pD:=oR (Nat.mul_le_mul_left 2 (yX h)) hT
theorem aGE {a m:Int}{T}(h:a.natAbs<=T)(hm:m≠0):(a.fdiv m).natAbs<=T+1:=by
 have h1:=aU7 a m hm;have h2:1<=m.natAbs:=Z
 have h3:(a.fdiv m).natAbs*m.natAbs<=(T+1)*m.natAbs:=by
  rw[Nat.succ_mul];have:T*1<=T*m.natAbs:=Nat.mul_le_mul_left _ h2;omega
 exact Nat.le_of_mul_le_mul_right h3 Z
theorem aHR {T n}(hT:2*Lib.nDigits (T+1)<=pD){u v q}(hu:∀ x,x<n->(u x).natAbs<=T)(hv:∀ x,x<n->(v x).natAbs<=T)(hq:q.natAbs<=T+1):aRN n u v q:=by
 constructor
 ·intro i hi;have h1:=MS hT hq;have h2:=MS hT (Nat.le_succ_of_le (hv i hi));omega
 ·intro i hi;have h2:=MS hT (Nat.le_succ_of_le (hu i hi));omega
def Big(k n:Nat) (M:Nat->V) (T:Nat):Prop:=∀ i,i<k->∀ x,x<n->(M i x).natAbs<=T
theorem Big.cm {k n T M}(h:Big k n M T)(hT:2*Lib.nDigits (T+1)<=pD):Cm k n M:=λi hi x hx=>by
 have:=MS hT (Nat.le_succ_of_le (h i hi x hx));omega
section
variable {o k n d c:Nat} {m:List (Nat×Nat×Nat)} {A:List (List ByteArray)} {J:Nat->Nat} {M M0:Nat->V} {p:Nat->Nat} {T:Nat}
def rdT(M:Nat->V) (d c t:Nat):Nat->V:=λi=>if d<i/\i<d+1+t then (λx=>M i x-(M i c).fdiv (M d c)*M d x) else M i
theorem aK3(h:fT o k n m A J M)(hk:k<1048576)(hn:n<1048576)(f:Fo k M0 M d c p)(hd:d<k)(hcn:c<n)(hm:M d c≠0)(hB:Big k n M T)(hT:2*Lib.nDigits (T+1)<=pD)(cols:Int) :
  ∃ A' M' rest,o4 (m,cols,(d:Int),(c:Int),false,aC .i64 (d+1),A,())=some (m,cols,(d:Int),(c:Int),rest,A',())/\fT o k n m A' J M'/\Rd k M M' d c/\Fo k M0 M' d c p/\(∀ i,i<d->M' i=M i) /\
   (rest=true->∃ i,d<i/\i<k/\M' i c≠0)/\(rest=false->∀ i,d<i->i<k->M' i c=0):=by
 have hat:∀ t i,d<i->i<d+1+t->rdT M d c t i c=(M i c).fmod (M d c):=λt i h1 h2=>by
  unfold rdT;rw[if_pos ⟨h1,h2⟩];exact aMC _ _
 have hd0:∀ t,rdT M d c t d=M d:=λt=>by unfold rdT; rw[if_neg Z]
 have:=W6 (step:=eL) (N:=2^64) (k-(d+1))
  (λt x=>∃ A' rest,x=(m,cols,(d:Int),(c:Int),rest,((d+1+t:Nat):Int),A',())/\fT o k n m A' J (rdT M d c t)/\Fo k M0 (rdT M d c t) d c p/\(rest=true->∃ i,d<i/\i<d+1+t/\(M i c).fmod (M d c)≠0)/\(rest=false->∀ i,d<i->i<d+1+t->(M i c).fmod (M d c)=0))
  (λz=>∃ A' rest,z=(m,cols,(d:Int),(c:Int),rest,A',())/\fT o k n m A' J (rdT M d c (k-(d+1)))/\Fo k M0 (rdT M d c (k-(d+1))) d c p/\(rest=true->∃ i,d<i/\i<k/\(M i c).fmod (M d c)≠0)/\(rest=false->∀ i,d<i->i<k->(M i c).fmod (M d c)=0))
  Z (m,cols,(d:Int),(c:Int),false,aC .i64 ((d:Int)+1),A,()) ?_ ?_ ?_
 ·obtain⟨z,h1,A',rest,rfl,h2,h3,h4,h5⟩:=this;refine⟨A',_,rest,h1,h2,⟨hd0 _,λi g1 g2=>?_⟩,h3,λi hi=>by unfold rdT; rw[if_neg Z],λhr=>?_,λhr i g1 g2=>?_⟩
  ·unfold rdT; rw[if_pos ⟨g1,by omega⟩]
  ·obtain⟨i,g1,g2,g3⟩:=h4 hr;exact⟨i,g1,g2,by rw[hat _ i g1 Z]; exact g3⟩
  ·grind
 ·have e:rdT M d c 0=M:=by
   funext i; unfold rdT; rw[if_neg Z]
  refine⟨A,false,?_,by rw[e]; exact h,by rw[e]; exact f,λhr=>(by cases hr),λ_ i g1 g2=>by omega⟩;rw[bO d Z]
 ·rintro t x ht ⟨A',rest,rfl,hL,hF,hr1,hr2⟩;have hi:d+1+t<k:=Z
  have hMi:rdT M d c t (d+1+t)=M (d+1+t):=by unfold rdT; rw[if_neg Z]
  have e1:ltI ((d+1+t:Nat):Int) (m.length:Int)=true:=by rw[aE,h.len]; exact oT Z
  have e2:aF ((d+1+t:Nat):Int) m.length=true:=by rw[aL,h.len]; exact oT Z
  have e3:(((d+1+t:Nat):Int)).toNat=d+1+t:=oN _;have e4:Nat.blt (d+1+t) m.length=true:=by rw[cA,h.len]; simpa using hi
  have e5:aF (c:Int) n=true:=by rw[aL]; exact oT Z
  have e6:(o+((c:Nat):Int).toNat)*1=o+c:=R
  have e7:Nat.blt (o+c) (o+n)=true:=by rw[cA]; simpa using hcn
  have e8:=bO (d+1+t) Z;have e9:=hL.get hi;have e10:=hL.cT hi;have e11:=hL.dC hi hcn;rw[hMi]at e11;have f2:aF ((d:Nat):Int) m.length=true:=by rw[aL,h.len]; exact oT Z
  have f3:((d:Nat):Int).toNat=d:=oN _;have f4:Nat.blt d m.length=true:=by rw[cA,h.len]; simpa using hd
  have f9:=hL.get hd;have f10:=hL.cT hd;have f11:=hL.dC hd hcn;rw[hd0]at f11;have b1:=hB _ hi c hcn;have b2:=hB _ hd c hcn;have k1:=MS hT (Nat.le_succ_of_le b1);have k2:=MS hT (Nat.le_succ_of_le b2);have c1:=UT (M (d+1+t) c) (M d c) (by have:pD=400000:=rfl; omega) (by have:pD=400000:=rfl; omega) hm;obtain⟨A2,c2,c3⟩:=hL.less hn hi hd Z ((M (d+1+t) c).fdiv (M d c)) (by
   rw[hMi,hd0];exact aHR hT (hB _ hi) (hB _ hd) (aGE b1 hm))
  have hup:up (rdT M d c t) (d+1+t) (λx=>rdT M d c t (d+1+t) x-(M (d+1+t) c).fdiv (M d c)*rdT M d c t d x)=rdT M d c (t+1):=by
   funext i
   by_cases e:i=d+1+t
   ·subst e;rw[KV,hMi,hd0];unfold rdT;rw[if_pos Z]
   ·rw[CZ _ _ e];unfold rdT
    by_cases g:d<i/\i<d+1+t
    ·rw[if_pos g,if_pos Z]
    ·rw[if_neg g,if_neg Z]
  rw[hup]at c3;have hF':Fo k M0 (rdT M d c (t+1)) d c p:=by
   rw[<- hup];exact hF.less _ Z hi
  have c4:eqS (Zn ((M (d+1+t) c).fmod (M d c))) (ByteArray.mk #[48])=decide ((M (d+1+t) c).fmod (M d c)=0):=TV _;have e8':((d+1+t+1:Nat):Int)=((d+1+(t+1):Nat):Int):=Z
  cases rest with
  | true =>
   refine⟨_,?_,A2,true,rfl,c3,hF',λ_=>?_,λhr=>(by cases hr)⟩
   ·simp only[eL,e1,e2,e3,e4,e9,e5,e6,e10,e7,e11,f2,f3,f4,f9,f10,f11,c1,c2,aD,oC,e8,e8']
   ·obtain⟨i,g1,g2,g3⟩:=hr1 rfl;exact⟨i,g1,by omega,g3⟩
  | false =>
   by_cases hz:(M (d+1+t) c).fmod (M d c)=0
   ·have c5:eqS (Zn ((M (d+1+t) c).fmod (M d c))) (ByteArray.mk #[48])=true:=by rw[c4]; exact oT hz
    refine⟨_,?_,A2,false,rfl,c3,hF',λhr=>(by cases hr),λ_ i g1 g2=>?_⟩
    ·simp only[eL,e1,e2,e3,e4,e9,e5,e6,e10,e7,e11,f2,f3,f4,f9,f10,f11,c1,c2,c5,aD,oC,oD,e8,e8',Bool.not_true]
    ·by_cases e:i=d+1+t
     ·subst e; exact hz
     ·exact hr2 rfl i g1 Z
   ·have c5:eqS (Zn ((M (d+1+t) c).fmod (M d c))) (ByteArray.mk #[48])=false:=by rw[c4]; exact oF hz
    refine⟨_,?_,A2,true,rfl,c3,hF',λ_=>⟨d+1+t,by omega,by omega,hz⟩,λhr=>(by cases hr)⟩;simp only[eL,e1,e2,e3,e4,e9,e5,e6,e10,e7,e11,f2,f3,f4,f9,f10,f11,c1,c2,c5,aD,oC,oD,e8,e8',Bool.not_false]
 ·rintro x ⟨A',rest,rfl,hL,hF,hr1,hr2⟩;have e1:ltI ((d+1+(k-(d+1)):Nat):Int) (m.length:Int)=false:=by rw[aE,h.len]; exact oF Z
  refine⟨_,?_,A',rest,rfl,hL,hF,λhr=>?_,λhr i g1 g2=>hr2 hr i g1 Z⟩
  ·simp only[eL,e1,oD]
  ·obtain⟨i,g1,g2,g3⟩:=hr1 hr;exact⟨i,g1,by omega,g3⟩
theorem aXP {E:Nat} (h:fT o k n m A J M) (hk:k<1048576) (hn:n<1048576) (f:Fp k M0 M d c p 0) (hcn:c<n) (hB:Big k n M T) (hE:∀ i,i<d->∀ x,x<n->(M i x).natAbs<=E) (hET:E<=T) (hT:2*Lib.nDigits (T+1)<=pD) (cols:Int) :
  ∃ A' M',bW (m,cols,(d:Int),(c:Int),(d:Int),0,A,())=some (m,cols,(d:Int),(c:Int),A',())/\fT o k n m A' J M'/\Fp k M0 M' d c p d/\(∀ i,d<=i->M' i=M i)/\∀ i,i<d->∀ x,x<n->(M' i x).natAbs<=E+(E+1)*T:=by
 have hd:=f.dk;have:=W6 (step:=dI) (N:=2^64) d
  (λt x=>∃ A' M',x=(m,cols,(d:Int),(c:Int),(d:Int),(t:Int),A',())/\fT o k n m A' J M'/\Fp k M0 M' d c p t/\(∀ i,t<=i->M' i=M i)/\∀ i,i<t->∀ x,x<n->(M' i x).natAbs<=E+(E+1)*T)
  (λz=>∃ A' M',z=(m,cols,(d:Int),(c:Int),A',())/\fT o k n m A' J M'/\Fp k M0 M' d c p d/\(∀ i,d<=i->M' i=M i)/\∀ i,i<d->∀ x,x<n->(M' i x).natAbs<=E+(E+1)*T)
  Z (m,cols,(d:Int),(c:Int),(d:Int),0,A,()) ⟨A,M,rfl,h,f,λ_ _=>rfl,λi hi=>by omega⟩ ?_ ?_
 ·obtain⟨z,h1,A',M',rfl,h2⟩:=this;exact⟨A',M',h1,h2⟩
 ·rintro t x ht ⟨A',M',rfl,hL,hF,hr1,hr2⟩;have hi:t<k:=Z
  have hMi:=hr1 t (oM _);have hMd:=hr1 d Z;have e1:ltI (t:Int) (d:Int)=true:=by rw[aE]; exact oT Z
  have e2:aF (t:Int) m.length=true:=by rw[aL,h.len]; exact oT Z
  have e3:((t:Nat):Int).toNat=t:=oN _;have e4:Nat.blt t m.length=true:=by rw[cA,h.len]; simpa using hi
  have e5:aF (c:Int) n=true:=by rw[aL]; exact oT Z
  have e6:(o+((c:Nat):Int).toNat)*1=o+c:=R
  have e7:Nat.blt (o+c) (o+n)=true:=by rw[cA]; simpa using hcn
  have e8:=bO t Z;have e9:=hL.get hi;have e10:=hL.cT hi;have e11:=hL.dC hi hcn;rw[hMi]at e11;have f2:aF ((d:Nat):Int) m.length=true:=by rw[aL,h.len]; exact oT Z
  have f3:((d:Nat):Int).toNat=d:=oN _;have f4:Nat.blt d m.length=true:=by rw[cA,h.len]; simpa using hd
  have f9:=hL.get hd;have f10:=hL.cT hd;have f11:=hL.dC hd hcn;rw[hMd]at f11;have hm:M d c≠0:=by have:=f.piv; omega
  have b0:=hE t ht c hcn;have b1:=hB _ hi c hcn;have b2:=hB _ hd c hcn;have k1:=MS hT (Nat.le_succ_of_le b1);have k2:=MS hT (Nat.le_succ_of_le b2);have c1:=UT (M t c) (M d c) (by have:pD=400000:=rfl; omega) (by have:pD=400000:=rfl; omega) hm;obtain⟨A2,c2,c3⟩:=hL.less hn hi hd Z ((M t c).fdiv (M d c)) (by
   rw[hMi,hMd];exact aHR hT (hB _ hi) (hB _ hd) (aGE b1 hm))
  have hF2:=hF.less ht;rw[hMi,hMd]at hF2 c3;refine⟨_,?_,A2,_,rfl,c3,hF2,λi hi2=>?_,λi hi2 x hx=>?_⟩
  ·simp only[dI,e1,e2,e3,e4,e9,e5,e6,e10,e7,e11,f2,f3,f4,f9,f10,f11,c1,c2,aD,oC,e8]
  ·rw[CZ _ _ Z]; exact hr1 i Z
  ·by_cases e:i=t
   ·subst e;rw[KV];have q1:=aGE b0 hm;have q2:((M i c).fdiv (M d c)*M d x).natAbs=((M i c).fdiv (M d c)).natAbs*(M d x).natAbs:=Int.natAbs_mul _ _;have q3:((M i c).fdiv (M d c)).natAbs*(M d x).natAbs<=(E+1)*T:=Nat.mul_le_mul q1 (hB _ hd x hx);have q4:=hE i Z x hx;omega
   ·rw[CZ _ _ e]; exact hr2 i Z x hx
 ·rintro x ⟨A',M',rfl,hL,hF,hr1,hr2⟩;have e1:ltI (d:Int) (d:Int)=false:=by rw[aE]; exact oF Z
  refine⟨_,?_,A',M',rfl,hL,hF,hr1,hr2⟩;simp only[dI,e1,oD]
end
def Wd(k n:Nat) (M:Nat->V):Prop:=∀ i,i<k->∀ x,n<=x->M i x=0
section
variable {o k n d c:Nat} {m:List (Nat×Nat×Nat)} {A:List (List ByteArray)} {J:Nat->Nat} {M M0:Nat->V} {p:Nat->Nat} {T E:Nat}
theorem Big.all (h:Big k n M T)(hw:Wd k n M):∀ i,i<k->∀ x,(M i x).natAbs<=T:=λi hi x=>by
 rcases oG x n with g|g
 ·exact h i hi x g
 ·rw[hw i hi x g]; simp
theorem pass(h:fT o k n m A J M) (hk:k<1048576) (hn:n<1048576) (f:Fo k M0 M d c p) (hcn:c<n) (hB:Big k n M T) (hw:Wd k n M) (hE:∀ i,i<d->∀ x,x<n->(M i x).natAbs<=E) (hET:E<=T) (hT:2*Lib.nDigits (T+1)<=pD) {a:Nat} (hd:d<k) (ha:d<=a) (hak:a<k) (hm:M a c≠0)
  (cols:Int) (hfind:gF (m,cols,(d:Int),(c:Int),-1,(d:Int),A,())=some (m,cols,(d:Int),(c:Int),(a:Int),A,())) :
  ∃ m1 A' J' M',fT o k n m1 A' J' M'/\Rd k (swp M d a) M' d c/\Fo k M0 M' d c p/\(∀ i,i<d->M' i=M i)/\Wd k n M' /\
   ((∃ i,d<i/\i<k/\M' i c≠0)->bD (m,cols,(d:Int),(c:Int),A,())=some (.inl (m1,cols,(d:Int),(c:Int),A',()))) /\
   ((∀ i,d<i->i<k->M' i c=0)->Big k n M' T->∃ A'' M'' p',bD (m,cols,(d:Int),(c:Int),A,())=some (.inr (m1,cols,((d+1:Nat):Int),(c:Int),A'',()))/\fT o k n m1 A'' J' M''/\Fo k M0 M'' (d+1) (c+1) p'/\Wd k n M''/\Big k n M'' (E+(E+1)*T)):=by
 obtain⟨J',hs⟩:∃ J',fT o k n ((m.set d (J a,o,n)).set a (J d,o,n)) A J' (swp M d a):=⟨_,h.swap hd hak⟩;have hsw:∀ i,i<k->∃ j,j<k/\swp M d a i=M j:=λi hi=>by
  unfold swp;grind
 have hBs:Big k n (swp M d a) T:=λi hi x hx=>by
  obtain⟨j,h1,h2⟩:=hsw i hi;rw[h2]; exact hB j h1 x hx
 have hws:Wd k n (swp M d a):=λi hi x hx=>by
  obtain⟨j,h1,h2⟩:=hsw i hi;rw[h2]; exact hw j h1 x hx
 have hpd:swp M d a d=M a:=by simp[swp]
 obtain⟨A',M',rest,g1,g2,g3,g4,g5,g6,g7⟩:=aK3 hs hk hn (f.swap ha hak) hd hcn (by rw[hpd]; exact hm) hBs hT cols;have hw':Wd k n M':=λi hi x hx=>by
  rcases Nat.lt_trichotomy i d with q|q|q
  ·rw[g5 i q]; exact hws i hi x hx
  ·subst q; rw[g3.1]; exact hws i hi x hx
  ·rw[g3.2 i q hi];simp only[hws i hi x hx,hws d hd x hx,Int.mul_zero,Int.sub_zero]
 have hlow:∀ i,i<d->M' i=M i:=λi hi=>by
  rw[g5 i hi];unfold swp;rw[if_neg Z,if_neg Z]
 -- what the pass begins with
 have e1:ltI (a:Int) 0=false:=by rw[aE]; exact oF Z
 have e2:aF (a:Int) m.length=true:=by rw[aL,h.len]; exact oT Z
 have e3:((a:Nat):Int).toNat=a:=oN _;have e4:Nat.blt a m.length=true:=by rw[cA,h.len]; simpa using hak
 have f2:aF (d:Int) m.length=true:=by rw[aL,h.len]; exact oT Z
 have f3:((d:Nat):Int).toNat=d:=oN _;have f4:Nat.blt d m.length=true:=by rw[cA,h.len]; simpa using hd
 have e9:=h.get hak;have f9:=h.get hd;have s1:(m.set d (J a,o,n)).length=m.length:=R
 have first:bD (m,cols,(d:Int),(c:Int),A,()) =
   (bif rest then some (.inl ((m.set d (J a,o,n)).set a (J d,o,n),cols,(d:Int),(c:Int),A',()))
   else bif aF (d:Int) ((m.set d (J a,o,n)).set a (J d,o,n)).length then bif Nat.blt d ((m.set d (J a,o,n)).set a (J d,o,n)).length then bif aF (c:Int) (((m.set d (J a,o,n)).set a (J d,o,n)).getD d (0,0,0)).2.2 then
    bif Nat.blt (((((m.set d (J a,o,n)).set a (J d,o,n)).getD d (0,0,0)).2.1+((c:Nat):Int).toNat)*1) (cT A' (((m.set d (J a,o,n)).set a (J d,o,n)).getD d (0,0,0)).1) then
    aB (BW ((dC A' (((m.set d (J a,o,n)).set a (J d,o,n)).getD d (0,0,0)).1 (((((m.set d (J a,o,n)).set a (J d,o,n)).getD d (0,0,0)).2.1+((c:Nat):Int).toNat)*1) ByteArray.empty),())) λy23 =>
    bif ltI y23.1 0 then
     bif aF (d:Int) ((m.set d (J a,o,n)).set a (J d,o,n)).length then bif Nat.blt d ((m.set d (J a,o,n)).set a (J d,o,n)).length then
     aB (dX () (((((m.set d (J a,o,n)).set a (J d,o,n)).getD d (0,0,0)).1,(((m.set d (J a,o,n)).set a (J d,o,n)).getD d (0,0,0)).2.1,(((m.set d (J a,o,n)).set a (J d,o,n)).getD d (0,0,0)).2.2),()) A') λy24 =>
     aB (bW ((m.set d (J a,o,n)).set a (J d,o,n),cols,(d:Int),(c:Int),(d:Int),0,y24.2,())) λz25 =>
     some (.inr ((z25.1,z25.2.1,(aC .i64 (z25.2.2.1+1)),z25.2.2.2.1,z25.2.2.2.2.1,()))) else none else none
    else aB (bW ((m.set d (J a,o,n)).set a (J d,o,n),cols,(d:Int),(c:Int),(d:Int),0,A',())) λz26 =>
    some (.inr ((z26.1,z26.2.1,(aC .i64 (z26.2.2.1+1)),z26.2.2.2.1,z26.2.2.2.2.1,()))) else none else none else none else none):=by
  simp only[bD,hfind,aD,e1,oD,e2,e3,e4,f2,f3,f4,e9,f9,s1,oC,g1]
 refine⟨_,A',J',M',g2,g3,g4,hlow,hw',λhex=>?_,λhz hB'=>?_⟩
 ·obtain⟨i,q1,q2,q3⟩:=hex;have hr:rest=true:=by
   cases rest with
   | true=>rfl
   | false=>exact absurd (g7 rfl i q1 q2) q3
  rw[first,hr]; rfl
 ·have hr:rest=false:=by
   cases rest with
   | false=>rfl
   | true =>
    obtain⟨i,q1,q2,q3⟩:=g6 rfl;exact absurd (hz i q1 q2) q3
  have hmd:M' d c≠0:=by rw[g3.1,hpd]; exact hm
  have t1:=g2.len;have t2:aF (d:Int) k=true:=by rw[aL]; exact oT Z
  have t3:Nat.blt d k=true:=by rw[cA]; simpa using hd
  have t4:=g2.get hd;have t5:aF (c:Int) n=true:=by rw[aL]; exact oT Z
  have t6:(o+((c:Nat):Int).toNat)*1=o+c:=R
  have t7:Nat.blt (o+c) (o+n)=true:=by rw[cA]; simpa using hcn
  have t8:=g2.cT hd;have t9:=g2.dC hd hcn;have t10:=W8 (M' d c);have t11:=bO d Z;have hE':∀ i,i<d->∀ x,x<n->(M' i x).natAbs<=E:=λi hi x hx=>by rw[hlow i hi]; exact hE i hi x hx
  have fin:∀ (A1:List (List ByteArray)) (M1:Nat->V),fT o k n ((m.set d (J a,o,n)).set a (J d,o,n)) A1 J' M1->Fo k M0 M1 d c p->0<M1 d c->(∀ i,d<i->i<k->M1 i c=0)->Big k n M1 T->Wd k n M1->(∀ i,i<d->M1 i=M' i) ->
    ∃ A'' M'' p',bW ((m.set d (J a,o,n)).set a (J d,o,n),cols,(d:Int),(c:Int),(d:Int),0,A1,())=some ((m.set d (J a,o,n)).set a (J d,o,n),cols,(d:Int),(c:Int),A'',())/\fT o k n ((m.set d (J a,o,n)).set a (J d,o,n)) A'' J' M''/\Fo k M0 M'' (d+1) (c+1) p'/\Wd k n M''/\Big k n M'' (E+(E+1)*T):=by
   intro A1 M1 q1 q2 q3 q4 q5 q6 q7;obtain⟨A2,M2,r1,r2,r3,r4,r5⟩:=aXP q1 hk hn { toFo:=q2,dk:=hd,piv:=q3,below:=q4,up:=λi hi=>by omega } hcn q5 (λi hi x hx=>by rw[q7 i hi]; exact hE' i hi x hx) hET hT cols;refine⟨A2,M2,_,r1,r2,r3.done,λi hi x hx=>?_,λi hi x hx=>?_⟩
   ·rcases oG i d with g|g
    ·have hs0:Same k M0 k M2:=r3.same;have h0:∀ j,j<k->M0 j x=0:=λj hj=>Sp.kH (M:=M1) (λl hl=>q6 l hl x hx) ((q2.same _).1 (Sp.mem hj))
     exact Sp.kH (M:=M0) h0 ((hs0 _).2 (Sp.mem hi))
    ·rw[r4 i g]; exact q6 i hi x hx
   ·rcases oG i d with g|g
    ·exact r5 i g x hx
    ·rw[r4 i g];have:=q5 i hi x hx;have:T*1<=T*(E+1):=Nat.mul_le_mul_left _ Z;rw[Nat.mul_comm (E+1) T];omega
  by_cases hn0:M' d c<0
  ·obtain⟨A1,u1,u2⟩:=g2.neg hn hd (λx hx=>(hB'.cm hT) d hd x hx);have l1:up M' d (λx=>-(M' d x)) d c = -(M' d c):=by rw[KV]
   obtain⟨A2,M2,p2,r1,r2,r3,r4,r5⟩:=fin A1 _ u2 (g4.neg hd) (by rw[l1]; omega) (λi q1 q2=>by rw[CZ _ _ Z]; exact hz i q1 q2)
    (λi hi x hx=>by
     by_cases e:i=d
     ·subst e; rw[KV,Int.natAbs_neg]; exact hB' i hi x hx
     ·rw[CZ _ _ e]; exact hB' i hi x hx)
    (λi hi x hx=>by
     by_cases e:i=d
     ·subst e; rw[KV,hw' i hi x hx]; rfl
     ·rw[CZ _ _ e]; exact hw' i hi x hx)
    (λi hi=>CZ _ _ Z)
   refine⟨A2,M2,p2,?_,r2,r3,r4,r5⟩;have s2:ltI (M' d c).sign 0=true:=by rw[aE,Int.sign_eq_neg_one_of_neg hn0]; rfl
   rw[first,hr];simp only[oD,t1,t2,t3,t4,t5,t6,t7,t8,t9,t10,aD,oC,s2,u1,r1,t11]
  ·obtain⟨A2,M2,p2,r1,r2,r3,r4,r5⟩:=fin A' _ g2 g4 Z hz hB' hw' (λ_ _=>rfl);refine⟨A2,M2,p2,?_,r2,r3,r4,r5⟩;have s2:ltI (M' d c).sign 0=false:=by rw[aE,Int.sign_eq_one_of_pos Z]; rfl
   rw[first,hr];simp only[oD,t1,t2,t3,t4,t5,t6,t7,t8,t9,t10,aD,oC,s2,r1,t11]
end
structure St (k n d E T:Nat):Prop where
 e1:1<=E
 et:E<=T
 eu:d+1<k->9*E^5<=T
 fit:2*Lib.nDigits (T+1)<=pD
def bB8(o k n d c:Nat) (M0:Nat->V) (cols:Int) (E T:Nat) (z:List (Nat×Nat×Nat)×Int×Int×Int×List (List ByteArray)×Unit):Prop :=
 ∃ m' A' J' M' d' p',z=(m',cols,((d':Nat):Int),(c:Int),A',())/\fT o k n m' A' J' M'/\Fo k M0 M' d' (c+1) p'/\Wd k n M'/\((d'=d/\Big k n M' E)\/(d'=d+1/\Big k n M' (E+(E+1)*T)))
section
variable {o k n d c:Nat} {m:List (Nat×Nat×Nat)} {A:List (List ByteArray)} {J:Nat->Nat} {M M0:Nat->V} {p:Nat->Nat} {T E:Nat}
theorem aVL {a g}(h:a<10^g):a<2^(4*g):=by
 refine Nat.lt_of_lt_of_le h ?_;rw[Nat.pow_mul];exact Nat.pow_le_pow_left R g
theorem rounds(hk:k<1048576) (hn:n<1048576) (hcn:c<n) (hT:2*Lib.nDigits (T+1)<=pD) (hET:E<=T) {C:Nat} (hC:3*C<=T) (cols:Int):∀ (R N P:Nat) {m:List (Nat×Nat×Nat)} {A:List (List ByteArray)} {J:Nat->Nat} {M:Nat->V},
  fT o k n m A J M->Fo k M0 M d c p->Wd k n M->(∀ i,i<d->∀ x,x<n->(M i x).natAbs<=E)->Bt k M d c C->Pt k M d c P->P<2^R->R<N->∃ z,bH bD N (m,cols,(d:Int),(c:Int),A,())=some z/\bB8 o k n d c M0 cols E T z
 | 0,N,P,m,A,J,M,h,f,hw,hE,hB,hP,hlt,_=>by
  obtain⟨i,w1,w2,w3,w4⟩:=hP;have:=hB.piv;have h1:1*1<=(M d c).natAbs*(M i c).natAbs:=Nat.mul_le_mul Z Z;grind
 | R+1,N+1,P,m,A,J,M,h,f,hw,hE,hB,hP,hlt,hN=>by
  obtain⟨E1,b1,i0,b2,b3,b4,b5⟩:=hB.ex;have hdk:=hB.dk;have hmp:=hB.piv;have hE1:E1<=C:=by
   have h1:E1*1<=E1*((M d c).natAbs^3*(M i0 c).natAbs):=Nat.mul_le_mul_left _ (Nat.mul_pos (Nat.pow_pos Z) Z);grind
  have hBig:Big k n M T:=λi hi x hx=>by
   rcases oG i d with g|g
   ·grind
   ·have:=(b1 i g hi).1 x;omega
  obtain⟨r,f1,f2⟩:=aGD h hk (hBig.cm hT) hcn (Nat.le_of_lt hdk) cols;cases r with
  | none=>exact absurd (f2.none rfl d (oM _) Z) hmp
  | some a =>
   obtain⟨q1,q2,q3,q4⟩:=f2.some a rfl;have hak:a<k:=Z
   have hmin:∀ i,d<=i->i<k->M i c≠0->(M a c).natAbs<=(M i c).natAbs:=λi g1 g2 g3=>q4 i g1 Z g3
   obtain⟨m1,A',J',M',s1,s2,s3,s4,s5,s6,s7⟩:=pass h hk hn f hcn hBig hw hE hET hT hdk q1 hak q3 cols f1;have hE':∀ i,i<d->∀ x,x<n->(M' i x).natAbs<=E:=λi hi x hx=>by rw[s4 i hi]; exact hE i hi x hx
   by_cases hz:∀ i,d<i->i<k->M' i c=0
   ·rcases hB.round q1 hak q3 hmin s2 with ⟨_,A1,g1⟩|⟨g1,_⟩
    ·have hBig':Big k n M' T:=λi hi x hx=>by
      rcases oG i d with g|g
      ·grind
      ·exact oR ((g1 i g hi).1 x) hC
     obtain⟨A2,M2,p2,u1,u2,u3,u4,u5⟩:=s7 hz hBig';exact⟨_,by rw[cZ,u1],m1,A2,J',M2,d+1,p2,rfl,u2,u3,u4,.inr ⟨rfl,u5⟩⟩
    ·obtain⟨_,_,i,z1,z2,z3,_⟩:=g1.ex;grind
   ·have hex:∃ i,d<i/\i<k/\M' i c≠0:=by
     obtain⟨i,hi⟩:=Classical.not_forall.1 hz;obtain⟨g1,hi⟩:=Classical.not_forall.1 hi;obtain⟨g2,g3⟩:=Classical.not_forall.1 hi;exact⟨i,g1,g2,g3⟩
    rcases hB.round q1 hak q3 hmin s2 with ⟨g0,_⟩|⟨g1,_⟩
    ·exact absurd g0 hz
    ·have hP':=hB.half q1 hak q3 hmin s2 hz hP;obtain⟨z,v1,v2⟩:=rounds hk hn hcn hT hET hC cols R N (P/2) s1 s3 s5 hE' g1 hP' (by rw[Nat.pow_succ]at hlt; omega) Z;exact⟨z,by rw[cZ,s6 hex]; exact v1,v2⟩
theorem column(hk:k<1048576) (hn:n<1048576) (h:fT o k n m A J M) (f:Fo k M0 M d c p) (hw:Wd k n M) (hd:d<k) (hcn:c<n) (hE:Big k n M E) (st:St k n d E T) (cols:Int) :
  ∃ z,eJ (m,cols,(d:Int),(c:Int),A,())=some z/\bB8 o k n d c M0 cols E T z:=by
 have hBig:Big k n M T:=λi hi x hx=>oR (hE i hi x hx) st.et
 have hEl:∀ i,i<d->∀ x,x<n->(M i x).natAbs<=E:=λi hi x hx=>hE i Z x hx
 obtain⟨r,f1,f2⟩:=aGD h hk (hBig.cm st.fit) hcn (Nat.le_of_lt hd) cols;unfold eJ;obtain⟨N,hN⟩:∃ N,2^64=N+1:=⟨2^64-1,by omega⟩;rw[hN];cases r with
 | none =>
  have e1:ltI (atv none) 0=true:=O
  refine⟨_,?_,m,A,J,M,d,p,rfl,h,f.skip λi h1 h2=>f2.none rfl i h1 Z,hw,.inl ⟨rfl,hE⟩⟩;rw[cZ];simp only[bD,f1,aD,e1,oC]
 | some a =>
  obtain⟨q1,q2,q3,q4⟩:=f2.some a rfl;have hak:a<k:=Z
  obtain⟨m1,A',J',M',s1,s2,s3,s4,s5,s6,s7⟩:=pass h hk hn f hcn hBig hw hEl st.et st.fit hd q1 hak q3 cols f1;have hE':∀ i,i<d->∀ x,x<n->(M' i x).natAbs<=E:=λi hi x hx=>by rw[s4 i hi]; exact hEl i hi x hx
  have hWi:Wi k (swp M d a) d c E E:=(show Wi k M d c E E from λi g1 g2=>⟨λx=>hE.all hw i g2 x,hE.all hw i g2 c⟩).swap q1 hak;have hpd:swp M d a d=M a:=by simp[swp]
  have hfirst:=s2.first hWi hd (by rw[hpd]; exact q3);have hpow:3*(3*(E*E)*E^3)=9*E^5:=W
  by_cases hdk:d+1<k
  ·have h9:=st.eu hdk;rcases hfirst with ⟨hz,g1⟩|g1
   ·have hBig':Big k n M' T:=λi hi x hx=>by
     rcases oG i d with g|g
     ·exact oR (hE' i g x hx) st.et
     ·have:=(g1 i g hi).1 x;have h3:3*(E*E)*1<=3*(E*E)*E^3:=Nat.mul_le_mul_left _ (Nat.pow_pos st.e1);omega
    obtain⟨A2,M2,p2,u1,u2,u3,u4,u5⟩:=s7 hz hBig';exact⟨_,by rw[cZ,u1],m1,A2,J',M2,d+1,p2,rfl,u2,u3,u4,.inr ⟨rfl,u5⟩⟩
   ·obtain⟨E1,b1,i0,b2,b3,b4,b5⟩:=g1.ex;have hPt:Pt k M' d c (T*T):=by
     refine⟨i0,b2,b3,b4,Nat.mul_le_mul ?_ ?_⟩
     ·rw[s2.1,hpd]; exact hBig a hak c hcn
     ·have h1:=(g1.sign i0 b2 b3).1;rw[s2.1,hpd]at h1;exact oR (Nat.le_of_lt h1) (hBig a hak c hcn)
    have hT2:T*T<2^(8*Lib.nDigits (T+1)):=by
     have h1:=aVL (jJ (T+1));have h2:(T+1)*(T+1)<2^(4*Lib.nDigits (T+1))*2^(4*Lib.nDigits (T+1)):=Nat.mul_lt_mul'' h1 h1;rw[<- Nat.pow_add]at h2;have h3:4*Lib.nDigits (T+1)+4*Lib.nDigits (T+1)=8*Lib.nDigits (T+1):=Z
     rw[h3]at h2;have h4:T*T<=(T+1)*(T+1):=Nat.mul_le_mul Z Z;omega
    have hex:∃ i,d<i/\i<k/\M' i c≠0:=⟨i0,b2,b3,b4⟩;obtain⟨z,v1,v2⟩:=rounds hk hn hcn st.fit st.et (C:=3*(E*E)*E^3) Z cols (8*Lib.nDigits (T+1)) N (T*T) s1 s3 s5 hE' g1 hPt hT2 (by have:=st.fit; have:pD=400000:=rfl; omega);exact⟨z,by rw[cZ,s6 hex]; exact v1,v2⟩
  ·have hz:∀ i,d<i->i<k->M' i c=0:=λi g1 g2=>Z
   have hBig':Big k n M' T:=λi hi x hx=>by
    rcases oG i d with g|g
    ·exact oR (hE' i g x hx) st.et
    ·have:i=d:=Z
     subst this;rw[s2.1,hpd];exact hBig a hak x hx
   obtain⟨A2,M2,p2,u1,u2,u3,u4,u5⟩:=s7 hz hBig';exact⟨_,by rw[cZ,u1],m1,A2,J',M2,d+1,p2,rfl,u2,u3,u4,.inr ⟨rfl,u5⟩⟩
structure Bds (k n:Nat) (E T:Nat->Nat):Prop where
 st:∀ d,d<k->d<n->St k n d (E d) (T d)
 up:∀ d,d<k->d<n->E d+(E d+1)*T d<=E (d+1)
theorem bAF {d t p M'}(h:Fo k M M' d t p):d<=t:=by
 have:∀ i,i<d->i<=p i:=by
  intro i
  induction i with
  | zero=>simp
  | succ i ih=>intro hi; have:=h.inc i (i+1) R hi; omega
 rcases Nat.eq_zero_or_pos d with h0|h0
 ·omega
 ·have:=this (d-1) Z; have:=h.lt (d-1) Z; omega
theorem aBX {E T:Nat->Nat} (hk:k<1048576) (hn:n<1048576) (h:fT o k n m A J M) (hw:Wd k n M) (hE:Big k n M (E 0)) (hb:Bds k n E T) :
  ∃ m' A' J' M' d p,cI m ((n:Int),()) A=some (m'.take d,A')/\d<=k/\fT o k n m' A' J' M'/\Hn d M' p/\Same k M d M'/\Wd k n M'/\Big k n M' (E d):=by
 have fin:∀ (N:Nat) {m':List (Nat×Nat×Nat)} {A':List (List ByteArray)} {J':Nat->Nat} {M':Nat->V} {d t:Nat} {p:Nat->Nat},t<=n->n-t<N->fT o k n m' A' J' M'->Fo k M M' d t p->Wd k n M'->Big k n M' (E d) ->
   ∃ z,bH bY N (m',(n:Int),(d:Int),(t:Int),A',())=some z/\∃ (m':List (Nat×Nat×Nat)) (A':List (List ByteArray)) (J':Nat->Nat) (M':Nat->V) (d:Nat) (p:Nat->Nat),z=(m',(d:Int),A',())/\fT o k n m' A' J' M'/\(d<=k/\Hn d M' p/\Same k M d M')/\Wd k n M'/\Big k n M' (E d):=by
  intro N
  induction N with
  | zero=>intro m' A' J' M' d t p h1 h2; omega
  | succ N ih =>
   intro m' A' J' M' d t p h1 h2 hL hF hW hB;rw[cZ];rcases oG t n with ht|ht
   ·have e1:ltI (t:Int) (n:Int)=true:=by rw[aE]; exact oT Z
    rcases oG d k with hd|hd
    ·have e2:ltI (d:Int) (m'.length:Int)=true:=by rw[aE,hL.len]; exact oT Z
     obtain⟨z,z1,m2,A2,J2,M2,d2,p2,rfl,y1,y2,y3,y4⟩:=column hk hn hL hF hW hd ht hB (hb.st d hd (Nat.lt_of_le_of_lt (bAF hF) ht)) (n:Int);have e3:=bO t Z;have hs:bY (m',(n:Int),(d:Int),(t:Int),A',())=some (.inl (m2,(n:Int),(d2:Int),((t+1:Nat):Int),A2,())):=by simp only[bY,e1,e2,oC,z1,aD,e3]
     rw[hs];refine ih Z Z y1 y2 y3 ?_;rcases y4 with ⟨rfl,y4⟩|⟨rfl,y4⟩
     ·exact y4
     ·exact λi hi x hx=>oR (y4 i hi x hx) (hb.up d hd (Nat.lt_of_le_of_lt (bAF hF) ht))
    ·have hdk:d=k:=by have:=hF.le; omega
     have e2:ltI (d:Int) (m'.length:Int)=false:=by rw[aE,hL.len]; exact oF Z
     refine⟨_,by simp only[bY,e1,e2,oC,oD],m',A',J',M',d,p,rfl,hL,⟨hF.le,hF.hn (.inl hdk)⟩,hW,hB⟩
   ·have htn:t=n:=Z
    subst htn;have e1:ltI (t:Int) (t:Int)=false:=by rw[aE]; exact oF Z
    refine⟨_,by simp only[bY,e1,oD],m',A',J',M',d,p,rfl,hL,⟨hF.le,hF.hn (.inr λi hi x hx=>hW i hi x hx)⟩,hW,hB⟩
 obtain⟨z,z1,m',A',J',M',d,p,rfl,y1,⟨y2,y3,y4⟩,y5,y6⟩:=fin (2^64) (Nat.zero_le n) Z h (Fo.start k M) hw hE;refine⟨m',A',J',M',d,p,?_,y2,y1,y3,y4,y5,y6⟩;have z2:j9 (m,(n:Int),0,0,A,())=some (m',(d:Int),A',()):=z1;have e4:ltI (d:Int) 0=false:=by rw[aE]; exact oF Z
 have e5:((d:Nat):Int).toNat=d:=oN _;have hl:=y1.len;unfold cI;simp only[z2,aD,hl,e4,e5,Bool.not_false,oC]
 by_cases hk0:k=0
 ·have hd0:d=0:=Z
  subst hk0; subst hd0;have:m'=[]:=List.eq_nil_of_length_eq_zero hl;subst this;rfl
 ·have e6:Nat.beq k 0=false:=by
   cases k with
   | zero=>exact absurd rfl hk0
   | succ k=>rfl
  have e7:Nat.ble 0 d=true:=rfl;have e8:Nat.ble d k=true:=by rw[dM]; simpa using y2
  have e9:Nat.blt 0 k=true:=by rw[cA]; simp; omega
  simp only[e6,e7,e8,e9,oC,oD,Nat.sub_zero]
end
section
variable {o k n d c:Nat} {m:List (Nat×Nat×Nat)} {A:List (List ByteArray)} {J:Nat->Nat} {M M0:Nat->V} {p:Nat->Nat} {T E:Nat}
theorem aT6(h:fT o k n m A J M) (hk:k<1048576) (hn:n<1048576) (f:Fp k M0 M d c p 0) (hcn:c<n) (hB:Big k n M T) (hT:2*Lib.nDigits (T+1)<=pD) (cols:Int) :
  ∃ A' M',bW (m,cols,(d:Int),(c:Int),(d:Int),0,A,())=some (m,cols,(d:Int),(c:Int),A',())/\fT o k n m A' J M'/\Fp k M0 M' d c p d/\(∀ i,d<=i->M' i=M i)/\∀ i,i<d->M' i=λx=>M i x-(M i c).fdiv (M d c)*M d x:=by
 have hd:=f.dk;have:=W6 (step:=dI) (N:=2^64) d
  (λt x=>∃ A' M',x=(m,cols,(d:Int),(c:Int),(d:Int),(t:Int),A',())/\fT o k n m A' J M'/\Fp k M0 M' d c p t/\(∀ i,t<=i->M' i=M i)/\∀ i,i<t->M' i=λx=>M i x-(M i c).fdiv (M d c)*M d x)
  (λz=>∃ A' M',z=(m,cols,(d:Int),(c:Int),A',())/\fT o k n m A' J M'/\Fp k M0 M' d c p d/\(∀ i,d<=i->M' i=M i)/\∀ i,i<d->M' i=λx=>M i x-(M i c).fdiv (M d c)*M d x)
  Z (m,cols,(d:Int),(c:Int),(d:Int),0,A,()) ⟨A,M,rfl,h,f,λ_ _=>rfl,λi hi=>by omega⟩ ?_ ?_
 ·obtain⟨z,h1,A',M',rfl,h2⟩:=this;exact⟨A',M',h1,h2⟩
 ·rintro t x ht ⟨A',M',rfl,hL,hF,hr1,hr2⟩;have hi:t<k:=Z
  have hMi:=hr1 t (oM _);have hMd:=hr1 d Z;have e1:ltI (t:Int) (d:Int)=true:=by rw[aE]; exact oT Z
  have e2:aF (t:Int) m.length=true:=by rw[aL,h.len]; exact oT Z
  have e3:((t:Nat):Int).toNat=t:=oN _;have e4:Nat.blt t m.length=true:=by rw[cA,h.len]; simpa using hi
  have e5:aF (c:Int) n=true:=by rw[aL]; exact oT Z
  have e6:(o+((c:Nat):Int).toNat)*1=o+c:=R
  have e7:Nat.blt (o+c) (o+n)=true:=by rw[cA]; simpa using hcn
  have e8:=bO t Z;have e9:=hL.get hi;have e10:=hL.cT hi;have e11:=hL.dC hi hcn;rw[hMi]at e11;have f2:aF ((d:Nat):Int) m.length=true:=by rw[aL,h.len]; exact oT Z
  have f3:((d:Nat):Int).toNat=d:=oN _;have f4:Nat.blt d m.length=true:=by rw[cA,h.len]; simpa using hd
  have f9:=hL.get hd;have f10:=hL.cT hd;have f11:=hL.dC hd hcn;rw[hMd]at f11;have hm:M d c≠0:=by have:=f.piv; omega
  have b1:=hB _ hi c hcn;have b2:=hB _ hd c hcn;have k1:=MS hT (Nat.le_succ_of_le b1);have k2:=MS hT (Nat.le_succ_of_le b2);have c1:=UT (M t c) (M d c) (by have:pD=400000:=rfl; omega) (by have:pD=400000:=rfl; omega) hm;obtain⟨A2,c2,c3⟩:=hL.less hn hi hd Z ((M t c).fdiv (M d c)) (by
   rw[hMi,hMd];exact aHR hT (hB _ hi) (hB _ hd) (aGE b1 hm))
  have hF2:=hF.less ht;rw[hMi,hMd]at hF2 c3;refine⟨_,?_,A2,_,rfl,c3,hF2,λi hi2=>?_,λi hi2=>?_⟩
  ·simp only[dI,e1,e2,e3,e4,e9,e5,e6,e10,e7,e11,f2,f3,f4,f9,f10,f11,c1,c2,aD,oC,e8]
  ·rw[CZ _ _ Z]; exact hr1 i Z
  ·by_cases e:i=t
   ·subst e;rw[KV]
   ·rw[CZ _ _ e]; exact hr2 i Z
 ·rintro x ⟨A',M',rfl,hL,hF,hr1,hr2⟩;have e1:ltI (d:Int) (d:Int)=false:=by rw[aE]; exact oF Z
  refine⟨_,?_,A',M',rfl,hL,hF,hr1,hr2⟩;simp only[dI,e1,oD]
theorem bAG(h:fT o k n m A J M) (hk:k<1048576) (hn:n<1048576) (f:Fo k M0 M d c p) (hcn:c<n) (hB:Big k n M T) (hw:Wd k n M) (hT:2*Lib.nDigits (T+1)<=pD) {a:Nat} (hd:d<k) (ha:d<=a) (hak:a<k) (hm:M a c≠0)
  (cols:Int) (hfind:gF (m,cols,(d:Int),(c:Int),-1,(d:Int),A,())=some (m,cols,(d:Int),(c:Int),(a:Int),A,())) :
  ∃ m1 A' J' M',fT o k n m1 A' J' M'/\Rd k (swp M d a) M' d c/\Fo k M0 M' d c p/\(∀ i,i<d->M' i=M i)/\Wd k n M' /\
   ((∃ i,d<i/\i<k/\M' i c≠0)->bD (m,cols,(d:Int),(c:Int),A,())=some (.inl (m1,cols,(d:Int),(c:Int),A',()))) /\
   ((∀ i,d<i->i<k->M' i c=0)->Big k n M' T->∃ A'' M'' p',bD (m,cols,(d:Int),(c:Int),A,())=some (.inr (m1,cols,((d+1:Nat):Int),(c:Int),A'',()))/\fT o k n m1 A'' J' M''/\Fo k M0 M'' (d+1) (c+1) p'/\Wd k n M''/\(M'' d=M' d\/M'' d=λx=>-(M' d x))/\(∀ i,d<i->M'' i=M' i)/\∀ i,i<d->M'' i=λx=>M' i x-(M' i c).fdiv (M'' d c)*M'' d x):=by
 obtain⟨J',hs⟩:∃ J',fT o k n ((m.set d (J a,o,n)).set a (J d,o,n)) A J' (swp M d a):=⟨_,h.swap hd hak⟩;have hsw:∀ i,i<k->∃ j,j<k/\swp M d a i=M j:=λi hi=>by
  unfold swp;grind
 have hBs:Big k n (swp M d a) T:=λi hi x hx=>by
  obtain⟨j,h1,h2⟩:=hsw i hi;rw[h2]; exact hB j h1 x hx
 have hws:Wd k n (swp M d a):=λi hi x hx=>by
  obtain⟨j,h1,h2⟩:=hsw i hi;rw[h2]; exact hw j h1 x hx
 have hpd:swp M d a d=M a:=by simp[swp]
 obtain⟨A',M',rest,g1,g2,g3,g4,g5,g6,g7⟩:=aK3 hs hk hn (f.swap ha hak) hd hcn (by rw[hpd]; exact hm) hBs hT cols;have hw':Wd k n M':=λi hi x hx=>by
  rcases Nat.lt_trichotomy i d with q|q|q
  ·rw[g5 i q]; exact hws i hi x hx
  ·subst q; rw[g3.1]; exact hws i hi x hx
  ·rw[g3.2 i q hi];simp only[hws i hi x hx,hws d hd x hx,Int.mul_zero,Int.sub_zero]
 have hlow:∀ i,i<d->M' i=M i:=λi hi=>by
  rw[g5 i hi];unfold swp;rw[if_neg Z,if_neg Z]
 -- what the pass begins with
 have e1:ltI (a:Int) 0=false:=by rw[aE]; exact oF Z
 have e2:aF (a:Int) m.length=true:=by rw[aL,h.len]; exact oT Z
 have e3:((a:Nat):Int).toNat=a:=oN _;have e4:Nat.blt a m.length=true:=by rw[cA,h.len]; simpa using hak
 have f2:aF (d:Int) m.length=true:=by rw[aL,h.len]; exact oT Z
 have f3:((d:Nat):Int).toNat=d:=oN _;have f4:Nat.blt d m.length=true:=by rw[cA,h.len]; simpa using hd
 have e9:=h.get hak;have f9:=h.get hd;have s1:(m.set d (J a,o,n)).length=m.length:=R
 have first:bD (m,cols,(d:Int),(c:Int),A,()) =
   (bif rest then some (.inl ((m.set d (J a,o,n)).set a (J d,o,n),cols,(d:Int),(c:Int),A',()))
   else bif aF (d:Int) ((m.set d (J a,o,n)).set a (J d,o,n)).length then bif Nat.blt d ((m.set d (J a,o,n)).set a (J d,o,n)).length then bif aF (c:Int) (((m.set d (J a,o,n)).set a (J d,o,n)).getD d (0,0,0)).2.2 then
    bif Nat.blt (((((m.set d (J a,o,n)).set a (J d,o,n)).getD d (0,0,0)).2.1+((c:Nat):Int).toNat)*1) (cT A' (((m.set d (J a,o,n)).set a (J d,o,n)).getD d (0,0,0)).1) then
    aB (BW ((dC A' (((m.set d (J a,o,n)).set a (J d,o,n)).getD d (0,0,0)).1 (((((m.set d (J a,o,n)).set a (J d,o,n)).getD d (0,0,0)).2.1+((c:Nat):Int).toNat)*1) ByteArray.empty),())) λy23 =>
    bif ltI y23.1 0 then
     bif aF (d:Int) ((m.set d (J a,o,n)).set a (J d,o,n)).length then bif Nat.blt d ((m.set d (J a,o,n)).set a (J d,o,n)).length then
     aB (dX () (((((m.set d (J a,o,n)).set a (J d,o,n)).getD d (0,0,0)).1,(((m.set d (J a,o,n)).set a (J d,o,n)).getD d (0,0,0)).2.1,(((m.set d (J a,o,n)).set a (J d,o,n)).getD d (0,0,0)).2.2),()) A') λy24 =>
     aB (bW ((m.set d (J a,o,n)).set a (J d,o,n),cols,(d:Int),(c:Int),(d:Int),0,y24.2,())) λz25 =>
     some (.inr ((z25.1,z25.2.1,(aC .i64 (z25.2.2.1+1)),z25.2.2.2.1,z25.2.2.2.2.1,()))) else none else none
    else aB (bW ((m.set d (J a,o,n)).set a (J d,o,n),cols,(d:Int),(c:Int),(d:Int),0,A',())) λz26 =>
    some (.inr ((z26.1,z26.2.1,(aC .i64 (z26.2.2.1+1)),z26.2.2.2.1,z26.2.2.2.2.1,()))) else none else none else none else none):=by
  simp only[bD,hfind,aD,e1,oD,e2,e3,e4,f2,f3,f4,e9,f9,s1,oC,g1]
 refine⟨_,A',J',M',g2,g3,g4,hlow,hw',λhex=>?_,λhz hB'=>?_⟩
 ·obtain⟨i,q1,q2,q3⟩:=hex;have hr:rest=true:=by
   cases rest with
   | true=>rfl
   | false=>exact absurd (g7 rfl i q1 q2) q3
  rw[first,hr]; rfl
 ·have hr:rest=false:=by
   cases rest with
   | false=>rfl
   | true =>
    obtain⟨i,q1,q2,q3⟩:=g6 rfl;exact absurd (hz i q1 q2) q3
  have hmd:M' d c≠0:=by rw[g3.1,hpd]; exact hm
  have t1:=g2.len;have t2:aF (d:Int) k=true:=by rw[aL]; exact oT Z
  have t3:Nat.blt d k=true:=by rw[cA]; simpa using hd
  have t4:=g2.get hd;have t5:aF (c:Int) n=true:=by rw[aL]; exact oT Z
  have t6:(o+((c:Nat):Int).toNat)*1=o+c:=R
  have t7:Nat.blt (o+c) (o+n)=true:=by rw[cA]; simpa using hcn
  have t8:=g2.cT hd;have t9:=g2.dC hd hcn;have t10:=W8 (M' d c);have t11:=bO d Z;have fin:∀ (A1:List (List ByteArray)) (M1:Nat->V),fT o k n ((m.set d (J a,o,n)).set a (J d,o,n)) A1 J' M1->Fo k M0 M1 d c p->0<M1 d c->(∀ i,d<i->i<k->M1 i c=0)->Big k n M1 T->Wd k n M1->(∀ i,i≠d->M1 i=M' i) ->
    ∃ A'' M'' p',bW ((m.set d (J a,o,n)).set a (J d,o,n),cols,(d:Int),(c:Int),(d:Int),0,A1,())=some ((m.set d (J a,o,n)).set a (J d,o,n),cols,(d:Int),(c:Int),A'',())/\fT o k n ((m.set d (J a,o,n)).set a (J d,o,n)) A'' J' M''/\Fo k M0 M'' (d+1) (c+1) p'/\Wd k n M''/\M'' d=M1 d/\(∀ i,d<i->M'' i=M' i)/\∀ i,i<d->M'' i=λx=>M' i x-(M' i c).fdiv (M'' d c)*M'' d x:=by
   intro A1 M1 q1 q2 q3 q4 q5 q6 q7;obtain⟨A2,M2,r1,r2,r3,r4,r5⟩:=aT6 q1 hk hn { toFo:=q2,dk:=hd,piv:=q3,below:=q4,up:=λi hi=>by omega } hcn q5 hT cols;refine⟨A2,M2,_,r1,r2,r3.done,λi hi x hx=>?_,r4 d (oM _),λi hi=>by rw[r4 i Z,q7 i Z],λi hi=>?_⟩
   ·rcases oG i d with g|g
    ·have hs0:Same k M0 k M2:=r3.same;have h0:∀ j,j<k->M0 j x=0:=λj hj=>Sp.kH (M:=M1) (λl hl=>q6 l hl x hx) ((q2.same _).1 (Sp.mem hj))
     exact Sp.kH (M:=M0) h0 ((hs0 _).2 (Sp.mem hi))
    ·rw[r4 i g]; exact q6 i hi x hx
   ·rw[r5 i hi,q7 i Z,r4 d (oM _)]
  by_cases hn0:M' d c<0
  ·obtain⟨A1,u1,u2⟩:=g2.neg hn hd (λx hx=>(hB'.cm hT) d hd x hx);have l1:up M' d (λx=>-(M' d x)) d c = -(M' d c):=by rw[KV]
   obtain⟨A2,M2,p2,r1,r2,r3,r4,r5,r6,r7⟩:=fin A1 _ u2 (g4.neg hd) (by rw[l1]; omega) (λi q1 q2=>by rw[CZ _ _ Z]; exact hz i q1 q2)
    (λi hi x hx=>by
     by_cases e:i=d
     ·subst e; rw[KV,Int.natAbs_neg]; exact hB' i hi x hx
     ·rw[CZ _ _ e]; exact hB' i hi x hx)
    (λi hi x hx=>by
     by_cases e:i=d
     ·subst e; rw[KV,hw' i hi x hx]; rfl
     ·rw[CZ _ _ e]; exact hw' i hi x hx)
    (λi hi=>CZ _ _ hi)
   refine⟨A2,M2,p2,?_,r2,r3,r4,.inr (by rw[r5,KV]),r6,r7⟩;have s2:ltI (M' d c).sign 0=true:=by rw[aE,Int.sign_eq_neg_one_of_neg hn0]; rfl
   rw[first,hr];simp only[oD,t1,t2,t3,t4,t5,t6,t7,t8,t9,t10,aD,oC,s2,u1,r1,t11]
  ·obtain⟨A2,M2,p2,r1,r2,r3,r4,r5,r6,r7⟩:=fin A' _ g2 g4 Z hz hB' hw' (λ_ _=>rfl);refine⟨A2,M2,p2,?_,r2,r3,r4,.inl r5,r6,r7⟩;have s2:ltI (M' d c).sign 0=false:=by rw[aE,Int.sign_eq_one_of_pos Z]; rfl
   rw[first,hr];simp only[oD,t1,t2,t3,t4,t5,t6,t7,t8,t9,t10,aD,oC,s2,r1,t11]
end
def smN(f:Nat->Nat):Nat->Nat
 | 0=>0
 | k+1=>smN f k+f k
theorem aHO {f f':Nat->Nat}:∀ {k},(∀ i,i<k->f i=f' i)->smN f k=smN f' k
 | 0,_=>rfl
 | k+1,h=>by rw[smN,smN,aHO λi hi=>h i Z,h k Z]
theorem aSN(f:Nat->Nat)(j v:Nat):∀ {k},j<k->smN (λi=>if i=j then v else f i) k+f j=smN f k+v
 | k+1,h=>by
  rw[smN,smN]
  by_cases e:j=k
  ·subst e;rw[if_pos rfl,aHO (f':=f) λi hi=>if_neg Z];omega
  ·have:=aSN f j v (k:=k) Z;rw[if_neg Z];omega
theorem aFB(f:Nat->Nat){a b:Nat}(h:a<=b):smN f a<=smN f b:=by
 induction h with
 | refl=>exact oM _
 | step _ ih=>exact oR ih (Nat.le_add_right _ _)
def sw(γ:Nat->Nat)(d a:Nat):Nat->Nat:=λi=>if i=d then γ a else if i=a then γ d else γ i
def ind(γ:Nat->Nat)(g:Nat):Nat->Nat:=λi=>if γ i=g then 1 else 0
def cnt(γ:Nat->Nat)(g k:Nat):Nat:=smN (ind γ g) k
theorem aHC {γ γ':Nat->Nat}{g k:Nat}(h:∀ i,i<k->γ i=γ' i):cnt γ g k=cnt γ' g k:=aHO λi hi=>by unfold ind; rw[h i hi]
theorem a6Q {γ:Nat->Nat}{g k d a:Nat}(hd:d<k)(ha:a<k):cnt (sw γ d a) g k=cnt γ g k:=by
 by_cases e:d=a
 ·subst e;refine aHC λi hi=>?_
  unfold sw;split
  next e=> rw[e]
  ·rfl
 ·have h1:=aSN (ind γ g) d (ind γ g a) hd;have h2:=aSN (λi=>if i=d then ind γ g a else ind γ g i) a (ind γ g d) ha;have h3:(λi=>if i=a then ind γ g d else (λi=>if i=d then ind γ g a else ind γ g i) i)=ind (sw γ d a) g:=by
   funext i
   unfold ind sw
   by_cases e1:i=a
   ·subst e1; simp[show ¬ i=d by omega]
   ·by_cases e2:i=d
    ·subst e2; simp[e1]
    ·simp[e1,e2]
  rw[h3]at h2;rw[if_neg (show ¬ a=d by omega)]at h2;unfold cnt;omega
theorem aY0 {γ:Nat->Nat}{g k d a:Nat}(hd:d<=a)(ha:a<k)(h:γ a=g):cnt γ g d+1<=cnt γ g k:=by
 have h1:=aFB (ind γ g) hd;have h2:=aFB (ind γ g) (show a+1<=k by omega);have h3:smN (ind γ g) (a+1)=smN (ind γ g) a+1:=by
  show smN (ind γ g) a+ind γ g a=_;unfold ind;rw[if_pos h]
 unfold cnt;omega
def Gr(G γ:Nat->Nat) (k:Nat) (M:Nat->V):Prop:=∀ i,i<k->∀ x,M i x≠0->G x=γ i
def Mz(γ:Nat->Nat)(g:Nat)(M:Nat->V):Nat->V:=λi=>if γ i=g then M i else λ_=>0
def Bd(k n:Nat)(γ:Nat->Nat)(B:Nat->Nat)(M:Nat->V):Prop:=∀ i,i<k->∀ x,x<n->(M i x).natAbs<=B (γ i)
section
variable {o k n d c:Nat} {m:List (Nat×Nat×Nat)} {A:List (List ByteArray)} {J:Nat->Nat} {M M0 M':Nat->V} {p:Nat->Nat} {T E a:Nat} {G γ B:Nat->Nat}
theorem Gr.at_ (h:Gr G γ k M){i x:Nat}(hi:i<k)(hx:G x≠γ i):M i x=0:=Classical.byContradiction λhc=>hx (h i hi x hc)
theorem aX3(h:Gr G γ k M){i:Nat}(hi:i<k)(c:Nat):Mz γ (G c) M i c=M i c:=by
 unfold Mz;split
 ·rfl
 next e=> exact(h.at_ hi (λg=>e g.symm)).symm
structure GS (G:Nat->Nat) (k n d g:Nat) (γ B:Nat->Nat) (M:Nat->V):Prop where
 gr:Gr G γ k M
 oth:∀ i,i<k->γ i≠g->∀ x,x<n->(M i x).natAbs<=B (γ i)
 low:∀ i,i<d->γ i=g->∀ x,x<n->(M i x).natAbs<=B g
theorem bC5(γ:Nat->Nat)(d a:Nat):sw γ d a d=γ a:=by simp[sw]
theorem aUU(γ:Nat->Nat){d a i:Nat}(h:i<d)(ha:d<=a):sw γ d a i=γ i:=by
 unfold sw;rw[if_neg Z,if_neg Z]
theorem Gr.swap (h:Gr G γ k M)(hd:d<k)(hak:a<k):Gr G (sw γ d a) k (swp M d a):=λi hi x hx=>by
 unfold swp at hx;unfold sw;split at hx
 next e=> rw[if_pos e]; exact h a hak x hx
 ·split at hx
  next e1 e2=> rw[if_neg e1,if_pos e2]; exact h d hd x hx
  next e1 e2=> rw[if_neg e1,if_neg e2]; exact h i hi x hx
theorem a8U(γ:Nat->Nat)(g d a:Nat)(M:Nat->V):Mz (sw γ d a) g (swp M d a)=swp (Mz γ g M) d a:=by
 funext i
 unfold Mz sw swp
 by_cases e1:i=d
 ·subst e1; simp
 ·by_cases e2:i=a
  ·subst e2; simp[e1]
  ·simp[e1,e2]
theorem GS.pass (h:GS G k n d (G c) γ B M) (hd:d<k) (ha:d<=a) (hak:a<k) (hm:M a c≠0) (hr:Rd k (swp M d a) M' d c) (hl:∀ i,i<d->M' i=M i) :
  GS G k n d (G c) (sw γ d a) B M'/\sw γ d a d=G c/\Rd k (swp (Mz γ (G c) M) d a) (Mz (sw γ d a) (G c) M') d c:=by
 have hga:γ a=G c:=(h.gr a hak c hm).symm;have gS:=h.gr.swap hd hak;have hsd:sw γ d a d=G c:=by rw[bC5]; exact hga
 have hz:∀ i,d<i->i<k->sw γ d a i≠G c->M' i=swp M d a i:=λi h1 h2 h3=>by
  rw[hr.2 i h1 h2];have e:swp M d a i c=0:=gS.at_ h2 λq=>h3 q.symm
  funext x
  rw[e];simp
 refine⟨⟨λi hi x hx=>?_,λi hi hg x hx=>?_,λi hi hg x hx=>?_⟩,hsd,?_⟩
 ·rcases Nat.lt_trichotomy i d with q|q|q
  ·rw[hl i q]at hx;rw[aUU γ q ha];exact h.gr i hi x hx
  ·subst q;rw[hr.1]at hx;exact gS i hi x hx
  ·by_cases e:sw γ d a i=G c
   ·rw[hr.2 i q hi]at hx;rw[e]
    by_cases e1:swp M d a i x=0
    ·have e2:swp M d a d x≠0:=λe2=>hx (by show swp M d a i x-_*swp M d a d x=0; rw[e1,e2]; simp)
     rw[gS d hd x e2,hsd]
    ·rw[gS i hi x e1,e]
   ·rw[hz i q hi e]at hx;exact gS i hi x hx
 ·rcases Nat.lt_trichotomy i d with q|q|q
  ·rw[hl i q];rw[aUU γ q ha]at hg ⊢;exact h.oth i hi hg x hx
  ·subst q; exact absurd hsd hg
  ·rw[hz i q hi hg];have e3:sw γ d a i=if i=a then γ d else γ i:=by unfold sw; rw[if_neg Z]
   have e4:swp M d a i=if i=a then M d else M i:=by unfold swp; rw[if_neg Z]
   rw[e4];rw[e3]at hg ⊢
   by_cases e2:i=a
   ·rw[if_pos e2]at hg ⊢;rw[if_pos e2];exact h.oth d hd hg x hx
   ·rw[if_neg e2]at hg ⊢;rw[if_neg e2];exact h.oth i hi hg x hx
 ·rw[aUU γ hi ha]at hg;rw[hl i hi];exact h.low i hi hg x hx
 ·rw[<- a8U];refine⟨?_,λi h1 h2=>?_⟩
  ·unfold Mz;rw[if_pos hsd,if_pos hsd,hr.1]
  ·have e0:Mz (sw γ d a) (G c) (swp M d a) d=swp M d a d:=by unfold Mz; rw[if_pos hsd]
   rw[e0];unfold Mz
   by_cases e:sw γ d a i=G c
   ·rw[if_pos e,if_pos e];exact hr.2 i h1 h2
   ·rw[if_neg e,if_neg e]
    funext x
    simp
theorem GS.fin {M'':Nat->V} {C:Nat} (h:GS G k n d (G c) γ B M) (hd:d<k) (hcn:c<n) (hγ:γ d=G c) (hm:M d c≠0) (hC:∀ i,d<=i->i<k->γ i=G c->∀ x,x<n->(M i x).natAbs<=C)
  (h1:M'' d=M d\/M'' d=λx=>-(M d x)) (h2:∀ i,d<i->M'' i=M i) (h3:∀ i,i<d->M'' i=λx=>M i x-(M i c).fdiv (M'' d c)*M'' d x) :
  Gr G γ k M''/\Bd k n γ (λg=>if g=G c then B g+(B g+1)*C else B g) M'':=by
 have hd0:∀ x,M'' d x≠0->G x=G c:=λx hx=>by
  rw[<- hγ];refine h.gr d hd x λe=>hx ?_
  rcases h1 with h1|h1 <;> rw[h1]
  ·exact e
  ·show -(M d x)=0;rw[e]; rfl
 have hdC:∀ x,x<n->(M'' d x).natAbs<=C:=λx hx=>by
  have:=hC d (oM _) hd hγ x hx;rcases h1 with h1|h1 <;> rw[h1]
  ·exact this
  ·show (-(M d x)).natAbs<=C;rw[Int.natAbs_neg]; exact this
 have hmd:M'' d c≠0:=by
  rcases h1 with h1|h1 <;> rw[h1]
  ·exact hm
  ·show -(M d c)≠0;omega
 have hlow:∀ i,i<d->γ i≠G c->M'' i=M i:=λi hi hg=>by
  rw[h3 i hi];have e:M i c=0:=h.gr.at_ Z λq=>hg q.symm
  funext x
  rw[e];simp
 refine⟨λi hi x hx=>?_,λi hi x hx=>?_⟩
 ·rcases Nat.lt_trichotomy i d with q|q|q
  ·by_cases e:γ i=G c
   ·rw[h3 i q]at hx;rw[e]
    by_cases e1:M i x=0
    ·exact hd0 x λe2=>hx (by show M i x-_*M'' d x=0; rw[e1,e2]; simp)
    ·rw[h.gr i hi x e1,e]
   ·rw[hlow i q e]at hx;exact h.gr i hi x hx
  ·subst q; rw[hγ]; exact hd0 x hx
  ·rw[h2 i q]at hx; exact h.gr i hi x hx
 ·show (M'' i x).natAbs<=if γ i=G c then _ else _
  by_cases e:γ i=G c
  ·rw[if_pos e,e];have hC1:C<=(B (G c)+1)*C:=Nat.le_mul_of_pos_left _ Z;rcases Nat.lt_trichotomy i d with q|q|q
   ·rw[h3 i q];have b0:=h.low i q e c hcn;have b1:=h.low i q e x hx;have q1:=aGE b0 hmd;have q2:((M i c).fdiv (M'' d c)*M'' d x).natAbs=((M i c).fdiv (M'' d c)).natAbs*(M'' d x).natAbs:=Int.natAbs_mul _ _;have q3:((M i c).fdiv (M'' d c)).natAbs*(M'' d x).natAbs<=(B (G c)+1)*C:=Nat.mul_le_mul q1 (hdC x hx);show (M i x-(M i c).fdiv (M'' d c)*M'' d x).natAbs<=_;omega
   ·subst q; have:=hdC x hx; omega
   ·rw[h2 i q]; have:=hC i Z hi e x hx; omega
  ·rw[if_neg e];rcases Nat.lt_trichotomy i d with q|q|q
   ·rw[hlow i q e]; exact h.oth i hi e x hx
   ·subst q; exact absurd hγ e
   ·rw[h2 i q]; exact h.oth i hi e x hx
def aXA(G:Nat->Nat) (o k n d c:Nat) (M0:Nat->V) (cols:Int) (γ B:Nat->Nat) (T:Nat) (z:List (Nat×Nat×Nat)×Int×Int×Int×List (List ByteArray)×Unit):Prop :=
 ∃ m' A' J' M' d' p' γ',z=(m',cols,((d':Nat):Int),(c:Int),A',())/\fT o k n m' A' J' M'/\Fo k M0 M' d' (c+1) p'/\Wd k n M'/\Gr G γ' k M'/\(∀ g,cnt γ' g k=cnt γ g k)/\(∀ i,i<d->γ' i=γ i) /\
  ((d'=d/\Bd k n γ' B M')\/(d'=d+1/\γ' d=G c/\cnt γ (G c) d+1<=cnt γ (G c) k/\Bd k n γ' (λg=>if g=G c then B g+(B g+1)*T else B g) M'))
theorem aXA.sw {cols:Int}{T z}(hd:d<k)(ha:d<=a)(hak:a<k)(h:aXA G o k n d c M0 cols (sw γ d a) B T z):aXA G o k n d c M0 cols γ B T z:=by
 obtain⟨m',A',J',M',d',p',γ',r1,r2,r3,r4,r5,r6,r7,r8⟩:=h;refine⟨m',A',J',M',d',p',γ',r1,r2,r3,r4,r5,λg=>by rw[r6,a6Q hd hak],λi hi=>by rw[r7 i hi,aUU γ hi ha],?_⟩;rw[a6Q hd hak,aHC (γ:=Go.PM.sw γ d a) (γ':=γ) λi hi=>aUU γ hi ha]at r8;exact r8
theorem Bd.mono {B':Nat->Nat}(h:Bd k n γ B M)(hB:∀ g,B g<=B' g):Bd k n γ B' M:=λi hi x hx=>oR (h i hi x hx) (hB _)
theorem aQB {C C':Nat}(h:C<=C')(g c:Nat):(if g=G c then B g+(B g+1)*C else B g)<=(if g=G c then B g+(B g+1)*C' else B g):=by
 split
 ·have:=Nat.mul_le_mul_left (B g+1) h;omega
 ·exact oM _
theorem aW0(hk:k<1048576) (hn:n<1048576) (hcn:c<n) {T Tg:Nat} (hT:2*Lib.nDigits (T+1)<=pD) (hBT:∀ g,B g<=T) {C:Nat} (hC:3*C<=Tg) (hTg:Tg<=T) (cols:Int):∀ (R N P:Nat) {m:List (Nat×Nat×Nat)} {A:List (List ByteArray)} {J:Nat->Nat} {M:Nat->V} {γ:Nat->Nat},
  fT o k n m A J M->Fo k M0 M d c p->Wd k n M->GS G k n d (G c) γ B M->γ d=G c->Bt k (Mz γ (G c) M) d c C->Pt k (Mz γ (G c) M) d c P->P<2^R->R<N->∃ z,bH bD N (m,cols,(d:Int),(c:Int),A,())=some z/\aXA G o k n d c M0 cols γ B Tg z
 | 0,N,P,m,A,J,M,γ,h,f,hw,hS,hγ,hB,hP,hlt,_=>by
  obtain⟨i,w1,w2,w3,w4⟩:=hP;have:=hB.piv;have h1:1*1<=(Mz γ (G c) M d c).natAbs*(Mz γ (G c) M i c).natAbs:=Nat.mul_le_mul Z Z;simp at hlt;omega
 | R+1,N+1,P,m,A,J,M,γ,h,f,hw,hS,hγ,hB,hP,hlt,hN=>by
  obtain⟨E1,b1,i0,b2,b3,b4,b5⟩:=hB.ex;have hdk:=hB.dk;have hmp:=hB.piv;have hE1:E1<=C:=by
   have h1:E1*1<=E1*((Mz γ (G c) M d c).natAbs^3*(Mz γ (G c) M i0 c).natAbs):=Nat.mul_le_mul_left _ (Nat.mul_pos (Nat.pow_pos Z) Z);have h2:E1*((Mz γ (G c) M d c).natAbs^3*(Mz γ (G c) M i0 c).natAbs)=E1*(Mz γ (G c) M d c).natAbs^3*(Mz γ (G c) M i0 c).natAbs:=by rw[Nat.mul_assoc]
   omega
  have hBig:Big k n M T:=λi hi x hx=>by
   by_cases e:γ i=G c
   ·rcases oG i d with g|g
    ·exact oR (hS.low i g e x hx) (hBT _)
    ·have:=(b1 i g hi).1 x;have e2:Mz γ (G c) M i=M i:=by unfold Mz; rw[if_pos e]
     rw[e2]at this;omega
   ·exact oR (hS.oth i hi e x hx) (hBT _)
  obtain⟨r,f1,f2⟩:=aGD h hk (hBig.cm hT) hcn (Nat.le_of_lt hdk) cols;cases r with
  | none =>
   have hmd:M d c≠0:=by rw[<- aX3 hS.gr hdk c]; exact hmp
   exact absurd (f2.none rfl d (oM _) Z) hmd
  | some a =>
   obtain⟨q1,q2,q3,q4⟩:=f2.some a rfl;have hak:a<k:=Z
   have hmz:Mz γ (G c) M a c≠0:=by rw[aX3 hS.gr hak]; exact q3
   have hmin:∀ i,d<=i->i<k->Mz γ (G c) M i c≠0->(Mz γ (G c) M a c).natAbs<=(Mz γ (G c) M i c).natAbs:=λi g1 g2 g3=>by
    rw[aX3 hS.gr g2]at g3 ⊢;rw[aX3 hS.gr hak];exact q4 i g1 Z g3
   obtain⟨m1,A',J',M',s1,s2,s3,s4,s5,s6,s7⟩:=bAG h hk hn f hcn hBig hw hT hdk q1 hak q3 cols f1;obtain⟨t1,t2,t3⟩:=hS.pass hdk q1 hak q3 s2 s4;have hc':∀ i,i<k->Mz (sw γ d a) (G c) M' i c=M' i c:=λi hi=>aX3 t1.gr hi c
   by_cases hz:∀ i,d<i->i<k->Mz (sw γ d a) (G c) M' i c=0
   ·have hz':∀ i,d<i->i<k->M' i c=0:=λi g1 g2=>by rw[<- hc' i g2]; exact hz i g1 g2
    rcases hB.round q1 hak hmz hmin t3 with ⟨_,A1,g1⟩|⟨g1,_⟩
    ·have hC':∀ i,d<=i->i<k->sw γ d a i=G c->∀ x,x<n->(M' i x).natAbs<=3*C:=λi g2 g3 g4 x _=>by
      have:=(g1 i g2 g3).1 x;have e2:Mz (sw γ d a) (G c) M' i=M' i:=by unfold Mz; rw[if_pos g4]
      rw[e2]at this;exact this
     have hBig':Big k n M' T:=λi hi x hx=>by
      by_cases e:sw γ d a i=G c
      ·rcases oG i d with g|g
       ·exact oR (t1.low i g e x hx) (hBT _)
       ·have:=hC' i g hi e x hx; omega
      ·exact oR (t1.oth i hi e x hx) (hBT _)
     obtain⟨A2,M2,p2,u1,u2,u3,u4,u5,u6,u7⟩:=s7 hz' hBig';have hm':M' d c≠0:=by
      have:M' d c=M a c:=by rw[s2.1]; simp[swp]
      rw[this]; exact q3
     obtain⟨w1,w2⟩:=t1.fin hdk hcn t2 hm' hC' u5 u6 u7;refine⟨_,by rw[cZ,u1],aXA.sw hdk q1 hak ⟨m1,A2,J',M2,d+1,p2,_,rfl,u2,u3,u4,w1,λ_=>rfl,λ_ _=>rfl,.inr ⟨rfl,t2,aY0 (oM _) hdk t2,w2.mono λg=>aQB hC g c⟩⟩⟩
    ·obtain⟨_,_,i,z1,z2,z3,_⟩:=g1.ex;exact absurd (hz i z1 z2) z3
   ·have hex:∃ i,d<i/\i<k/\M' i c≠0:=by
     obtain⟨i,hi⟩:=Classical.not_forall.1 hz;obtain⟨g1,hi⟩:=Classical.not_forall.1 hi;obtain⟨g2,g3⟩:=Classical.not_forall.1 hi;exact⟨i,g1,g2,by rw[<- hc' i g2]; exact g3⟩
    rcases hB.round q1 hak hmz hmin t3 with ⟨g0,_⟩|⟨g1,_⟩
    ·exact absurd g0 hz
    ·have hP':=hB.half q1 hak hmz hmin t3 hz hP;obtain⟨z,v1,v2⟩:=aW0 hk hn hcn hT hBT hC hTg cols R N (P/2) s1 s3 s5 t1 t2 g1 hP' (by rw[Nat.pow_succ]at hlt; omega) Z;exact⟨z,by rw[cZ,s6 hex]; exact v1,v2.sw hdk q1 hak⟩
theorem a6G(hk:k<1048576) (hn:n<1048576) (h:fT o k n m A J M) (f:Fo k M0 M d c p) (hw:Wd k n M) (hd:d<k) (hcn:c<n) {T Tg:Nat} (hG:Gr G γ k M) (hB:Bd k n γ B M) (hT:2*Lib.nDigits (T+1)<=pD) (hBT:∀ g,B g<=T)
  (hp:cnt γ (G c) d+1<=cnt γ (G c) k->1<=B (G c)/\B (G c)<=Tg/\9*B (G c)^5<=Tg/\Tg<=T) (cols:Int) :
  ∃ z,eJ (m,cols,(d:Int),(c:Int),A,())=some z/\aXA G o k n d c M0 cols γ B Tg z:=by
 have hBig:Big k n M T:=λi hi x hx=>oR (hB i hi x hx) (hBT _)
 obtain⟨r,f1,f2⟩:=aGD h hk (hBig.cm hT) hcn (Nat.le_of_lt hd) cols;unfold eJ;obtain⟨N,hN⟩:∃ N,2^64=N+1:=⟨2^64-1,by omega⟩;rw[hN];cases r with
 | none =>
  have e1:ltI (atv none) 0=true:=O
  refine⟨_,?_,m,A,J,M,d,p,γ,rfl,h,f.skip λi h1 h2=>f2.none rfl i h1 Z,hw,hG,λ_=>rfl,λ_ _=>rfl,.inl ⟨rfl,hB⟩⟩;rw[cZ];simp only[bD,f1,aD,e1,oC]
 | some a =>
  obtain⟨q1,q2,q3,q4⟩:=f2.some a rfl;have hak:a<k:=Z
  have hga:γ a=G c:=(hG a hak c q3).symm;obtain⟨h1,hET,h9,hTg⟩:=hp (aY0 q1 hak hga);have hS:GS G k n d (G c) γ B M:=⟨hG,λi hi _ x hx=>hB i hi x hx,λi hi e x hx=>by have:=hB i Z x hx; rw[e]at this; exact this⟩;obtain⟨m1,A',J',M',s1,s2,s3,s4,s5,s6,s7⟩:=bAG h hk hn f hcn hBig hw hT hd q1 hak q3 cols f1;obtain⟨t1,t2,t3⟩:=hS.pass hd q1 hak q3 s2 s4;have hc':∀ i,i<k->Mz (sw γ d a) (G c) M' i c=M' i c:=λi hi=>aX3 t1.gr hi c
  have hmz:Mz γ (G c) M a c≠0:=by rw[aX3 hG hak]; exact q3
  generalize hE:B (G c)=E at h1 hET h9;have hWi:Wi k (swp (Mz γ (G c) M) d a) d c E E:=(show Wi k (Mz γ (G c) M) d c E E from λi g1 g2=>by
   have key:∀ x,(Mz γ (G c) M i x).natAbs<=E:=λx=>by
    unfold Mz;split
    ·rename_i e;rcases oG x n with g|g
     ·have:=hB i g2 x g; rw[e,hE]at this; exact this
     ·rw[hw i g2 x g]; simp
    ·simp
   exact⟨key,key c⟩).swap q1 hak
  have hpd:swp (Mz γ (G c) M) d a d=Mz γ (G c) M a:=by simp[swp]
  have hpd':M' d=M a:=by rw[s2.1]; simp[swp]
  have hm':M' d c≠0:=by rw[hpd']; exact q3
  have hfirst:=t3.first hWi hd (by rw[hpd]; exact hmz);have hpow:3*(3*(E*E)*E^3)=9*E^5:=W
  have h3:3*(E*E)*1<=3*(E*E)*E^3:=Nat.mul_le_mul_left _ (Nat.pow_pos h1);rcases hfirst with ⟨hz,g1⟩|g1
  ·have hz':∀ i,d<i->i<k->M' i c=0:=λi g1 g2=>by rw[<- hc' i g2]; exact hz i g1 g2
   have hC':∀ i,d<=i->i<k->sw γ d a i=G c->∀ x,x<n->(M' i x).natAbs<=3*(E*E):=λi g2 g3 g4 x _=>by
    have:=(g1 i g2 g3).1 x;have e2:Mz (sw γ d a) (G c) M' i=M' i:=by unfold Mz; rw[if_pos g4]
    rw[e2]at this;exact this
   have hBig':Big k n M' T:=λi hi x hx=>by
    by_cases e:sw γ d a i=G c
    ·rcases oG i d with g|g
     ·exact oR (t1.low i g e x hx) (hBT _)
     ·have:=hC' i g hi e x hx; omega
    ·exact oR (t1.oth i hi e x hx) (hBT _)
   obtain⟨A2,M2,p2,u1,u2,u3,u4,u5,u6,u7⟩:=s7 hz' hBig';obtain⟨w1,w2⟩:=t1.fin hd hcn t2 hm' hC' u5 u6 u7;exact⟨_,by rw[cZ,u1],aXA.sw hd q1 hak ⟨m1,A2,J',M2,d+1,p2,_,rfl,u2,u3,u4,w1,λ_=>rfl,λ_ _=>rfl,.inr ⟨rfl,t2,aY0 (oM _) hd t2,w2.mono λg=>aQB Z g c⟩⟩⟩
  ·obtain⟨E1,b1,i0,b2,b3,b4,b5⟩:=g1.ex;have hPt:Pt k (Mz (sw γ d a) (G c) M') d c (T*T):=by
    refine⟨i0,b2,b3,b4,Nat.mul_le_mul ?_ ?_⟩
    ·rw[hc' d hd,hpd']; exact hBig a hak c hcn
    ·have h1:=(g1.sign i0 b2 b3).1;rw[hc' d hd,hpd']at h1;exact oR (Nat.le_of_lt h1) (hBig a hak c hcn)
   have hT2:T*T<2^(8*Lib.nDigits (T+1)):=by
    have h1:=aVL (jJ (T+1));have h2:(T+1)*(T+1)<2^(4*Lib.nDigits (T+1))*2^(4*Lib.nDigits (T+1)):=Nat.mul_lt_mul'' h1 h1;rw[<- Nat.pow_add]at h2;have h3:4*Lib.nDigits (T+1)+4*Lib.nDigits (T+1)=8*Lib.nDigits (T+1):=Z
    rw[h3]at h2;have h4:T*T<=(T+1)*(T+1):=Nat.mul_le_mul Z Z;omega
   have hex:∃ i,d<i/\i<k/\M' i c≠0:=⟨i0,b2,b3,by rw[<- hc' i0 b3]; exact b4⟩;obtain⟨z,v1,v2⟩:=aW0 hk hn hcn hT hBT (C:=3*(E*E)*E^3) (Tg:=Tg) Z hTg cols (8*Lib.nDigits (T+1)) N (T*T) s1 s3 s5 t1 t2 g1 hPt hT2 (by have:pD=400000:=rfl; omega);exact⟨z,by rw[cZ,s6 hex]; exact v1,v2.sw hd q1 hak⟩
end
def aAU(r:List Int):V:=λx=>r.getD x 0
def HU(m:List (List Int)):Nat->V:=λi=>aAU (m.getD i [])
def Vr(n:Nat) (v:V):List Int:=(List.range n).map v
theorem a8K r:Zr r.length (aAU r)=r.map Zn:=by
 refine List.ext_getElem? λi=>?_
 simp only[Zr]
 by_cases h:i<r.length
 ·simp[aAU,h]
 grind
theorem a9A {n v}(hw:∀ x,n<=x->v x=0):aAU (Vr n v)=v:=by
 unfold aAU Vr;grind
theorem aUD n (h:Lib.nDigits n.natAbs<=18):GF (Zn n,())=some (n,true,()):=by
 have hs:(Zn n).size<=1000000000:=by
  rcases(by omega:n<0\/0<=n)with g|g
  ·rw[I7 g]; omega
  ·rw[UW g,F9]; omega
 have e1:Nat.ble (Zn n).size 1000000000=true:=by rw[dM]; simpa using hs
 have e4:Lib.parseIntB 64 (Zn n).data.toList=.ok n:=by
  have hne:∀ c r,Lib.decDigits n.natAbs=c::r->c.toNat≠43/\c.toNat≠45:=λc r he=>by
   have:=MX n.natAbs c (by rw[he]; simp);omega
  have hmag:=aQC n.natAbs;rw[CM]at hmag;have hlen:(Lib.decDigits n.natAbs).length<=18:=by rw[Lib.decDigits_length]; exact h
  rw[Lib.parseIntB_64];rcases(by omega:n<0\/0<=n)with g|g
  ·have hn : -(n.natAbs:Int)=n:=Z
   rw[XX g,Lib.atoiAll_minus,Lib.signed_short hlen,hmag];simp only[Option.map_some,hn];rfl
  ·have hn:(n.natAbs:Int)=n:=Z
   rw[UW g,CM];cases he:Lib.decDigits n.natAbs with
   | nil=>exact absurd he (K1 _)
   | cons c r =>
    obtain⟨h1,h2⟩:=hne c r he;rw[Lib.atoiAll_plain c r h1 h2,<- he,Lib.signless_short hlen,hmag];simp only[Option.map_some,hn];rfl
 unfold GF;grind
theorem aI7(r:List Int)(hl:r.length<=1048576)(hr:∀ a∈r,-9223372036854775808<=a/\a<9223372036854775808) :
  xL ([],r,(r.length:Int),0,())=some (r.map Zn,()):=by
 have key:=aY (step:=rU) (N:=2^64) (λt=>((r.take t).map Zn,r,(r.length:Int),(t:Int),())) r.length (r.map Zn,()) Z (λt ht=>?_) ?_
 ·exact key
 ·have e1:ltI (t:Int) (r.length:Int)=true:=by rw[aE]; exact oT Z
  have e2:aF (t:Int) r.length=true:=by rw[aL]; exact oT Z
  have e3:((t:Nat):Int).toNat=t:=oN _;have e4:r.getD t 0=r[t]:=by simp[List.getD,ht]
  obtain⟨b1,b2⟩:=hr r[t] (List.getElem_mem ht);have e5:=AY r[t] b1 b2;have e6:Nat.ble [Zn r[t]].length 1048576=true:=rfl;have e7:Nat.ble ((r.take t).map Zn).length 1048576=true:=by rw[dM,List.length_map,List.length_take]; exact oT Z
  have e8:=bO t Z;have e9:(r.take t).map Zn++[Zn r[t]]=(r.take (t+1)).map Zn:=by rw[List.take_succ_eq_append_getElem ht,List.map_append]; rfl
  simp only[rU,e1,e2,e3,e4,e5,aD,e6,e7,oC,e8,e9]
 ·have e1:ltI (r.length:Int) (r.length:Int)=false:=by rw[aE]; exact oF Z
  simp only[rU,e1,oD,List.take_length]
theorem aQT(r:List Int)(hl:r.length<=1048576)(hr:∀ a∈r,-9223372036854775808<=a/\a<9223372036854775808):pZ (r,())=some (r.map Zn):=by
 have e1:ltI r.length 0=false:=by rfl
 have e2:ltI 1048576 r.length=false:=by rw[aE]; grind
 unfold pZ;simp only[e1,e2,Bool.not_false,oC,List.replicate_zero,aI7 r hl hr,aD]
theorem aE2(rows:List (List Int)) {n:Nat} (hk:rows.length<1048576) (hn:n<1048576) (hlen:∀ r∈rows,r.length=n) (hr:∀ r∈rows,∀ a∈r,-9223372036854775808<=a/\a<9223372036854775808) :
  ∃ m A,dV () (rows,()) []=some (m,A)/\fT 0 rows.length n m A (λi=>i) (HU rows):=by
 have key:=aY (step:=kR) (N:=2^64)
  (λt=>((List.range t).map (λi=>(i,0,n)),rows,(rows.length:Int),(t:Int),(rows.take t).map (·.map Zn),())) rows.length ((List.range rows.length).map (λi=>(i,0,n)),rows.map (·.map Zn),()) Z (λt ht=>?_) ?_
 ·refine⟨(List.range rows.length).map (λi=>(i,0,n)),rows.map (·.map Zn),?_,rfl,λi hi=>⟨[],rfl,?_⟩,λi j _ _ h=>h⟩
  ·unfold dV sX;have key:bH kR (2^64) ([],rows,(rows.length:Int),0,[],())=_:=key;simp only[key,aD]
  ·rw[List.getElem?_map,List.getElem?_eq_getElem hi];simp only[Option.map_some,List.nil_append];have h1:HU rows i=aAU rows[i]:=by unfold HU; simp[List.getD,hi]
   rw[h1,<- a8K,hlen rows[i] (List.getElem_mem hi)]
 ·have e1:ltI (t:Int) (rows.length:Int)=true:=by rw[aE]; exact oT Z
  have e2:aF (t:Int) rows.length=true:=by rw[aL]; exact oT Z
  have e3:((t:Nat):Int).toNat=t:=oN _;have e4:rows.getD t []=rows[t]:=by simp[List.getD,ht]
  have hm:=List.getElem_mem ht;have e5:=aQT rows[t] (by rw[hlen _ hm]; omega) (hr _ hm);have e6:((rows.take t).map (·.map Zn)).length=t:=by rw[List.length_map,List.length_take]; omega
  have e7:Nat.ble [(t,0,n)].length 1048576=true:=rfl;have e8:Nat.ble ((List.range t).map (λi=>(i,0,n))).length 1048576=true:=by rw[dM,List.length_map,List.length_range]; exact oT Z
  have e9:=bO t Z;have e10:(rows[t].map Zn).length=n:=by rw[List.length_map,hlen _ hm]
  have e11:(rows.take t).map (·.map Zn)++[rows[t].map Zn]=(rows.take (t+1)).map (·.map Zn):=by rw[List.take_succ_eq_append_getElem ht,List.map_append]; rfl
  have e12:(List.range t).map (λi=>(i,0,n))++[(t,0,n)]=(List.range (t+1)).map (λi=>(i,0,n)):=by rw[List.range_succ,List.map_append]; rfl
  simp only[kR,e1,e2,e3,e4,e5,aD,e6,e7,e8,e9,e10,e11,e12,oC]
 ·have e1:ltI (rows.length:Int) (rows.length:Int)=false:=by rw[aE]; exact oF Z
  simp only[kR,e1,oD,List.take_length]
theorem a29 {A:List (List ByteArray)} {J o n:Nat} {v:V} {pre:List ByteArray} (hn:n<1048576) (hp:pre.length=o) (hJ:A[J]?=some (pre++Zr n v)) (ok:∀ x,x<n->(v x).natAbs<=1000000000) :
  kX () ((J,o,n),()) A=some ((Vr n v,0,()),A):=by
 have key:=aY (step:=iS) (N:=2^64) (λt=>(Vr t v,(J,o,n),(n:Int),(t:Int),A,())) n (.inr (Vr n v,A,())) Z (λt ht=>?_) ?_
 ·have e1:ltI (n:Int) 0=false:=by rw[aE]; exact oF Z
  have e2:ltI 1048576 (n:Int)=false:=by rw[aE]; exact oF Z
  have key:bH iS (2^64) ([],(J,o,n),(n:Int),0,A,())=_:=key;unfold kX qX;simp only[e1,e2,Bool.not_false,oC,List.replicate_zero,key,aD,fZ]
 ·have b1:=ok t ht;have e1:ltI (t:Int) (n:Int)=true:=by rw[aE]; exact oT Z
  have e2:aF (t:Int) n=true:=by rw[aL]; exact oT Z
  have e3:(o+((t:Nat):Int).toNat)*1=o+t:=R
  have e4:cT A J=o+n:=by rw[cT,aGK _ hJ,oH,pU,hp]
  have e6:Nat.blt (o+t) (o+n)=true:=by rw[cA]; simpa using ht
  have e7:dC A J (o+t) ByteArray.empty=Zn (v t):=by rw[dC,aGK _ hJ,Z1 hp,aLZ _ ht]
  have e8:=aUD (v t) (by have:=ES (u:=(v t).natAbs) (k:=17) Z; omega);have e9:ltI 1000000000 (v t)=false:=by rw[aE]; exact oF Z
  have e10:ltI (v t) (-1000000000)=false:=by rw[aE]; exact oF Z
  have e11:Nat.ble [v t].length 1048576=true:=rfl;have e12:Nat.ble (Vr t v).length 1048576=true:=by rw[dM]; unfold Vr; rw[List.length_map,List.length_range]; exact oT Z
  have e13:=bO t Z;have e14:Vr t v++[v t]=Vr (t+1) v:=by unfold Vr; rw[List.range_succ,List.map_append]; rfl
  simp only[iS,e1,e2,e3,e4,e6,e7,e8,e9,e10,e11,e12,e13,e14,aD,oC,oD]
 ·have e1:ltI (n:Int) (n:Int)=false:=by rw[aE]; exact oF Z
  simp only[iS,e1,oD]
theorem RO {o k d n:Nat} {m:List (Nat×Nat×Nat)} {A:List (List ByteArray)} {J:Nat->Nat} {M:Nat->V} (h:fT o k n m A J M) (hd:d<=k) (hk:k<1048576) (hn:n<1048576) (ok:∀ i,i<d->∀ x,x<n->(M i x).natAbs<=1000000000) (cols:Int) :
  cW (m.take d) (cols,()) A=some (((cols,(List.range d).map λi=>Vr n (M i)),0,()),A):=by
 have hl:(m.take d).length=d:=by rw[List.length_take,h.len]; omega
 have hg:∀ t,t<d->(m.take d).getD t (0,0,0)=(J t,o,n):=λt ht=>by
  rw[<- h.get (show t<k by omega)];grind
 have key:=aY (step:=gD) (N:=2^64)
  (λt=>((0,([],())),(cols,((List.range t).map (λi=>Vr n (M i)),())),m.take d,((m.take d).length:Int),(t:Int),A,())) d (.inr ((0,([],())),(cols,((List.range d).map (λi=>Vr n (M i)),())),A,())) Z (λt ht=>?_) ?_
 ·have key:bH gD (2^64) ((0,([],())),(cols,([],())),m.take d,((m.take d).length:Int),0,A,())=_:=key;unfold cW o5;simp only[key,aD,fZ]
 ·rw[hl];obtain⟨pre,h1,h2⟩:=h.at_ t Z;have e1:ltI (t:Int) (d:Int)=true:=by rw[aE]; exact oT Z
  have e2:aF (t:Int) d=true:=by rw[aL]; exact oT Z
  have e3:((t:Nat):Int).toNat=t:=oN _;have e4:Nat.blt t d=true:=by rw[cA]; simpa using ht
  have e5:=a29 hn h1 h2 (ok t ht);have e6:eqI 0 0=true:=O
  have e7:Nat.ble [Vr n (M t)].length 1048576=true:=rfl;have e8:Nat.ble ((List.range t).map (λi=>Vr n (M i))).length 1048576=true:=by rw[dM,List.length_map,List.length_range]; exact oT Z
  have e9:=bO t Z;have e10:(List.range t).map (λi=>Vr n (M i))++[Vr n (M t)]=(List.range (t+1)).map (λi=>Vr n (M i)):=by rw[List.range_succ,List.map_append]; rfl
  simp only[gD,hl,e1,e2,e3,e4,hg t ht,e5,e6,e7,e8,e9,e10,aD,oC,Bool.not_true,oD]
 ·rw[hl];have e1:ltI (d:Int) (d:Int)=false:=by rw[aE]; exact oF Z
  simp only[gD,e1,oD]
theorem aTE(r:List Int) (hl:r.length<=64) (hr:∀ a∈r,a.natAbs<=1000000000):R8 (r,())=some (0,()):=by
 have key:=aY (step:=fA) (N:=2^64) (λt=>(r,(),(r.length:Int),(t:Int),())) r.length (.inr ()) Z (λt ht=>?_) ?_
 ·have key:bH fA (2^64) (r,(),(r.length:Int),0,())=some (.inr ()):=key;have e1:ltI 64 (r.length:Int)=false:=by rw[aE]; exact oF Z
  have e2:ltI (-1) 0=true:=O
  simp only[R8,e1,oD,qK,sI,nP,key,aD,fZ,e2,Bool.not_true]
 ·have e1:ltI (t:Int) (r.length:Int)=true:=by rw[aE]; exact oT Z
  have e2:aF (t:Int) r.length=true:=by rw[aL]; exact oT Z
  have e3:((t:Nat):Int).toNat=t:=oN _;have e4:r.getD t 0=r[t]:=by simp[List.getD,ht]
  have b:=hr r[t] (List.getElem_mem ht);have e5:ltI r[t] (-1000000000)=false:=by rw[aE]; exact oF Z
  have e6:ltI 1000000000 r[t]=false:=by rw[aE]; exact oF Z
  have e7:=bO t Z;simp only[fA,e1,e2,e3,e4,XZ,aIA,e5,e6,aD,Bool.not_false,oC,oD,e7]
 ·have e1:ltI (r.length:Int) (r.length:Int)=false:=by rw[aE]; exact oF Z
  simp only[fA,e1,oD]
theorem aWT(rows:List (List Int)){n}(hk:rows.length<1048576)(hn:n<=64)(hlen:∀ r∈rows,r.length=n)(hr:∀ r∈rows,∀ a∈r,a.natAbs<=1000000000):MP (rows,(n:Int),())=some (0,()):=by
 have key:=aY (step:=xF) (N:=2^64) (λt=>((n:Int),rows,(rows.length:Int),(t:Int),())) rows.length (.inr ()) Z (λt ht=>?_) ?_
 ·have key:bH xF (2^64) ((n:Int),rows,(rows.length:Int),0,())=some (.inr ()):=key;simp only[MP,IX,key,aD,fZ]
 ·have e1:ltI (t:Int) (rows.length:Int)=true:=by rw[aE]; exact oT Z
  have e2:aF (t:Int) rows.length=true:=by rw[aL]; exact oT Z
  have e3:((t:Nat):Int).toNat=t:=oN _;have e4:rows.getD t []=rows[t]:=by simp[List.getD,ht]
  have hm:=List.getElem_mem ht;have e5:=aTE rows[t] (by rw[hlen _ hm]; exact hn) (hr _ hm);have e6:eqI 0 0=true:=O
  have e7:eqI (rows[t].length:Int) (n:Int)=true:=by rw[dW,hlen _ hm]; exact oT rfl
  have e8:=bO t Z;simp only[xF,e1,e2,e3,e4,e5,aD,e6,e7,e8,Bool.not_true,oC,oD]
 ·have e1:ltI (rows.length:Int) (rows.length:Int)=false:=by rw[aE]; exact oF Z
  simp only[xF,e1,oD]
theorem aK2(rows:List (List Int)){n}(hk:rows.length<=12)(hn:n<=12)(hlen:∀ r∈rows,r.length=n)(hr:∀ r∈rows,∀ a∈r,a.natAbs<=1000000000):E6 ((n:Int),rows,())=some (0,()):=by
 have e1:ltI n 0=false:=by rfl
 have e2:ltI 12 n=false:=by rw[aE]; exact oF Z
 have e3:ltI 12 rows.length=false:=by rw[aE]; grind
 simp only[E6,e1,e2,e3,oD,aWT rows Z Z hlen hr,aD]
theorem of_eq(rows:List (List Int)) {n:Nat} (hk:rows.length<=12) (hn:n<=12) (hlen:∀ r∈rows,r.length=n) {E T:Nat->Nat} (hr:∀ r∈rows,∀ a∈r,a.natAbs<=E 0) (hE:E 0<=1000000000) (hb:Bds rows.length n E T)
  (hfin:∀ d M p,d<=rows.length->Hn d M p->Same rows.length (HU rows) d M->(∀ i,i<d->∀ x,n<=x->M i x=0)->∀ i,i<d->∀ x,x<n->(M i x).natAbs<=1000000000) :
  ∃ d M p,tO ((n:Int),rows,())=some (((n:Int),(List.range d).map λi=>Vr n (M i)),0,())/\d<=rows.length/\Hn d M p/\Same rows.length (HU rows) d M/\(∀ i,i<d->∀ x,n<=x->M i x=0)/\∀ i,i<d->∀ x,x<n->(M i x).natAbs<=1000000000:=by
 obtain⟨m,A,h1,h2⟩:=aE2 rows (n:=n) Z Z hlen (λr h a ha=>by have:=hr r h a ha; omega);have hrow:∀ i,i<rows.length->∃ r,r∈rows/\HU rows i=aAU r:=λi hi=>⟨rows[i],List.getElem_mem hi,by unfold HU; simp[List.getD,hi]⟩
 have hw:Wd rows.length n (HU rows):=λi hi x hx=>by
  obtain⟨r,hr1,hr2⟩:=hrow i hi;rw[hr2]; unfold aAU;grind
 have hB:Big rows.length n (HU rows) (E 0):=λi hi x hx=>by
  obtain⟨r,hr1,hr2⟩:=hrow i hi;rw[hr2]; unfold aAU;have hl:=hlen r hr1;have:r.getD x 0=r[x]' Z:=by simp[List.getD,show x<r.length by omega]
  rw[this];exact hr r hr1 _ (List.getElem_mem _)
 obtain⟨m',A',J',M',d,p,g1,g2,g3,g4,g5,g6,g7⟩:=aBX Z Z h2 hw hB hb;have hwd:∀ i,i<d->∀ x,n<=x->M' i x=0:=λi hi x hx=>g6 i Z x hx
 have hf:=hfin d M' p g2 g4 g5 hwd;refine⟨d,M',p,?_,g2,g4,g5,hwd,hf⟩;have e0:eqI 0 0=true:=O
 simp only[tO,aK2 rows hk hn hlen (λr h a ha=>oR (hr r h a ha) hE),aD,e0,Bool.not_true,oD,h1,g1,RO g3 g2 Z Z hf (n:Int)]
end Go.PM
namespace Go.Lz
def d2(a b:V)(x y:Nat):Int:=a x*b y-a y*b x
def d3(a b c:V)(x y z:Nat):Int:=d2 a b x y*c z-d2 a b x z*c y+d2 a b y z*c x
def d4(a b c d:V)(x y z u:Nat):Int:=d3 a b c x y z*d u-d3 a b c x y u*d z+d3 a b c x z u*d y-d3 a b c y z u*d x
structure Lin (f:V->Int):Prop where
 zero:f (λ_=>0)=0
 add:∀ u t m,f (λi=>u i+t*m i)=f u+t*f m
theorem Lin.sp {f}(h:Lin f){k M}(hz:∀ j,j<k->f (M j)=0){v}(hv:Sp k M v):f v=0:=by
 induction hv with
 | zero=>exact h.zero
 | add j t hj _ ih=>rw[h.add,ih,hz j hj]; simp
theorem Lin.pick {f:V->Int} (h:Lin f) {k:Nat} {M:Nat->V} {u:V} {t:Int} (ht:t≠0) (hs:Sp k M (λi=>t*u i)) (hu:f u≠0):∃ j,j<k/\f (M j)≠0:=by
 refine Classical.byContradiction λhn=>?_
 have hz:∀ j,j<k->f (M j)=0:=λj hj=>Classical.byContradiction λh0=>hn ⟨j,hj,h0⟩
 have h1:=h.sp hz hs;have h2:=h.add (λ_=>0) t u;have e:(λi=>(0:Int)+t*u i)=λi=>t*u i:=by funext i; simp
 rw[e,h1,h.zero,Int.zero_add]at h2;rcases Int.mul_eq_zero.1 h2.symm with h3|h3
 ·exact ht h3
 ·exact hu h3
theorem TA {x y:Int}{A B}(hx:x.natAbs<=A)(hy:y.natAbs<=B):(x*y).natAbs<=A*B:=by rw[Int.natAbs_mul]; exact Nat.mul_le_mul hx hy
theorem d2B {a b E}(ha:∀ x,(a x).natAbs<=E)(hb:∀ x,(b x).natAbs<=E) x y:(d2 a b x y).natAbs<=2*(E*E):=by
 have h1:=TA (ha x) (hb y);have h2:=TA (ha y) (hb x);unfold d2;omega
theorem d3B {a b c E}(ha:∀ x,(a x).natAbs<=E)(hb:∀ x,(b x).natAbs<=E)(hc:∀ x,(c x).natAbs<=E) x y z:(d3 a b c x y z).natAbs<=6*(E*E*E):=by
 have h1:=TA (d2B ha hb x y) (hc z);have h2:=TA (d2B ha hb x z) (hc y);have h3:=TA (d2B ha hb y z) (hc x);have e:2*(E*E)*E=2*(E*E*E):=W
 unfold d3;omega
theorem d4B {a b c d E}(ha:∀ x,(a x).natAbs<=E)(hb:∀ x,(b x).natAbs<=E)(hc:∀ x,(c x).natAbs<=E)(hd:∀ x,(d x).natAbs<=E) x y z u:(d4 a b c d x y z u).natAbs<=24*(E*E*E*E):=by
 have h1:=TA (d3B ha hb hc x y z) (hd u);have h2:=TA (d3B ha hb hc x y u) (hd z);have h3:=TA (d3B ha hb hc x z u) (hd y);have h4:=TA (d3B ha hb hc y z u) (hd x);have e:6*(E*E*E)*E=6*(E*E*E*E):=W
 unfold d4;omega
def Dg(k:Nat) (M:Nat->V) (r:Nat) (p:Nat->Nat) (W:Nat):Prop :=
 ∃ (D:Int) (w:Nat->V),D≠0/\∀ j,j<r->Sp k M (w j)/\w j (p j)=D/\(∀ i,i<r->i≠j->w j (p i)=0)/\∀ x,(w j x).natAbs<=W
theorem Dg.mono {k k' M M' r p W}(h:Dg k M r p W)(hs:∀ v,Sp k M v->Sp k' M' v):Dg k' M' r p W:=by
 obtain⟨D,w,h0,h1⟩:=h;exact⟨D,w,h0,λj hj=>⟨hs _ (h1 j hj).1,(h1 j hj).2⟩⟩
section
variable {k:Nat} {M:Nat->V}
theorem Sp.bAW {a b}(ha:a<k)(hb:b<k) s t:Sp k M (λi=>s*M a i+t*M b i):=Sp.comb t (Sp.smul s (Sp.mem ha)) (Sp.mem hb)
theorem Sp.a7W {a b c}(ha:a<k)(hb:b<k)(hc:c<k) s t u:Sp k M (λi=>s*M a i+t*M b i+u*M c i):=Sp.comb u (Sp.bAW ha hb s t) (Sp.mem hc)
theorem Sp.a8X {a b c d}(ha:a<k)(hb:b<k)(hc:c<k)(hd:d<k) s t u v:Sp k M (λi=>s*M a i+t*M b i+u*M c i+v*M d i):=Sp.comb v (Sp.a7W ha hb hc s t u) (Sp.mem hd)
theorem aJJ {u:V} {p0:Nat} {t:Int} (ht:t≠0) (hs:Sp k M (λi=>t*u i)) (h0:u p0≠0):∃ a,a<k/\M a p0≠0 :=
 Lin.pick (f:=λv=>v p0) ⟨rfl,λ_ _ _=>rfl⟩ ht hs h0
theorem aPI {u:V}{a p0 p1 t}(ht:t≠0)(hs:Sp k M (λi=>t*u i))(h0:u p0=0)(h1:u p1≠0)(ha:M a p0≠0):∃ b,b<k/\d2 (M a) (M b) p0 p1≠0:=by
 refine Lin.pick (f:=λv=>d2 (M a) v p0 p1) ⟨by simp[d2],λu t m=>by simp only[d2]; grind⟩ ht hs ?_;simp only[d2]
 simp_all
theorem a0C {u:V}{a b p0 p1 p2 t}(ht:t≠0)(hs:Sp k M (λi=>t*u i))(h0:u p0=0)(h1:u p1=0)(h2:u p2≠0)(ha:d2 (M a) (M b) p0 p1≠0):∃ c,c<k/\d3 (M a) (M b) (M c) p0 p1 p2≠0:=by
 refine Lin.pick (f:=λv=>d3 (M a) (M b) v p0 p1 p2) ⟨by simp[d3],λu t m=>by simp only[d3]; grind⟩ ht hs ?_;simp only[d3]
 simp_all
theorem bAD {u:V}{a b c p0 p1 p2 p3 t}(ht:t≠0)(hs:Sp k M (λi=>t*u i))(h0:u p0=0)(h1:u p1=0)(h2:u p2=0)(h3:u p3≠0)(ha:d3 (M a) (M b) (M c) p0 p1 p2≠0):∃ d,d<k/\d4 (M a) (M b) (M c) (M d) p0 p1 p2 p3≠0:=by
 refine Lin.pick (f:=λv=>d4 (M a) (M b) (M c) v p0 p1 p2 p3) ⟨by simp[d4],λu t m=>by simp only[d4]; grind⟩ ht hs ?_;simp only[d4]
 simp_all
theorem bCU {p W a}(hB:∀ x,(M a x).natAbs<=W)(ha:a<k)(h:M a (p 0)≠0):Dg k M 1 p W :=
 ⟨_,λ_=>M a,h,λj hj=>by
  obtain rfl:j=0:=Z
  exact⟨Sp.mem ha,rfl,λi hi hne=>by omega,hB⟩⟩
theorem bBZ {p W a b}(hB:∀ x y,(d2 (M a) (M b) x y).natAbs<=W)(ha:a<k)(hb:b<k)(h:d2 (M a) (M b) (p 0) (p 1)≠0):Dg k M 2 p W:=by
 refine⟨_,λj=>if j=0 then (λx=>d2 (M a) (M b) x (p 1)) else λx=>d2 (M a) (M b) (p 0) x,h,λj hj=>?_⟩;rcases(show j=0\/j=1 by omega)with rfl|rfl
 ·refine⟨?_,rfl,λi hi hne=>?_,λx=>hB _ _⟩
  ·refine cast (congrArg (Sp k M) ?_) (Sp.bAW ha hb (M b (p 1)) (-(M a (p 1))))
   funext x
   simp only[if_true,d2]; grind
  ·simp only[if_true,d2]; grind
 ·refine⟨?_,rfl,λi hi hne=>?_,λx=>hB _ _⟩
  ·refine cast (congrArg (Sp k M) ?_) (Sp.bAW ha hb (-(M b (p 0))) (M a (p 0)))
   funext x
   simp only[d2,Nat.one_ne_zero,if_false]; grind
  ·simp only[d2,Nat.one_ne_zero,if_false]; grind
theorem bB1 {p W a b c}(hB:∀ x y z,(d3 (M a) (M b) (M c) x y z).natAbs<=W)(ha:a<k)(hb:b<k)(hc:c<k)(h:d3 (M a) (M b) (M c) (p 0) (p 1) (p 2)≠0):Dg k M 3 p W:=by
 refine⟨_,λj=>if j=0 then (λx=>d3 (M a) (M b) (M c) x (p 1) (p 2)) else if j=1 then (λx=>d3 (M a) (M b) (M c) (p 0) x (p 2)) else λx=>d3 (M a) (M b) (M c) (p 0) (p 1) x,h,λj hj=>?_⟩;rcases(show j=0\/j=1\/j=2 by omega)with rfl|rfl|rfl
 ·refine⟨?_,rfl,λi hi hne=>?_,λx=>hB _ _ _⟩
  ·refine cast (congrArg (Sp k M) ?_) (Sp.a7W ha hb hc (d2 (M b) (M c) (p 1) (p 2)) (-(d2 (M a) (M c) (p 1) (p 2))) (d2 (M a) (M b) (p 1) (p 2)))
   funext x
   show _=d3 (M a) (M b) (M c) x (p 1) (p 2);simp only[d3,d2]; grind
  ·show (λx=>d3 (M a) (M b) (M c) x (p 1) (p 2)) (p i)=0;rcases(show i=1\/i=2 by omega)with rfl|rfl
   ·simp only[d3,d2]; grind
   ·simp only[d3,d2]; grind
 ·refine⟨?_,rfl,λi hi hne=>?_,λx=>hB _ _ _⟩
  ·refine cast (congrArg (Sp k M) ?_) (Sp.a7W ha hb hc (-(d2 (M b) (M c) (p 0) (p 2))) (d2 (M a) (M c) (p 0) (p 2)) (-(d2 (M a) (M b) (p 0) (p 2))))
   funext x
   show _=d3 (M a) (M b) (M c) (p 0) x (p 2);simp only[d3,d2]; grind
  ·show (λx=>d3 (M a) (M b) (M c) (p 0) x (p 2)) (p i)=0;rcases(show i=0\/i=2 by omega)with rfl|rfl
   ·simp only[d3,d2]; grind
   ·simp only[d3,d2]; grind
 ·refine⟨?_,rfl,λi hi hne=>?_,λx=>hB _ _ _⟩
  ·refine cast (congrArg (Sp k M) ?_) (Sp.a7W ha hb hc (d2 (M b) (M c) (p 0) (p 1)) (-(d2 (M a) (M c) (p 0) (p 1))) (d2 (M a) (M b) (p 0) (p 1)))
   funext x
   show _=d3 (M a) (M b) (M c) (p 0) (p 1) x;simp only[d3,d2]; grind
  ·show (λx=>d3 (M a) (M b) (M c) (p 0) (p 1) x) (p i)=0;rcases(show i=0\/i=1 by omega)with rfl|rfl
   ·simp only[d3,d2]; grind
   ·simp only[d3,d2]; grind
theorem bCW {p W a b c d}(hB:∀ x y z u,(d4 (M a) (M b) (M c) (M d) x y z u).natAbs<=W)(ha:a<k)(hb:b<k)(hc:c<k)(hd:d<k)(h:d4 (M a) (M b) (M c) (M d) (p 0) (p 1) (p 2) (p 3)≠0):Dg k M 4 p W:=by
 refine⟨_,λj=>if j=0 then (λx=>d4 (M a) (M b) (M c) (M d) x (p 1) (p 2) (p 3)) else if j=1 then (λx=>d4 (M a) (M b) (M c) (M d) (p 0) x (p 2) (p 3)) else if j=2 then (λx=>d4 (M a) (M b) (M c) (M d) (p 0) (p 1) x (p 3)) else λx=>d4 (M a) (M b) (M c) (M d) (p 0) (p 1) (p 2) x,h,λj hj=>?_⟩;rcases(show j=0\/j=1\/j=2\/j=3 by omega)with rfl|rfl|rfl|rfl
 ·refine⟨?_,rfl,λi hi hne=>?_,λx=>hB _ _ _ _⟩
  ·refine cast (congrArg (Sp k M) ?_) (Sp.a8X ha hb hc hd (d3 (M b) (M c) (M d) (p 1) (p 2) (p 3)) (-(d3 (M a) (M c) (M d) (p 1) (p 2) (p 3))) (d3 (M a) (M b) (M d) (p 1) (p 2) (p 3)) (-(d3 (M a) (M b) (M c) (p 1) (p 2) (p 3))))
   funext x
   show _=d4 (M a) (M b) (M c) (M d) x (p 1) (p 2) (p 3);simp only[d4,d3,d2]; grind
  ·show (λx=>d4 (M a) (M b) (M c) (M d) x (p 1) (p 2) (p 3)) (p i)=0;rcases(show i=1\/i=2\/i=3 by omega)with rfl|rfl|rfl
   ·simp only[d4,d3,d2]; grind
   ·simp only[d4,d3,d2]; grind
   ·simp only[d4,d3,d2]; grind
 ·refine⟨?_,rfl,λi hi hne=>?_,λx=>hB _ _ _ _⟩
  ·refine cast (congrArg (Sp k M) ?_) (Sp.a8X ha hb hc hd (-(d3 (M b) (M c) (M d) (p 0) (p 2) (p 3))) (d3 (M a) (M c) (M d) (p 0) (p 2) (p 3)) (-(d3 (M a) (M b) (M d) (p 0) (p 2) (p 3))) (d3 (M a) (M b) (M c) (p 0) (p 2) (p 3)))
   funext x
   show _=d4 (M a) (M b) (M c) (M d) (p 0) x (p 2) (p 3);simp only[d4,d3,d2]; grind
  ·show (λx=>d4 (M a) (M b) (M c) (M d) (p 0) x (p 2) (p 3)) (p i)=0;rcases(show i=0\/i=2\/i=3 by omega)with rfl|rfl|rfl
   ·simp only[d4,d3,d2]; grind
   ·simp only[d4,d3,d2]; grind
   ·simp only[d4,d3,d2]; grind
 ·refine⟨?_,rfl,λi hi hne=>?_,λx=>hB _ _ _ _⟩
  ·refine cast (congrArg (Sp k M) ?_) (Sp.a8X ha hb hc hd (d3 (M b) (M c) (M d) (p 0) (p 1) (p 3)) (-(d3 (M a) (M c) (M d) (p 0) (p 1) (p 3))) (d3 (M a) (M b) (M d) (p 0) (p 1) (p 3)) (-(d3 (M a) (M b) (M c) (p 0) (p 1) (p 3))))
   funext x
   show _=d4 (M a) (M b) (M c) (M d) (p 0) (p 1) x (p 3);simp only[d4,d3,d2]; grind
  ·show (λx=>d4 (M a) (M b) (M c) (M d) (p 0) (p 1) x (p 3)) (p i)=0;rcases(show i=0\/i=1\/i=3 by omega)with rfl|rfl|rfl
   ·simp only[d4,d3,d2]; grind
   ·simp only[d4,d3,d2]; grind
   ·simp only[d4,d3,d2]; grind
 ·refine⟨?_,rfl,λi hi hne=>?_,λx=>hB _ _ _ _⟩
  ·refine cast (congrArg (Sp k M) ?_) (Sp.a8X ha hb hc hd (-(d3 (M b) (M c) (M d) (p 0) (p 1) (p 2))) (d3 (M a) (M c) (M d) (p 0) (p 1) (p 2)) (-(d3 (M a) (M b) (M d) (p 0) (p 1) (p 2))) (d3 (M a) (M b) (M c) (p 0) (p 1) (p 2)))
   funext x
   show _=d4 (M a) (M b) (M c) (M d) (p 0) (p 1) (p 2) x;simp only[d4,d3,d2]; grind
  ·show (λx=>d4 (M a) (M b) (M c) (M d) (p 0) (p 1) (p 2) x) (p i)=0;rcases(show i=0\/i=1\/i=2 by omega)with rfl|rfl|rfl
   ·simp only[d4,d3,d2]; grind
   ·simp only[d4,d3,d2]; grind
   ·simp only[d4,d3,d2]; grind
def fac(E:Nat):Nat->Nat
 | 0=>1
 | 1=>E
 | 2=>2*(E*E)
 | 3=>6*(E*E*E)
 | _=>24*(E*E*E*E)
theorem aTH {r E H p}(hr:r<=4)(hH:Hn r H p)(hs:∀ j,j<r->∃ t ,t≠0/\Sp k M (λi=>t*H j i))(hE:∀ j,j<k->∀ x,(M j x).natAbs<=E):Dg k M r p (fac E r):=by
 have pv:∀ j,j<r->H j (p j)≠0:=λj hj=>by have:=hH.pos j hj; omega
 have lo:∀ i j,i<j->j<r->H j (p i)=0:=λi j hij hj=>hH.low j hj _ (hH.inc i j hij hj)
 rcases(show r=0\/r=1\/r=2\/r=3\/r=4 by omega)with rfl|rfl|rfl|rfl|rfl
 ·exact⟨1,λ_ _=>0,by decide,λj hj=>by omega⟩
 ·obtain⟨t,ht,h0⟩:=hs 0 Z;obtain⟨a,ha,q0⟩:=aJJ ht h0 (pv 0 Z);exact bCU (hE a ha) ha q0
 ·obtain⟨t,ht,h0⟩:=hs 0 Z;obtain⟨a,ha,q0⟩:=aJJ ht h0 (pv 0 Z);obtain⟨t,ht,h0⟩:=hs 1 Z;obtain⟨b,hb,q1⟩:=aPI ht h0 (lo 0 1 Z Z) (pv 1 Z) q0;exact bBZ (d2B (hE a ha) (hE b hb)) ha hb q1
 ·obtain⟨t,ht,h0⟩:=hs 0 Z;obtain⟨a,ha,q0⟩:=aJJ ht h0 (pv 0 Z);obtain⟨t,ht,h0⟩:=hs 1 Z;obtain⟨b,hb,q1⟩:=aPI ht h0 (lo 0 1 Z Z) (pv 1 Z) q0;obtain⟨t,ht,h0⟩:=hs 2 Z;obtain⟨c,hc,q2⟩:=a0C ht h0 (lo 0 2 Z Z) (lo 1 2 Z Z) (pv 2 Z) q1;exact bB1 (d3B (hE a ha) (hE b hb) (hE c hc)) ha hb hc q2
 ·obtain⟨t,ht,h0⟩:=hs 0 Z;obtain⟨a,ha,q0⟩:=aJJ ht h0 (pv 0 Z);obtain⟨t,ht,h0⟩:=hs 1 Z;obtain⟨b,hb,q1⟩:=aPI ht h0 (lo 0 1 Z Z) (pv 1 Z) q0;obtain⟨t,ht,h0⟩:=hs 2 Z;obtain⟨c,hc,q2⟩:=a0C ht h0 (lo 0 2 Z Z) (lo 1 2 Z Z) (pv 2 Z) q1;obtain⟨t,ht,h0⟩:=hs 3 Z;obtain⟨d,hd,q3⟩:=bAD ht h0 (lo 0 3 Z Z) (lo 1 3 Z Z) (lo 2 3 Z Z) (pv 3 Z) q2
  exact bCW (d4B (hE a ha) (hE b hb) (hE c hc) (hE d hd)) ha hb hc hd q3
end
theorem Hn.zero {k:Nat} {M:Nat->V} {c:Nat->Nat} (h:Hn k M c) {v:V} (hv:Sp k M v) (hz:∀ i,i<k->v (c i)=0):v=λ_=>0 :=
 h.small hv λi hi=>by have:=h.pos i hi; rw[hz i hi]; constructor <;> omega
theorem Hn.aYC:∀ {k:Nat} {M:Nat->V} {c:Nat->Nat},Hn k M c->∀ {v:V},Sp k M v->∀ j,j<k->(∀ i,i<j->v (c i)=0)->M j (c j) ∣ v (c j)
 | 0,_,_,_,_,_,j,hj,_=>Z
 | k+1,M,c,h,v,hv,j,hj,hz=>by
  obtain⟨t,u,hu,rfl⟩:=hv.first;have h0:=h.aJ3 hu (Nat.le_refl _);cases j with
  | zero=>exact⟨t,by simp only[h0,Int.zero_add]; exact Int.mul_comm _ _⟩
  | succ j =>
   have h1:=hz 0 Z;have hp:=h.pos 0 Z;simp only[h0,Int.zero_add]at h1;have ht:t=0:=by
    rcases Int.mul_eq_zero.1 h1 with h2|h2
    ·exact h2
    ·omega
   subst ht;have:=Hn.aYC h.tail hu j Z λi hi=>by have:=hz (i+1) Z; simpa using this
   simpa using this
def sm(f:Nat->Int):Nat->Int
 | 0=>0
 | n+1=>sm f n+f n
theorem MW {f}:∀ {n},(∀ i,i<n->f i=0)->sm f n=0
 | 0,_=>rfl
 | n+1,h=>by rw[sm,MW λi hi=>h i Z,h n R]; rfl
theorem VC {f j}:∀ {n},j<n->(∀ i,i<n->i≠j->f i=0)->sm f n=f j
 | 0,h,_=>Z
 | n+1,h,hz=>by
  rw[sm]
  by_cases hj:j=n
  ·subst hj;rw[MW λi hi=>hz i Z Z,Int.zero_add]
  ·rw[VC Z λi hi=>hz i Z,hz n R (Ne.symm hj),Int.add_zero]
theorem a7D {f B}:∀ {n},(∀ i,i<n->(f i).natAbs<=B)->(sm f n).natAbs<=n*B
 | 0,_=>by simp[sm]
 | n+1,h=>by
  have h1:=a7D (n:=n) λi hi=>h i Z
  have h2:=h n R;rw[Nat.succ_mul];show (sm f n+f n).natAbs<=_;omega
theorem Sp.sm {k M}{w:Nat->V}{s:Nat->Int}:∀ {n},(∀ j,j<n->Sp k M (w j))->Sp k M (λx=>Lz.sm (λj=>s j*w j x) n)
 | 0,_=>Sp.zero
 | n+1,h=>Sp.comb (s n) (Sp.sm λj hj=>h j Z) (h n R)
theorem Hn.aJR {r W:Nat} {H:Nat->V} {p:Nat->Nat} (h:Hn r H p) (hd:Dg r H r p W):∀ i,i<r->∀ x,(H i x).natAbs<=r*W:=by
 obtain⟨D,w,hD,hw⟩:=hd;intro i hi x;have hz:(λy=>D*H i y-Lz.sm (λj=>H i (p j)*w j y) r)=λ_=>0:=by
  refine h.zero (Sp.sub (Sp.smul D (Sp.mem hi)) (Sp.sm λj hj=>(hw j hj).1)) λl hl=>?_
  rw[VC (f:=λj=>H i (p j)*w j (p l)) hl λj hj hne=>by rw[(hw j hj).2.2.1 l hl (Ne.symm hne),Int.mul_zero]];rw[(hw l hl).2.1];grind
 have h1:=congrFun hz x;have h2:D*H i x=Lz.sm (λj=>H i (p j)*w j x) r:=by
  have:D*H i x-Lz.sm (λj=>H i (p j)*w j x) r=0:=h1;omega
 have h3:(Lz.sm (λj=>H i (p j)*w j x) r).natAbs<=r*(D.natAbs*W):=by
  refine a7D λj hj=>TA ?_ ((hw j hj).2.2.2 x)
  have e1:H j (p j) ∣ D:=by
   have:=h.aYC (hw j hj).1 j hj λl hl=>(hw j hj).2.2.1 l Z Z
   rwa[(hw j hj).2.1]at this
  have e2:=Int.natAbs_dvd_natAbs.2 e1;have e3:=Nat.le_of_dvd Z e2;rcases Nat.lt_trichotomy i j with g|g|g
  ·have:=h.red i j g hj;omega
  ·subst g; exact e3
  ·rw[h.low i hi _ (h.inc j i g hi)]; simp
 rw[<- h2,Int.natAbs_mul]at h3;have e:r*(D.natAbs*W)=D.natAbs*(r*W):=zf
 rw[e]at h3;exact Nat.le_of_mul_le_mul_left h3 Z
end Go.Lz
namespace Go.PM
open Go Go.RowKit Go.Proofs Go.Lz
theorem aRV a n v:Zr (a+n) v=Zr a v++Zr n (λy=>v (a+y)):=by
 unfold Zr;rw[List.range_add,List.map_append,List.map_map];rfl
theorem bA9:Zn 1=ByteArray.mk #[49]:=Y
def aDD(J:Nat->Nat) (i o n:Nat) (A:List (List ByteArray)) (t:Nat):=bQ ((J i,o,n),(),(n:Int),(t:Int),A,())
section
variable {o k n:Nat} {m:List (Nat×Nat×Nat)} {A:List (List ByteArray)} {J:Nat->Nat} {M:Nat->V}
theorem fT.ext (h:fT o k n m A J M) R:fT o k n m (A++R) J M :=
 ⟨h.ml,λi hi=>by
  obtain⟨pre,h1,h2⟩:=h.at_ i hi;grind,h.inj⟩
theorem fT.take (h:fT o k n m A J M){d}(hd:d<=k):fT o d n (m.take d) A J M :=
 ⟨by rw[h.ml,<- List.map_take,List.take_range,Nat.min_eq_left hd],λi hi=>h.at_ i Z,λi j hi hj=>h.inj i j Z Z⟩
theorem a7G(h:fT o k n m A J M) (hn:n<1048576) {i:Nat} (hi:i<k) :
  ∃ L:Int,jP () ((J i,o,n),()) A=some ((L,()),A)/\((L = -1/\∀ x,x<n->M i x=0)\/∃ x,x<n/\L=(x:Int)/\M i x≠0/\∀ y,y<x->M i y=0):=by
 have hg:∀ t,t<n->PM.cT A (J i)=o+n/\PM.dC A (J i) ((o+t)*1) ByteArray.empty=Zn (M i t):=λt ht=>⟨h.cT hi,by rw[Nat.mul_one]; exact h.dC hi ht⟩
 have step1:∀ t,t<n->∀ b,decide (M i t=0)=b->aDD J i o n A t=(bif b then some (.inl ((J i,o,n),(),(n:Int),((t+1:Nat):Int),A,())) else some (.inr (.inl ((t:Int),A,())))):=λt ht b hb=>by
  have e1:ltI (t:Int) (n:Int)=true:=by rw[aE]; exact oT Z
  have e2:aF (t:Int) n=true:=by rw[aL]; exact oT Z
  have e3:((t:Nat):Int).toNat=t:=oN _;have e4:Nat.blt ((o+t)*1) (o+n)=true:=by rw[cA]; exact oT Z
  have e5:=bO t Z;unfold aDD;simp only[bQ,e1,e2,e3,(hg t ht).1,e4,(hg t ht).2,oC,yP,TV,aD,hb,e5];cases b <;> rfl
 by_cases hz:∀ x,x<n->M i x=0
 ·refine⟨-1,?_,.inl ⟨rfl,hz⟩⟩;have key:=aY (step:=bQ) (N:=2^64) (λt=>((J i,o,n),(),(n:Int),(t:Int),A,())) n (.inr (A,())) Z (λt ht=>step1 t ht true (oT (hz t ht))) (by
   have e1:ltI (n:Int) (n:Int)=false:=by rw[aE]; exact oF Z
   simp only[bQ,e1,oD])
  have key:cV ((J i,o,n),(),((n:Nat):Int),0,A,())=_:=key;simp only[jP,cB,key,aD,fZ]
 ·obtain⟨x,hx1,hx2,hx3⟩:∃ x,x<n/\M i x≠0/\∀ y,y<x->M i y=0:=by
   obtain⟨x0,h1⟩:=Classical.not_forall.1 hz;obtain⟨h1,h2⟩:=Classical.not_imp.1 h1;have:∀ N x0,x0<N->x0<n->M i x0≠0->∃ x,x<n/\M i x≠0/\∀ y,y<x->M i y=0:=by
    intro N
    induction N with
    | zero=>intro x0 h; omega
    | succ N ih =>
     intro x0 h0 h1 h2
     by_cases hy:∀ y,y<x0->M i y=0
     ·exact⟨x0,h1,h2,hy⟩
     ·obtain⟨y,g1⟩:=Classical.not_forall.1 hy;obtain⟨g1,g2⟩:=Classical.not_imp.1 g1;exact ih y Z Z g2
   exact this (x0+1) x0 Z h1 h2
  refine⟨(x:Int),?_,.inr ⟨x,hx1,rfl,hx2,hx3⟩⟩;have key:=aY (step:=bQ) (N:=2^64) (λt=>((J i,o,n),(),(n:Int),(t:Int),A,())) x (.inl ((x:Int),A,())) Z (λt ht=>step1 t Z true (oT (hx3 t ht))) (step1 x hx1 false (oF hx2));have key:cV ((J i,o,n),(),((n:Nat):Int),0,A,())=_:=key;simp only[jP,cB,key,aD,tX]
theorem aUP(hn:n<1048576) (A:List (List ByteArray)):nF () ((n:Int),()) A=some (Zr n (λ_=>0),A):=by
 have e1:ltI (n:Int) 0=false:=by rw[aE]; exact oF Z
 have e2:ltI (n:Int) (n:Int)=false:=by rw[aE]; exact oF Z
 have e3:ltI 1048576 (n:Int)=false:=by rw[aE]; exact oF Z
 have e4:((n:Nat):Int).toNat=n:=oN _;have e5:=aQT (List.replicate n 0) (by simp; omega) (λa ha=>by have:=List.eq_of_mem_replicate ha; omega);have e6:(List.replicate n (0:Int)).map Zn=Zr n (λ_=>0):=by
  unfold Zr;rw[List.map_replicate];refine List.ext_getElem R λi h1 h2=>R
 rw[e6]at e5;simp only[nF,e1,e2,e3,e4,e5,aD,Bool.not_false,oC]
theorem a3L(M:Nat->V) {c:Nat} (hc:c<n):(List.range k).map (λi=>Zn (M i c))++(Zr n (λ_=>0)).set c (ByteArray.mk #[49])=Zr (k+n) (wide n k M c):=by
 rw[aRV]
 congr 1
 ·unfold Zr;refine List.map_congr_left λi hi=>?_
  have:=List.mem_range.1 hi;simp only[wide,this,if_true]
 ·refine List.ext_getElem (by simp[pU]) λi h1 h2=>?_
  rw[pU]at h2;rw[List.getElem_set];have e1:¬ k+i<k:=Z
  by_cases hic:c=i
  ·subst hic;simp only[if_true,Zr,List.getElem_map,List.getElem_range,wide,e1,if_false];exact bA9.symm
  ·have e2:¬ k+i=k+c:=Z
   simp only[hic,if_false,Zr,List.getElem_map,List.getElem_range,wide,e1,e2]
theorem aPU(hk:k<1048576) (hn:n<1048576) (hkn:k+n<1048576) (h:fT o k n m A J M) :
  jV (m,(n:Int),[],(n:Int),0,A,())=some (m,(n:Int),(List.range n).map (λc=>(A.length+c,0,k+n)),A++(List.range n).map (λc=>Zr (k+n) (wide n k M c)),()):=by
 have key:=aY (step:=jW) (N:=2^64)
  (λt=>(m,(n:Int),(List.range t).map (λc=>(A.length+c,0,k+n)),(n:Int),(t:Int),A++(List.range t).map (λc=>Zr (k+n) (wide n k M c)),())) n
  (m,(n:Int),(List.range n).map (λc=>(A.length+c,0,k+n)),A++(List.range n).map (λc=>Zr (k+n) (wide n k M c)),()) Z (λt ht=>?_) ?_
 ·have e0:A++(List.range 0).map (λc=>Zr (k+n) (wide n k M c))=A:=ze
  have key:jV (m,(n:Int),[],(n:Int),0,A++(List.range 0).map (λc=>Zr (k+n) (wide n k M c)),())=_:=key;rwa[e0]at key
 ·generalize hR:(List.range t).map (λc=>Zr (k+n) (wide n k M c))=R;have h':=h.ext R;generalize hB:A++R=B at h' ⊢;have hlen:B.length=A.length+t:=by rw[<- hB,<- hR]; simp
  have col:=aY (step:=jN) (N:=2^64)
   (λs=>(m,(n:Int),(List.range t).map (λc=>(A.length+c,0,k+n)),(t:Int),(List.range s).map (λi=>Zn (M i t)),(n:Int),(t:Int),m,(m.length:Int),(s:Int),B,())) k
   (m,(n:Int),(List.range t).map (λc=>(A.length+c,0,k+n)),(t:Int),(List.range k).map (λi=>Zn (M i t)),(n:Int),(t:Int),B,()) Z (λs hs=>?_) ?_
  ·have col:nB (m,(n:Int),(List.range t).map (λc=>(A.length+c,0,k+n)),(t:Int),[],(n:Int),(t:Int),m,(m.length:Int),0,B,())=_:=col;have e1:ltI (t:Int) (n:Int)=true:=by rw[aE]; exact oT Z
   have e2:aF (t:Int) n=true:=by rw[aL]; exact oT Z
   have e3:((t:Nat):Int).toNat=t:=oN _;have e4:Nat.blt t n=true:=by rw[cA]; exact oT ht
   have e5:(Zr n (λ_=>0)).length=n:=pU _ _;have e6:Nat.ble n 1048576=true:=by rw[dM]; exact oT Z
   have e7:Nat.ble ((List.range k).map (λi=>Zn (M i t))).length 1048576=true:=by rw[dM,List.length_map,List.length_range]; exact oT Z
   have e8:=a3L (n:=n) (k:=k) M ht;have e9:(Zr (k+n) (wide n k M t)).length=k+n:=pU _ _;have e10:Nat.ble [(A.length+t,0,k+n)].length 1048576=true:=rfl;have e11:Nat.ble ((List.range t).map (λc=>(A.length+c,0,k+n))).length 1048576=true:=by rw[dM,List.length_map,List.length_range]; exact oT Z
   have e12:=bO t Z;have e13:(List.range t).map (λc=>(A.length+c,0,k+n))++[(A.length+t,0,k+n)]=(List.range (t+1)).map (λc=>(A.length+c,0,k+n)):=by rw[List.range_succ,List.map_append]; rfl
   have e14:B++[Zr (k+n) (wide n k M t)]=A++(List.range (t+1)).map (λc=>Zr (k+n) (wide n k M c)):=by rw[<- hB,<- hR,List.range_succ,List.map_append,List.append_assoc]; rfl
   have e15:((Zr n (λ_=>0)).set t (ByteArray.mk #[49])).length=n:=by rw[List.length_set,pU]
   simp only[jW,e1,oC,col,aD,aUP hn,e5,e2,e3,e4,e15,e6,e7,e8,e9,hlen,e10,e11,e12,e13,e14]
  ·have e1:ltI (s:Int) (k:Int)=true:=by rw[aE]; exact oT Z
   have e2:aF (s:Int) k=true:=by rw[aL]; exact oT Z
   have e3:((s:Nat):Int).toNat=s:=oN _;have e4:aF (t:Int) n=true:=by rw[aL]; exact oT Z
   have e5:((t:Nat):Int).toNat=t:=oN _;have e6:Nat.blt ((o+t)*1) (o+n)=true:=by rw[cA]; exact oT Z
   have e7:PM.dC B (J s) ((o+t)*1) ByteArray.empty=Zn (M s t):=by rw[Nat.mul_one]; exact h'.dC hs ht
   have e8:Nat.ble [Zn (M s t)].length 1048576=true:=rfl;have e9:Nat.ble ((List.range s).map (λi=>Zn (M i t))).length 1048576=true:=by rw[dM,List.length_map,List.length_range]; exact oT Z
   have e10:=bO s Z;have e11:(List.range s).map (λi=>Zn (M i t))++[Zn (M s t)]=(List.range (s+1)).map (λi=>Zn (M i t)):=by rw[List.range_succ,List.map_append]; rfl
   simp only[jN,h.len,e1,e2,e3,h'.get hs,e4,e5,h'.cT hs,e6,e7,e8,e9,e10,e11,oC]
  ·have e1:ltI (k:Int) (k:Int)=false:=by rw[aE]; exact oF Z
   simp only[jN,h.len,e1,oD]
 ·have e1:ltI (n:Int) (n:Int)=false:=by rw[aE]; exact oF Z
  simp only[jW,e1,oD]
end
theorem Hn.split {d W p}(h:Hn d W p) k:∃ j,j<=d/\(∀ i,i<j->p i<k)/\∀ i,j<=i->i<d->k<=p i:=by
 have:∀ t,t<=d->∃ j,j<=t/\(∀ i,i<j->p i<k)/\∀ i,j<=i->i<t->k<=p i:=by
  intro t
  induction t with
  | zero=>simp
  | succ t ih =>
   intro ht;obtain⟨j,h1,h2,h3⟩:=ih Z
   by_cases hj:j=t
   ·by_cases hp:p t<k
    ·exact⟨t+1,by omega,λi hi=>by
      grind,λi g1 g2=>by omega⟩
    ·exact⟨j,by omega,h2,λi g1 g2=>by
      grind⟩
   ·exact⟨j,by omega,h2,λi g1 g2=>by
     by_cases e:i=t
     ·subst e;have a1:=h3 j (oM _) Z;have a2:=h.inc j i Z Z;omega
     ·exact h3 i g1 Z⟩
 exact this d (oM _)
section
variable {o k n d:Nat} {m:List (Nat×Nat×Nat)} {A:List (List ByteArray)} {J:Nat->Nat} {M:Nat->V}
theorem fT.behind (h:fT o d (k+n) m A J M){j}(hj:j<=d):fT (o+k) (d-j) n ((List.range (d-j)).map λi=>(J (j+i),o+k,n)) A (λi=>J (j+i)) (λi y=>M (j+i) (k+y)) :=
 ⟨rfl,λi hi=>by
  obtain⟨pre,h1,h2⟩:=h.at_ (j+i) Z;refine⟨pre++Zr k (M (j+i)),by rw[oH,pU,h1],?_⟩;rw[h2,aRV,List.append_assoc],λa b ha hb e=>by
  have:=h.inj (j+a) (j+b) Z Z e;omega⟩
theorem aBD(hkn:k+n<1048576) (hd:d<1048576) (h:fT o d (k+n) m A J M) {p:Nat->Nat} (hH:Hn d M p) (hw:Wd d (k+n) M) {j:Nat} (hj:j<=d) (h1:∀ i,i<j->p i<k) (h2:∀ i,j<=i->i<d->k<=p i) :
  jL ((k:Int),(n:Int),[],m,(m.length:Int),0,A,())=some ((n:Int),(List.range (d-j)).map (λi=>(J (j+i),o+k,n)),A,()):=by
 have key:=aY (step:=fO) (N:=2^64)
  (λt=>((k:Int),(n:Int),(List.range (t-j)).map (λi=>(J (j+i),o+k,n)),m,(m.length:Int),(t:Int),A,())) d
  ((n:Int),(List.range (d-j)).map (λi=>(J (j+i),o+k,n)),A,()) Z (λt ht=>?_) ?_
 ·have key:jL ((k:Int),(n:Int),(List.range (0-j)).map (λi=>(J (j+i),o+k,n)),m,(m.length:Int),0,A,())=_:=key;rwa[Nat.zero_sub]at key
 ·have e1:ltI (t:Int) (d:Int)=true:=by rw[aE]; exact oT Z
  have e2:aF (t:Int) d=true:=by rw[aL]; exact oT Z
  have e3:((t:Nat):Int).toNat=t:=oN _;obtain⟨L,q1,q2⟩:=a7G h Z ht;have hp:=hH.pos t ht;have hpl:p t<k+n:=by
   refine Classical.byContradiction λhc=>?_
   have:=hw t ht (p t) Z;omega
  have hL:L=(p t:Int):=by
   rcases q2 with ⟨_,q3⟩|⟨x,g1,g2,g3,g4⟩
   ·have:=q3 (p t) hpl; omega
   ·rw[g2]
    congr 1
    rcases Nat.lt_trichotomy x (p t)with g|g|g
    ·exact absurd (hH.low t ht x g) g3
    ·exact g
    ·have:=g4 (p t) g; omega
  subst hL;have e4:=bO t Z
  by_cases htj:t<j
  ·have e5:ltI (p t:Int) (k:Int)=true:=by rw[aE]; exact oT (by have:=h1 t htj; omega)
   have e6:t+1-j=0:=Z
   have e7:t-j=0:=Z
   simp only[fO,h.len,e1,e2,e3,h.get ht,q1,aD,e5,e4,e6,e7,oC,oD,Bool.not_true]
  ·have e5:ltI (p t:Int) (k:Int)=false:=by rw[aE]; exact oF (by have:=h2 t Z ht; omega)
   have e6:ltI (k:Int) 0=false:=by rw[aE]; exact oF Z
   have e7:((k:Nat):Int).toNat=k:=oN _;have e8:Nat.ble k (k+n)=true:=by rw[dM]; exact oT Z
   have e9:Nat.ble (k+n) (k+n)=true:=by rw[dM]; exact oT Z
   have e10:k+n-k=n:=Z
   have e11:Nat.ble [(J t,o+k,n)].length 1048576=true:=rfl;have e12:Nat.ble ((List.range (t-j)).map (λi=>(J (j+i),o+k,n))).length 1048576=true:=by rw[dM,List.length_map,List.length_range]; exact oT Z
   have e13:(List.range (t-j)).map (λi=>(J (j+i),o+k,n))++[(J t,o+k,n)]=(List.range (t+1-j)).map (λi=>(J (j+i),o+k,n)):=by
    rw[show t+1-j=(t-j)+1 by omega,List.range_succ,List.map_append];have:j+(t-j)=t:=Z
    simp only[List.map_cons,List.map_nil,this]
   simp only[fO,h.len,e1,e2,e3,h.get ht,q1,aD,e5,e4,e6,e7,e8,e9,e10,e11,e12,e13,oC,oD,Bool.not_false]
 ·have e1:ltI (d:Int) (d:Int)=false:=by rw[aE]; exact oF Z
  simp only[fO,h.len,e1,oD]
theorem Wd.wide (hw:Wd k n M):Wd n (k+n) (wide n k M):=λi hi x hx=>by
 have e1:¬ x<k:=Z
 have e2:¬ x=k+i:=Z
 simp only[Lz.wide,e1,e2,if_false]
theorem Big.wide {E}(hE:Big k n M E)(h1:1<=E):Big n (k+n) (wide n k M) E:=λi hi x hx=>by
 simp only[Lz.wide];split
 next hk=> exact hE x hk i hi
 grind
theorem NQ {W:Nat->V} {p:Nat->Nat} (hH:Hn d W p) (hs:Same n (wide n k M) d W) {j:Nat} (hj:j<=d) (h1:∀ i,i<j->p i<k) (h2:∀ i,j<=i->i<d->k<=p i) :
  Hn (d-j) (λi y=>W (j+i) (k+y)) (λi=>p (j+i)-k)/\dS n k M (d-j) (λi y=>W (j+i) (k+y)):=by
 refine⟨⟨λa b hab hb=>?_,λi hi x hx=>?_,λi hi=>?_,λa b hab hb=>?_⟩,a2W hH hs hj h1 h2⟩
 ·have g1:=h2 (j+a) Z Z;have g2:=hH.inc (j+a) (j+b) Z Z;show p (j+a)-k<p (j+b)-k;omega
 ·exact hH.low (j+i) Z (k+x) (by have:x<p (j+i)-k:=hx; omega)
 ·have g1:=h2 (j+i) Z Z;show 0<W (j+i) (k+(p (j+i)-k));rw[show k+(p (j+i)-k)=p (j+i)by omega];exact hH.pos (j+i) Z
 ·have g1:=h2 (j+b) Z Z;show 0<=W (j+a) (k+(p (j+b)-k))/\W (j+a) (k+(p (j+b)-k))<W (j+b) (k+(p (j+b)-k));rw[show k+(p (j+b)-k)=p (j+b)by omega];exact hH.red (j+a) (j+b) Z Z
theorem aQE {E T:Nat->Nat} (hk:k<1048576) (hn:n<1048576) (hkn:k+n<1048576) (h:fT o k n m A J M) (hw:Wd k n M) (hE:Big k n M (E 0)) (h1E:1<=E 0) (hb:Bds n (k+n) E T)
  (hK:∀ r K p,r<=n->Hn r K p->dS n k M r K->∃ E2 T2:Nat->Nat,Big r n K (E2 0)/\Bds r n E2 T2) :
  ∃ m' A' J' K p r,bZ () (m,(n:Int),()) A=some (m',A')/\fT k r n m' A' J' K/\r<=n/\Hn r K p/\dS n k M r K/\Wd r n K:=by
 have hl:=aPU hk hn hkn h;have hL:fT 0 n (k+n) ((List.range n).map λc=>(A.length+c,0,k+n)) (A++(List.range n).map λc=>Zr (k+n) (wide n k M c)) (λc=>A.length+c) (wide n k M) :=
  ⟨rfl,λi hi=>⟨[],rfl,by
   rw[List.getElem?_append_right Z,show A.length+i-A.length=i by omega,List.getElem?_map,List.getElem?_range hi];rfl⟩,λi j _ _ e=>by omega⟩
 obtain⟨m1,A1,J1,W,d,p,g1,g2,g3,g4,g5,g6,g7⟩:=aBX hn hkn hL hw.wide (hE.wide h1E) hb;obtain⟨j,b1,b2,b3⟩:=Hn.split g4 k;have hL2:=g3.take g2;have hwd:Wd d (k+n) W:=λi hi x hx=>g6 i Z x hx
 have hbl:=aBD hkn Z hL2 g4 hwd b1 b2 b3;obtain⟨c1,c2⟩:=NQ g4 g5 b1 b2 b3;have hL3:=hL2.behind b1;have hwK:Wd (d-j) n (λi y=>W (j+i) (k+y)):=λi hi x hx=>hwd (j+i) Z (k+x) Z
 obtain⟨E2,T2,k1,k2⟩:=hK _ _ _ Z c1 c2;obtain⟨m2,A2,J2,K,r,p2,f1,f2,f3,f4,f5,f6,f7⟩:=aBX (show d-j<1048576 by omega) hn hL3 hwK k1 k2;rw[Nat.zero_add]at f3;refine⟨m2.take r,A2,J2,K,p2,r,?_,f3.take f2,by omega,f4,?_,λi hi x hx=>f6 i Z x hx⟩
 ·have e1:aC .i64 ((k:Int)+(n:Int))=((k+n:Nat):Int):=by rw[wrap64 Z Z]; omega
  have hml:=h.len;simp only[bZ,hl,aD,hml,e1,g1,dB,hbl,f1]
 ·intro y;rw[<- f5 y];exact c2 y
end
end Go.PM
