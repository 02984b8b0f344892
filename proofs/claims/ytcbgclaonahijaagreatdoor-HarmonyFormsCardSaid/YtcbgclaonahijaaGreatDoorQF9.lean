/- Texts of one proof, joined (9). -/
import Derived.Lib.AtoiAllCases
import Derived.Test.YtcbgclaonahijaaGreatDoorQF8
set_option linter.unusedSimpArgs false
set_option linter.unusedVariables false
set_option linter.defProp false
set_option maxRecDepth 100000
noncomputable section
namespace Go.PM
open Go Go.RowKit Go.Proofs Go.De
def aJS a b:Lib.nDigits (a+b)<=max (Lib.nDigits a) (Lib.nDigits b)+1:=by
 have f:=pD a;have d:=pD b;have e:10^Lib.nDigits a<=10^max (Lib.nDigits a) (Lib.nDigits b):=Nat.pow_le_pow_right R Z;have c:10^Lib.nDigits b<=10^max (Lib.nDigits a) (Lib.nDigits b):=Nat.pow_le_pow_right R Z;refine xL ?_;grind
def a0E a b:Lib.nDigits (a*b)<=Lib.nDigits a+Lib.nDigits b:=by
 have d:=nDigits_pos a;obtain⟨k,c⟩:∃ k,Lib.nDigits a+Lib.nDigits b=k+1:=⟨Lib.nDigits a+Lib.nDigits b-1,by omega⟩;rw[c];refine xL ?_;rw[<- c,Nat.pow_add];exact Nat.mul_lt_mul'' (pD a) (pD b)
def a02 {a b}(h:18<Lib.nDigits a\/18<Lib.nDigits b):A6 (Dn a,Dn b,())=some (0,0,false,()):=by
 unfold A6;simp only[R2,aF];grind
def aW7 {u}(hu:Lib.nDigits u<=1000000):(pcs u).length<=111112:=by
 have:=aWY hu;omega
def bK4 u:vl (pcs u++[0])=u:=by rw[VQ,(kL u).2.2]; rfl
def bLH u:Pc (pcs u++[0]):=(kL u).1.append (λx a=>by grind)
def bUN u k:vl (pcs u++List.replicate k 0)=u:=by rw[VQ,(kL u).2.2,aPT]; rfl
def bWO u k:Pc (pcs u++List.replicate k 0):=(kL u).1.append (Pc.rep k)
def bUQ {a b k:Nat} (h:(pcs b).length+k=(pcs a).length) (j:(pcs a).length<=1048576) :
  ∃ l,aBW (t:=.int .u64) dT (pcs a++[0]) (pcs b++List.replicate k 0,0,())=some l/\l.length<=1048577/\MH l=pcs (a+b):=by
 have d:=bWO b k;have hp:=bLH a;have c:(pcs b++List.replicate k (0:Int)).length=(pcs a).length:=by simp; omega
 have f:(pcs a++[(0:Int)]).length=(pcs a).length+1:=R;have be:=back_eq (at':=0) hp d Z Z;have bi:=bkI hp d (at':=0) Z ((pcs b++List.replicate k 0).length+1) (oM _);refine⟨_,be,by rw[bi.len]; omega,VX bi.pc ?_⟩;have e:=bi.val;rw[List.take_of_length_le Z,bK4,bUN,c,bEP,Int.one_mul]at e;have hn:=aCL bi.pc;have n0:=zU bi.pc;have m:=a9S a;have n:=a9S b;have g:1000000000^(pcs b).length<=1000000000^(pcs a).length:=Nat.pow_le_pow_right O Z;have i:pw (0+((pcs a).length+1))=1000000000*((1000000000^(pcs a).length:Nat):Int):=(by rw[Nat.zero_add,WZ,bTK]);rw[c]at n0 hn ⊢;rcases bi.ca with hc|hc;grind;grind
def aEV a b (G:Lib.nDigits a<=900000)(F:Lib.nDigits b<=900000):gM (Dn a,Dn b,())=some (Dn (a+b),()):=by
 by_cases f:Lib.nDigits a<=18/\Lib.nDigits b<=18;exact bIO a b f.1 f.2
 ·have c:=a02 (a:=a) (b:=b) Z;have i:=aTB a Z [];have p:=aTB b Z [];have la:=aW7 (u:=a) Z;have E:=aW7 (u:=b) Z;have e:=aJS a b;have j:=aZP (a+b) Z;have long:∀ x y:Nat,(pcs y).length<=(pcs x).length->(pcs x).length<=111112->x+y=a+b->(bif Nat.ble [0].length 1048576 then bif Nat.ble (pcs x).length 1048576 then bif !(ltI (aA .i64 ((aA .i64 (((pcs x++[0]).length:Int)-1))-((pcs y).length:Int))) 0) then bif !(ltI 1048576 (aA .i64 ((aA .i64 (((pcs x++[0]).length:Int)-1))-((pcs y).length:Int)))) then bif Nat.ble (pcs y).length 1048576 then aB (aBW (t:=(.int .u64)) dT (pcs x++[0]) ((pcs y++List.replicate (aA .i64 ((aA .i64 (((pcs x++[0]).length:Int)-1))-((pcs y).length:Int))).toNat (0:Ty.den (.int .u64))),0,())) λz =>
    aB (bU z (()) []) λA =>
    aB (dK (A.1,())) λd =>
    some (d.1,()) else none else none else none else none else none)=some (Dn (a+b),()):=by
   intro x y B D q;obtain⟨k,w⟩:∃ k,(pcs y).length+k=(pcs x).length:=⟨(pcs x).length-(pcs y).length,by omega⟩;have⟨l,n,C,g⟩:=bUQ w Z;have s:((pcs x++[0]).length:Int)=((pcs x).length:Int)+1:=R
   have r:aA .i64 (aA .i64 (((pcs x).length:Int)+1-1)-((pcs y).length:Int))=(k:Int):=by rw[wrap64 (x:=((pcs x).length:Int)+1-1) Z Z,wrap64 Z Z]; omega
   have h:ltI (k:Int) 0=false:=zf
   have v:ltI 1048576 (k:Int)=false:=zf
   have o:Nat.ble (pcs x).length 1048576=true:=zm
   have m:Nat.ble (pcs y).length 1048576=true:=zm
   rw[q]at g;rw[s,r,h,v,o,m,oN];rw[n,aC,aOL Z,g,aC];show (aB (dK (pcs (a+b),())) _)=_;rw[j,aC]
  unfold gM;simp only[c,i,p,aF (((pcs a).length:Nat):Int) ((pcs b).length:Int),zz];grind
def bT5 {a b k}(j:b<=a)(h:(pcs b).length+k=(pcs a).length)(p:(pcs a).length<=1048576) :
  ∃ c l,aU7 (t:=.int .u64) fK (pcs a++[0]) (pcs b++List.replicate k 0,1,0,())=some (c,l)/\l.length<=1048577/\MH l=pcs (a-b):=by
 have i:=bWO b k;have hp:=bLH a;have f:(pcs b++List.replicate k (0:Int)).length=(pcs a).length:=by simp; omega
 have g:(pcs a++[(0:Int)]).length=(pcs a).length+1:=R;have o:=bQI (n:=1) (at':=0) hp i Z Z Z;have d:=tkI hp i (n:=1) (at':=0) Z Z ((pcs b++List.replicate k 0).length+1) (oM _);refine⟨_,_,o,by rw[d.len]; omega,VX d.pc ?_⟩;have m:=d.val;have e:=d.fin Z;rw[List.take_of_length_le Z,bK4,bUN,e,Int.add_zero,f,bEP]at m;have hn:=aCL d.pc;rw[d.len,g]at hn;have n0:=zU d.pc;rw[f]at n0 hn ⊢;rcases d.bo with hc|hc;grind;grind
def RY a b (A:Lib.nDigits a<=900000)(z:Lib.nDigits b<=900000)(h:b<=a):dM (Dn a,Dn b,())=some (Dn (a-b),0,()):=by
 by_cases g:Lib.nDigits a<=18/\Lib.nDigits b<=18;exact bK9 a b g.1 g.2 h
 ·have d:=a02 (a:=a) (b:=b) Z;have o:=aTB a Z [];have m:=aTB b Z [];have la:=aW7 (u:=a) Z;have hd:=vC (show a-b<=a by omega);have q:=aZP (a-b) Z;have f:=aM5 h;have e:ltI (aUL a b) 0=false:=(by rw[aF]; unfold aUL;grind);obtain⟨k,p⟩:∃ k,(pcs b).length+k=(pcs a).length:=⟨(pcs a).length-(pcs b).length,by omega⟩;have⟨c,l,s,y,j⟩:=bT5 h p Z;have w:((pcs a++[0]).length:Int)=((pcs a).length:Int)+1:=R
  have v:aA .i64 (aA .i64 (((pcs a).length:Int)+1-1)-((pcs b).length:Int))=(k:Int):=by rw[wrap64 (x:=((pcs a).length:Int)+1-1) Z Z,wrap64 Z Z]; omega
  have n:ltI (k:Int) 0=false:=zf
  have i:ltI 1048576 (k:Int)=false:=zf
  have t:Nat.ble (pcs a).length 1048576=true:=zm
  have r:Nat.ble (pcs b).length 1048576=true:=zm
  unfold dM;simp only[HP a b Z Z,e,d,o,m,zz];rw[w,v,n,i,t,r,oN];rw[s,aC];show (aB (bU l () []) _)=_;rw[aOL Z,j,aC];rw[q,aC]
def bEV a b (h:Lib.nDigits a+Lib.nDigits b<=900000):gO (Dn a,Dn b,())=some (Dn (a*b),()):=by
 by_cases g:Lib.nDigits a+Lib.nDigits b<=18;exact bIX a b g
 ·have e:=aTB a Z [];have c:=aTB b Z [];have la:=aW7 (u:=a) Z;have k:=aW7 (u:=b) Z;have hm:=a0E a b;have f:=aZP (a*b) Z;have j:=bIL a b Z [];have i:aA .i64 ((Lib.nDigits a:Int)+(Lib.nDigits b:Int))=(Lib.nDigits a:Int)+(Lib.nDigits b:Int):=wrap64 Z Z;have d:ltI 18 ((Lib.nDigits a)+(Lib.nDigits b:Int))=true:=by rw[aF]; grind
  unfold gO;simp only[R2,i,d,e,c,j,f,zz]
def a5Q a b (A:Lib.nDigits a<=900000)(y:Lib.nDigits b<=900000)(h:b≠0):u7 (Dn a,Dn b,())=some (Dn (a/b),Dn (a%b),0,()):=by
 by_cases i:Lib.nDigits a<=18/\Lib.nDigits b<=18;exact a7F a b i.1 i.2 h
 ·have e:=a02 (a:=a) (b:=b) Z;have k:=aTB a Z [];have q:=aTB b Z [];have la:=aW7 (u:=a) Z;have x:=aW7 (u:=b) Z;have p:=bNS a b Z Z;have w:=vC (Nat.div_le_self a b);have C:=vC (Nat.mod_le a b);have j:=aZP (a/b) Z;have r:=aZP (a%b) Z;have g:eqS (Dn b) (ByteArray.mk #[48])=false:=by rw[a6N]; exact oF h
  unfold u7;simp only[g,e,k,q,p,zz];by_cases c:a<b;rw[if_pos c];have:ltI (-1) 0=true:=rfl;rw[this,Nat.div_eq_of_lt c,Nat.mod_eq_of_lt c,<- b03];rfl
  ·rw[if_neg c];have s:ltI (if b<a then (1:Int) else 0) 0=false:=by
    rw[aF]; refine oF ?_;grind
   rw[s,oD];by_cases l:(pcs b).length=1
   ·have f:b<1000000000:=by have:=a9S b; rw[l]at this; simpa using this
    have d:eqI ((pcs b).length:Int) 1=true:=zg
    have v:aE 0 (pcs b).length=true:=zi
    have o:Nat.blt 0 (pcs b).length=true:=zk
    have m:(pcs b).getD 0 0=(b:Int):=by rw[bAV]; simp; omega
    have sm:=bJR a (n:=b) ⟨by omega,f⟩ Z [];have B:a%b<b:=Nat.mod_lt _ Z;rw[d,v,o,m];rw[sm,aC];rw[j,aC];show (aB (EF (((a%b:Nat):Int),())) _)=_;rw[aAE _ Z,aC]
   ·have z:0<(pcs b).length:=by rw[aYW h]; simp
    have d:eqI ((pcs b).length:Int) 1=false:=zh
    have t:=bQQ a b Z Z Z [];rw[d];rw[t,aC];rw[j,aC];show (aB (dK (pcs (a%b),())) _)=_;rw[r,aC]
def a73(x y:Int) (h:Lib.nDigits x.natAbs<=400000) (f:Lib.nDigits y.natAbs<=400000):aIG (Zn x,Zn y,())=some (Zn (x+y),()):=by
 have d:(aB (dE (Zn x,())) λy4=>aB (dE (Zn y,())) λc =>
   bif y4.1 then
    bif c.1 then
     aB (gM (y4.2.1,c.2.1,())) λy6 =>
     aB (aD (y4.1,y6.1,())) λw =>
     some (w.1,())
    else aB (iF (y4.2.1,c.2.1,())) λA =>
    bif ltI A.1 0 then
     aB (dM (c.2.1,y4.2.1,())) λB =>
     aB (aD (c.1,B.1,())) λs =>
     some (s.1,())
    else aB (dM (y4.2.1,c.2.1,())) λt =>
    aB (aD (y4.1,t.1,())) λp =>
    some (p.1,())
   else bif c.1 then
    aB (iF (y4.2.1,c.2.1,())) λq =>
    bif ltI q.1 0 then
     aB (dM (c.2.1,y4.2.1,())) λj =>
     aB (aD (c.1,j.1,())) λn =>
     some (n.1,())
    else aB (dM (y4.2.1,c.2.1,())) λo =>
    aB (aD (y4.1,o.1,())) λl =>
    some (l.1,())
   else aB (gM (y4.2.1,c.2.1,())) λm =>
   aB (aD (y4.1,m.1,())) λr =>
   some (r.1,()))=some (Zn (x+y),()):=by
  simp only[D7 x,D7 y,aC];have dg:∀ u:Nat,u<=x.natAbs+y.natAbs->Lib.nDigits u<2^32:=λu hu=>by
   have v:=vC hu;have z:=aJS x.natAbs y.natAbs;omega
  have cm:∀ a b:Nat,ltI (aUL a b) 0=decide (a<b):=λa b=>by
   rw[aF]; unfold aUL;grind
  rcases(by omega:x<0\/0<=x)with gx|gx
  ·rcases(by omega:y<0\/0<=y)with gy|gy
   ·simp only[gx,gy,decide_true,aEV _ _ (oR h O) (oR f O),vP (x.natAbs+y.natAbs) (dg _ Z),zz];grind
   ·have e:¬ y<0:=Z
    simp only[gx,e,decide_true,decide_false,HP x.natAbs y.natAbs Z Z,cm,zz]
    by_cases g:x.natAbs<y.natAbs
    ·simp only[g,decide_true,RY _ _ (oR f O) (oR h O) (Nat.le_of_lt g),BE (y.natAbs-x.natAbs) (dg _ Z),zz];have:((y.natAbs-x.natAbs:Nat):Int)=x+y:=Z
     rw[this]
    ·simp only[g,decide_false,RY _ _ (oR h O) (oR f O) (Nat.not_lt.1 g),vP (x.natAbs-y.natAbs) (dg _ Z),zz];have : -((x.natAbs-y.natAbs:Nat):Int)=x+y:=Z
     rw[this]
  ·have i:¬ x<0:=Z
   rcases(by omega:y<0\/0<=y)with gy|gy
   ·simp only[i,gy,decide_true,decide_false,HP x.natAbs y.natAbs Z Z,cm,zz]
    by_cases g:x.natAbs<y.natAbs
    ·simp only[g,decide_true,RY _ _ (oR f O) (oR h O) (Nat.le_of_lt g),vP (y.natAbs-x.natAbs) (dg _ Z),zz];have : -((y.natAbs-x.natAbs:Nat):Int)=x+y:=Z
     rw[this]
    ·simp only[g,decide_false,RY _ _ (oR h O) (oR f O) (Nat.not_lt.1 g),BE (x.natAbs-y.natAbs) (dg _ Z),zz];have:((x.natAbs-y.natAbs:Nat):Int)=x+y:=Z
     rw[this]
   ·have e:¬ y<0:=Z
    simp only[i,e,decide_false,aEV _ _ (oR h O) (oR f O),BE (x.natAbs+y.natAbs) (dg _ Z),zz];have:((x.natAbs+y.natAbs:Nat):Int)=x+y:=Z
    rw[this]
 unfold aIG;simp only[R9 x 18 O,R9 y 18 O,aC];by_cases g1:((Zn x).size:Int)<=18;simp only[g1,if_true,zz];by_cases g2:((Zn y).size:Int)<=18;have v:=a3U (ZY (k:=18) g1);have z:=a3U (ZY (k:=18) g2);simp only[g2,if_true,zz];rw[wrap64 Z Z,FC _ Z Z];rfl;simp only[g2,if_false,zz];exact d;simp only[g1,if_false,zz];exact d
def a94 x y (a:Lib.nDigits x.natAbs<=400000)(b:Lib.nDigits y.natAbs<=400000):aGT (Zn x,Zn y,())=some (Zn (x-y),()):=by
 unfold aGT;simp only[bB9 y Z,aC];rw[a73 x (-y) a W];rfl
def aWN(x y:Int) (h:Lib.nDigits x.natAbs+Lib.nDigits y.natAbs<=400000):ZN (Zn x,Zn y,())=some (Zn (x*y),()):=by
 have t:(x*y).natAbs=x.natAbs*y.natAbs:=Int.natAbs_mul _ _;have c:(aB (dE ((Zn x),())) λb =>
  aB (dE ((Zn y),())) λa =>
  bif b.1 then
   bif a.1 then
    aB (gO (b.2.1,a.2.1,())) λi =>
    aB (aD (false,i.1,())) λf =>
    some (f.1,())
   else aB (gO (b.2.1,a.2.1,())) λg =>
   aB (aD (true,g.1,())) λn =>
   some (n.1,())
  else bif a.1 then
   aB (gO (b.2.1,a.2.1,())) λl =>
   aB (aD (true,l.1,())) λm =>
   some (m.1,())
  else aB (gO (b.2.1,a.2.1,())) λo =>
  aB (aD (false,o.1,())) λj =>
  some (j.1,()))=some (Zn (x*y),()):=by
  have dg:Lib.nDigits (x.natAbs*y.natAbs)<2^32:=by
   have:=a0E x.natAbs y.natAbs;omega
  have r:=bEV _ _ (oR h O);simp only[D7 x,D7 y,aC,r];rcases(by omega:x<0\/0<=x)with gx|gx
  ·rcases(by omega:y<0\/0<=y)with gy|gy
   ·have:((x.natAbs*y.natAbs:Nat):Int)=x*y:=by
     grind
    simp only[gx,gy,decide_true,BE _ dg,this,zz]
   ·have d:¬ y<0:=Z
    have : -((x.natAbs*y.natAbs:Nat):Int)=x*y:=W
    simp only[gx,d,decide_true,decide_false,vP _ dg,this,zz]
  ·have e:¬ x<0:=Z
   rcases(by omega:y<0\/0<=y)with gy|gy
   ·have : -((x.natAbs*y.natAbs:Nat):Int)=x*y:=by
     grind
    simp only[e,gy,decide_true,decide_false,vP _ dg,this,zz]
   ·have d:¬ y<0:=Z
    have:((x.natAbs*y.natAbs:Nat):Int)=x*y:=W
    simp only[e,d,decide_false,BE _ dg,this,zz]
 unfold ZN;simp only[R9 x 9 O,R9 y 9 O,aC];by_cases g1:((Zn x).size:Int)<=9;simp only[g1,if_true,zz];by_cases g2:((Zn y).size:Int)<=9;have q:=pD x.natAbs;have s:=pD y.natAbs;have v:=ZY (k:=9) g1;have w:=ZY (k:=9) g2;have A:x.natAbs*y.natAbs<1000000000000000000:=(by have p:x.natAbs*y.natAbs<10^Lib.nDigits x.natAbs*10^Lib.nDigits y.natAbs:=Nat.mul_lt_mul'' q s;rw[<- Nat.pow_add]at p;have u:10^(Lib.nDigits x.natAbs+Lib.nDigits y.natAbs)<=10^18:=Nat.pow_le_pow_right O Z;have z:(10:Nat)^18=1000000000000000000:=O;omega);simp only[g2,if_true,zz];rw[wrap64 Z Z,FC _ Z Z];rfl;simp only[g2,if_false,zz];exact c;simp only[g1,if_false,zz];exact c
def aK0(x y:Int) (hx:Lib.nDigits x.natAbs<=400000) (hy:Lib.nDigits y.natAbs<=400000) (l:y≠0):OP (Zn x,Zn y,())=some (Zn (x.fdiv y),Zn (x.fmod y),0,()):=by
 have w:(aB (dE ((Zn x),())) λi =>
  aB (dE ((Zn y),())) λb =>
  aB (u7 (i.2.1,b.2.1,())) λc =>
  bif !(eqI c.2.2.1 0) then
   some ((ByteArray.mk #[]),(ByteArray.mk #[]),c.2.2.1,())
  else bif i.1 then
   bif b.1 then
    bif i.1 then
     bif b.1 then
      aB (aD (false,c.1,())) λy71 =>
      aB (aD (b.1,c.2.1,())) λy72 =>
      some (y71.1,y72.1,0,())
     else aB (aD (true,c.1,())) λy73 =>
     aB (aD (b.1,c.2.1,())) λy74 =>
     some (y73.1,y74.1,0,())
    else bif b.1 then
     aB (aD (true,c.1,())) λy75 =>
     aB (aD (b.1,c.2.1,())) λy76 =>
     some (y75.1,y76.1,0,())
    else aB (aD (false,c.1,())) λy77 =>
    aB (aD (b.1,c.2.1,())) λZ =>
    some (y77.1,Z.1,0,())
   else bif !(eqS c.2.1 (ByteArray.mk #[48])) then
    aB (gM (c.1,(ByteArray.mk #[49]),())) λt =>
    aB (dM (b.2.1,c.2.1,())) λo =>
    bif i.1 then
     bif b.1 then
      aB (aD (false,t.1,())) λy81 =>
      aB (aD (b.1,o.1,())) λy82 =>
      some (y81.1,y82.1,0,())
     else aB (aD (true,t.1,())) λy83 =>
     aB (aD (b.1,o.1,())) λy84 =>
     some (y83.1,y84.1,0,())
    else bif b.1 then
     aB (aD (true,t.1,())) λy85 =>
     aB (aD (b.1,o.1,())) λy86 =>
     some (y85.1,y86.1,0,())
    else aB (aD (false,t.1,())) λy87 =>
    aB (aD (b.1,o.1,())) λy88 =>
    some (y87.1,y88.1,0,())
   else bif i.1 then
    bif b.1 then
     aB (aD (false,c.1,())) λy89 =>
     aB (aD (b.1,c.2.1,())) λy90 =>
     some (y89.1,y90.1,0,())
    else aB (aD (true,c.1,())) λy91 =>
    aB (aD (b.1,c.2.1,())) λy92 =>
    some (y91.1,y92.1,0,())
   else bif b.1 then
    aB (aD (true,c.1,())) λy93 =>
    aB (aD (b.1,c.2.1,())) λy94 =>
    some (y93.1,y94.1,0,())
   else aB (aD (false,c.1,())) λy95 =>
   aB (aD (b.1,c.2.1,())) λy96 =>
   some (y95.1,y96.1,0,())
  else bif b.1 then
   bif !(eqS c.2.1 (ByteArray.mk #[48])) then
    aB (gM (c.1,(ByteArray.mk #[49]),())) λs =>
    aB (dM (b.2.1,c.2.1,())) λv =>
    bif i.1 then
     bif b.1 then
      aB (aD (false,s.1,())) λy99 =>
      aB (aD (b.1,v.1,())) λX =>
      some (y99.1,X.1,0,())
     else aB (aD (true,s.1,())) λU =>
     aB (aD (b.1,v.1,())) λI =>
     some (U.1,I.1,0,())
    else bif b.1 then
     aB (aD (true,s.1,())) λD =>
     aB (aD (b.1,v.1,())) λN =>
     some (D.1,N.1,0,())
    else aB (aD (false,s.1,())) λJ =>
    aB (aD (b.1,v.1,())) λC =>
    some (J.1,C.1,0,())
   else bif i.1 then
    bif b.1 then
     aB (aD (false,c.1,())) λP =>
     aB (aD (b.1,c.2.1,())) λA =>
     some (P.1,A.1,0,())
    else aB (aD (true,c.1,())) λO =>
    aB (aD (b.1,c.2.1,())) λG =>
    some (O.1,G.1,0,())
   else bif b.1 then
    aB (aD (true,c.1,())) λR =>
    aB (aD (b.1,c.2.1,())) λH =>
    some (R.1,H.1,0,())
   else aB (aD (false,c.1,())) λT =>
   aB (aD (b.1,c.2.1,())) λM =>
   some (T.1,M.1,0,())
  else bif i.1 then
   bif b.1 then
    aB (aD (false,c.1,())) λF =>
    aB (aD (b.1,c.2.1,())) λK =>
    some (F.1,K.1,0,())
   else aB (aD (true,c.1,())) λL =>
   aB (aD (b.1,c.2.1,())) λQ =>
   some (L.1,Q.1,0,())
  else bif b.1 then
   aB (aD (true,c.1,())) λS =>
   aB (aD (b.1,c.2.1,())) λB =>
   some (S.1,B.1,0,())
  else aB (aD (false,c.1,())) λW =>
  aB (aD (b.1,c.2.1,())) λE =>
  some (W.1,E.1,0,()))=some (Zn (x.fdiv y),Zn (x.fmod y),0,()):=by
  have dm:=a5Q _ _ (oR hx zZ) (oR hy zZ) (show y.natAbs≠0 by omega);have ed:x.natAbs=y.natAbs*(x.natAbs/y.natAbs)+x.natAbs%y.natAbs:=(Nat.div_add_mod _ _).symm;have lm:x.natAbs%y.natAbs<y.natAbs:=Nat.mod_lt _ zN;have lq:x.natAbs/y.natAbs<=x.natAbs:=Nat.div_le_self _ _;have e00:eqI 0 0=true:=zZ
  simp only[D7 x,D7 y,dm,e00,a6N,b3S,zz];generalize x.natAbs/y.natAbs=q at *;generalize x.natAbs%y.natAbs=r at *;have dg:∀ u:Nat,u<=x.natAbs+y.natAbs+1->Lib.nDigits u<2^32:=λu hu=>by
   have h1:=vC hu;have h2:=aJS x.natAbs y.natAbs;have h3:=aJS (x.natAbs+y.natAbs) 1;have h4:Lib.nDigits 1=1:=Lib.nDigits_small zZ;omega
  have d18:∀ u:Nat,u<=x.natAbs\/u<=y.natAbs->Lib.nDigits u<=900000:=λu hu=>by
   rcases hu with h|h
   ·have:=vC h; omega
   ·have:=vC h; omega
  have j:(x.natAbs:Int)=(y.natAbs:Int)*(q:Int)+(r:Int):=by rw[ed]; simp
  rcases(by omega:x<0\/0<=x)with gx|gx
  ·rcases(by omega:y<0\/0<=y)with gy|gy
   ·simp only[gx,gy,decide_true,BE q (dg _ zN),vP r (dg _ zN),zz];have ex:x=y*(q:Int) + -(r:Int):=by
     have m:(x.natAbs:Int) = -x:=zN
     have a2:(y.natAbs:Int) = -y:=zN
     rw[m,a2]at j;grind
    have⟨d,e⟩:=xV ex zN zN l;rw[d,e]
   ·have p:¬ y<0:=zN
    by_cases n:r=0
    ·simp only[gx,p,n,decide_true,decide_false,vP q (dg _ zN),BE 0 (dg _ zN),zz];have ex:x=y * -(q:Int)+((0:Nat):Int):=by
      have m:(x.natAbs:Int) = -x:=zN
      have a2:(y.natAbs:Int)=y:=zN
      rw[m,a2,n]at j;grind
     have⟨d,e⟩:=xV ex zN zN l;rw[d,e]
    ·simp only[gx,p,n,decide_true,decide_false,aEV q 1 (d18 _ zN) (d18 _ zN),RY y.natAbs r (oR hy zZ) (d18 _ zN) (Nat.le_of_lt lm),vP (q+1) (dg _ zN),BE (y.natAbs-r) (dg _ zN),zz];have ex:x=y * -((q+1:Nat):Int)+((y.natAbs-r:Nat):Int):=by
      have m:(x.natAbs:Int) = -x:=zN
      have a2:(y.natAbs:Int)=y:=zN
      have a3:((y.natAbs-r:Nat):Int)=y-r:=zN
      have a4:((q+1:Nat):Int)=(q:Int)+1:=zN
      rw[m,a2]at j;rw[a3,a4];grind
     have⟨d,e⟩:=xV ex zN zN l;rw[d,e]
  ·have z:¬ x<0:=zN
   rcases(by omega:y<0\/0<=y)with gy|gy
   ·by_cases n:r=0
    ·simp only[z,gy,n,decide_true,decide_false,vP q (dg _ zN),vP 0 (dg _ zN),zz];have ex:x=y * -(q:Int) + -((0:Nat):Int):=by
      have m:(x.natAbs:Int)=x:=zN
      have a2:(y.natAbs:Int) = -y:=zN
      rw[m,a2,n]at j;grind
     have⟨d,e⟩:=xV ex zN zN l;rw[d,e]
    ·simp only[z,gy,n,decide_true,decide_false,aEV q 1 (d18 _ zN) (d18 _ zN),RY y.natAbs r (oR hy zZ) (d18 _ zN) (Nat.le_of_lt lm),vP (q+1) (dg _ zN),vP (y.natAbs-r) (dg _ zN),zz];have ex:x=y * -((q+1:Nat):Int) + -((y.natAbs-r:Nat):Int):=by
      have m:(x.natAbs:Int)=x:=zN
      have a2:(y.natAbs:Int) = -y:=zN
      have a3:((y.natAbs-r:Nat):Int) = -y-r:=zN
      have a4:((q+1:Nat):Int)=(q:Int)+1:=zN
      rw[m,a2]at j;rw[a3,a4];grind
     have⟨d,e⟩:=xV ex zN zN l;rw[d,e]
   ·have p:¬ y<0:=zN
    simp only[z,p,decide_true,decide_false,BE q (dg _ zN),BE r (dg _ zN),zz];have ex:x=y*(q:Int)+(r:Int):=by
     have m:(x.natAbs:Int)=x:=zN
     have a2:(y.natAbs:Int)=y:=zN
     rw[m,a2]at j;exact j
    have⟨d,e⟩:=xV ex zN zN l;rw[d,e]
 unfold OP;simp only[R9 x 18 zZ,R9 y 18 zZ,WS,l,decide_false,zz];by_cases g1:((Zn x).size:Int)<=18
 ·simp only[g1,if_true,zz];by_cases g2:((Zn y).size:Int)<=18
  ·have b1:=a3U (ZY (k:=18) g1);have b2:=a3U (ZY (k:=18) g2);simp only[g2,if_true,zz];have e1:eqI y 0=false:=by rw[bN]; simp[l]
   have t1:x=y*x.tdiv y+x.tmod y:=(Int.mul_tdiv_add_tmod x y).symm;have t2:(x.tmod y).natAbs<y.natAbs:=by rw[Int.natAbs_tmod]; exact Nat.mod_lt _ zN
   have t3:(x.tdiv y).natAbs<=x.natAbs:=by rw[Int.natAbs_tdiv]; exact Nat.div_le_self _ _
   have t4:0<=x->0<=x.tmod y:=λh=>Int.tmod_nonneg y h
   have t5:x<=0->x.tmod y<=0:=λh=>by
    have:=Int.tmod_nonneg (a:=-x) y zN;rw[Int.neg_tmod]at this;omega
   simp only[e1,oD,bN,aF];generalize x.tdiv y=q at *;generalize x.tmod y=r at *;by_cases n:r=0;have⟨d,e⟩:=xV (x:=x) (y:=y) (f:=q) (g:=r) t1 zN zN l;simp only[n,decide_true,zz];rw[wrap64 zN zN,FC _ zN zN,aC,FC _ zN zN,aC,d,e,n];simp only[n,decide_false,zz];by_cases Y:r<0;by_cases V:y<0;have⟨d,e⟩:=xV (x:=x) (y:=y) (f:=q) (g:=r) t1 zN zN l;simp only[Y,V,decide_true,oC];rw[wrap64 zN zN,FC _ zN zN,aC,FC _ zN zN,aC,d,e];have⟨d,e⟩:=xV (x:=x) (y:=y) (f:=q-1) (g:=r+y) zt zN zN l;simp only[Y,V,decide_true,decide_false,zz];rw[wrap64 (x:=q) zN zN,wrap64 zN zN,FC _ zN zN,aC,wrap64 zN zN,FC _ zN zN,aC,d,e];by_cases V:y<0;have⟨d,e⟩:=xV (x:=x) (y:=y) (f:=q-1) (g:=r+y) zt zN zN l;simp only[Y,V,decide_true,decide_false,zz];rw[wrap64 (x:=q) zN zN,wrap64 zN zN,FC _ zN zN,aC,wrap64 zN zN,FC _ zN zN,aC,d,e];have⟨d,e⟩:=xV (x:=x) (y:=y) (f:=q) (g:=r) t1 zN zN l;simp only[Y,V,decide_false,oD];rw[wrap64 zN zN,FC _ zN zN,aC,FC _ zN zN,aC,d,e]
  simp only[g2,if_false,zz];exact w
 simp only[g1,if_false,zz];exact w
end Go.PM
namespace Go.Lz
abbrev V:=Nat->Int
inductive Sp (k:Nat) (M:Nat->V):V->Prop
 | zero:Sp k M (λ_=>0)
 | add {v:V} (j:Nat) (t:Int):j<k->Sp k M v->Sp k M (λi=>v i+t*M j i)
def Sp.mem {k M j}(h:j<k):Sp k M (M j):=by
 have:=Sp.add j 1 h (Sp.zero (M:=M));grind
def Sp.comb {k M u v} t (hu:Sp k M u)(a:Sp k M v):Sp k M (λi=>u i+t*v i):=by
 induction a with
 | zero=>grind
 | add j s hj _ ih =>
  have:=Sp.add j (t*s) hj ih;grind
def Sp.smul {k M v} t (a:Sp k M v):Sp k M (λi=>t*v i):=by
 have:=Sp.comb t Sp.zero a;grind
def Sp.sub {k M u v}(hu:Sp k M u)(a:Sp k M v):Sp k M (λi=>u i-v i):=by
 have:=Sp.comb (-1) hu a;grind
def Sp.trans {k k' M M'}(h:∀ j,j<k->Sp k' M' (M j)){v}(a:Sp k M v):Sp k' M' v:=by
 induction a with
 | zero=>exact .zero;| add j t hj _ ih=>exact Sp.comb t ih (h j hj)
def Sp.aS8 {k M x}(h:∀ j,j<k->M j x=0){v}(a:Sp k M v):v x=0:=by
 induction a with
 | zero=>rfl;| add j t hj _ ih=>grind
def Same(k:Nat) (M:Nat->V) (k':Nat) (M':Nat->V):Prop:=∀ v,Sp k M v↔Sp k' M' v
def Same.refl k M:Same k M k M:=λ_=>Iff.rfl
def Same.symm {k k' M M'}(h:Same k M k' M'):Same k' M' k M:=λv=>(h v).symm
def Same.trans {k k' k'' M M' M''}(h:Same k M k' M')(g:Same k' M' k'' M''):Same k M k'' M'':=λv=>(h v).trans (g v)
def Same.of {k k' M M'}(h:∀ j,j<k->Sp k' M' (M j))(g:∀ j,j<k'->Sp k M (M' j)):Same k M k' M':=λ_=>⟨Sp.trans h,Sp.trans g⟩
def Same.congr {k M M'}(h:∀ j,j<k->M j=M' j):Same k M k M' :=Same.of (λj a=>by rw[h j a]; exact Sp.mem a) (λj a=>by rw[<- h j a]; exact Sp.mem a)
def Sp.first {k:Nat} {M:Nat->V} {v:V} (h:Sp (k+1) M v):∃ t u,Sp k (λi=>M (i+1)) u/\v=λi=>u i+t*M 0 i:=by
 induction h with
 | zero=>exact⟨0,λ_=>0,.zero,by funext i; simp⟩
 | add j s hj _ ih =>
  obtain⟨t,u,hu,rfl⟩:=ih;cases j with
  | zero=>exact⟨t+s,u,hu,by funext i; grind⟩
  | succ j=>exact⟨t,_,Sp.add j s Z hu,by funext i; grind⟩
def Sp.behind {k M u}(h:Sp k (λi=>M (i+1)) u):Sp (k+1) M u :=Sp.trans (λj a=>Sp.mem Z) h
structure Hn (k:Nat) (M:Nat->V) (c:Nat->Nat):Prop where
 inc:∀ i j,i<j->j<k->c i<c j
 low:∀ i,i<k->∀ x,x<c i->M i x=0
 pos:∀ i,i<k->0<M i (c i)
 red:∀ i j,i<j->j<k->0<=M i (c j)/\M i (c j)<M j (c j)
def Hn.tail {k M c}(h:Hn (k+1) M c):Hn k (λi=>M (i+1)) (λi=>c (i+1)) where
 inc:=λi j a b=>h.inc _ _ Z Z
 low:=λi hi=>h.low _ Z
 pos:=λi hi=>h.pos _ Z
 red:=λi j a b=>h.red _ _ Z Z
def Hn.a5D {k M c}(h:Hn (k+1) M c){u}(hu:Sp k (λi=>M (i+1)) u){x}(a:x<=c 0):u x=0 :=Sp.aS8 (λj b=>h.low (j+1) Z x (by have:=h.inc 0 (j+1) R Z; omega)) hu
def Hn.small:∀ {k:Nat} {M:Nat->V} {c:Nat->Nat},Hn k M c->∀ {v:V},Sp k M v->(∀ i,i<k->-(M i (c i))<v (c i)/\v (c i)<M i (c i))->v=λ_=>0
 | 0,M,c,h,v,hv,_=>by
  cases hv with
  | zero=>rfl
  | add j t hj _=>omega
 | k+1,M,c,h,v,hv,hs=>by
  obtain⟨t,u,hu,rfl⟩:=hv.first;have b:=h.a5D hu (Nat.le_refl _);have a:=hs 0 Z;simp only[b,Int.zero_add]at a;have ht:t=0:=by
   rcases Int.lt_trichotomy t 0 with h1|h1|h1
   ·have:t*M 0 (c 0)<=(-1)*M 0 (c 0):=Int.mul_le_mul_of_nonneg_right Z Z;omega
   ·exact h1
   ·have:1*M 0 (c 0)<=t*M 0 (c 0):=Int.mul_le_mul_of_nonneg_right Z Z;omega
  subst ht;have e:(λi=>u i+0*M 0 i)=u:=by funext i; simp
  rw[e]at hs ⊢;exact Hn.small h.tail hu λi hi=>hs (i+1) Z
def Hn.unique:∀ {k k':Nat} {M M':Nat->V} {c c':Nat->Nat},Hn k M c->Hn k' M' c'->Same k M k' M'->k=k'/\(∀ i,i<k->c i=c' i)/\∀ i,i<k->M i=M' i
 | 0,0,_,_,_,_,_,_,_=>⟨rfl,λi hi=>by omega,λi hi=>by omega⟩
 | 0,k'+1,M,M',c,c',h,h',e=>by
  have:=Hn.small h ((e _).2 (Sp.mem (M:=M') (Nat.succ_pos k'))) (λi hi=>by omega);have hp:=h'.pos 0 Z;grind
 | k+1,0,M,M',c,c',h,h',e=>by
  have:=Hn.small h' ((e _).1 (Sp.mem (M:=M) (Nat.succ_pos k))) (λi hi=>by omega);have hp:=h.pos 0 Z;grind
 | k+1,k'+1,M,M',c,c',h,h',e=>by
  have hp:=h.pos 0 Z;have g:=h'.pos 0 Z;have⟨t,u,hu,ht⟩:=Sp.first ((e _).1 (Sp.mem (M:=M) (Nat.succ_pos k)));have⟨n,D,d,f⟩:=Sp.first ((e _).2 (Sp.mem (M:=M') (Nat.succ_pos k')));have q:c 0=c' 0:=by
   rcases Nat.lt_trichotomy (c 0) (c' 0)with h1|h1|h1
   ·exfalso;have a:=congrFun ht (c 0);have a2:=h'.a5D hu (x:=c 0) Z;have a3:=h'.low 0 Z _ h1;grind
   ·exact h1
   ·exfalso;have a:=congrFun f (c' 0);have a2:=h.a5D d (x:=c' 0) Z;have a3:=h.low 0 Z _ h1;grind
  have B:M 0 (c 0)=t*M' 0 (c 0):=by
   have a:=congrFun ht (c 0);have a2:=h'.a5D hu (x:=c 0) Z;grind
  have y:M' 0 (c 0)=n*M 0 (c 0):=by
   have a:=congrFun f (c 0);have a2:=h.a5D d (x:=c 0) Z;grind
  rw[<- q]at g;have C:M 0 (c 0)=M' 0 (c 0):=Int.le_antisymm (Int.le_of_dvd g ⟨n,by rw[y]; exact Int.mul_comm _ _⟩) (Int.le_of_dvd hp ⟨t,by rw[B]; exact Int.mul_comm _ _⟩);have b:Same k (λi=>M (i+1)) k' (λi=>M' (i+1)):=by
   intro v;constructor
   ·intro j;obtain⟨s,w,hw,rfl⟩:=Sp.first ((e _).1 j.behind);have a:=h.a5D j (Nat.le_refl _);have a2:=h'.a5D hw (x:=c 0) Z;simp only[a2,Int.zero_add]at a;have:s=0:=by
     rcases Int.mul_eq_zero.1 a with h1|h1
     ·exact h1
     ·omega
    subst this;grind
   ·intro j;obtain⟨s,w,hw,rfl⟩:=Sp.first ((e _).2 j.behind);have a:=h'.a5D j (x:=c 0) Z;have a2:=h.a5D hw (x:=c 0) Z;simp only[a2,Int.zero_add]at a;have:s=0:=by
     rcases Int.mul_eq_zero.1 a with h1|h1
     ·exact h1
     ·omega
    subst this;have e:(λi=>w i+0*M 0 i)=w:=by funext i; simp
    rw[e]; exact hw
  have⟨A,l,p⟩:=Hn.unique h.tail h'.tail b;subst A;have hd:Sp k (λi=>M (i+1)) (λx=>M 0 x-M' 0 x):=by
   have⟨s,w,hw,m⟩:=Sp.first (Sp.sub (Sp.mem (M:=M) (Nat.succ_pos k)) ((e _).2 (Sp.mem (M:=M') (Nat.succ_pos k))));have a:=congrFun m (c 0);have a2:=h.a5D hw (Nat.le_refl _);simp only[a2,C,Int.zero_add,Int.sub_self]at a;have:s=0:=by
    rcases Int.mul_eq_zero.1 a.symm with h1|h1
    ·exact h1
    ·omega
   subst this;have e:(λi=>w i+0*M 0 i)=w:=by funext i; simp
   rw[m,e]; exact hw
  have hz:=Hn.small h.tail hd (λi hi=>by
   have E:=h.red 0 (i+1) Z Z;have o:=h'.red 0 (i+1) Z Z;have z:=l i hi;have r:=congrFun (p i hi) (c (i+1));rw[<- z]at o;rw[<- r]at o;constructor <;> omega)
  refine⟨rfl,λi hi=>?_,λi hi=>?_⟩
  ·cases i with
   | zero=>exact q
   | succ i=>exact l i Z
  ·cases i with
   | zero =>
    funext x
    have:=congrFun hz x;omega
   | succ i=>exact p i Z
def up(M:Nat->V) (i:Nat) (r:V):Nat->V:=λj=>if j=i then r else M j
def aKF M i r:up M i r i=r:=by simp[up]
def XK M {i j} r (h:j≠i):up M i r j=M j:=by simp[up,h]
def swp(M:Nat->V)(a b:Nat):Nat->V:=λj=>if j=a then M b else if j=b then M a else M j
def bT6 {k a b} M (d:a<k)(f:b<k):Same k M k (swp M a b):=by
 refine Same.of (λj e=>?_) (λj e=>?_);by_cases g:j=a;subst g;by_cases c:b=j;have:=Sp.mem (M:=swp M j b) d;simp only[swp,c]at this ⊢;exact this;have:=Sp.mem (M:=swp M j b) f;simp only[swp,c]at this ⊢;exact this;by_cases c:j=b;subst c;have:=Sp.mem (M:=swp M a j) d;simp only[swp]at this ⊢;grind;have:=Sp.mem (M:=swp M a b) e;simp only[swp]at this ⊢;grind;unfold swp;split;exact Sp.mem f;split;exact Sp.mem d;exact Sp.mem e
def bDY {k i d} M q (hi:i<k)(hd:d<k)(b:i≠d):Same k M k (up M i λx=>M i x-q*M d x):=by
 refine Same.of (λj a=>?_) (λj a=>?_);by_cases h:j=i;subst h;have e:=Sp.mem (M:=up M j λx=>M j x-q*M d x) a;have c:=Sp.mem (M:=up M j λx=>M j x-q*M d x) hd;rw[aKF]at e;rw[XK _ _ (Ne.symm b)]at c;have:=Sp.comb q e c;grind;have:=Sp.mem (M:=up M i λx=>M i x-q*M d x) a;rwa[XK _ _ h]at this;by_cases h:j=i;subst h;rw[aKF];have:=Sp.comb (-q) (Sp.mem a) (Sp.mem (M:=M) hd);grind;rw[XK _ _ h]; exact Sp.mem a
def bVI {k i} M (hi:i<k):Same k M k (up M i λx=>-(M i x)):=by
 refine Same.of (λj a=>?_) (λj a=>?_);by_cases h:j=i;subst h;have b:=Sp.mem (M:=up M j λx=>-(M j x)) a;rw[aKF]at b;have:=Sp.smul (-1) b;grind;have:=Sp.mem (M:=up M i λx=>-(M i x)) a;rwa[XK _ _ h]at this;by_cases h:j=i;subst h;rw[aKF];have:=Sp.smul (-1) (Sp.mem (M:=M) a);grind;rw[XK _ _ h]; exact Sp.mem a
def bVL {k d:Nat} (M:Nat->V) (hd:d<=k) (h:∀ i,d<=i->i<k->M i=λ_=>0):Same k M d M:=by
 refine Same.of (λj a=>?_) (λj a=>Sp.mem Z);rcases Nat.lt_or_ge j d with h1|h1;exact Sp.mem h1;rw[h j h1 a]; exact .zero
structure Fo (k:Nat) (M0 M:Nat->V) (d c:Nat) (p:Nat->Nat):Prop where
 le:d<=k
 same:Same k M0 k M
 inc:∀ i j,i<j->j<d->p i<p j
 lt:∀ i,i<d->p i<c
 low:∀ i,i<d->∀ x,x<p i->M i x=0
 pos:∀ i,i<d->0<M i (p i)
 red:∀ i j,i<j->j<d->0<=M i (p j)/\M i (p j)<M j (p j)
 rest:∀ i,d<=i->i<k->∀ x,x<c->M i x=0
def Fo.start k M:Fo k M M 0 0 (λ_=>0) where
 le:=Nat.zero_le _
 same:=Same.refl _ _
 inc:=λi j _ h=>Z
 lt:=λi h=>Z
 low:=λi h=>R
 pos:=λi h=>Z
 red:=λi j _ h=>Z
 rest:=λi _ _ x h=>Z
section
variable {k d c:Nat} {M0 M:Nat->V} {p:Nat->Nat}
def Fo.aXW (h:Fo k M0 M d c p) {M':Nat->V} (g:Same k M k M') (a:∀ i,i<d->M' i=M i) (f:∀ i,d<=i->i<k->∀ x,x<c->M' i x=0):Fo k M0 M' d c p where
 le:=h.le
 same:=h.same.trans g
 inc:=h.inc
 lt:=h.lt
 low:=λi hi=>by rw[a i hi]; exact h.low i hi
 pos:=λi hi=>by rw[a i hi]; exact h.pos i hi
 red:=λi j b e=>by rw[a i Z,a j e]; exact h.red i j b e
 rest:=f
def Fo.swap (h:Fo k M0 M d c p){a}(l:d<=a)(e:a<k):Fo k M0 (swp M d a) d c p:=by
 refine h.aXW (bT6 M Z e) (λi hi=>?_) (λi g j x b=>?_);have m:¬ i=d:=Z;have f:¬ i=a:=Z;simp only[swp,m,f,if_false];unfold swp;split;exact h.rest a l e x b;split;exact h.rest d (Nat.le_refl _) Z x b;exact h.rest i g j x b
def Fo.less (h:Fo k M0 M d c p){i} q (hi:d<i)(g:i<k):Fo k M0 (up M i λx=>M i x-q*M d x) d c p:=by
 refine h.aXW (bDY M q g Z Z) (λj l=>XK _ _ Z) (λj b f x a=>?_);by_cases e:j=i;subst e;rw[aKF,h.rest j b f x a,h.rest d (Nat.le_refl _) Z x a];simp;rw[XK _ _ e]; exact h.rest j b f x a
def Fo.neg (h:Fo k M0 M d c p)(g:d<k):Fo k M0 (up M d λx=>-(M d x)) d c p:=by
 refine h.aXW (bVI M g) (λj i=>XK _ _ Z) (λj b f x a=>?_);by_cases e:j=d;subst e;rw[aKF,h.rest j b f x a];rfl;rw[XK _ _ e]; exact h.rest j b f x a
def Fo.skip (h:Fo k M0 M d c p) (hz:∀ i,d<=i->i<k->M i c=0):Fo k M0 M d (c+1) p where
 le:=h.le
 same:=h.same
 inc:=h.inc
 lt:=λi hi=>by have:=h.lt i hi; omega
 low:=h.low
 pos:=h.pos
 red:=h.red
 rest:=λi b a x e=>by
  rcases Nat.lt_or_ge x c with h3|h3
  ·exact h.rest i b a x h3
  ·grind
structure Fp (k:Nat) (M0 M:Nat->V) (d c:Nat) (p:Nat->Nat) (m:Nat):Prop extends Fo k M0 M d c p where
 dk:d<k
 piv:0<M d c
 below:∀ i,d<i->i<k->M i c=0
 up:∀ i,i<m->0<=M i c/\M i c<M d c
def Fp.less {m}(h:Fp k M0 M d c p m)(hm:m<d):Fp k M0 (Lz.up M m λx=>M m x-(M m c).fdiv (M d c)*M d x) d c p (m+1):=by
 have n:∀ x,x<c->M d x=0:=h.rest d (Nat.le_refl _) h.dk;have f:∀ x,x<c->∀ i,Lz.up M m (λx=>M m x-(M m c).fdiv (M d c)*M d x) i x=M i x:=(by intro x b i;by_cases e:i=m;subst e;rw[aKF,n x b]; simp;rw[XK _ _ e]);have a:∀ i,i≠m->Lz.up M m (λx=>M m x-(M m c).fdiv (M d c)*M d x) i=M i:=λi e=>XK _ _ e;refine { le:=h.le,same:=h.same.trans (bDY M _ (by have:=h.le; omega) h.dk Z),inc:=h.inc,lt:=h.lt,low:=λi hi x b=>?_,pos:=λi hi=>?_,red:=λi j o q=>?_,rest:=λi g l x b=>?_,dk:=h.dk,piv:=?_,below:=λi g l=>?_,up:=λi hi=>?_ };rw[f x (by have:=h.lt i hi; omega)]; exact h.low i hi x b;rw[f _ (h.lt i hi)]; exact h.pos i hi;rw[f _ (h.lt j q),f _ (h.lt j q)]; exact h.red i j o q;rw[f x b]; exact h.rest i g l x b;rw[a d Z]; exact h.piv;rw[a i Z]; exact h.below i g l;rw[a d Z];by_cases e:i=m;subst e;rw[aKF];have g:=Int.fmod_def (M i c) (M d c);have l:=Int.fmod_nonneg_of_pos (M i c) h.piv;have r:=Int.fmod_lt_of_pos (M i c) h.piv;grind;rw[a i e]; exact h.up i Z
def Fp.done (h:Fp k M0 M d c p d):Fo k M0 M (d+1) (c+1) (λi=>if i=d then c else p i):=by
 have hp:∀ i,i<d->(if i=d then c else p i)=p i:=λi hi=>by rw[if_neg Z]
 refine { le:=h.dk,same:=h.same,inc:=λi j a g=>?_,lt:=λi hi=>?_,low:=λi hi x b=>?_,pos:=λi hi=>?_,red:=λi j a g=>?_,rest:=λi l f x b=>?_ };rw[hp i Z];by_cases e:j=d;subst e; rw[if_pos rfl]; exact h.lt i a;rw[if_neg e]; exact h.inc i j a Z;by_cases e:i=d;grind;rw[if_neg e]; have:=h.lt i Z; omega;by_cases e:i=d;subst e; rw[if_pos rfl]at b; exact h.rest i (Nat.le_refl _) h.dk x b;rw[if_neg e]at b; exact h.low i Z x b;by_cases e:i=d;subst e; rw[if_pos rfl]; exact h.piv;rw[if_neg e]; exact h.pos i Z;by_cases e:j=d;subst e; rw[if_pos rfl]; exact h.up i a;rw[if_neg e]; exact h.red i j a Z;rcases Nat.lt_or_ge x c with h3|h3;exact h.rest i Z f x h3;have:x=c:=Z;subst this;exact h.below i Z f
def Fo.hn (h:Fo k M0 M d c p) (hz:d=k\/∀ i,i<k->∀ x,c<=x->M i x=0):Hn d M p/\Same k M0 d M:=by
 refine⟨⟨h.inc,h.low,h.pos,h.red⟩,h.same.trans ?_⟩;rcases hz with rfl|hz;exact Same.refl _ _;refine bVL M h.le λi b a=>?_;funext x;rcases Nat.lt_or_ge x c with h3|h3;exact h.rest i b a x h3;grind
end
def dot:Nat->V->V->Int| 0,_,_=>0| n+1,a,b=>dot n a b+a n*b n
def TR a b:∀ n,dot n a b=dot n b a| 0=>rfl| n+1=>by rw[dot,dot,TR a b n,Int.mul_comm]
def aSM u v b t:∀ n,dot n (λi=>u i+t*v i) b=dot n u b+t*dot n v b
 | 0=>by simp[dot]
 | n+1=>by
  rw[dot,dot,dot,aSM u v b t n];grind
def aZI b:∀ n,dot n (λ_=>0) b=0| 0=>rfl| n+1=>by rw[dot,aZI b n]; simp
def Ker(n m:Nat) (A:Nat->V) (y:V):Prop:=(∀ c,n<=c->y c=0)/\∀ x,x<m->dot n y (A x)=0
def Ker.span {n m A y}(h:Ker n m A y){v}(a:Sp m A v):dot n y v=0:=by
 induction a with
 | zero=>rw[TR]; exact aZI _ _;| add j t hj _ ih=>rw[TR,aSM,TR _ y,ih,TR _ y,h.2 j hj]; simp
def Ker.bPW {n m A y}(d:∀ c,n<=c->y c=0)(b:∀ v,Sp m A v->dot n y v=0):Ker n m A y:=⟨d,λx a=>b _ (Sp.mem a)⟩
def Ker.same {n m m' A A'}(h:Same m A m' A'){y}:Ker n m A y↔Ker n m' A' y :=⟨λg=>.bPW g.1 λv a=>g.span ((h v).2 a),λg=>.bPW g.1 λv a=>g.span ((h v).1 a)⟩
def I0(n m:Nat) (A:Nat->V) (k:Nat) (K:Nat->V):Prop:=∀ y,Sp k K y↔Ker n m A y
def I0.width {n m k A K}(h:I0 n m A k K){i}(hi:i<k):∀ c,n<=c->K i c=0:=((h _).1 (Sp.mem hi)).1
def wide(n m:Nat) (A:Nat->V):Nat->V:=λc x=>if x<m then A x c else if x=m+c then 1 else 0
def bJ7 {n m A} y:∀ j,j<=n->Sp n (wide n m A) (λx=>if x<m then dot j y (A x) else if x<m+j then y (x-m) else 0)
 | 0,_=>by
  refine cast (congrArg _ ?_) Sp.zero
  funext x
  split
  ·rfl
  grind
 | j+1,h=>by
  have:=Sp.comb (y j) (bJ7 y j Z) (Sp.mem (M:=wide n m A) (show j<n by omega));refine cast (congrArg _ ?_) this
  funext x
  simp only[wide];split
  ·rfl
  ·grind
def bX7 {n m A v}(h:Sp n (wide n m A) v):(∀ x,x<m->v x=dot n (λc=>v (m+c)) (A x))/\∀ c,n<=c->v (m+c)=0:=by
 have unit:∀ (j:Nat) (b:V),∀ n,dot n (λc=>if m+c=m+j then (1:Int) else 0) b=if j<n then b j else 0:=by
  intro j b n;induction n with
  | zero=>rfl
  | succ n a =>
   rw[dot,a];grind
 induction h with
 | zero=>exact⟨λx _=>(aZI _ _).symm,λ_ _=>rfl⟩
 | add j t hj _ a =>
  have⟨g,i⟩:=a;refine⟨λx d=>?_,λc o=>?_⟩
  ·rw[aSM,<- g x d];have e:(λc=>wide n m A j (m+c))=λc=>if m+c=m+j then 1 else 0:=by
    funext c
    have:¬ m+c<m:=Z
    simp only[wide,this,if_false]
   rw[e,unit,if_pos hj];simp only[wide,d,if_true]
  ·have k:=i c o;have l:¬ m+c<m:=Z
   have f:¬ m+c=m+j:=Z
   simp only[wide,l,f,if_false,Int.mul_zero,Int.add_zero,k]
def Hn.drop:∀ {j k:Nat} {M:Nat->V} {p:Nat->Nat} {m:Nat},Hn k M p->j<=k->(∀ i,i<j->p i<m)->∀ {v:V},Sp k M v->(∀ x,x<m->v x=0)->Sp (k-j) (λi=>M (j+i)) v
 | 0,k,M,p,m,h,_,_,v,hv,_=>W
 | j+1,0,M,p,m,h,hj,_,v,hv,_=>Z
 | j+1,k+1,M,p,m,h,hj,hp,v,hv,hz=>by
  obtain⟨t,u,hu,rfl⟩:=hv.first;have a:=hz (p 0) (hp 0 Z);have b:=h.a5D hu (Nat.le_refl _);have c:=h.pos 0 Z;simp only[b,Int.zero_add]at a;have ht:t=0:=by
   rcases Int.mul_eq_zero.1 a with h3|h3
   ·exact h3
   ·omega
  subst ht;have e:(λi=>u i+0*M 0 i)=u:=by funext i; simp
  rw[e]at hz ⊢;have:=Hn.drop (j:=j) h.tail Z (λi hi=>hp (i+1) Z) hu hz;grind
def bSO {n m k j:Nat} {A W:Nat->V} {p:Nat->Nat} (h:Hn k W p) (d:Same n (wide n m A) k W) (q:j<=k) (e:∀ i,i<j->p i<m) (f:∀ i,j<=i->i<k->m<=p i) :
  I0 n m A (k-j) (λi y=>W (j+i) (m+y)):=by
 intro y;constructor
 ·intro o;have key:∃ v,Sp k W v/\(∀ x,x<m->v x=0)/\y=λc=>v (m+c):=by
   induction o with
   | zero=>exact⟨_,.zero,λ_ _=>rfl,rfl⟩
   | add i t hi _ ih =>
    obtain⟨v,g1,g2,rfl⟩:=ih;refine⟨_,Sp.add (j+i) t Z g1,λx a=>?_,rfl⟩;have:=h.low (j+i) Z x (by have:=f (j+i) Z Z; omega);grind
  obtain⟨v,g1,g2,rfl⟩:=key;have⟨l,g⟩:=bX7 ((d v).2 g1);exact⟨g,λx a=>by rw[<- l x a]; exact g2 x a⟩
 ·rintro⟨g1,g2⟩;have b:=bJ7 (A:=A) (n:=n) (m:=m) y n (Nat.le_refl _);have:=Hn.drop h q e ((d _).1 b) (λx a=>by simp only[a,if_true]; exact g2 x a);have key:∀ {v:V},Sp (k-j) (λi=>W (j+i)) v->Sp (k-j) (λi y=>W (j+i) (m+y)) (λc=>v (m+c)):=by
   intro v b
   induction b with
   | zero=>exact .zero
   | add i t hi _ ih=>exact Sp.add i t hi ih
  have:=key this;refine cast (congrArg _ ?_) this;grind
def aSL(a:Int){m}(h:m<0):m<a.fmod m/\a.fmod m<=0:=by
 have b:=Int.neg_fmod_neg (-a) (-m);rw[Int.neg_neg,Int.neg_neg]at b;have c:=Int.fmod_nonneg_of_pos (-a) (show 0 < -m by omega);have d:=Int.fmod_lt_of_pos (-a) (show 0 < -m by omega);omega
def bJF(a m:Int)(hm:m≠0):(a.fdiv m).natAbs*m.natAbs<=a.natAbs+m.natAbs:=by
 have e:=Int.fmod_def a m;have d:(m*a.fdiv m).natAbs=(a.fdiv m).natAbs*m.natAbs:=(by rw[Int.natAbs_mul,Nat.mul_comm]);rcases Int.lt_or_gt_of_ne hm with h|h;have b:=aSL a h;omega;have b:=Int.fmod_nonneg_of_pos a h;have c:=Int.fmod_lt_of_pos a h;omega
def bI7(a m:Int)(hm:m≠0):(a.fmod m).natAbs<m.natAbs:=by
 rcases Int.lt_or_gt_of_ne hm with h|h;have b:=aSL a h;omega;have b:=Int.fmod_nonneg_of_pos a h;have c:=Int.fmod_lt_of_pos a h;omega
def a8S(a m:Int):a-a.fdiv m*m=a.fmod m:=by rw[Int.fmod_def,Int.mul_comm]
def bWS {a b q:Int} {E Q:Nat} (g:a.natAbs<=E) (d:b.natAbs<=E) (c:q.natAbs<=Q):(a-q*b).natAbs<=E+Q*E:=by
 have e:(q*b).natAbs=q.natAbs*b.natAbs:=Int.natAbs_mul _ _;have f:q.natAbs*b.natAbs<=Q*E:=Nat.mul_le_mul c d;omega
def Wi(k:Nat) (M:Nat->V) (d c E A:Nat):Prop:=∀ i,d<=i->i<k->(∀ x,(M i x).natAbs<=E)/\(M i c).natAbs<=A
def Rd(k:Nat) (M M':Nat->V) (d c:Nat):Prop:=M' d=M d/\∀ i,d<i->i<k->M' i=λx=>M i x-(M i c).fdiv (M d c)*M d x
def Rd.bOQ {k d c E A:Nat} {M M':Nat->V} (h:Rd k M M' d c) (hw:Wi k M d c E A) (n:d<k) (hm:M d c≠0) (j:(M d c).natAbs<=A) :
  ∃ g,Wi k M' d c g (M d c).natAbs/\g*(M d c).natAbs<=3*(E*A):=by
 have f:0<(M d c).natAbs:=Z;refine⟨E+(A/(M d c).natAbs+1)*E,λi a b=>?_,?_⟩;by_cases e:i=d;subst e;rw[h.1];refine⟨λx=>?_,Nat.le_refl _⟩;have:=(hw i a b).1 x;grind;have p:=h.2 i Z b;have l:((M i c).fdiv (M d c)).natAbs<=A/(M d c).natAbs+1:=(by have o:=bJF (M i c) (M d c) hm;have r:=(hw i a b).2;have s:((M i c).fdiv (M d c)).natAbs<=(A+(M d c).natAbs)/(M d c).natAbs:=(by rw[Nat.le_div_iff_mul_le f];omega);simp_all);rw[p];refine⟨λx=>bWS ((hw i a b).1 x) ((hw d (Nat.le_refl _) n).1 x) l,?_⟩;dsimp only;rw[a8S];exact Nat.le_of_lt (bI7 _ _ hm);have a:A/(M d c).natAbs*(M d c).natAbs<=A:=Nat.div_mul_le_self _ _;generalize A/(M d c).natAbs=q at a;generalize (M d c).natAbs=m at *;have b:(E+(q+1)*E)*m=2*(E*m)+E*(q*m):=W;have o:E*(q*m)<=E*A:=Nat.mul_le_mul_left _ a;have r:E*m<=E*A:=Nat.mul_le_mul_left _ j;omega
def bVY a b c (h:a+b<=c):4*(a*b)<=c*c:=by
 have f :=Nat.mul_le_mul h h;have d :=(by have:(a+b)*(a+b)=4*(a*b)+(a-b)*(a-b)+(b-a)*(b-a):=(by rcases Nat.le_total a b with g|g;obtain⟨e,rfl⟩:=Nat.exists_eq_add_of_le g;grind;obtain⟨e,rfl⟩:=Nat.exists_eq_add_of_le g;grind);omega);omega
structure Bt (k:Nat) (M:Nat->V) (d c C:Nat):Prop where
 dk:d<k
 ex:∃ E,Wi k M d c E (M d c).natAbs/\∃ i,d<i/\i<k/\M i c≠0/\E*(M d c).natAbs^3*(M i c).natAbs<=C
 piv:M d c≠0
 sign:∀ i,d<i->i<k->(M i c).natAbs<(M d c).natAbs/\(0<M d c->0<=M i c)/\(M d c<0->M i c<=0)
def Wi.swap {k d c E A a M}(h:Wi k M d c E A)(g:d<=a)(b:a<k):Wi k (swp M d a) d c E A:=by
 intro i f e;unfold swp;split;exact h a g b;split;exact h d (Nat.le_refl _) Z;exact h i f e
def Rd.sign {k d c M M'}(h:Rd k M M' d c)(hm:M d c≠0):∀ i,d<i->i<k->M' i c=(M i c).fmod (M d c)/\(M' i c).natAbs<(M' d c).natAbs/\(0<M' d c->0<=M' i c)/\(M' d c<0->M' i c<=0):=by
 intro i b a;have e:M' i c=(M i c).fmod (M d c):=by
  rw[h.2 i b a];exact a8S _ _
 rw[e,h.1];exact⟨rfl,bI7 _ _ hm,λhp=>Int.fmod_nonneg_of_pos _ hp,λhn=>(aSL _ hn).2⟩
def bWP {p n:Int} (c:(0<p/\0<n)\/(p<0/\n<0)) (g:n.natAbs<p.natAbs):(p.fmod n).natAbs+n.natAbs<=p.natAbs:=by
 have key:∀ p n:Int,0<n->n<p->(p.fmod n).natAbs+n.natAbs<=p.natAbs:=by
  intro p n a b;have i:=Int.fmod_def p n;have j:=Int.fmod_nonneg_of_pos p a;have e:=Int.fmod_lt_of_pos p a;have d:1<=p.fdiv n:=by
   rcases(by omega:p.fdiv n<1\/1<=p.fdiv n)with h|h
   ·have:n*p.fdiv n<=n*0:=Int.mul_le_mul_of_nonneg_left Z Z;omega
   ·exact h
  have f:n*1<=n*p.fdiv n:=Int.mul_le_mul_of_nonneg_left d Z;omega
 rcases c with ⟨a,b⟩|⟨a,b⟩;grind;have:=key (-p) (-n) Z Z;simp_all
def Rd.first {k d c E A:Nat} {M M':Nat->V} (h:Rd k M M' d c) (hw:Wi k M d c E A) (g:d<k) (hm:M d c≠0) :
  ((∀ i,d<i->i<k->M' i c=0)/\Wi k M' d c (3*(E*A)) A)\/Bt k M' d c (3*(E*A)*A^3):=by
 have e:=(hw d (Nat.le_refl _) g).2;have b:0<(M d c).natAbs:=Z;have⟨a,f,m⟩:=h.bOQ hw g hm e;have l:=h.sign hm;by_cases hz:∀ i,d<i->i<k->M' i c=0;refine .inl ⟨hz,λi g1 g2=>⟨λx=>?_,?_⟩⟩;have j:=(f i g1 g2).1 x;have a2:a*1<=a*(M d c).natAbs:=Nat.mul_le_mul_left _ b;omega;exact Nat.le_trans (f i g1 g2).2 e;refine .inr ⟨g,⟨a,by rw[h.1]; exact f,?_⟩,by rw[h.1]; exact hm,λi g1 g2=>(l i g1 g2).2⟩;have⟨i,hi⟩:=Classical.not_forall.1 hz;have⟨g1,hi⟩:=Classical.not_forall.1 hi;have⟨g2,g3⟩:=Classical.not_forall.1 hi;refine⟨i,g1,g2,g3,?_⟩;have j:=(l i g1 g2).2.1;rw[h.1]at j ⊢;have a2:(M d c).natAbs^2*(M' i c).natAbs<=A^2*A:=Nat.mul_le_mul (Nat.pow_le_pow_left e 2) Z;have a3:a*(M d c).natAbs*((M d c).natAbs^2*(M' i c).natAbs)<=3*(E*A)*(A^2*A):=Nat.mul_le_mul m a2;grind
def Bt.left {k d c C a:Nat} {M M':Nat->V} (h:Bt k M d c C) (w:d<=a) (m:a<k) (hm:M a c≠0) (e:∀ i,d<=i->i<k->M i c≠0->(M a c).natAbs<=(M i c).natAbs) (p:Rd k (swp M d a) M' d c) (hz:¬ ∀ i,d<i->i<k->M' i c=0):M' d=M a/\(M a c).natAbs<(M d c).natAbs/\∃ i,d<i/\i<k/\M' i c≠0/\(M' i c).natAbs+(M a c).natAbs<=(M d c).natAbs/\(M' i c).natAbs<(M a c).natAbs:=by
 have⟨E,v,i0,g1,g2,g3,g4⟩:=h.ex;have b:d<a:=(by rcases Nat.lt_or_ge d a with h9|h9;exact h9;have:a=d:=Z;subst this;have:=e i0 Z g2 g3;have:=(h.sign i0 g1 g2).1;omega);have o:swp M d a d=M a:=(by simp[swp]);have s:swp M d a a=M d:=(by have:¬ a=d:=Z;simp[swp,this]);have l:=h.sign a b m;have q:=p.sign (by rw[o]; exact hm);have j:M' d=M a:=(by rw[p.1,o]);have main:∃ i,d<i/\i<k/\M' i c≠0/\(M' i c).natAbs+(M a c).natAbs<=(M d c).natAbs:=(by have g:=(q a b m).1;rw[o,s]at g;by_cases f:M' a c=0;have⟨i,hi⟩:=Classical.not_forall.1 hz;have⟨r,hi⟩:=Classical.not_forall.1 hi;have⟨z2,z3⟩:=Classical.not_forall.1 hi;refine⟨i,r,z2,z3,?_⟩;have u:=(q i r z2).2.1;rw[j]at u;have a2:(M a c).natAbs ∣ (M d c).natAbs:=(by have:M a c ∣ M d c:=(by rw[f]at g;exact Int.dvd_of_fmod_eq_zero g.symm);simp_all);have⟨t,ht⟩:=a2;have n:2<=t:=(by rcases Nat.lt_or_ge t 2 with h|h;have:(M a c).natAbs*t<=(M a c).natAbs*1:=Nat.mul_le_mul_left _ Z;omega;exact h);have:(M a c).natAbs*2<=(M a c).natAbs*t:=Nat.mul_le_mul_left _ n;omega;refine⟨a,b,m,f,?_⟩;rw[g];refine bWP ?_ l.1;grind);grind
def Pt(k:Nat) (M:Nat->V) (d c P:Nat):Prop:=∃ i,d<i/\i<k/\M i c≠0/\(M d c).natAbs*(M i c).natAbs<=P
def Bt.half {k d c C a M M'}(h:Bt k M d c C)(j:d<=a)(e:a<k)(hm:M a c≠0)(b:∀ i,d<=i->i<k->M i c≠0->(M a c).natAbs<=(M i c).natAbs)(l:Rd k (swp M d a) M' d c)(hz:¬ ∀ i,d<i->i<k->M' i c=0){P}(f:Pt k M d c P):Pt k M' d c (P/2):=by
 have⟨r,p,i,n,z2,z3,z4,z5⟩:=h.left j e hm b l hz;have⟨i0,s,o,g,t⟩:=f;have m:=b i0 Z o g;refine⟨i,n,z2,z3,?_⟩;have q:(M a c).natAbs*(2*(M' i c).natAbs)<=(M a c).natAbs*(M d c).natAbs:=Nat.mul_le_mul_left _ Z;have a2:(M d c).natAbs*(M a c).natAbs<=(M d c).natAbs*(M i0 c).natAbs:=Nat.mul_le_mul_left _ m;grind
def Bt.round {k d c C a:Nat} {M M':Nat->V} (h:Bt k M d c C) (u:d<=a) (r:a<k) (hm:M a c≠0) (b:∀ i,d<=i->i<k->M i c≠0->(M a c).natAbs<=(M i c).natAbs) (n:Rd k (swp M d a) M' d c) :
  ((∀ i,d<i->i<k->M' i c=0)/\∃ A,Wi k M' d c (3*C) A)\/(Bt k M' d c C/\(M' d c).natAbs<(M d c).natAbs):=by
 have⟨E,w,i0,g1,g2,g3,g4⟩:=h.ex;have p:d<a:=(by rcases Nat.lt_or_ge d a with h9|h9;exact h9;have:a=d:=Z;subst this;have:=b i0 Z g2 g3;have:=(h.sign i0 g1 g2).1;omega);have j:swp M d a d=M a:=(by simp[swp])
 have q:=h.sign a p r;have v:(swp M d a d c).natAbs<=(M d c).natAbs:=by rw[j]; omega
 have⟨l,o,s⟩:=n.bOQ (w.swap u r) h.dk (by rw[j]; exact hm) v;rw[j]at o s;have z:=n.sign (by rw[j]; exact hm);have hC:E*(M d c).natAbs^3*(M a c).natAbs<=C:=Nat.le_trans (Nat.mul_le_mul_left _ (b i0 Z g2 g3)) g4;have g:0<(M a c).natAbs:=Z;have e:M' d=M a:=(by rw[n.1,j]);by_cases hz:∀ i,d<i->i<k->M' i c=0;refine .inl ⟨hz,(M a c).natAbs,λi f z2=>⟨λx=>?_,(o i f z2).2⟩⟩;have t:=(o i f z2).1 x;have a2:l*1<=l*(M a c).natAbs:=Nat.mul_le_mul_left _ g;have a3:E*(M d c).natAbs*1<=E*(M d c).natAbs*((M d c).natAbs^2*(M a c).natAbs):=Nat.mul_le_mul_left _ (Nat.mul_pos (Nat.pow_pos Z) g);grind;refine .inr ⟨⟨h.dk,⟨l,by rw[e]; exact o,?_⟩,by rw[e]; exact hm,λi f z2=>(z i f z2).2⟩,by rw[e]; exact q.1⟩;have⟨_,_,i,f,z2,z3,z4,_⟩:=h.left u r hm b n hz;refine⟨i,f,z2,z3,?_⟩;rw[e];have t:=bVY _ _ _ z4;generalize (M' i c).natAbs=y at *;generalize (M a c).natAbs=x at *;generalize (M d c).natAbs=m at *;have a2:l*x*(x^2*y)<=3*(E*m)*(x^2*y):=Nat.mul_le_mul_right _ s;have a3:(E*m*x)*(4*(y*x))<=(E*m*x)*(m*m):=Nat.mul_le_mul_left _ t;grind
def Hn.shift {k M p}(h:Hn k M p) j (e:j<=k):Hn (k-j) (λi=>M (j+i)) (λi=>p (j+i)) where
 inc:=λa b c d=>h.inc _ _ Z Z
 low:=λi hi=>h.low _ Z
 pos:=λi hi=>h.pos _ Z
 red:=λa b c d=>h.red _ _ Z Z
end Go.Lz
namespace Go.PM
open Go Go.RowKit Go.Proofs Go.Lz
abbrev DP:Nat:=400000
def Zr(n:Nat) (v:V):List ByteArray:=(List.range n).map λi=>Zn (v i)
def mD n v:(Zr n v).length=n:=by simp[Zr]
def aG4 {n i} v (h:i<n) d:(Zr n v).getD i d=Zn (v i):=by simp[Zr,h]
def aAV {n u v}(h:∀ i,i<n->u i=v i):Zr n u=Zr n v:=by
 refine List.map_congr_left λi hi=>?_;grind
def bL6 {n}(u v:V) t (h:t<n):(Zr n λx=>if x<t then v x else u x).set t (Zn (v t))=Zr n λx=>if x<t+1 then v x else u x:=by
 refine List.ext_getElem? λi=>?_;simp only[Zr];grind
def aVN {α:Type}(A:List α) j x d (h:j<A.length):(A.set j x).getD j d=x:=W
def getD_set_ne {α:Type}(A:List α){j k} x d (h:j≠k):(A.set j x).getD k d=A.getD k d:=W
def aZX {α:Type}{A:List α}{j x} d (h:A[j]?=some x):A.getD j d=x:=W
structure a7N (n:Nat) (u v:V) (q:Int):Prop where
 mul:∀ i,i<n->Lib.nDigits q.natAbs+Lib.nDigits (v i).natAbs<=DP
 sub:∀ i,i<n->Lib.nDigits (u i).natAbs<=DP
def a4D a b:Lib.nDigits (a*b)<=Lib.nDigits a+Lib.nDigits b:=by
 have f:=pD a;have e:=pD b;have p2:=nDigits_pos b;have c :=Nat.mul_lt_mul'' f e;rw[<- Nat.pow_add]at c;obtain⟨k,d⟩:∃ k,Lib.nDigits a+Lib.nDigits b=k+1:=⟨Lib.nDigits a+Lib.nDigits b-1,by omega⟩;rw[d]at c ⊢;exact xL c
def aQ2 {α:Type}{pre l:List α}{o t}(h:pre.length=o) d:(pre++l).getD (o+t) d=l.getD t d:=W
def bP4 {α:Type}{pre l:List α}{o t}(h:pre.length=o) x:(pre++l).set (o+t) x=pre++l.set t x:=W
def bSQ {A:List (List ByteArray)}{J K o n u v q pre pre'}(hn:n<1048576)(c:J≠K)(hp:pre.length=o)(a:pre'.length=o)(z:A[J]?=some (pre++Zr n u))(r:A[K]?=some (pre'++Zr n v))(ok:a7N n u v q) :
  zA ((J,o,n),Zn q,(K,o,n),(n:Int),0,A,())=some (A.set J (pre++Zr n λx=>u x-q*v x),()):=by
 have f:J<A.length:=(oO.1 z).1;have key:=aK (step:=sQ) (N:=2^64)
  (λt=>((J,o,n),Zn q,(K,o,n),(n:Int),(t:Int),A.set J (pre++Zr n λx=>if x<t then u x-q*v x else u x),())) n (A.set J (pre++Zr n λx=>u x-q*v x),()) Z (λt ht=>?_) ?_
 ·have h:(A.set J (pre++Zr n λx=>if x<0 then u x-q*v x else u x))=A:=by
   have:Zr n (λx=>if x<0 then u x-q*v x else u x)=Zr n u:=aAV λi _=>R
   rw[this];refine List.ext_getElem? λi=>?_;grind
  simp only[h]at key;exact key
 ·have d:(A.set J (pre++Zr n λx=>if x<t then u x-q*v x else u x)).getD J []=pre++Zr n λx=>if x<t then u x-q*v x else u x:=aVN _ _ _ _ f
  have g:(A.set J (pre++Zr n λx=>if x<t then u x-q*v x else u x)).getD K []=pre'++Zr n v:=by rw[getD_set_ne _ _ _ c]; exact aZX _ r
  have e:ltI (t:Int) (n:Int)=true:=by rw[aF]; simp; omega
  have m:aE (t:Int) n=true:=by rw[aL]; simp; omega
  have j:(o+((t:Nat):Int).toNat)*1=o+t:=R;have s:dG (A.set J (pre++Zr n λx=>if x<t then u x-q*v x else u x)) J=o+n:=(by rw[dG,d,oH,mD,hp]);have w:dG (A.set J (pre++Zr n λx=>if x<t then u x-q*v x else u x)) K=o+n:=(by rw[dG,g,oH,mD,a])
  have y:Nat.blt (o+t) (o+n)=true:=by rw[cF]; simpa using ht
  have B:dZ (A.set J (pre++Zr n λx=>if x<t then u x-q*v x else u x)) J (o+t) ByteArray.empty=Zn (u t):=by rw[dZ,d,aQ2 hp,aG4 _ ht]; simp
  have k:dZ (A.set J (pre++Zr n λx=>if x<t then u x-q*v x else u x)) K (o+t) ByteArray.empty=Zn (v t):=(by rw[dZ,g,aQ2 a,aG4 _ ht]);have p:DQ (A.set J (pre++Zr n λx=>if x<t then u x-q*v x else u x)) J (o+t) (Zn (u t-q*v t))=A.set J (pre++Zr n λx=>if x<t+1 then u x-q*v x else u x):=(by rw[DQ,d,List.set_set,bP4 hp];exact oZ (λl=>A.set J (pre++l)) (bL6 u (λx=>u x-q*v x) t ht));have m1:=aWN q (v t) (ok.mul t ht);have m2:=a94 (u t) (q*v t) (ok.sub t ht) (by rw[Int.natAbs_mul]; exact oR (a4D _ _) (ok.mul t ht));have b:=bP t Z;simp only[sQ,e,m,j,w,y,s,B,k,m1,m2,p,b,zz]
 ·have e:ltI (n:Int) (n:Int)=false:=by rw[aF]; simp
  simp only[sQ,e,oD];have:Zr n (λx=>if x<n then u x-q*v x else u x)=Zr n λx=>u x-q*v x:=aAV λi hi=>by simp[hi]
  rw[this]
def bJ8 {α:Type}{A:List α}{J x}(h:A[J]?=some x):A.set J x=A:=by
 refine List.ext_getElem? λi=>?_;grind
def bZJ {A:List (List ByteArray)} {J K o n:Nat} {u v:V} {q:Int} {pre a:List ByteArray} (hn:n<1048576) (b:J≠K) (hp:pre.length=o) (c:a.length=o) (e:A[J]?=some (pre++Zr n u)) (f:A[K]?=some (a++Zr n v)) (ok:a7N n u v q) :
  iR () ((J,o,n),Zn q,(K,o,n),()) A=some ((),A.set J (pre++Zr n λx=>u x-q*v x)):=by
 unfold iR;simp only[WS];by_cases d:q=0
 ·subst d;simp only[decide_true,oC];have:Zr n (λx=>u x-0*v x)=Zr n u:=aAV λi _=>R
  rw[this,bJ8 e]
 simp only[d,decide_false,bSQ hn b hp c e f ok,zz]
def negate_eq {A:List (List ByteArray)} {J o n:Nat} {u:V} {pre:List ByteArray} (hn:n<1048576) (hp:pre.length=o) (e:A[J]?=some (pre++Zr n u)) (ok:∀ i,i<n->Lib.nDigits (u i).natAbs<=DP) :
  fH () ((J,o,n),()) A=some ((),A.set J (pre++Zr n λx=>-(u x))):=by
 have d:J<A.length:=(oO.1 e).1;have key:=aK (step:=pY) (N:=2^64)
  (λt=>((J,o,n),(J,o,n),(n:Int),(t:Int),A.set J (pre++Zr n λx=>if x<t then -(u x) else u x),())) n (A.set J (pre++Zr n λx=>-(u x)),()) Z (λt ht=>?_) ?_
 ·have f:(A.set J (pre++Zr n λx=>if x<0 then -(u x) else u x))=A:=by
   have:Zr n (λx=>if x<0 then -(u x) else u x)=Zr n u:=aAV λi _=>R
   rw[this,bJ8 e]
  simp only[f]at key;unfold fH wW;have q:((0:Nat):Int)=0:=rfl;rw[q]at key;simp only[key,aC]
 ·have b:(A.set J (pre++Zr n λx=>if x<t then -(u x) else u x)).getD J []=pre++Zr n λx=>if x<t then -(u x) else u x:=aVN _ _ _ _ d
  have c:ltI (t:Int) (n:Int)=true:=by rw[aF]; simp; omega
  have h:aE (t:Int) n=true:=by rw[aL]; simp; omega
  have g:(o+((t:Nat):Int).toNat)*1=o+t:=R;have k:dG (A.set J (pre++Zr n λx=>if x<t then -(u x) else u x)) J=o+n:=(by rw[dG,b,oH,mD,hp])
  have m:Nat.blt (o+t) (o+n)=true:=by rw[cF]; simpa using ht
  have p:dZ (A.set J (pre++Zr n λx=>if x<t then -(u x) else u x)) J (o+t) ByteArray.empty=Zn (u t):=by rw[dZ,b,aQ2 hp,aG4 _ ht]; simp
  have j:DQ (A.set J (pre++Zr n λx=>if x<t then -(u x) else u x)) J (o+t) (Zn (-(u t)))=A.set J (pre++Zr n λx=>if x<t+1 then -(u x) else u x):=(by rw[DQ,b,List.set_set,bP4 hp];exact oZ (λl=>A.set J (pre++l)) (bL6 u (λx=>-(u x)) t ht));have m1:=bB9 (u t) (Nat.lt_of_le_of_lt (ok t ht) O);have a:=bP t Z;simp only[pY,c,h,g,m,k,p,m1,j,a,zz]
 ·have c:ltI (n:Int) (n:Int)=false:=by rw[aF]; simp
  simp only[pY,c,oD];have:Zr n (λx=>if x<n then -(u x) else u x)=Zr n λx=>-(u x):=aAV λi hi=>by simp[hi]
  rw[this]
def a27 {σ τ:Type} {step:σ->Option (σ⊕τ)} {N:Nat} (m:Nat) (I:Nat->σ->Prop) (Q:τ->Prop) (d:m<N) (x:σ) (i:I 0 x) (h:∀ t x,t<m->I t x->∃ y,step x=some (.inl y)/\I (t+1) y) (he:∀ x,I m x->∃ z,step x=some (.inr z)/\Q z) :
  ∃ z,aV step N x=some z/\Q z:=by
 have key:∀ (j t:Nat) (x:σ) (N:Nat),t+j=m->j<N->I t x->∃ z,aV step N x=some z/\Q z:=by
  intro j;induction j with
  | zero =>
   intro t x N ht d a;have:t=m:=Z
   subst this;obtain⟨N,rfl⟩:∃ M,N=M+1:=⟨N-1,by omega⟩;have⟨z,b,c⟩:=he x a;exact⟨z,by rw[eF,b],c⟩
  | succ j e =>
   intro t x N ht d a;obtain⟨N,rfl⟩:∃ M,N=M+1:=⟨N-1,by omega⟩;have⟨y,b,c⟩:=h t x Z a;have⟨z,f,g⟩:=e (t+1) y N Z Z c;exact⟨z,by rw[eF,b]; exact f,g⟩
 grind
structure sF (o k n:Nat) (m:List (Nat×Nat×Nat)) (A:List (List ByteArray)) (J:Nat->Nat) (M:Nat->V):Prop where
 ml:m=(List.range k).map λi=>(J i,o,n)
 at_:∀ i,i<k->∃ pre:List ByteArray,pre.length=o/\A[J i]?=some (pre++Zr n (M i))
 inj:∀ i j,i<k->j<k->J i=J j->i=j
section
variable {o k n:Nat} {m:List (Nat×Nat×Nat)} {A:List (List ByteArray)} {J:Nat->Nat} {M:Nat->V}
def sF.len (h:sF o k n m A J M):m.length=k:=by rw[h.ml]; simp
def sF.get (h:sF o k n m A J M){i}(hi:i<k):m.getD i (0,0,0)=(J i,o,n):=by rw[h.ml]; grind
def sF.dG (h:sF o k n m A J M){i}(hi:i<k):dG A (J i)=o+n:=by
 have⟨pre,b,a⟩:=h.at_ i hi;rw[PM.dG,aZX _ a,oH,mD,b]
def sF.dZ (h:sF o k n m A J M){i c}(hi:i<k)(d:c<n):dZ A (J i) (o+c) ByteArray.empty=Zn (M i c):=by
 have⟨pre,b,a⟩:=h.at_ i hi;rw[PM.dZ,aZX _ a,aQ2 b,aG4 _ d]
def sF.aXW (h:sF o k n m A J M){i}(hi:i<k) r {pre}(hp:pre.length=o):sF o k n m (A.set (J i) (pre++Zr n r)) J (up M i r) where
 ml:=h.ml
 at_:=λj b=>by
  by_cases e:j=i
  ·subst e;have⟨a,c,d⟩:=h.at_ j b;exact⟨pre,hp,by rw[List.getElem?_set_self (oO.1 d).1,aKF]⟩
  ·have⟨a,c,d⟩:=h.at_ j b;exact⟨a,c,by rw[List.getElem?_set_ne (λf=>e (h.inj i j hi b f).symm),XK _ _ e]; grind⟩
 inj:=h.inj
def sF.less (h:sF o k n m A J M)(hn:n<1048576){i d}(hi:i<k)(hd:d<k)(a:i≠d) q (ok:a7N n (M i) (M d) q) :
  ∃ A',iR () ((J i,o,n),Zn q,(J d,o,n),()) A=some ((),A')/\sF o k n m A' J (up M i λx=>M i x-q*M d x):=by
 have⟨pre,b,f⟩:=h.at_ i hi;have⟨c,g,j⟩:=h.at_ d hd;exact⟨_,bZJ hn (λe=>a (h.inj i d hi hd e)) b g f j ok,h.aXW hi _ b⟩
def sF.neg (h:sF o k n m A J M)(hn:n<1048576){i}(hi:i<k)(ok:∀ x,x<n->Lib.nDigits (M i x).natAbs<=DP) :
  ∃ A',fH () ((J i,o,n),()) A=some ((),A')/\sF o k n m A' J (up M i λx=>-(M i x)):=by
 have⟨pre,a,b⟩:=h.at_ i hi;exact⟨_,negate_eq hn a b ok,h.aXW hi _ a⟩
def sF.swap (h:sF o k n m A J M){a b}(g:a<k)(l:b<k):sF o k n ((m.set a (J b,o,n)).set b (J a,o,n)) A (λi=>if i=a then J b else if i=b then J a else J i) (swp M a b) where
 ml:=by
  refine List.ext_getElem? λi=>?_
  have p:=h.len;rw[List.getElem?_map]
  by_cases c:i=b
  ·grind
  ·rw[List.getElem?_set_ne (Ne.symm c)]
   by_cases d:i=a
   ·grind
   ·rw[List.getElem?_set_ne (Ne.symm d),h.ml,List.getElem?_map];grind
 at_:=λi hi=>by
  by_cases c:i=a
  ·subst c;simp only[if_true,swp];exact h.at_ b l
  ·by_cases d:i=b
   ·subst d;simp only[c,if_false,if_true,swp];exact h.at_ a g
   ·simp only[c,d,if_false,swp];exact h.at_ i hi
 inj:=λi j hi f e=>by
  have key:∀ i,i<k->(if i=a then J b else if i=b then J a else J i)=J (if i=a then b else if i=b then a else i):=λi _=>W
  simp only[key i hi,key j f]at e;have lt:∀ i,i<k->(if i=a then b else if i=b then a else i)<k:=λi hi=>W
  have:=h.inj _ _ (lt i hi) (lt j f) e;grind
end
def atv:Option Nat->Int| none=>-1| some a=>a
structure bT9 (M:Nat->V) (c d t:Nat) (r:Option Nat):Prop where
 none:r=Option.none->∀ i,d<=i->i<d+t->M i c=0
 some:∀ a,r=Option.some a->d<=a/\a<d+t/\M a c≠0/\∀ i,d<=i->i<d+t->M i c≠0->(M a c).natAbs<=(M i c).natAbs
def Cm(k n:Nat) (M:Nat->V):Prop:=∀ i,i<k->∀ x,x<n->Lib.nDigits (M i x).natAbs<=DP
def bJ2 {o k n m A J M}(h:sF o k n m A J M)(V:k<1048576)(T:Cm k n M){c d}(j:c<n)(hd:d<=k)(f:Int) :
  ∃ r,nF (m,f,(d:Int),(c:Int),-1,(d:Int),A,())=some (m,f,(d:Int),(c:Int),atv r,A,())/\bT9 M c d (k-d) r:=by
 have:=a27 (step:=dX) (N:=2^64) (k-d)
  (λt x=>∃ r,x=(m,f,(d:Int),(c:Int),atv r,((d+t:Nat):Int),A,())/\bT9 M c d t r)
  (λz=>∃ r,z=(m,f,(d:Int),(c:Int),atv r,A,())/\bT9 M c d (k-d) r) Z (m,f,(d:Int),(c:Int),-1,(d:Int),A,())
  ⟨none,rfl,⟨λ_ i q w=>by omega,λa p=>by cases p⟩⟩ ?_ ?_
 obtain⟨z,q,r,rfl,w⟩:=this;exact⟨r,q,w⟩
 ·rintro t x ht ⟨r,rfl,B⟩;have hi:d+t<k:=Z
  have y:ltI ((d+t:Nat):Int) (m.length:Int)=true:=by rw[aF,h.len]; simp; omega
  have D:aE ((d+t:Nat):Int) m.length=true:=by rw[aL,h.len]; simp; omega
  have L:(((d+t:Nat):Int)).toNat=d+t:=oN _;have H:Nat.blt (d+t) m.length=true:=by rw[cF,h.len]; simpa using hi
  have F:aE (c:Int) n=true:=by rw[aL]; simp; omega
  have G:(o+((c:Nat):Int).toNat)*1=o+c:=zr
  have I:Nat.blt (o+c) (o+n)=true:=by rw[cF]; simpa using j
  have E:=bP (d+t) Z;have K:=h.get hi;have v:=h.dG hi;have s:=h.dZ hi j;by_cases hz:M (d+t) c=0
  ·refine⟨_,?_,r,rfl,⟨λg i q w=>?_,λa p=>?_⟩⟩
   ·have l:eqS (Zn (M (d+t) c)) (ByteArray.mk #[48])=true:=by rw[WS]; simp[hz]
    simp only[dX,y,D,L,H,K,F,G,v,I,s,l,E,zz];rfl
   by_cases e:i=d+t;grind;exact B.none g i q Z;have⟨R,U,S,O⟩:=B.some a p;grind
  ·have l:eqS (Zn (M (d+t) c)) (ByteArray.mk #[48])=false:=by rw[WS]; simp[hz]
   cases r with
   | none =>
    have u:ltI (atv none) 0=true:=zZ
    refine⟨_,?_,some (d+t),rfl,⟨λg=>by (cases g),λa p=>?_⟩⟩
    ·simp only[dX,y,D,L,H,K,F,G,v,I,s,l,E,u,zz];rfl
    ·obtain rfl:=oB p;refine⟨by omega,by omega,hz,λi q w C=>?_⟩
     by_cases e:i=d+t
     ·subst e; exact oM _
     ·exact absurd (B.none rfl i q Z) C
   | some a =>
    have⟨R,U,S,O⟩:=B.some a rfl;have p:a<k:=Z
    have u:ltI (atv (some a)) 0=false:=by rw[aF]; exact oF (by unfold atv; dsimp only; omega)
    have f2:aE (atv (some a)) m.length=true:=by rw[aL,h.len]; simp[atv]; omega
    have f3:(atv (some a)).toNat=a:=by simp[atv]
    have f4:Nat.blt a m.length=true:=by rw[cF,h.len]; simpa using p
    have f9:=h.get p;have f10:=h.dG p;have f11:=h.dZ p j;have c1:=bDR (M (d+t) c);have c2:=bDR (M a c);have c3:=bBB (M (d+t) c).natAbs (M a c).natAbs (Nat.lt_of_le_of_lt (T _ hi c j) zZ) (Nat.lt_of_le_of_lt (T _ p c j) zZ)
    by_cases Q:(M (d+t) c).natAbs<(M a c).natAbs
    ·have c4:ltI (aUL (M (d+t) c).natAbs (M a c).natAbs) 0=true:=by rw[aF,aUL,if_pos Q]; rfl
     refine⟨_,?_,some (d+t),rfl,⟨λg=>by (cases g),λb P=>?_⟩⟩
     ·simp only[dX,y,D,L,H,K,F,G,v,I,s,l,E,u,f2,f3,f4,f9,f10,f11,c1,c2,c3,c4,zz];rfl
     ·obtain rfl:=oB P;refine⟨by omega,by omega,hz,λi q w C=>?_⟩
      by_cases e:i=d+t
      ·subst e; exact oM _
      ·have:=O i q Z C; omega
    ·have c4:ltI (aUL (M (d+t) c).natAbs (M a c).natAbs) 0=false:=by
      rw[aF,aUL,if_neg Q]; split <;> rfl
     refine⟨_,?_,some a,rfl,⟨λg=>by (cases g),λb P=>?_⟩⟩
     ·simp only[dX,y,D,L,H,K,F,G,v,I,s,l,E,u,f2,f3,f4,f9,f10,f11,c1,c2,c3,c4,zz];rfl
     ·obtain rfl:=oB P;refine⟨R,by omega,S,λi q w C=>?_⟩
      by_cases e:i=d+t
      ·subst e; omega
      ·exact O i q Z C
 ·rintro x ⟨r,rfl,B⟩;have y:ltI ((d+(k-d):Nat):Int) (m.length:Int)=false:=by rw[aF,h.len]; simp; omega
  refine⟨_,?_,r,rfl,B⟩;simp only[dX,y,oD]
def aJV {T}(b:2*Lib.nDigits (T+1)<=DP){a}(h:a<=T+1):2*Lib.nDigits a<=DP:=oR (Nat.mul_le_mul_left 2 (vC h)) b
def aZR {a m:Int}{T}(h:a.natAbs<=T)(hm:m≠0):(a.fdiv m).natAbs<=T+1:=by
 have d:=bJF a m hm;have b:1<=m.natAbs:=Z
 have c:(a.fdiv m).natAbs*m.natAbs<=(T+1)*m.natAbs:=by
  rw[Nat.succ_mul];have:T*1<=T*m.natAbs:=Nat.mul_le_mul_left _ b;omega
 exact Nat.le_of_mul_le_mul_right c Z
def bCY {T n}(a:2*Lib.nDigits (T+1)<=DP){u v q}(hu:∀ x,x<n->(u x).natAbs<=T)(d:∀ x,x<n->(v x).natAbs<=T)(b:q.natAbs<=T+1):a7N n u v q:=by
 constructor;intro i hi;have e:=aJV a b;have c:=aJV a (Nat.le_succ_of_le (d i hi));omega;intro i hi;have c:=aJV a (Nat.le_succ_of_le (hu i hi));omega
def Big(k n:Nat) (M:Nat->V) (T:Nat):Prop:=∀ i,i<k->∀ x,x<n->(M i x).natAbs<=T
def Big.cm {k n T M}(h:Big k n M T)(a:2*Lib.nDigits (T+1)<=DP):Cm k n M:=λi hi x b=>by
 have:=aJV a (Nat.le_succ_of_le (h i hi x b));omega
section
variable {o k n d c:Nat} {m:List (Nat×Nat×Nat)} {A:List (List ByteArray)} {J:Nat->Nat} {M M0:Nat->V} {p:Nat->Nat} {T:Nat}
def rdT(M:Nat->V) (d c t:Nat):Nat->V:=λi=>if d<i/\i<d+1+t then (λx=>M i x-(M i c).fdiv (M d c)*M d x) else M i
def bLI(h:sF o k n m A J M)(hk:k<1048576)(hn:n<1048576)(f:Fo k M0 M d c p)(hd:d<k)(j:c<n)(hm:M d c≠0)(E:Big k n M T)(W:2*Lib.nDigits (T+1)<=DP)(a:Int) :
  ∃ A' M' rest,uS (m,a,(d:Int),(c:Int),false,aA .i64 (d+1),A,())=some (m,a,(d:Int),(c:Int),rest,A',())/\sF o k n m A' J M'/\Rd k M M' d c/\Fo k M0 M' d c p/\(∀ i,i<d->M' i=M i) /\
   (rest=true->∃ i,d<i/\i<k/\M' i c≠0)/\(rest=false->∀ i,d<i->i<k->M' i c=0):=by
 have U:∀ t i,d<i->i<d+1+t->rdT M d c t i c=(M i c).fmod (M d c):=λt i H R=>by
  unfold rdT;rw[if_pos ⟨H,R⟩];exact a8S _ _
 have r:∀ t,rdT M d c t d=M d:=λt=>by unfold rdT; rw[if_neg zN]
 have:=a27 (step:=eT) (N:=2^64) (k-(d+1))
  (λt x=>∃ A' rest,x=(m,a,(d:Int),(c:Int),rest,((d+1+t:Nat):Int),A',())/\sF o k n m A' J (rdT M d c t)/\Fo k M0 (rdT M d c t) d c p/\(rest=true->∃ i,d<i/\i<d+1+t/\(M i c).fmod (M d c)≠0)/\(rest=false->∀ i,d<i->i<d+1+t->(M i c).fmod (M d c)=0))
  (λz=>∃ A' rest,z=(m,a,(d:Int),(c:Int),rest,A',())/\sF o k n m A' J (rdT M d c (k-(d+1)))/\Fo k M0 (rdT M d c (k-(d+1))) d c p/\(rest=true->∃ i,d<i/\i<k/\(M i c).fmod (M d c)≠0)/\(rest=false->∀ i,d<i->i<k->(M i c).fmod (M d c)=0))
  zN (m,a,(d:Int),(c:Int),false,aA .i64 ((d:Int)+1),A,()) ?_ ?_ ?_
 obtain⟨z,H,A',rest,rfl,R,Y,Z,h5⟩:=this;refine⟨A',_,rest,H,R,⟨r _,λi g1 g2=>?_⟩,Y,λi hi=>by unfold rdT; rw[if_neg zN],λb=>?_,λb i g1 g2=>?_⟩;unfold rdT; rw[if_pos ⟨g1,by omega⟩];have⟨i,g1,g2,g3⟩:=Z b;exact⟨i,g1,g2,by rw[U _ i g1 zN]; exact g3⟩;grind;have e:rdT M d c 0=M:=(by funext i; unfold rdT; rw[if_neg zN]);refine⟨A,false,?_,by rw[e]; exact h,by rw[e]; exact f,λb=>(by cases b),λ_ i g1 g2=>by omega⟩;rw[bP d zN]
 ·rintro t x ht ⟨A',rest,rfl,q,I,v,u⟩;have hi:d+1+t<k:=zN
  have s:rdT M d c t (d+1+t)=M (d+1+t):=by unfold rdT; rw[if_neg zN]
  have D:ltI ((d+1+t:Nat):Int) (m.length:Int)=true:=by rw[aF,h.len]; exact oT zN
  have F:aE ((d+1+t:Nat):Int) m.length=true:=by rw[aL,h.len]; exact oT zN
  have V:(((d+1+t:Nat):Int)).toNat=d+1+t:=oN _;have O:Nat.blt (d+1+t) m.length=true:=by rw[cF,h.len]; simpa using hi
  have K:aE (c:Int) n=true:=zi
  have L:(o+((c:Nat):Int).toNat)*1=o+c:=zr
  have P:Nat.blt (o+c) (o+n)=true:=by rw[cF]; simpa using j
  have G:=bP (d+1+t) zN;have Q:=q.get hi;have w:=q.dG hi;have l:=q.dZ hi j;rw[s]at l;have f2:aE ((d:Nat):Int) m.length=true:=by rw[aL,h.len]; exact oT zN
  have f3:((d:Nat):Int).toNat=d:=oN _;have f4:Nat.blt d m.length=true:=by rw[cF,h.len]; simpa using hd
  have f9:=q.get hd;have f10:=q.dG hd;have f11:=q.dZ hd j;rw[r]at f11;have X:=E _ hi c j;have b2:=E _ hd c j;have k1:=aJV W (Nat.le_succ_of_le X);have k2:=aJV W (Nat.le_succ_of_le b2);have c1:=aK0 (M (d+1+t) c) (M d c) (by have:DP=400000:=rfl; omega) (by have:DP=400000:=rfl; omega) hm;have⟨S,c2,c3⟩:=q.less hn hi hd zN ((M (d+1+t) c).fdiv (M d c)) (by
   rw[s,r];exact bCY W (E _ hi) (E _ hd) (aZR X hm))
  have C:up (rdT M d c t) (d+1+t) (λx=>rdT M d c t (d+1+t) x-(M (d+1+t) c).fdiv (M d c)*rdT M d c t d x)=rdT M d c (t+1):=(by funext i;by_cases e:i=d+1+t;subst e;rw[aKF,s,r];unfold rdT;rw[if_pos zN];rw[XK _ _ e];unfold rdT;by_cases g:d<i/\i<d+1+t;rw[if_pos g,if_pos zN];rw[if_neg g,if_neg zN])
  rw[C]at c3;have y:Fo k M0 (rdT M d c (t+1)) d c p:=by
   rw[<- C];exact I.less _ zN hi
  have c4:eqS (Zn ((M (d+1+t) c).fmod (M d c))) (ByteArray.mk #[48])=decide ((M (d+1+t) c).fmod (M d c)=0):=WS _;have B:((d+1+t+1:Nat):Int)=((d+1+(t+1):Nat):Int):=zN;cases rest with
  | true =>
   refine⟨_,?_,S,true,rfl,c3,y,λ_=>?_,λb=>(by cases b)⟩
   ·simp only[eT,D,F,V,O,Q,K,L,w,P,l,f2,f3,f4,f9,f10,f11,c1,c2,G,B,zz]
   ·have⟨i,g1,g2,g3⟩:=v rfl;exact⟨i,g1,by omega,g3⟩
  | false =>
   by_cases hz:(M (d+1+t) c).fmod (M d c)=0
   ·have c5:eqS (Zn ((M (d+1+t) c).fmod (M d c))) (ByteArray.mk #[48])=true:=by rw[c4]; exact oT hz
    refine⟨_,?_,S,false,rfl,c3,y,λb=>(by cases b),λ_ i g1 g2=>?_⟩
    ·simp only[eT,D,F,V,O,Q,K,L,w,P,l,f2,f3,f4,f9,f10,f11,c1,c2,c5,G,B,zz]
    ·by_cases e:i=d+1+t
     ·subst e; exact hz
     ·exact u rfl i g1 zN
   ·have c5:eqS (Zn ((M (d+1+t) c).fmod (M d c))) (ByteArray.mk #[48])=false:=by rw[c4]; exact oF hz
    refine⟨_,?_,S,true,rfl,c3,y,λ_=>⟨d+1+t,by omega,by omega,hz⟩,λb=>(by cases b)⟩;simp only[eT,D,F,V,O,Q,K,L,w,P,l,f2,f3,f4,f9,f10,f11,c1,c2,c5,G,B,zz]
 ·rintro x ⟨A',rest,rfl,q,I,v,u⟩;have D:ltI ((d+1+(k-(d+1)):Nat):Int) (m.length:Int)=false:=by rw[aF,h.len]; exact oF zN
  refine⟨_,?_,A',rest,rfl,q,I,λb=>?_,λb i g1 g2=>u b i g1 zN⟩;simp only[eT,D,oD];have⟨i,g1,g2,g3⟩:=v b;exact⟨i,g1,by omega,g3⟩
def bL3 {E:Nat} (h:sF o k n m A J M) (hk:k<1048576) (hn:n<1048576) (f:Fp k M0 M d c p 0) (b:c<n) (u:Big k n M T) (G:∀ i,i<d->∀ x,x<n->(M i x).natAbs<=E) (V:E<=T) (F:2*Lib.nDigits (T+1)<=DP) (a:Int) :
  ∃ A' M',dW (m,a,(d:Int),(c:Int),(d:Int),0,A,())=some (m,a,(d:Int),(c:Int),A',())/\sF o k n m A' J M'/\Fp k M0 M' d c p d/\(∀ i,d<=i->M' i=M i)/\∀ i,i<d->∀ x,x<n->(M' i x).natAbs<=E+(E+1)*T:=by
 have hd:=f.dk;have:=a27 (step:=mQ) (N:=2^64) d
  (λt x=>∃ A' M',x=(m,a,(d:Int),(c:Int),(d:Int),(t:Int),A',())/\sF o k n m A' J M'/\Fp k M0 M' d c p t/\(∀ i,t<=i->M' i=M i)/\∀ i,i<t->∀ x,x<n->(M' i x).natAbs<=E+(E+1)*T)
  (λz=>∃ A' M',z=(m,a,(d:Int),(c:Int),A',())/\sF o k n m A' J M'/\Fp k M0 M' d c p d/\(∀ i,d<=i->M' i=M i)/\∀ i,i<d->∀ x,x<n->(M' i x).natAbs<=E+(E+1)*T)
  zN (m,a,(d:Int),(c:Int),(d:Int),0,A,()) ⟨A,M,rfl,h,f,λ_ _=>rfl,λi hi=>by omega⟩ ?_ ?_
 obtain⟨z,L,A',M',rfl,U⟩:=this;exact⟨A',M',L,U⟩
 ·rintro t x ht ⟨A',M',rfl,j,w,g,q⟩;have hi:t<k:=zN
  have l:=g t (oM _);have r:=g d zN;have B:ltI (t:Int) (d:Int)=true:=ze
  have I:aE (t:Int) m.length=true:=by rw[aL,h.len]; exact oT zN
  have e3:((t:Nat):Int).toNat=t:=oN _;have Q:Nat.blt t m.length=true:=by rw[cF,h.len]; simpa using hi
  have O:aE (c:Int) n=true:=zi
  have P:(o+((c:Nat):Int).toNat)*1=o+c:=zr
  have R:Nat.blt (o+c) (o+n)=true:=by rw[cF]; simpa using b
  have K:=bP t zN;have S:=j.get hi;have D:=j.dG hi;have v:=j.dZ hi b;rw[l]at v;have f2:aE ((d:Nat):Int) m.length=true:=by rw[aL,h.len]; exact oT zN
  have f3:((d:Nat):Int).toNat=d:=oN _;have f4:Nat.blt d m.length=true:=by rw[cF,h.len]; simpa using hd
  have f9:=j.get hd;have f10:=j.dG hd;have f11:=j.dZ hd b;rw[r]at f11;have hm:M d c≠0:=by have:=f.piv; omega
  have Y:=G t ht c b;have H:=u _ hi c b;have Z:=u _ hd c b;have k1:=aJV F (Nat.le_succ_of_le H);have k2:=aJV F (Nat.le_succ_of_le Z);have c1:=aK0 (M t c) (M d c) (by have:DP=400000:=rfl; omega) (by have:DP=400000:=rfl; omega) hm;have⟨X,c2,c3⟩:=j.less hn hi hd zN ((M t c).fdiv (M d c)) (by
   rw[l,r];exact bCY F (u _ hi) (u _ hd) (aZR H hm))
  have s:=w.less ht;rw[l,r]at s c3;refine⟨_,?_,X,_,rfl,c3,s,λi y=>?_,λi y x C=>?_⟩;simp only[mQ,B,I,e3,Q,S,O,P,D,R,v,f2,f3,f4,f9,f10,f11,c1,c2,K,zz];rw[XK _ _ zN]; exact g i zN;by_cases e:i=t;subst e;rw[aKF];have W:=aZR Y hm;have q2:((M i c).fdiv (M d c)*M d x).natAbs=((M i c).fdiv (M d c)).natAbs*(M d x).natAbs:=Int.natAbs_mul _ _;have q3:((M i c).fdiv (M d c)).natAbs*(M d x).natAbs<=(E+1)*T:=Nat.mul_le_mul W (u _ hd x C);have q4:=G i zN x C;omega;rw[XK _ _ e]; exact q i zN x C
 ·rintro x ⟨A',M',rfl,j,w,g,q⟩;have B:ltI (d:Int) (d:Int)=false:=zf
  refine⟨_,?_,A',M',rfl,j,w,g,q⟩;simp only[mQ,B,oD]
end
def Wd(k n:Nat) (M:Nat->V):Prop:=∀ i,i<k->∀ x,n<=x->M i x=0
section
variable {o k n d c:Nat} {m:List (Nat×Nat×Nat)} {A:List (List ByteArray)} {J:Nat->Nat} {M M0:Nat->V} {p:Nat->Nat} {T E:Nat}
def Big.all (h:Big k n M T)(hw:Wd k n M):∀ i,i<k->∀ x,(M i x).natAbs<=T:=λi hi x=>by
 rcases oG x n with g|g
 ·exact h i hi x g
 ·rw[hw i hi x g]; simp
def pass(h:sF o k n m A J M) (hk:k<1048576) (hn:n<1048576) (f:Fo k M0 M d c p) (u:c<n) (hB:Big k n M T) (hw:Wd k n M) (hE:∀ i,i<d->∀ x,x<n->(M i x).natAbs<=E) (hET:E<=T) (hT:2*Lib.nDigits (T+1)<=DP) {a:Nat} (hd:d<k) (ha:d<=a) (w:a<k) (hm:M a c≠0)
  (b:Int) (G:nF (m,b,(d:Int),(c:Int),-1,(d:Int),A,())=some (m,b,(d:Int),(c:Int),(a:Int),A,())) :
  ∃ m1 A' F M',sF o k n m1 A' F M'/\Rd k (swp M d a) M' d c/\Fo k M0 M' d c p/\(∀ i,i<d->M' i=M i)/\Wd k n M' /\
   ((∃ i,d<i/\i<k/\M' i c≠0)->dY (m,b,(d:Int),(c:Int),A,())=some (.inl (m1,b,(d:Int),(c:Int),A',()))) /\
   ((∀ i,d<i->i<k->M' i c=0)->Big k n M' T->∃ t s p',dY (m,b,(d:Int),(c:Int),A,())=some (.inr (m1,b,((d+1:Nat):Int),(c:Int),t,()))/\sF o k n m1 t F s/\Fo k M0 s (d+1) (c+1) p'/\Wd k n s/\Big k n s (E+(E+1)*T)):=by
 obtain⟨F,hs⟩:∃ F,sF o k n ((m.set d (J a,o,n)).set a (J d,o,n)) A F (swp M d a):=⟨_,h.swap hd w⟩;have S:∀ i,i<k->∃ j,j<k/\swp M d a i=M j:=λi hi=>by
  unfold swp;grind
 have hBs:Big k n (swp M d a) T:=λi hi x r=>by
  have⟨j,Y,h2⟩:=S i hi;rw[h2]; exact hB j Y x r
 have B:Wd k n (swp M d a):=λi hi x r=>by
  have⟨j,Y,h2⟩:=S i hi;rw[h2]; exact hw j Y x r
 have N:swp M d a d=M a:=by simp[swp]
 have⟨A',M',rest,g1,g2,g3,g4,g5,g6,g7⟩:=bLI hs hk hn (f.swap ha w) hd u (by rw[N]; exact hm) hBs hT b;have y:Wd k n M':=λi hi x r=>by
  rcases Nat.lt_trichotomy i d with q|q|q
  ·rw[g5 i q]; exact B i hi x r
  ·subst q; rw[g3.1]; exact B i hi x r
  ·rw[g3.2 i q hi];simp only[B i hi x r,B d hd x r,Int.mul_zero,Int.sub_zero]
 have D:∀ i,i<d->M' i=M i:=λi hi=>by
  rw[g5 i hi];unfold swp;rw[if_neg zN,if_neg zN]
 -- what the pass begins with
 have e1:ltI (a:Int) 0=false:=zf
 have e2:aE (a:Int) m.length=true:=by rw[aL,h.len]; exact oT zN
 have e3:((a:Nat):Int).toNat=a:=oN _;have e4:Nat.blt a m.length=true:=by rw[cF,h.len]; simpa using w
 have f2:aE (d:Int) m.length=true:=by rw[aL,h.len]; exact oT zN
 have f3:((d:Nat):Int).toNat=d:=oN _;have f4:Nat.blt d m.length=true:=by rw[cF,h.len]; simpa using hd
 have e9:=h.get w;have f9:=h.get hd;have s1:(m.set d (J a,o,n)).length=m.length:=zr
 have first:dY (m,b,(d:Int),(c:Int),A,()) =
   (bif rest then some (.inl ((m.set d (J a,o,n)).set a (J d,o,n),b,(d:Int),(c:Int),A',()))
   else bif aE (d:Int) ((m.set d (J a,o,n)).set a (J d,o,n)).length then bif Nat.blt d ((m.set d (J a,o,n)).set a (J d,o,n)).length then bif aE (c:Int) (((m.set d (J a,o,n)).set a (J d,o,n)).getD d (0,0,0)).2.2 then
    bif Nat.blt (((((m.set d (J a,o,n)).set a (J d,o,n)).getD d (0,0,0)).2.1+((c:Nat):Int).toNat)*1) (dG A' (((m.set d (J a,o,n)).set a (J d,o,n)).getD d (0,0,0)).1) then
    aB (RQ ((dZ A' (((m.set d (J a,o,n)).set a (J d,o,n)).getD d (0,0,0)).1 (((((m.set d (J a,o,n)).set a (J d,o,n)).getD d (0,0,0)).2.1+((c:Nat):Int).toNat)*1) ByteArray.empty),())) λy23 =>
    bif ltI y23.1 0 then
     bif aE (d:Int) ((m.set d (J a,o,n)).set a (J d,o,n)).length then bif Nat.blt d ((m.set d (J a,o,n)).set a (J d,o,n)).length then
     aB (fH () (((((m.set d (J a,o,n)).set a (J d,o,n)).getD d (0,0,0)).1,(((m.set d (J a,o,n)).set a (J d,o,n)).getD d (0,0,0)).2.1,(((m.set d (J a,o,n)).set a (J d,o,n)).getD d (0,0,0)).2.2),()) A') λZ =>
     aB (dW ((m.set d (J a,o,n)).set a (J d,o,n),b,(d:Int),(c:Int),(d:Int),0,Z.2,())) λz25 =>
     some (.inr ((z25.1,z25.2.1,(aA .i64 (z25.2.2.1+1)),z25.2.2.2.1,z25.2.2.2.2.1,()))) else none else none
    else aB (dW ((m.set d (J a,o,n)).set a (J d,o,n),b,(d:Int),(c:Int),(d:Int),0,A',())) λz26 =>
    some (.inr ((z26.1,z26.2.1,(aA .i64 (z26.2.2.1+1)),z26.2.2.2.1,z26.2.2.2.2.1,()))) else none else none else none else none):=by
  simp only[dY,G,e1,e2,e3,e4,f2,f3,f4,e9,f9,s1,g1,zz]
 refine⟨_,A',F,M',g2,g3,g4,D,y,λhex=>?_,λhz v=>?_⟩
 ·have⟨i,H,C,R⟩:=hex;have W:rest=true:=by
   cases rest with
   | true=>rfl
   | false=>exact absurd (g7 rfl i H C) R
  rw[first,W]; rfl
 ·have W:rest=false:=by
   cases rest with
   | false=>rfl
   | true =>
    have⟨i,H,C,R⟩:=g6 rfl;exact absurd (hz i H C) R
  have hmd:M' d c≠0:=by rw[g3.1,N]; exact hm
  have t1:=g2.len;have t2:aE (d:Int) k=true:=zi
  have t3:Nat.blt d k=true:=by rw[cF]; simpa using hd
  have t4:=g2.get hd;have t5:aE (c:Int) n=true:=zi
  have t6:(o+((c:Nat):Int).toNat)*1=o+c:=zr
  have t7:Nat.blt (o+c) (o+n)=true:=by rw[cF]; simpa using u
  have t8:=g2.dG hd;have t9:=g2.dZ hd u;have t10:=aVS (M' d c);have t11:=bP d zN;have X:∀ i,i<d->∀ x,x<n->(M' i x).natAbs<=E:=λi hi x r=>by rw[D i hi]; exact hE i hi x r
  have fin:∀ (U:List (List ByteArray)) (z:Nat->V),sF o k n ((m.set d (J a,o,n)).set a (J d,o,n)) U F z->Fo k M0 z d c p->0<z d c->(∀ i,d<i->i<k->z i c=0)->Big k n z T->Wd k n z->(∀ i,i<d->z i=M' i) ->
    ∃ t s p',dW ((m.set d (J a,o,n)).set a (J d,o,n),b,(d:Int),(c:Int),(d:Int),0,U,())=some ((m.set d (J a,o,n)).set a (J d,o,n),b,(d:Int),(c:Int),t,())/\sF o k n ((m.set d (J a,o,n)).set a (J d,o,n)) t F s/\Fo k M0 s (d+1) (c+1) p'/\Wd k n s/\Big k n s (E+(E+1)*T):=by
   intro U z H C R q4 q5 q6 q7;have⟨P,M2,Q,O,K,I,L⟩:=bL3 H hk hn { toFo:=C,dk:=hd,piv:=R,below:=q4,up:=λi hi=>by omega } u q5 (λi hi x r=>by rw[q7 i hi]; exact X i hi x r) hET hT b;refine⟨P,M2,_,Q,O,K.done,λi hi x r=>?_,λi hi x r=>?_⟩
   ·rcases oG i d with g|g
    ·have hs0:Same k M0 k M2:=K.same;have h0:∀ j,j<k->M0 j x=0:=λj hj=>Sp.aS8 (M:=z) (λl hl=>q6 l hl x r) ((C.same _).1 (Sp.mem hj))
     exact Sp.aS8 (M:=M0) h0 ((hs0 _).2 (Sp.mem hi))
    ·rw[I i g]; exact q6 i hi x r
   ·rcases oG i d with g|g
    ·exact L i g x r
    ·rw[I i g];have:=q5 i hi x r;have:T*1<=T*(E+1):=Nat.mul_le_mul_left _ zN;rw[Nat.mul_comm (E+1) T];omega
  by_cases hn0:M' d c<0
  ·have⟨U,u1,u2⟩:=g2.neg hn hd (λx r=>(v.cm hT) d hd x r);have l1:up M' d (λx=>-(M' d x)) d c = -(M' d c):=by rw[aKF]
   have⟨P,M2,p2,Q,O,K,I,L⟩:=fin U _ u2 (g4.neg hd) (by rw[l1]; omega) (λi H C=>by rw[XK _ _ zN]; exact hz i H C)
    (λi hi x r=>by
     by_cases e:i=d
     ·subst e; rw[aKF,Int.natAbs_neg]; exact v i hi x r
     ·rw[XK _ _ e]; exact v i hi x r)
    (λi hi x r=>by
     by_cases e:i=d
     ·subst e; rw[aKF,y i hi x r]; rfl
     ·rw[XK _ _ e]; exact y i hi x r)
    (λi hi=>XK _ _ zN)
   refine⟨P,M2,p2,?_,O,K,I,L⟩;have s2:ltI (M' d c).sign 0=true:=by rw[aF,Int.sign_eq_neg_one_of_neg hn0]; rfl
   rw[first,W];simp only[t1,t2,t3,t4,t5,t6,t7,t8,t9,t10,s2,u1,Q,t11,zz]
  ·have⟨P,M2,p2,Q,O,K,I,L⟩:=fin A' _ g2 g4 zN hz v y (λ_ _=>rfl);refine⟨P,M2,p2,?_,O,K,I,L⟩;have s2:ltI (M' d c).sign 0=false:=by rw[aF,Int.sign_eq_one_of_pos zN]; rfl
   rw[first,W];simp only[t1,t2,t3,t4,t5,t6,t7,t8,t9,t10,s2,Q,t11,zz]
end
structure St (k n d E T:Nat):Prop where
 e1:1<=E
 et:E<=T
 eu:d+1<k->9*E^5<=T
 fit:2*Lib.nDigits (T+1)<=DP
def b13(o k n d c:Nat) (M0:Nat->V) (cols:Int) (E T:Nat) (z:List (Nat×Nat×Nat)×Int×Int×Int×List (List ByteArray)×Unit):Prop :=∃ m' A' J' M' d' p',z=(m',cols,((d':Nat):Int),(c:Int),A',())/\sF o k n m' A' J' M'/\Fo k M0 M' d' (c+1) p'/\Wd k n M'/\((d'=d/\Big k n M' E)\/(d'=d+1/\Big k n M' (E+(E+1)*T)))
section
variable {o k n d c:Nat} {m:List (Nat×Nat×Nat)} {A:List (List ByteArray)} {J:Nat->Nat} {M M0:Nat->V} {p:Nat->Nat} {T E:Nat}
def bVO {a g}(h:a<10^g):a<2^(4*g):=by
 refine Nat.lt_of_lt_of_le h ?_;rw[Nat.pow_mul];exact Nat.pow_le_pow_left R g
def rounds(H:k<1048576) (hn:n<1048576) (q:c<n) (G:2*Lib.nDigits (T+1)<=DP) (u:E<=T) {C:Nat} (hC:3*C<=T) (b:Int):∀ (R N P:Nat) {m:List (Nat×Nat×Nat)} {A:List (List ByteArray)} {J:Nat->Nat} {M:Nat->V},
  sF o k n m A J M->Fo k M0 M d c p->Wd k n M->(∀ i,i<d->∀ x,x<n->(M i x).natAbs<=E)->Bt k M d c C->Pt k M d c P->P<2^R->R<N->∃ z,aV dY N (m,b,(d:Int),(c:Int),A,())=some z/\b13 o k n d c M0 b E T z
 | 0,N,P,m,A,J,M,h,f,hw,hE,hB,hP,hlt,_=>by
  have⟨i,w1,w2,w3,w4⟩:=hP;have:=hB.piv;have K:1*1<=(M d c).natAbs*(M i c).natAbs:=Nat.mul_le_mul zN zN;grind
 | R+1,N+1,P,m,A,J,M,h,f,hw,hE,hB,hP,hlt,hN=>by
  have⟨I,b1,i0,b2,b3,b4,b5⟩:=hB.ex;have t:=hB.dk;have B:=hB.piv;have hE1:I<=C:=by
   have K:I*1<=I*((M d c).natAbs^3*(M i0 c).natAbs):=Nat.mul_le_mul_left _ (Nat.mul_pos (Nat.pow_pos zN) zN);grind
  have l:Big k n M T:=λi hi x F=>by
   rcases oG i d with g|g
   ·grind
   ·have:=(b1 i g hi).1 x;omega
  have⟨r,f1,f2⟩:=bJ2 h H (l.cm G) q (Nat.le_of_lt t) b;cases r with
  | none=>exact absurd (f2.none rfl d (oM _) zN) B
  | some a =>
   have⟨v,q2,w,Q⟩:=f2.some a rfl;have j:a<k:=zN
   have e:∀ i,d<=i->i<k->M i c≠0->(M a c).natAbs<=(M i c).natAbs:=λi g1 g2 g3=>Q i g1 zN g3
   have⟨m1,A',J',M',s1,s2,Y,s4,O,s6,X⟩:=pass h H hn f q l hw hE u G t v j w b f1;have y:∀ i,i<d->∀ x,x<n->(M' i x).natAbs<=E:=λi hi x F=>by rw[s4 i hi]; exact hE i hi x F
   by_cases hz:∀ i,d<i->i<k->M' i c=0
   ·rcases hB.round v j w e s2 with ⟨_,A1,g1⟩|⟨g1,_⟩
    ·have s:Big k n M' T:=λi hi x F=>by
      rcases oG i d with g|g
      ·grind
      ·exact oR ((g1 i g hi).1 x) hC
     have⟨Z,M2,p2,u1,W,U,S,L⟩:=X hz s;exact⟨_,by rw[eF,u1],m1,Z,J',M2,d+1,p2,rfl,W,U,S,.inr ⟨rfl,L⟩⟩
    ·have⟨_,_,i,z1,z2,z3,_⟩:=g1.ex;grind
   ·have hex:∃ i,d<i/\i<k/\M' i c≠0:=by
     have⟨i,hi⟩:=Classical.not_forall.1 hz;have⟨g1,hi⟩:=Classical.not_forall.1 hi;have⟨g2,g3⟩:=Classical.not_forall.1 hi;exact⟨i,g1,g2,g3⟩
    rcases hB.round v j w e s2 with ⟨g0,_⟩|⟨g1,_⟩
    ·exact absurd g0 hz
    ·have D:=hB.half v j w e s2 hz hP;have⟨z,v1,v2⟩:=rounds H hn q G u hC b R N (P/2) s1 Y O y g1 D (by rw[Nat.pow_succ]at hlt; omega) zN;exact⟨z,by rw[eF,s6 hex]; exact v1,v2⟩
def column(V:k<1048576) (hn:n<1048576) (h:sF o k n m A J M) (f:Fo k M0 M d c p) (hw:Wd k n M) (hd:d<k) (l:c<n) (y:Big k n M E) (st:St k n d E T) (b:Int) :
  ∃ z,mO (m,b,(d:Int),(c:Int),A,())=some z/\b13 o k n d c M0 b E T z:=by
 have e:Big k n M T:=λi hi x s=>oR (y i hi x s) st.et;have B:∀ i,i<d->∀ x,x<n->(M i x).natAbs<=E:=λi hi x s=>y i zN x s;have⟨r,f1,f2⟩:=bJ2 h V (e.cm st.fit) l (Nat.le_of_lt hd) b;unfold mO;obtain⟨N,hN⟩:∃ N,2^64=N+1:=⟨2^64-1,by omega⟩;rw[hN];cases r with
 | none =>
  have e1:ltI (atv none) 0=true:=zZ
  refine⟨_,?_,m,A,J,M,d,p,rfl,h,f.skip λi w K=>f2.none rfl i w zN,hw,.inl ⟨rfl,y⟩⟩;rw[eF];simp only[dY,f1,e1,zz]
 | some a =>
  have⟨Y,q2,Z,q4⟩:=f2.some a rfl;have q:a<k:=zN
  have⟨m1,A',J',M',s1,s2,s3,s4,s5,s6,X⟩:=pass h V hn f l e hw B st.et st.fit hd Y q Z b f1;have v:∀ i,i<d->∀ x,x<n->(M' i x).natAbs<=E:=λi hi x s=>by rw[s4 i hi]; exact B i hi x s
  have P:Wi k (swp M d a) d c E E:=(show Wi k M d c E E from λi g1 g2=>⟨λx=>y.all hw i g2 x,y.all hw i g2 c⟩).swap Y q;have t:swp M d a d=M a:=by simp[swp]
  have u:=s2.first P hd (by rw[t]; exact Z);have hpow:3*(3*(E*E)*E^3)=9*E^5:=zt
  by_cases I:d+1<k
  ·have h9:=st.eu I;rcases u with ⟨hz,g1⟩|g1
   ·have j:Big k n M' T:=λi hi x s=>by
     rcases oG i d with g|g
     ·exact oR (v i g x s) st.et
     ·have:=(g1 i g hi).1 x;have W:3*(E*E)*1<=3*(E*E)*E^3:=Nat.mul_le_mul_left _ (Nat.pow_pos st.e1);omega
    have⟨O,M2,p2,S,L,H,G,D⟩:=X hz j;exact⟨_,by rw[eF,S],m1,O,J',M2,d+1,p2,rfl,L,H,G,.inr ⟨rfl,D⟩⟩
   ·have⟨E1,b1,i0,U,R,b4,b5⟩:=g1.ex;have Q:Pt k M' d c (T*T):=by
     refine⟨i0,U,R,b4,Nat.mul_le_mul ?_ ?_⟩
     ·rw[s2.1,t]; exact e a q c l
     ·have w:=(g1.sign i0 U R).1;rw[s2.1,t]at w;exact oR (Nat.le_of_lt w) (e a q c l)
    have F:T*T<2^(8*Lib.nDigits (T+1)):=by
     have w:=bVO (pD (T+1));have K:(T+1)*(T+1)<2^(4*Lib.nDigits (T+1))*2^(4*Lib.nDigits (T+1)):=Nat.mul_lt_mul'' w w;rw[<- Nat.pow_add]at K;have W:4*Lib.nDigits (T+1)+4*Lib.nDigits (T+1)=8*Lib.nDigits (T+1):=zN
     rw[W]at K;have h4:T*T<=(T+1)*(T+1):=Nat.mul_le_mul zN zN;omega
    have hex:∃ i,d<i/\i<k/\M' i c≠0:=⟨i0,U,R,b4⟩;have⟨z,v1,v2⟩:=rounds V hn l st.fit st.et (C:=3*(E*E)*E^3) zN b (8*Lib.nDigits (T+1)) N (T*T) s1 s3 s5 v g1 Q F (by have:=st.fit; have:DP=400000:=rfl; omega);exact⟨z,by rw[eF,s6 hex]; exact v1,v2⟩
  ·have hz:∀ i,d<i->i<k->M' i c=0:=λi g1 g2=>zN
   have j:Big k n M' T:=λi hi x s=>by
    rcases oG i d with g|g
    ·exact oR (v i g x s) st.et
    ·have:i=d:=zN
     subst this;rw[s2.1,t];exact e a q x s
   have⟨O,M2,p2,S,L,H,G,D⟩:=X hz j;exact⟨_,by rw[eF,S],m1,O,J',M2,d+1,p2,rfl,L,H,G,.inr ⟨rfl,D⟩⟩
structure Bds (k n:Nat) (E T:Nat->Nat):Prop where
 st:∀ d,d<k->d<n->St k n d (E d) (T d)
 up:∀ d,d<k->d<n->E d+(E d+1)*T d<=E (d+1)
def bZ2 {d t p M'}(h:Fo k M M' d t p):d<=t:=by
 have:∀ i,i<d->i<=p i:=by
  intro i;induction i with
  | zero=>simp;| succ i a=>intro hi; have:=h.inc i (i+1) R hi; omega
 rcases Nat.eq_zero_or_pos d with h0|h0;omega;have:=this (d-1) Z; have:=h.lt (d-1) Z; omega
def a6C {E T:Nat->Nat} (Y:k<1048576) (hn:n<1048576) (h:sF o k n m A J M) (hw:Wd k n M) (W:Big k n M (E 0)) (D:Bds k n E T) :
  ∃ a A' b M' d p,eQ m ((n:Int),()) A=some (a.take d,A')/\d<=k/\sF o k n a A' b M'/\Hn d M' p/\Same k M d M'/\Wd k n M'/\Big k n M' (E d):=by
 have fin:∀ (N:Nat) {a:List (Nat×Nat×Nat)} {A':List (List ByteArray)} {b:Nat->Nat} {M':Nat->V} {d t:Nat} {p:Nat->Nat},t<=n->n-t<N->sF o k n a A' b M'->Fo k M M' d t p->Wd k n M'->Big k n M' (E d) ->
   ∃ z,aV eU N (a,(n:Int),(d:Int),(t:Int),A',())=some z/\∃ (a:List (Nat×Nat×Nat)) (A':List (List ByteArray)) (b:Nat->Nat) (M':Nat->V) (d:Nat) (p:Nat->Nat),z=(a,(d:Int),A',())/\sF o k n a A' b M'/\(d<=k/\Hn d M' p/\Same k M d M')/\Wd k n M'/\Big k n M' (E d):=by
  intro N
  induction N with
  | zero=>intro a A' b M' d t p H R; omega
  | succ N U =>
   intro a A' b M' d t p H R e c g s;rw[eF];rcases oG t n with ht|ht
   ·have j:ltI (t:Int) (n:Int)=true:=ze
    rcases oG d k with hd|hd
    ·have r:ltI (d:Int) (a.length:Int)=true:=by rw[aF,e.len]; exact oT zN
     obtain⟨z,w,m2,S,Z,M2,d2,p2,rfl,q,l,y3,y4⟩:=column Y hn e c g hd ht s (D.st d hd (Nat.lt_of_le_of_lt (bZ2 c) ht)) (n:Int);have X:=bP t zN;have O:eU (a,(n:Int),(d:Int),(t:Int),A',())=some (.inl (m2,(n:Int),(d2:Int),((t+1:Nat):Int),S,())):=by simp only[eU,j,r,w,X,zz]
     rw[O];refine U zN zN q l y3 ?_;rcases y4 with ⟨rfl,y4⟩|⟨rfl,y4⟩
     ·exact y4
     ·exact λi hi x v=>oR (y4 i hi x v) (D.up d hd (Nat.lt_of_le_of_lt (bZ2 c) ht))
    ·have u:d=k:=by have:=c.le; omega
     have r:ltI (d:Int) (a.length:Int)=false:=by rw[aF,e.len]; exact oF zN
     refine⟨_,by simp only[eU,j,r,zz],a,A',b,M',d,p,rfl,e,⟨c.le,c.hn (.inl u)⟩,g,s⟩
   ·have y:t=n:=zN
    subst y;have j:ltI (t:Int) (t:Int)=false:=zf
    refine⟨_,by simp only[eU,j,oD],a,A',b,M',d,p,rfl,e,⟨c.le,c.hn (.inr λi hi x v=>g i hi x v)⟩,g,s⟩
 obtain⟨z,w,a,A',b,M',d,p,rfl,q,⟨l,y3,y4⟩,G,y6⟩:=fin (2^64) (Nat.zero_le n) zN h (Fo.start k M) hw W;refine⟨a,A',b,M',d,p,?_,l,q,y3,y4,G,y6⟩;have z2:uT (m,(n:Int),0,0,A,())=some (a,(d:Int),A',()):=w;have L:ltI (d:Int) 0=false:=zf
 have I:((d:Nat):Int).toNat=d:=oN _;have C:=q.len;unfold eQ;simp only[z2,C,L,I,zz];by_cases f:k=0;have B:d=0:=zN;subst f; subst B;have:a=[]:=List.eq_nil_of_length_eq_zero C;subst this;rfl
 ·have K:Nat.beq k 0=false:=by
   cases k with
   | zero=>exact absurd rfl f;| succ k=>rfl
  have P:Nat.ble 0 d=true:=rfl;have F:Nat.ble d k=true:=by rw[eL]; simpa using l
  have Q:Nat.blt 0 k=true:=by rw[cF]; simp; omega
  simp only[K,P,F,Q,Nat.sub_zero,zz]
end
open Tryz
set_option maxHeartbeats 4000000
def aFV:zo [zd] [.bool]:=λ(a,())=>bif !(ltI a (-1000000000)) then some (!(ltI 1000000000 a),())else some (false,())
abbrev bRY:Ent:=⟨62,_,_,aFV⟩
def aX1:Ent.OK tP bRY:=oI (aS oW) func62
def aEZ:zo [zd] [.bool]:=λ(a,())=>aB (aFV (a,())) λb=>bif b.1 then some (false,())else some (true,())
abbrev bHD:Ent:=⟨61,_,_,aEZ⟩
def a4W:Ent.OK tP bHD:=oI (aS (oV aX1 oW)) func61
abbrev xA:zb:=[(0,.list TyE),(1,.fn 61),(7,zd),(8,zd)]
abbrev GN:zc:=[(.ret,[(4,zd)]),(.exit 0,[])]
def cH:zp xA GN:=λ(b,e,c,a,())=>bif ltI a c then za (aE a b.length)<|aB (aEZ ((b.getD a.toNat 0),())) λd=>bif d.1 then some (.inr (.inl (a,())))else some (.inl (b,(),c,(aA .i64 (a+1)),()))else some (.inr (.inr ((()))))
def fP:zq xA GN:=aV cH (2^64)
def kV:zo [.list TyE,.fn 61] [zd]:=λ(a,e,())=>aB (fP (a,(),(a.length:Int),0,())) λb=>mN b (λc=>some (c.1,())) λd=>some ((-1),())
abbrev Z5:Ent:=⟨106,_,_,kV⟩
def V8:Ent.OK tP Z5:=oU (aS (oV a4W oW)) func106 2 (lp:=fP) rfl
def gZ:zo [.list TyE,.fn 61] [.bool]:=λ(a,c,())=>aB (kV (a,(),())) λb=>some (!(ltI b.1 0),())
abbrev WG:Ent:=⟨60,_,_,gZ⟩
def S7:Ent.OK tP WG:=oI (aS (oV V8 oW)) func60
def kH:zo [.list TyE] [zd]:=λ(a,())=>bif ltI 64 (a.length:Int) then some (4,())else aB (gZ (a,(),())) λb=>bif b.1 then some (4,())else some (0,())
abbrev a7I:Ent:=⟨15,_,_,kH⟩
def xF:Ent.OK tP a7I:=oI (aS (oV S7 oW)) func15
abbrev Z8:zb:=[(1,zd),(8,.list TyD),(9,zd),(10,zd)]
abbrev aM7:zc:=[(.ret,[(4,zd)]),(.exit 0,[])]
def FT:zp Z8 aM7:=λ(e,b,d,a,())=>bif ltI a d then za (aE a b.length)<|aB (kH ((b.getD a.toNat []),())) λc=>bif !(eqI c.1 0) then some (.inr (.inl (c.1,())))else bif !(eqI ((b.getD a.toNat []).length:Int) e) then some (.inr (.inl (5,())))else some (.inl (e,b,d,(aA .i64 (a+1)),()))else some (.inr (.inr ((()))))
def UX:zq Z8 aM7:=aV FT (2^64)
def aAH:zo [.list TyD,zd] [zd]:=λ(a,d,())=>aB (UX (d,a,(a.length:Int),0,())) λb=>mN b (λc=>some (c.1,())) λe=>some (0,())
abbrev bB2:Ent:=⟨177,_,_,aAH⟩
def a1M:Ent.OK tP bB2:=oU (aS (oV xF oW)) func177 2 (lp:=UX) rfl
def QY:zo [zd,.list TyD] [zd]:=λ(a,b,())=>bif ltI a 0 then some (3,())else bif ltI 12 a then some (3,())else bif ltI 12 (b.length:Int) then some (4,())else aB (aAH (b,a,())) λc=>some (c.1,())
abbrev aQ8:Ent:=⟨139,_,_,QY⟩
def aJU:Ent.OK tP aQ8:=oI (aS (oV a1M oW)) func139
abbrev kW:zb:=[(4,.bag 105 TyE 29 TyD none),(6,.bag 105 TyE 29 TyD none),(13,.own 183 (.hnd 1)),(14,zd),(15,zd),(100000,.ar 167 .str)]
abbrev qU:zc:=[(.ret,[(4,.bag 105 TyE 29 TyD none),(5,zd),(100000,.ar 167 .str)]),(.exit 0,[(4,.bag 105 TyE 29 TyD none),(6,.bag 105 TyE 29 TyD none),(100000,.ar 167 .str)])]
def iJ:zp kW qU:=λ(f,e,b,d,a,u00,())=>bif ltI a d then za (aE a b.length)<|za (Nat.blt a.toNat b.length)<|aB (pL () (((b.getD a.toNat (0,0,0)).1,(b.getD a.toNat (0,0,0)).2.1,(b.getD a.toNat (0,0,0)).2.2),()) u00) λc=>bif !(eqI c.1.2.1 0) then some (.inr (.inl ((0,([],())),c.1.2.1,c.2,())))else za (Nat.ble [c.1.1].length 1048576)<|za (Nat.ble e.2.1.length 1048576)<|some (.inl ((f.1,(f.2.1,())),(e.1,((e.2.1++[c.1.1]),())),b,d,(aA .i64 (a+1)),c.2,()))else some (.inr (.inr (((f.1,(f.2.1,())),(e.1,(e.2.1,())),u00,()))))
def uX:zq kW qU:=aV iJ (2^64)
def eR(c:List (Nat×Nat×Nat))(x:aM [zd])(A:List (List ByteArray)):Option ((aM [.agg TyH,zd])×List (List ByteArray)):=match x with|(e,())=>aB (uX ((0,([],())),(e,([],())),c,(c.length:Int),0,A,())) λd=>mN d (λa=>some (((a.1.1,a.1.2.1),a.2.1,()),a.2.2.1)) λb=>some (((b.2.1.1,b.2.1.2.1),0,()),b.2.2.1)
def CG:Code:=bY f96
abbrev KP:Env:=RP [] [YS]
def Q8:dN tP KP:=jH trivial ⟨aL6,trivial⟩
def G6:Code:=inLoop (QF CG 0)
def JO(id:Nat):Option cI:=bif Nat.beq id 3 then some ⟨kW,qU,uX⟩ else none
def JK(id:Nat):Option cI:=none
def aB1:∀ x,TD tP KP 36 (xD f96) JO JK false [] G6 kW qU x=iJ x:=λ_=>Y
def aC3:H7 tP 36 false [] (.loop G6) ⟨kW,qU,uX⟩:=FI Q8.callee aQ.mixed _ (nK (l:=[]) Y trivial) aB1
def aEQ:dV CG=[.loop G6]:=Y
def aH8:∀ l x A,bN9 tP KP f96 (xD f96) JO JK CG 167 .str (.own 183 (.hnd 1)) [.int .i64] (.data [.agg TyH,.int .i64]) l x A=eR l x A:=by
 rintro u0 ⟨v1,⟨⟩⟩ A;kernel_rfl
def aK9:Z6 tP 96 167 .str (.own 183 (.hnd 1)) [.int .i64] (.data [.agg TyH,.int .i64]) eR:=bY6 aQ Q8 func96 (c:=CG) Y (keep:=xD f96) (lt:=JO) (rt:=JK) (by rfl) (nK aEQ ⟨E7 (i:=3) Y rfl aC3,trivial⟩) aH8
abbrev B9:Shr:=(96,aGA 1 (arH 167 .str (.own 183 (.hnd 1)) [.int .i64] (.data [.agg TyH,.int .i64]) eR))
def FL:sT tP B9:=yZ (g:=96) (f:=arH 167 .str (.own 183 (.hnd 1)) [.int .i64] (.data [.agg TyH,.int .i64]) eR) (QD aK9)
def MI:zo [zd,.list TyD] [.agg TyH,zd]:=λ(a,f,())=>aB (QY (a,f,())) λb=>bif !(eqI b.1 0) then some ((0,[]),b.1,())else aB (gV () (f,()) []) λc=>aB (eQ c.1 (a,()) c.2) λe=>aB (eR e.1 (a,()) e.2) λd=>some (d.1.1,d.1.2.1,())
def aSV:Code:=bY f119
abbrev a3O:Env:=RP [aQ8] [KH,CD,B9]
def a9G:dN tP a3O:=jH ⟨aJU,trivial⟩ ⟨NR,FY,FL,trivial⟩
def a0P(id:Nat):Option cI:=none
def a5G:bA aSV=[]:=Y
def a7U:∀ x,a3G tP a3O f119 (aP f119) a0P aSV 167 .str _ _ x=MI x:=λ_=>Y
abbrev bKB:Ent:=⟨119,_,_,MI⟩
def aSE:Ent.OK tP bKB:=bAO aQ a9G func119 (c:=aSV) Y (keep:=aP f119) (lt:=a0P) (aO a5G trivial) a7U
def eK(r:List Int):V:=λx=>r.getD x 0
def aDR(m:List (List Int)):Nat->V:=λi=>eK (m.getD i [])
def Vr(n:Nat) (v:V):List Int:=(List.range n).map v
def bPB r:Zr r.length (eK r)=r.map Zn:=by
 refine List.ext_getElem? λi=>?_;simp only[Zr];by_cases h:i<r.length;simp[eK,h];grind
def aTR {n v}(hw:∀ x,n<=x->v x=0):eK (Vr n v)=v:=by
 unfold eK Vr;grind
def aRB n (h:Lib.nDigits n.natAbs<=18):IF (Zn n,())=some (n,true,()):=by
 have f:(Zn n).size<=1000000000:=(by rcases(by omega:n<0\/0<=n)with g|g;rw[VK g]; omega;rw[aK1 g,R2]; omega)
 have j:Nat.ble (Zn n).size 1000000000=true:=by rw[eL]; simpa using f
 have i:Lib.parseIntB 64 (Zn n).data.toList=.ok n:=by
  have b:∀ c r,Lib.decDigits n.natAbs=c::r->c.toNat≠43/\c.toNat≠45:=λc r he=>by
   have:=aAQ n.natAbs c (by rw[he]; simp);omega
  have a:=bDM n.natAbs;rw[NP]at a;have hlen:(Lib.decDigits n.natAbs).length<=18:=by rw[Lib.decDigits_length]; exact h
  rw[Lib.parseIntB_64];rcases(by omega:n<0\/0<=n)with g|g;have hn : -(n.natAbs:Int)=n:=Z;rw[aOM g,Lib.atoiAll_minus,Lib.signed_short hlen,a];simp only[Option.map_some,hn];rfl
  ·have hn:(n.natAbs:Int)=n:=Z;rw[aK1 g,NP];cases he:Lib.decDigits n.natAbs with
   | nil=>exact absurd he (X8 _)
   | cons c r =>
    have⟨d,e⟩:=b c r he;rw[Lib.atoiAll_plain c r d e,<- he,Lib.signless_short hlen,a];simp only[Option.map_some,hn];rfl
 unfold IF;grind
def a3X(r:List Int)(n:r.length<=1048576)(g:∀ a∈r,-9223372036854775808<=a/\a<9223372036854775808) :
  F8 ([],r,(r.length:Int),0,())=some (r.map Zn,()):=by
 have key:=aK (step:=zH) (N:=2^64) (λt=>((r.take t).map Zn,r,(r.length:Int),(t:Int),())) r.length (r.map Zn,()) Z (λt ht=>?_) ?_;exact key
 ·have b:ltI (t:Int) (r.length:Int)=true:=ze
  have d:aE (t:Int) r.length=true:=zi
  have c:((t:Nat):Int).toNat=t:=oN _;have k:r.getD t 0=r[t]:=(by simp[List.getD,ht])
  have⟨l,i⟩:=g r[t] (List.getElem_mem ht);have h:=FC r[t] l i;have j:Nat.ble [Zn r[t]].length 1048576=true:=rfl;have m:Nat.ble ((r.take t).map Zn).length 1048576=true:=by rw[eL,List.length_map,List.length_take]; exact oT Z
  have f:=bP t Z;have e:(r.take t).map Zn++[Zn r[t]]=(r.take (t+1)).map Zn:=by rw[List.take_succ_eq_append_getElem ht,List.map_append]; rfl
  simp only[zH,b,d,c,k,h,j,m,f,e,zz]
 ·have b:ltI (r.length:Int) (r.length:Int)=false:=zf
  simp only[zH,b,oD,List.take_length]
def a2Y(r:List Int)(c:r.length<=1048576)(b:∀ a∈r,-9223372036854775808<=a/\a<9223372036854775808):wJ (r,())=some (r.map Zn):=by
 have d:ltI r.length 0=false:=by rfl
 have e:ltI 1048576 r.length=false:=by rw[aF]; grind
 unfold wJ;simp only[d,e,List.replicate_zero,a3X r c b,zz]
def bAX(rows:List (List Int)) {n:Nat} (w:rows.length<1048576) (hn:n<1048576) (hlen:∀ r∈rows,r.length=n) (p:∀ r∈rows,∀ a∈r,-9223372036854775808<=a/\a<9223372036854775808) :
  ∃ m A,gV () (rows,()) []=some (m,A)/\sF 0 rows.length n m A (λi=>i) (aDR rows):=by
 have key:=aK (step:=n9) (N:=2^64)
  (λt=>((List.range t).map (λi=>(i,0,n)),rows,(rows.length:Int),(t:Int),(rows.take t).map (·.map Zn),())) rows.length ((List.range rows.length).map (λi=>(i,0,n)),rows.map (·.map Zn),()) Z (λt ht=>?_) ?_
 ·refine⟨(List.range rows.length).map (λi=>(i,0,n)),rows.map (·.map Zn),?_,rfl,λi hi=>⟨[],rfl,?_⟩,λi j _ _ h=>h⟩
  ·unfold gV A8;have key:aV n9 (2^64) ([],rows,(rows.length:Int),0,[],())=_:=key;simp only[key,aC]
  ·rw[List.getElem?_map,List.getElem?_eq_getElem hi];simp only[Option.map_some,List.nil_append];have l:aDR rows i=eK rows[i]:=by unfold aDR; simp[List.getD,hi]
   rw[l,<- bPB,hlen rows[i] (List.getElem_mem hi)]
 ·have d:ltI (t:Int) (rows.length:Int)=true:=ze
  have k:aE (t:Int) rows.length=true:=zi
  have f:((t:Nat):Int).toNat=t:=oN _;have u:rows.getD t []=rows[t]:=by simp[List.getD,ht]
  have hm:=List.getElem_mem ht;have q:=a2Y rows[t] (by rw[hlen _ hm]; omega) (p _ hm);have s:((rows.take t).map (·.map Zn)).length=t:=by rw[List.length_map,List.length_take]; omega
  have v:Nat.ble [(t,0,n)].length 1048576=true:=rfl;have g:Nat.ble ((List.range t).map (λi=>(i,0,n))).length 1048576=true:=by rw[eL,List.length_map,List.length_range]; exact oT Z
  have o:=bP t Z;have b:(rows[t].map Zn).length=n:=by rw[List.length_map,hlen _ hm]
  have c:(rows.take t).map (·.map Zn)++[rows[t].map Zn]=(rows.take (t+1)).map (·.map Zn):=by rw[List.take_succ_eq_append_getElem ht,List.map_append]; rfl
  have e:(List.range t).map (λi=>(i,0,n))++[(t,0,n)]=(List.range (t+1)).map (λi=>(i,0,n)):=by rw[List.range_succ,List.map_append]; rfl
  simp only[n9,d,k,f,u,q,s,v,g,o,b,c,e,zz]
 ·have d:ltI (rows.length:Int) (rows.length:Int)=false:=zf
  simp only[n9,d,oD,List.take_length]
def bS4 {A:List (List ByteArray)} {J o n:Nat} {v:V} {pre:List ByteArray} (hn:n<1048576) (hp:pre.length=o) (h:A[J]?=some (pre++Zr n v)) (ok:∀ x,x<n->(v x).natAbs<=1000000000) :
  pL () ((J,o,n),()) A=some ((Vr n v,0,()),A):=by
 have key:=aK (step:=j9) (N:=2^64) (λt=>(Vr t v,(J,o,n),(n:Int),(t:Int),A,())) n (.inr (Vr n v,A,())) Z (λt ht=>?_) ?_
 ·have a:ltI (n:Int) 0=false:=zf
  have c:ltI 1048576 (n:Int)=false:=zf
  have key:aV j9 (2^64) ([],(J,o,n),(n:Int),0,A,())=_:=key;unfold pL yB;simp only[a,c,List.replicate_zero,key,zz]
 ·have r:=ok t ht;have a:ltI (t:Int) (n:Int)=true:=ze
  have c:aE (t:Int) n=true:=zi
  have i:(o+((t:Nat):Int).toNat)*1=o+t:=R
  have m:dG A J=o+n:=by rw[dG,aZX _ h,oH,mD,hp]
  have p:Nat.blt (o+t) (o+n)=true:=by rw[cF]; simpa using ht
  have q:dZ A J (o+t) ByteArray.empty=Zn (v t):=by rw[dZ,aZX _ h,aQ2 hp,aG4 _ ht]
  have j:=aRB (v t) (by have:=xL (u:=(v t).natAbs) (k:=17) Z; omega);have l:ltI 1000000000 (v t)=false:=zf
  have b:ltI (v t) (-1000000000)=false:=zf
  have e:Nat.ble [v t].length 1048576=true:=rfl;have g:Nat.ble (Vr t v).length 1048576=true:=by rw[eL]; unfold Vr; rw[List.length_map,List.length_range]; exact oT Z
  have f:=bP t Z;have d:Vr t v++[v t]=Vr (t+1) v:=by unfold Vr; rw[List.range_succ,List.map_append]; rfl
  simp only[j9,a,c,i,m,p,q,j,l,b,e,g,f,d,zz]
 ·have a:ltI (n:Int) (n:Int)=false:=zf
  simp only[j9,a,oD]
def a7O {o k d n:Nat} {m:List (Nat×Nat×Nat)} {A:List (List ByteArray)} {J:Nat->Nat} {M:Nat->V} (h:sF o k n m A J M) (hd:d<=k) (y:k<1048576) (hn:n<1048576) (ok:∀ i,i<d->∀ x,x<n->(M i x).natAbs<=1000000000) (a:Int) :
  eR (m.take d) (a,()) A=some (((a,(List.range d).map λi=>Vr n (M i)),0,()),A):=by
 have c:(m.take d).length=d:=by rw[List.length_take,h.len]; omega
 have v:∀ t,t<d->(m.take d).getD t (0,0,0)=(J t,o,n):=λt ht=>by
  rw[<- h.get (show t<k by omega)];grind
 have key:=aK (step:=iJ) (N:=2^64)
  (λt=>((0,([],())),(a,((List.range t).map (λi=>Vr n (M i)),())),m.take d,((m.take d).length:Int),(t:Int),A,())) d (.inr ((0,([],())),(a,((List.range d).map (λi=>Vr n (M i)),())),A,())) Z (λt ht=>?_) ?_
 ·have key:aV iJ (2^64) ((0,([],())),(a,([],())),m.take d,((m.take d).length:Int),0,A,())=_:=key;unfold eR uX;simp only[key,zz]
 ·rw[c];have⟨pre,l,q⟩:=h.at_ t Z;have e:ltI (t:Int) (d:Int)=true:=ze
  have j:aE (t:Int) d=true:=zi
  have f:((t:Nat):Int).toNat=t:=oN _;have u:Nat.blt t d=true:=by rw[cF]; simpa using ht
  have r:=bS4 hn l q (ok t ht);have s:eqI 0 0=true:=O
  have w:Nat.ble [Vr n (M t)].length 1048576=true:=rfl;have g:Nat.ble ((List.range t).map (λi=>Vr n (M i))).length 1048576=true:=by rw[eL,List.length_map,List.length_range]; exact oT Z
  have p:=bP t Z;have b:(List.range t).map (λi=>Vr n (M i))++[Vr n (M t)]=(List.range (t+1)).map (λi=>Vr n (M i)):=by rw[List.range_succ,List.map_append]; rfl
  simp only[iJ,c,e,j,f,u,v t ht,r,s,w,g,p,b,zz]
 ·rw[c];have e:ltI (d:Int) (d:Int)=false:=zf
  simp only[iJ,e,oD]
def A9(r:List Int) (k:r.length<=64) (f:∀ a∈r,a.natAbs<=1000000000):kH (r,())=some (0,()):=by
 have key:=aK (step:=cH) (N:=2^64) (λt=>(r,(),(r.length:Int),(t:Int),())) r.length (.inr ()) Z (λt ht=>?_) ?_
 ·have key:aV cH (2^64) (r,(),(r.length:Int),0,())=some (.inr ()):=key;have c:ltI 64 (r.length:Int)=false:=zf
  have d:ltI (-1) 0=true:=O
  simp only[kH,c,gZ,kV,fP,key,d,zz]
 ·have c:ltI (t:Int) (r.length:Int)=true:=ze
  have d:aE (t:Int) r.length=true:=zi
  have e:((t:Nat):Int).toNat=t:=oN _;have i:r.getD t 0=r[t]:=by simp[List.getD,ht]
  have b:=f r[t] (List.getElem_mem ht);have g:ltI r[t] (-1000000000)=false:=zf
  have h:ltI 1000000000 r[t]=false:=zf
  have j:=bP t Z;simp only[cH,c,d,e,i,aEZ,aFV,g,h,j,zz]
 ·have c:ltI (r.length:Int) (r.length:Int)=false:=zf
  simp only[cH,c,oD]
def bK5(rows:List (List Int)){n}(k:rows.length<1048576)(hn:n<=64)(hlen:∀ r∈rows,r.length=n)(f:∀ r∈rows,∀ a∈r,a.natAbs<=1000000000):aAH (rows,(n:Int),())=some (0,()):=by
 have key:=aK (step:=FT) (N:=2^64) (λt=>((n:Int),rows,(rows.length:Int),(t:Int),())) rows.length (.inr ()) Z (λt ht=>?_) ?_;have key:aV FT (2^64) ((n:Int),rows,(rows.length:Int),0,())=some (.inr ()):=key;simp only[aAH,UX,key,zz]
 ·have b:ltI (t:Int) (rows.length:Int)=true:=ze
  have d:aE (t:Int) rows.length=true:=zi
  have c:((t:Nat):Int).toNat=t:=oN _;have i:rows.getD t []=rows[t]:=(by simp[List.getD,ht]);have hm:=List.getElem_mem ht;have g:=A9 rows[t] (by rw[hlen _ hm]; exact hn) (f _ hm);have h:eqI 0 0=true:=O
  have j:eqI (rows[t].length:Int) (n:Int)=true:=by rw[bN,hlen _ hm]; exact oT rfl
  have e:=bP t Z;simp only[FT,b,d,c,i,g,h,j,e,zz]
 ·have b:ltI (rows.length:Int) (rows.length:Int)=false:=zf
  simp only[FT,b,oD]
def bH3(rows:List (List Int)){n}(f:rows.length<=12)(hn:n<=12)(hlen:∀ r∈rows,r.length=n)(d:∀ r∈rows,∀ a∈r,a.natAbs<=1000000000):QY ((n:Int),rows,())=some (0,()):=by
 have e:ltI n 0=false:=by rfl
 have c:ltI 12 n=false:=zf
 have b:ltI 12 rows.length=false:=by rw[aF]; grind
 simp only[QY,e,c,b,bK5 rows Z Z hlen d,zz]
def of_eq(rows:List (List Int)) {n:Nat} (y:rows.length<=12) (hn:n<=12) (hlen:∀ r∈rows,r.length=n) {E T:Nat->Nat} (l:∀ r∈rows,∀ a∈r,a.natAbs<=E 0) (u:E 0<=1000000000) (v:Bds rows.length n E T)
  (f:∀ d M p,d<=rows.length->Hn d M p->Same rows.length (aDR rows) d M->(∀ i,i<d->∀ x,n<=x->M i x=0)->∀ i,i<d->∀ x,x<n->(M i x).natAbs<=1000000000) :
  ∃ d M p,MI ((n:Int),rows,())=some (((n:Int),(List.range d).map λi=>Vr n (M i)),0,())/\d<=rows.length/\Hn d M p/\Same rows.length (aDR rows) d M/\(∀ i,i<d->∀ x,n<=x->M i x=0)/\∀ i,i<d->∀ x,x<n->(M i x).natAbs<=1000000000:=by
 have⟨m,A,q,t⟩:=bAX rows (n:=n) Z Z hlen (λr h a k=>by have:=l r h a k; omega);have b:∀ i,i<rows.length->∃ r,r∈rows/\aDR rows i=eK r:=λi hi=>⟨rows[i],List.getElem_mem hi,by unfold aDR; simp[List.getD,hi]⟩
 have hw:Wd rows.length n (aDR rows):=λi hi x j=>by
  have⟨r,e,c⟩:=b i hi;rw[c]; unfold eK;grind
 have s:Big rows.length n (aDR rows) (E 0):=λi hi x j=>by
  have⟨r,e,c⟩:=b i hi;rw[c]; unfold eK;have z:=hlen r e;have:r.getD x 0=r[x]' Z:=by simp[List.getD,show x<r.length by omega]
  rw[this];exact l r e _ (List.getElem_mem _)
 have⟨B,A',C,M',d,p,g1,g2,g3,g4,g5,g6,g7⟩:=a6C Z Z t hw s v;have g:∀ i,i<d->∀ x,n<=x->M' i x=0:=λi hi x j=>g6 i Z x j
 have o:=f d M' p g2 g4 g5 g;refine⟨d,M',p,?_,g2,g4,g5,g,o⟩;have w:eqI 0 0=true:=O
 simp only[MI,bH3 rows y hn hlen (λr h a k=>oR (l r h a k) u),w,q,g1,a7O g3 g2 Z Z o (n:Int),zz]
abbrev TE:zb:=[(3,.own 167 .str),(9,.list TyE),(10,zd),(11,zd)]
abbrev aEA:zc:=[(.exit 0,[(3,.own 167 .str)])]
def aQM:zp TE aEA:=λ(c,d,b,a,())=>bif ltI a b then za (aE a d.length)<|aB (pA ((d.getD a.toNat 0),())) λe=>za (Nat.ble [e.1].length 1048576)<|za (Nat.ble c.length 1048576)<|some (.inl ((c++[e.1]),d,b,(aA .i64 (a+1)),()))else some (.inr ((c,())))
def OY:zq TE aEA:=aV aQM (2^64)
def LH:zo [.list TyE] [.list .str]:=λ(a,())=>za (!(ltI (a.length:Int) 0))<|za (!(ltI 1048576 (a.length:Int)))<|aB (OY ((List.replicate 0 (ByteArray.empty:Ty.den .str)),a,(a.length:Int),0,())) λb=>some (b.1,())
abbrev aMK:Ent:=⟨141,_,_,LH⟩
def aUW:Ent.OK tP aMK:=oU (aS (oV RZ oW)) func141 3 (lp:=OY) rfl
abbrev gS:zb:=[(0,.val),(7,.list TyD),(8,.int .i64),(9,.int .i64)]
abbrev lU:zc:=[(.exit 0,[])]
def jU(x:Shape.den gS):Option (List (Value×aM [zd,.list .str])×(Shape.den gS⊕AQ lU)):=match x with|(c,b,d,a,())=>bif ltI a d then za (aE a b.length)<|aB (LH ((b.getD a.toNat []),())) λe=>aB (EU (e.1,())) λf=>outs [(c,(f.1,e.1,()))] (some ([],.inl (c,b,d,(aA .i64 (a+1)),())))else some ([],.inr ((())))
def qP(x:Shape.den gS):Option (List (Value×aM [.int .i64,.list .str])×AQ lU):=YL jU (2^64) x
def E5(b:Value)(x:TZ [TyH]):Option (List (Value×aM [zd,.list .str])):=match x with|(a,())=>bI3 (a3D (qP (b,a.2,(a.2.length:Int),0,())) λc=>some ([],()))
def xJ:Code:=bY f216
abbrev FO:Env:=RP [aMK,aGU] []
def MG:dN tP FO:=jH ⟨aUW,aQS,trivial⟩ trivial
def mY:Code:=inLoop (QF xJ 0)
def DV(id:Nat):Option cI:=none
def DN(id:Nat):Option (aLI (Value×aM [zd,.list .str])):=bif Nat.beq id 1 then some ⟨gS,lU,qP⟩ else none
def X5:bM mY=1:=Y
def aBS:dV mY=[]:=Y
def XI:∀ x,bHJ tP FO 22 (aP f216) DV [.int .i64,.list .str] DN mY gS lU x=jU x:=by
 rintro⟨v0,v7,v8,v9,⟨⟩⟩;kernel_rfl
def YG:bC5 tP 22 [.int .i64,.list .str] mY ⟨gS,lU,qP⟩:=a9X MG.callee aQ.mixed _ (aML aBS trivial) XI
def Z9:dV xJ=[.loop mY]:=Y
def aBN:∀ v0 x,bQB tP FO f216 (aP f216) DV [.int .i64,.list .str] DN xJ [TyH] v0 x=E5 v0 x:=by
 rintro v0 ⟨v1,⟨⟩⟩;kernel_rfl
def aB2 {f:TZ [TyH]->Option (List (aM [zd,.list .str]))}(h:∀ yv x all,f x=some all->E5 yv x=some (all.map λe=>(yv,e))):aOQ tP 216 [TyH] [.int .i64,.list .str] f:=bGG aQ MG func216 (c:=xJ) Y Y (keep:=aP f216) (lt:=DV) (li:=DN) (aML Z9 ⟨a9V X5 rfl rfl YG,trivial⟩) (λyv x all a=>(aBN yv x).trans (h yv x all a))
def bAJ:List (List Int)->Option (List (aM [zd,.list .str]))| []=>some []| r::l=>aB (LH (r,())) λy=>aB (EU (y.1,())) λz=>aB (bAJ l) λrest=>some ((z.1,y.1,())::rest)
def aYN(x:TZ [TyH]):Option (List (aM [zd,.list .str])):=match x with|((_,b),())=>bif Nat.ble b.length 1048576 then bAJ b else none
def a4H(yv:Value)(l:List (List Int))(d:l.length<=1048576):∀ (rest pre:List (List Int)) (all:List (aM [zd,.list .str])) (N:Nat),bAJ rest=some all->pre++rest=l->rest.length<N ->
  YL jU N (yv,l,(l.length:Int),(pre.length:Int),())=some (all.map λe=>(yv,e),())
 | [],pre,all,N+1,h,hp,_=>by
  obtain rfl:=oB h;rw[List.append_nil]at hp;subst hp;have b:ltI (pre.length:Int) (pre.length:Int)=false:=by simp[aF]
  simp only[YL,jU,b,oD];rfl
 | r::rest,pre,all,N+1,h,hp,hN=>by
  have⟨y,k,h⟩:=wA h;have⟨z,hz,h⟩:=wA h;have⟨a,i,h⟩:=wA h;obtain rfl:=oB h;have hlen:l.length=pre.length+(rest.length+1):=by rw[<- hp]; simp
  have b:ltI (pre.length:Int) (l.length:Int)=true:=by simp[aF]; omega
  have f:aE (pre.length:Int) l.length=true:=by simp[aL]; omega
  have g:l.getD ((pre.length:Int)).toNat []=r:=by rw[<- hp]; simp
  have j:=a4H yv l d rest (pre++[r]) a N i (by rw[<- hp]; simp) (by simp at hN; omega);have c:aA .i64 ((pre.length:Int)+1)=((pre++[r]).length:Int):=by rw[wrap64 Z Z]; simp
  simp only[YL,jU,b,f,g,k,hz,outs,c,zz];rw[j];rfl
def bSE:aOQ tP 216 [TyH] [.int .i64,.list .str] aYN:=by
 refine aB2 ?_;rintro yv ⟨⟨n,b⟩,⟨⟩⟩ all h;unfold aYN at h;dsimp only at h;have⟨a,h⟩:=aJ h;have a:=oL a;have:=a4H yv b a b [] all (2^64) h rfl Z;unfold E5;dsimp only;unfold qP;have c:((([]:List (List Int)).length:Nat):Int)=0:=rfl;rw[c]at this;rw[this];simp[a3D,outs,bI3]
def aPV:zo [zd] [.bool]:=λ(a,())=>bif ltI 1000000000 a then some (true,())else some (ltI a (-1000000000),())
abbrev bHP:Ent:=⟨240,_,_,aPV⟩
def a5P:Ent.OK tP bHP:=oI (aS oW) func240
abbrev wY:zb:=[(0,.list TyE),(1,.fn 240),(7,zd),(8,zd)]
abbrev GK:zc:=[(.ret,[(4,zd)]),(.exit 0,[])]
def fT:zp wY GK:=λ(b,e,c,a,())=>bif ltI a c then za (aE a b.length)<|aB (aPV ((b.getD a.toNat 0),())) λd=>bif d.1 then some (.inr (.inl (a,())))else some (.inl (b,(),c,(aA .i64 (a+1)),()))else some (.inr (.inr ((()))))
def uJ:zq wY GK:=aV fT (2^64)
def AD:zo [.list TyE,.fn 240] [zd]:=λ(a,e,())=>aB (uJ (a,(),(a.length:Int),0,())) λb=>mN b (λc=>some (c.1,())) λd=>some ((-1),())
abbrev ZG:Ent:=⟨106,_,_,AD⟩
def WH:Ent.OK tP ZG:=oU (aS (oV a5P oW)) func106 2 (lp:=uJ) rfl
def nJ:zo [.list TyE,.fn 240] [.bool]:=λ(a,c,())=>aB (AD (a,(),())) λb=>some (!(ltI b.1 0),())
abbrev WB:Ent:=⟨60,_,_,nJ⟩
def TL:Ent.OK tP WB:=oI (aS (oV WH oW)) func60
abbrev aCS:zb:=[(0,.list TyD),(8,.list TyD),(9,zd),(10,zd)]
abbrev aP6:zc:=[(.ret,[(2,zd)]),(.exit 0,[])]
def HZ:zp aCS aP6:=λ(c,b,d,a,())=>bif ltI a d then za (aE a b.length)<|bif ltI 12 ((b.getD a.toNat []).length:Int) then some (.inr (.inl (4,())))else za (aE 0 c.length)<|bif !(eqI ((b.getD a.toNat []).length:Int) ((c.getD 0 []).length:Int)) then some (.inr (.inl (5,())))else aB (nJ ((b.getD a.toNat []),(),())) λe=>bif e.1 then some (.inr (.inl (4,())))else some (.inl (c,b,d,(aA .i64 (a+1)),()))else some (.inr (.inr ((()))))
def XB:zq aCS aP6:=aV HZ (2^64)
def aFL:zo [.list TyD] [zd]:=λ(a,())=>bif ltI 12 (a.length:Int) then some (4,())else aB (XB (a,a,(a.length:Int),0,())) λb=>mN b (λc=>some (c.1,())) λd=>some (0,())
abbrev bG4:Ent:=⟨178,_,_,aFL⟩
def a5C:Ent.OK tP bG4:=oU (aS (oV TL oW)) func178 4 (lp:=XB) rfl
def R4:zo [zd] [.bool]:=λ(a,())=>some (!(eqI a 0),())
abbrev a2J:Ent:=⟨283,_,_,R4⟩
def aUQ:Ent.OK tP a2J:=oI (aS oW) func283
abbrev xB:zb:=[(0,.list TyE),(1,.fn 283),(7,zd),(8,zd)]
abbrev GM:zc:=[(.ret,[(4,zd)]),(.exit 0,[])]
def fO:zp xB GM:=λ(b,e,c,a,())=>bif ltI a c then za (aE a b.length)<|aB (R4 ((b.getD a.toNat 0),())) λd=>bif d.1 then some (.inr (.inl (a,())))else some (.inl (b,(),c,(aA .i64 (a+1)),()))else some (.inr (.inr ((()))))
def uQ:zq xB GM:=aV fO (2^64)
def zY:zo [.list TyE,.fn 283] [zd]:=λ(a,e,())=>aB (uQ (a,(),(a.length:Int),0,())) λb=>mN b (λc=>some (c.1,())) λd=>some ((-1),())
abbrev Y5:Ent:=⟨106,_,_,zY⟩
def WL:Ent.OK tP Y5:=oU (aS (oV aUQ oW)) func106 2 (lp:=uQ) rfl
def XD:zo [.list TyE] [zd]:=λ(a,())=>aB (zY (a,(),())) λb=>some (b.1,())
abbrev a9J:Ent:=⟨241,_,_,XD⟩
def a0D:Ent.OK tP a9J:=oI (aS (oV WL oW)) func241
def U4:zo [.list TyE,.ptr TyE,.ptr TyD] [.bool]:=λ(b,a,c,())=>za (aE a b.length)<|bif ltI (b.getD a.toNat 0) 0 then some (true,())else za (aE a b.length)<|za (aE a c.length)<|some (!(ltI (b.getD a.toNat 0) (c.getD a.toNat 0)),())
abbrev aV6:Ent:=⟨243,_,_,U4⟩
def aQF:Ent.OK tP aV6:=oI (aS oW) func243
abbrev pK:zb:=[(0,.list TyD),(1,.clo 243 [TyE,TyD]),(7,zd),(8,zd)]
abbrev zG:zc:=[(.ret,[(4,zd)]),(.exit 0,[])]
def dR:zp pK zG:=λ(c,b,d,a,())=>bif ltI a d then za (aE a c.length)<|aB (U4 ((c.getD a.toNat []),b.1,b.2.1,())) λe=>bif e.1 then some (.inr (.inl (a,())))else some (.inl (c,(b.1,b.2.1,()),d,(aA .i64 (a+1)),()))else some (.inr (.inr ((()))))
def mJ:zq pK zG:=aV dR (2^64)
def rQ:zo [.list TyD,.clo 243 [TyE,TyD]] [zd]:=λ(a,b,())=>aB (mJ (a,(b.1,b.2.1,()),(a.length:Int),0,())) λc=>mN c (λd=>some (d.1,())) λe=>some ((-1),())
abbrev SD:Ent:=⟨284,_,_,rQ⟩
def PB:Ent.OK tP SD:=oU (aS (oV aQF oW)) func284 2 (lp:=mJ) rfl
def gI:zo [.list TyD,.clo 243 [TyE,TyD]] [.bool]:=λ(b,a,())=>aB (rQ (b,(a.1,a.2.1,()),())) λc=>some (!(ltI c.1 0),())
abbrev O8:Ent:=⟨242,_,_,gI⟩
def L9:Ent.OK tP O8:=oI (aS (oV PB oW)) func242
abbrev UY:zb:=[(0,.list TyD),(3,zd),(7,.list TyD),(8,zd),(9,zd)]
abbrev aHI:zc:=[(.ret,[(2,.bool)]),(.exit 0,[])]
def BX:zp UY aHI:=λ(d,f,b,e,a,())=>bif ltI a e then za (aE a b.length)<|aB (XD ((b.getD a.toNat []),())) λc=>bif !(ltI f c.1) then some (.inr (.inl (false,())))else za (aE c.1 (b.getD a.toNat []).length)<|bif ltI ((b.getD a.toNat []).getD c.1.toNat 0) 0 then some (.inr (.inl (false,())))else za (!(ltI a 0))<|za (Nat.ble 0 a.toNat)<|za (Nat.ble a.toNat d.length)<|aB (gI (((d.drop 0).take (a.toNat-0)),(c.1,(b.getD a.toNat []),()),())) λg=>bif g.1 then some (.inr (.inl (false,())))else some (.inl (d,c.1,b,e,(aA .i64 (a+1)),()))else some (.inr (.inr ((()))))
def QQ:zq UY aHI:=aV BX (2^64)
def UG:zo [.list TyD] [.bool]:=λ(a,())=>aB (QQ (a,(-1),a,(a.length:Int),0,())) λc=>mN c (λb=>some (b.1,())) λd=>some (true,())
abbrev a5B:Ent:=⟨179,_,_,UG⟩
def aWP:Ent.OK tP a5B:=oU (aS (oV a0D (oV L9 oW))) func179 3 (lp:=QQ) rfl
def aCO:zo [.list TyD] [.bool,zd]:=λ(a,())=>aB (aFL (a,())) λb=>bif !(eqI b.1 0) then some (false,b.1,())else aB (UG (a,())) λc=>some (c.1,0,())
abbrev a5A:Ent:=⟨140,_,_,aCO⟩
def aVT:Ent.OK tP a5A:=oI (aS (oV aWP (oV a5C oW))) func140
def EY:zo [.agg TyH] [zd]:=λ(a,())=>aB (QY (a.1,a.2,())) λc=>bif !(eqI c.1 0) then some (c.1,())else aB (aCO (a.2,())) λb=>bif !(eqI b.2.1 0) then some (7,())else bif b.1 then some (0,())else some (7,())
abbrev aF9:Ent:=⟨93,_,_,EY⟩
def PW:Ent.OK tP aF9:=oI (aS (oV aVT (oV aJU oW))) func93
def PH:zo [.agg TyH,.list TyE] [zd]:=λ(a,b,())=>aB (EY (a,())) λd=>bif !(eqI d.1 0) then some (d.1,())else aB (kH (b,())) λc=>bif !(eqI c.1 0) then some (c.1,())else bif !(eqI (b.length:Int) a.1) then some (5,())else some (0,())
abbrev aYA:Ent:=⟨104,_,_,PH⟩
def aR9:Ent.OK tP aYA:=oI (aS (oV PW (oV xF oW))) func104
def LK:zo [.agg TyH] [.clo 216 [TyH]]:=λ(a,())=>some ((a,()),())
abbrev VF:Ent:=⟨157,_,_,LK⟩
def aIK:Ent.OK tP VF:=oI (aS oW) func157
abbrev dB:zb:=[(4,.bown 183 167 .str),(5,.bown 183 167 .str),(14,.clo 216 [TyH])]
abbrev gF:zc:=[(.normal,[(4,.bown 183 167 .str),(5,.bown 183 167 .str)])]
def nE(x:Shape.den dB)(e:aM [zd,.list .str]):oS dB gF:=match x,e with|(b,g,c,()),(a,f,())=>bif aE a b.length then bif Nat.blt a.toNat b.length then bif aE a f.length then aB (OP ((b.getD a.toNat ByteArray.empty),(f.getD a.toNat ByteArray.empty),())) λd=>aB (aBW (t:=.str) lM b (d.1,f,())) λh=>bif Nat.ble [d.1].length 1048576 then bif Nat.ble g.length 1048576 then some (.inl (h,(g++[d.1]),(c.1,()),())) else none else none else none else none else none
def DY(x:Shape.den dB):TZ [TyH]:=match x with|(c,b,a,())=>(a.1,())
def nG(x:Shape.den dB):oX gF:=a2H dB gF (λx=>aYN (DY x)) nE x
def wF:zo [.agg TyH,.list TyE] [.list .str,.list .str]:=λ(b,e,())=>aB (wJ (e,())) λc=>aB (LK (b,())) λd=>aB (nG (c,[],(d.1.1,()),())) λa=>some (a.1,a.2.1,())
def B6:Code:=bY f122
abbrev LF:Env:=RP [VF,aKV] [SF,YM]
def QO:dN tP LF:=jH ⟨aIK,aNN,trivial⟩ ⟨S2,aL2,trivial⟩
def cG:Code:=QF B6 0
def aJF:Code:=inLoop cG
def JV(id:Nat):Option cI:=none
def J3(id:Nat):Option cI:=bif Nat.beq id 5 then some ⟨dB,gF,nG⟩ else none
def aA2:bM aJF=5:=Y
def N2:cG=.rangeFunc (aNR cG) (a1W cG) (II cG) (inLoop cG):=Y
def aB8:∀ y e,aST tP LF 40 (xD f122) JV J3 (a1W cG).toList (II cG) (inLoop cG) [.int .i64,.list .str] dB gF y e=nE y e:=λ_ _=>Y
def aEM:∀ x,a8H 216 [TyH] dB (aNR cG) x=some (DY x):=λ_=>Y
def aDW:H7 tP 40 false [] cG ⟨dB,gF,nG⟩:=aNV QO aQ N2 func216 (c:=bY f216) Y bSE Y (nK (l:=[]) Y trivial) aEM aB8
def aEX:dV B6=[cG]:=Y
def aG5:∀ x,a0L tP LF f122 (xD f122) JV J3 B6 [.agg TyH,.list TyE] [.list .str,.list .str] x=wF x:=λ_=>Y
abbrev aNB:Ent:=⟨122,_,_,wF⟩
def aF6:Ent.OK tP aNB:=aJK aQ QO func122 (c:=B6) Y (keep:=xD f122) (lt:=JV) (rt:=J3) (nK aEX ⟨aF1 N2 aA2 rfl aDW,trivial⟩) aG5
def xX(u0:Unit) (x:aM [zd]) (A:List (List ByteArray)):Option ((List ByteArray)×List (List ByteArray)):=match x with|(a,())=>bif !(ltI a 0) then bif !(ltI a a) then bif !(ltI 1048576 a) then aB (wJ ((List.replicate a.toNat (0:Ty.den TyE)),())) λb=>some (b,A) else none else none else none
def WQ:Code:=bY f142
abbrev aJO:Env:=RP [] [SF]
def aTE:dN tP aJO:=jH trivial ⟨S2,trivial⟩
def aHF(id:Nat):Option cI:=none
def aQJ:bA WQ=[]:=Y
def aSQ:∀ l x A,SQ tP aJO f142 (aP f142) aHF WQ 167 .str .none [.int .i64] (.own 167 .str) l x A=xX l x A:=by
 rintro u0 ⟨v0,⟨⟩⟩ A;kernel_rfl
def aWJ:Z6 tP 142 167 .str .none [.int .i64] (.own 167 .str) xX:=I7 aQ aTE func142 (c:=WQ) Y (keep:=aP f142) (lt:=aHF) (by rfl) (aO aQJ trivial) aSQ
abbrev aJ3:Shr:=(142,aGA 0 (arH 167 .str .none [.int .i64] (.own 167 .str) xX))
def aRG:sT tP aJ3:=yZ (g:=142) (f:=arH 167 .str .none [.int .i64] (.own 167 .str) xX) (QD aWJ)
abbrev jI:zb:=[(1,zd),(2,zd),(7,.own 183 (.hnd 1)),(10,.list (.hnd 1)),(11,zd),(12,zd),(100000,.ar 167 .str)]
abbrev pW:zc:=[(.exit 0,[(2,zd),(7,.own 183 (.hnd 1)),(100000,.ar 167 .str)])]
def gQ:zp jI pW:=λ(c,g,e,b,d,a,u00,())=>bif ltI a d then za (aE a b.length)<|aB (lP () (((b.getD a.toNat (0,0,0)).1,(b.getD a.toNat (0,0,0)).2.1,(b.getD a.toNat (0,0,0)).2.2),()) u00) λf=>bif !(ltI f.1.1 c) then za (!(ltI c 0))<|za (Nat.ble c.toNat ((b.getD a.toNat (0,0,0)).2.2))<|za (Nat.ble ((b.getD a.toNat (0,0,0)).2.2) ((b.getD a.toNat (0,0,0)).2.2))<|za (Nat.ble [((b.getD a.toNat (0,0,0)).1,((b.getD a.toNat (0,0,0)).2.1+c.toNat),((b.getD a.toNat (0,0,0)).2.2-c.toNat))].length 1048576)<|za (Nat.ble e.length 1048576)<|some (.inl (c,g,(e++[((b.getD a.toNat (0,0,0)).1,((b.getD a.toNat (0,0,0)).2.1+c.toNat),((b.getD a.toNat (0,0,0)).2.2-c.toNat))]),b,d,(aA .i64 (a+1)),f.2,()))else some (.inl (c,g,e,b,d,(aA .i64 (a+1)),f.2,()))else some (.inr ((g,e,u00,())))
def lJ:zq jI pW:=aV gQ (2^64)
def nZ(u0:Unit)(x:aM [.list (.hnd 1),zd,zd])(A:List (List ByteArray)):Option ((List (Nat×Nat×Nat))×List (List ByteArray)):=match x with|(b,d,e,())=>aB (lJ (d,e,[],b,(b.length:Int),0,A,())) λa=>aB (eQ a.2.1 (a.1,()) a.2.2.1) λc=>some c
def AS:Code:=bY f144
abbrev JW:Env:=RP [] [aBC,CD]
def PG:dN tP JW:=jH trivial ⟨aNQ,FY,trivial⟩
def EX:Code:=dC AS 0
def HB(id:Nat):Option cI:=bif Nat.beq id 3 then some ⟨jI,pW,lJ⟩ else none
def Z2:∀ x,dL tP JW 30 (aP f144) HB EX jI pW x=gQ x:=λ_=>Y
def aBH:cJ tP 30 EX ⟨jI,pW,lJ⟩:=cC PG.callee aQ.mixed _ (aO (l:=[]) Y trivial) Z2
def aDG:bA AS=[EX]:=Y
def aEJ:∀ l x A,SQ tP JW f144 (aP f144) HB AS 167 .str .none [.list (.hnd 1),.int .i64,.int .i64] (.own 183 (.hnd 1)) l x A=nZ l x A:=by
 rintro u0 ⟨v0,v1,v2,⟨⟩⟩ A;kernel_rfl
def aIZ:Z6 tP 144 167 .str .none [.list (.hnd 1),.int .i64,.int .i64] (.own 183 (.hnd 1)) nZ:=I7 aQ PG func144 (c:=AS) Y (keep:=aP f144) (lt:=HB) (by rfl) (aO aDG ⟨cB (i:=3) Y rfl aBH,trivial⟩) aEJ
abbrev TT:Shr:=(144,aGA 0 (arH 167 .str .none [.list (.hnd 1),.int .i64,.int .i64] (.own 183 (.hnd 1)) nZ))
def aFK:sT tP TT:=yZ (g:=144) (f:=arH 167 .str .none [.list (.hnd 1),.int .i64,.int .i64] (.own 183 (.hnd 1)) nZ) (QD aIZ)
abbrev jC:zb:=[(0,.list (.hnd 1)),(1,zd),(5,.own 183 (.hnd 1)),(6,zd),(7,.own 167 .str),(11,zd),(12,zd),(15,.list (.hnd 1)),(16,zd),(17,zd),(100000,.ar 167 .str)]
abbrev pZ:zc:=[(.exit 2,[(0,.list (.hnd 1)),(1,zd),(5,.own 183 (.hnd 1)),(6,zd),(7,.own 167 .str),(11,zd),(12,zd),(100000,.ar 167 .str)])]
def lK:zp jC pZ:=λ(h,i,j,c,g,f,e,b,d,a,u00,())=>bif ltI a d then za (aE a b.length)<|za (aE c ((b.getD a.toNat (0,0,0)).2.2))<|za (Nat.blt (((b.getD a.toNat (0,0,0)).2.1+c.toNat)*1) (dG u00 ((b.getD a.toNat (0,0,0)).1)))<|za (Nat.ble [(dZ u00 ((b.getD a.toNat (0,0,0)).1) (((b.getD a.toNat (0,0,0)).2.1+c.toNat)*1) ByteArray.empty)].length 1048576)<|za (Nat.ble g.length 1048576)<|some (.inl (h,i,j,c,(g++[(dZ u00 ((b.getD a.toNat (0,0,0)).1) (((b.getD a.toNat (0,0,0)).2.1+c.toNat)*1) ByteArray.empty)]),f,e,b,d,(aA .i64 (a+1)),u00,()))else some (.inr ((h,i,j,c,g,f,e,u00,())))
def s9:zq jC pZ:=aV lK (2^64)
abbrev jJ:zb:=[(0,.list (.hnd 1)),(1,zd),(5,.own 183 (.hnd 1)),(11,zd),(12,zd),(100000,.ar 167 .str)]
abbrev qA:zc:=[(.exit 0,[(0,.list (.hnd 1)),(1,zd),(5,.own 183 (.hnd 1)),(100000,.ar 167 .str)])]
def lY:zp jJ qA:=λ(e,g,f,d,c,u00,())=>bif ltI c d then aB (s9 (e,g,f,c,[],d,c,e,(e.length:Int),0,u00,())) λa=>aB (xX () (a.2.1,()) a.2.2.2.2.2.2.2.1) λb=>za (aE a.2.2.2.1 b.1.length)<|za (Nat.blt a.2.2.2.1.toNat b.1.length)<|za (Nat.ble (b.1.set a.2.2.2.1.toNat (ByteArray.mk #[49])).length 1048576)<|za (Nat.ble a.2.2.2.2.1.length 1048576)<|za (Nat.ble [(b.2.length,0,(a.2.2.2.2.1++(b.1.set a.2.2.2.1.toNat (ByteArray.mk #[49]))).length)].length 1048576)<|za (Nat.ble a.2.2.1.length 1048576)<|some (.inl (a.1,a.2.1,(a.2.2.1++[(b.2.length,0,(a.2.2.2.2.1++(b.1.set a.2.2.2.1.toNat (ByteArray.mk #[49]))).length)]),a.2.2.2.2.2.1,(aA .i64 (a.2.2.2.2.2.2.1+1)),(b.2++[(a.2.2.2.2.1++(b.1.set a.2.2.2.1.toNat (ByteArray.mk #[49])))]),()))else some (.inr ((e,g,f,u00,())))
def lX:zq jJ qA:=aV lY (2^64)
def cY(u0:Unit)(x:aM [.list (.hnd 1),zd])(A:List (List ByteArray)):Option ((List (Nat×Nat×Nat))×List (List ByteArray)):=match x with|(d,c,())=>aB (lX (d,c,[],c,0,A,())) λa=>aB (eQ a.2.2.1 ((aA .i64 ((a.1.length:Int)+a.2.1)),()) a.2.2.2.1) λb=>aB (nZ () (b.1,(a.1.length:Int),a.2.1,()) b.2) λe=>some e
def AR:Code:=bY f95
abbrev AV:Env:=RP [] [TT,CD,aJ3]
def DR:dN tP AV:=jH trivial ⟨aFK,FY,aRG,trivial⟩
def qW:Code:=dC AR 0
def ES:Code:=dC qW 0
def zC(id:Nat):Option cI:=bif Nat.beq id 7 then some ⟨jC,pZ,s9⟩ else bif Nat.beq id 3 then some ⟨jJ,qA,lX⟩ else none
def ZR:∀ x,dL tP AV 51 (aP f95) zC ES jC pZ x=lK x:=λ_=>Y
def aBA:cJ tP 51 ES ⟨jC,pZ,s9⟩:=cC DR.callee aQ.mixed _ (aO (l:=[]) Y trivial) ZR
def ZL:∀ x,dL tP AV 51 (aP f95) zC qW jJ qA x=lY x:=λ_=>Y
def aE8:bA qW=[ES]:=Y
def aA8:cJ tP 51 qW ⟨jJ,qA,lX⟩:=cC DR.callee aQ.mixed _ (aO aE8 ⟨cB (i:=7) Y rfl aBA,trivial⟩) ZL
def aDM:bA AR=[qW]:=Y
def aE9:∀ l x A,SQ tP AV f95 (aP f95) zC AR 167 .str .none [.list (.hnd 1),.int .i64] (.own 183 (.hnd 1)) l x A=cY l x A:=by
 rintro u0 ⟨v0,v1,⟨⟩⟩ A;kernel_rfl
def aIR:Z6 tP 95 167 .str .none [.list (.hnd 1),.int .i64] (.own 183 (.hnd 1)) cY:=I7 aQ DR func95 (c:=AR) Y (keep:=aP f95) (lt:=zC) (by rfl) (aO aDM ⟨cB (i:=3) Y rfl aA8,trivial⟩) aE9
abbrev JS:Shr:=(95,aGA 0 (arH 167 .str .none [.list (.hnd 1),.int .i64] (.own 183 (.hnd 1)) cY))
def PS:sT tP JS:=yZ (g:=95) (f:=arH 167 .str .none [.list (.hnd 1),.int .i64] (.own 183 (.hnd 1)) cY) (QD aIR)
def CB:zo [.agg TyH] [.agg TyH,zd]:=λ(a,())=>aB (EY (a,())) λb=>bif !(eqI b.1 0) then some ((0,[]),b.1,())else aB (gV () (a.2,()) []) λd=>aB (cY () (d.1,a.1,()) d.2) λf=>aB (cY () (f.1,a.1,()) f.2) λe=>aB (eR e.1 (a.1,()) e.2) λc=>some (c.1.1,c.1.2.1,())
def WR:Code:=bY f120
abbrev aJR:Env:=RP [aF9] [KH,JS,B9]
def aR4:dN tP aJR:=jH ⟨PW,trivial⟩ ⟨NR,PS,FL,trivial⟩
def aH3(id:Nat):Option cI:=none
def aQY:bA WR=[]:=Y
def aRL:∀ x,a3G tP aJR f120 (aP f120) aH3 WR 167 .str _ _ x=CB x:=λ_=>Y
abbrev a0G:Ent:=⟨120,_,_,CB⟩
def aBQ:Ent.OK tP a0G:=bAO aQ aR4 func120 (c:=WR) Y (keep:=aP f120) (lt:=aH3) (aO aQY trivial) aRL
def vQ:zo [.agg TyH] [.agg TyH,zd]:=λ(a,())=>aB (EY (a,())) λb=>bif !(eqI b.1 0) then some ((0,[]),b.1,())else aB (gV () (a.2,()) []) λc=>aB (cY () (c.1,a.1,()) c.2) λe=>aB (eR e.1 (a.1,()) e.2) λd=>some (d.1.1,d.1.2.1,())
def RV:Code:=bY f53
abbrev aBI:Env:=RP [aF9] [KH,JS,B9]
def aNY:dN tP aBI:=jH ⟨PW,trivial⟩ ⟨NR,PS,FL,trivial⟩
def Y3(id:Nat):Option cI:=none
def aL5:bA RV=[]:=Y
def aMJ:∀ x,a3G tP aBI f53 (aP f53) Y3 RV 167 .str _ _ x=vQ x:=λ_=>Y
abbrev aTA:Ent:=⟨53,_,_,vQ⟩
def V5:Ent.OK tP aTA:=bAO aQ aNY func53 (c:=RV) Y (keep:=aP f53) (lt:=Y3) (aO aL5 trivial) aMJ
end Go.PM
