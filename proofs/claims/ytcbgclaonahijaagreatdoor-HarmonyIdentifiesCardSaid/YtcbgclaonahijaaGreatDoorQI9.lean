/- Texts of one proof, joined (9). -/
import Derived.Lib.AtoiAllCases
import Derived.Test.YtcbgclaonahijaaGreatDoorQI8
set_option linter.unusedSimpArgs false
set_option linter.unusedVariables false
set_option linter.defProp false
set_option maxRecDepth 100000
noncomputable section
namespace Go.PM
open Go Go.RowKit Go.Proofs Go.De
def aJS a b:Lib.nDigits (a+b)<=max (Lib.nDigits a) (Lib.nDigits b)+1:=by
 have c:=pD a;have d:=pD b;have f:10^Lib.nDigits a<=10^max (Lib.nDigits a) (Lib.nDigits b):=Nat.pow_le_pow_right (by simp) (by omega);have e:10^Lib.nDigits b<=10^max (Lib.nDigits a) (Lib.nDigits b):=Nat.pow_le_pow_right (by simp) (by omega);refine xL ?_;grind
def a0E a b:Lib.nDigits (a*b)<=Lib.nDigits a+Lib.nDigits b:=by
 have d:=nDigits_pos a;obtain⟨k,c⟩:∃ k,Lib.nDigits a+Lib.nDigits b=k+1:=⟨Lib.nDigits a+Lib.nDigits b-1,by omega⟩;rw[c];refine xL ?_;rw[<- c,Nat.pow_add];exact Nat.mul_lt_mul'' (pD a) (pD b)
def a02 {a b}(h:18<Lib.nDigits a\/18<Lib.nDigits b):A6 (Dn a,Dn b,())=some (0,0,false,()):=by
 unfold A6;simp only[R2,aF];grind
def aW7 {u}(hu:Lib.nDigits u<=1000000):(pcs u).length<=111112:=by
 have:=aWY hu;omega
def bK4 u:vl (pcs u++[0])=u:=by rw[VQ,(kL u).2.2]; rfl
def bLH u:Pc (pcs u++[0]):=(kL u).1.append (λx a=>by grind)
def bUN u k:vl (pcs u++List.replicate k 0)=u:=by rw[VQ,(kL u).2.2,aPT]; rfl
def bWO u k:Pc (pcs u++List.replicate k 0):=(kL u).1.append (Pc.rep k)
def bUQ {a b k:Nat} (h:(pcs b).length+k=(pcs a).length) (i:(pcs a).length<=1048576) :
  ∃ l,aBW (t:=.int .u64) dT (pcs a++[0]) (pcs b++List.replicate k 0,0,())=some l/\l.length<=1048577/\MH l=pcs (a+b):=by
 have d:=bWO b k;have hp:=bLH a;have c:(pcs b++List.replicate k (0:Int)).length=(pcs a).length:=by simp; omega
 have f:(pcs a++[(0:Int)]).length=(pcs a).length+1:=(by simp);have be:=back_eq (at':=0) hp d (by omega) (by omega);have bi:=bkI hp d (at':=0) (by omega) ((pcs b++List.replicate k 0).length+1) (oM _);refine⟨_,be,by rw[bi.len]; omega,VX bi.pc ?_⟩;have e:=bi.val;rw[List.take_of_length_le (by omega),bK4,bUN,c,bEP,Int.one_mul]at e;have hn:=aCL bi.pc;have n0:=zU bi.pc;have j:=a9S a;have m:=a9S b;have g:1000000000^(pcs b).length<=1000000000^(pcs a).length:=Nat.pow_le_pow_right (by decide) (by omega);have n:pw (0+((pcs a).length+1))=1000000000*((1000000000^(pcs a).length:Nat):Int):=(by rw[Nat.zero_add,WZ,bTK]);rw[c]at n0 hn ⊢;rcases bi.ca with hc|hc;grind;grind
def aEV a b (F:Lib.nDigits a<=900000)(C:Lib.nDigits b<=900000):gM (Dn a,Dn b,())=some (Dn (a+b),()):=by
 by_cases g:Lib.nDigits a<=18/\Lib.nDigits b<=18;exact bIO a b g.1 g.2
 ·have d:=a02 (a:=a) (b:=b) (by omega);have m:=aTB a (by omega) [];have p:=aTB b (by omega) [];have la:=aW7 (u:=a) (by omega);have E:=aW7 (u:=b) (by omega);have e:=aJS a b;have A:=aZP (a+b) (by omega);have long:∀ x y:Nat,(pcs y).length<=(pcs x).length->(pcs x).length<=111112->x+y=a+b->(bif Nat.ble [0].length 1048576 then bif Nat.ble (pcs x).length 1048576 then bif !(ltI (aA .i64 ((aA .i64 (((pcs x++[0]).length:Int)-1))-((pcs y).length:Int))) 0) then bif !(ltI 1048576 (aA .i64 ((aA .i64 (((pcs x++[0]).length:Int)-1))-((pcs y).length:Int)))) then bif Nat.ble (pcs y).length 1048576 then aB (aBW (t:=(.int .u64)) dT (pcs x++[0]) ((pcs y++List.replicate (aA .i64 ((aA .i64 (((pcs x++[0]).length:Int)-1))-((pcs y).length:Int))).toNat (0:Ty.den (.int .u64))),0,())) λn =>
    aB (bU n (()) []) λr =>
    aB (dK (r.1,())) λc =>
    some (c.1,()) else none else none else none else none else none)=some (Dn (a+b),()):=by
   intro x y D B q;obtain⟨k,j⟩:∃ k,(pcs y).length+k=(pcs x).length:=⟨(pcs x).length-(pcs y).length,by omega⟩;have⟨l,w,G,f⟩:=bUQ j (by omega);have h:((pcs x++[0]).length:Int)=((pcs x).length:Int)+1:=by simp
   have s:aA .i64 (aA .i64 (((pcs x).length:Int)+1-1)-((pcs y).length:Int))=(k:Int):=by rw[wrap64 (x:=((pcs x).length:Int)+1-1) (by omega) (by omega),wrap64 (by omega) (by omega)]; omega
   have o:ltI (k:Int) 0=false:=zf
   have v:ltI 1048576 (k:Int)=false:=zf
   have z:Nat.ble (pcs x).length 1048576=true:=zm
   have i:Nat.ble (pcs y).length 1048576=true:=zm
   rw[q]at f;rw[h,s,o,v,z,i,oN];rw[w,aC,aOL (by omega),f,aC];show (aB (dK (pcs (a+b),())) _)=_;rw[A,aC]
  unfold gM;simp only[d,m,p,aF (((pcs a).length:Nat):Int) ((pcs b).length:Int),zz];grind
def bT5 {a b k}(o:b<=a)(h:(pcs b).length+k=(pcs a).length)(p:(pcs a).length<=1048576) :
  ∃ c l,aU7 (t:=.int .u64) fK (pcs a++[0]) (pcs b++List.replicate k 0,1,0,())=some (c,l)/\l.length<=1048577/\MH l=pcs (a-b):=by
 have i:=bWO b k;have hp:=bLH a;have f:(pcs b++List.replicate k (0:Int)).length=(pcs a).length:=by simp; omega
 have g:(pcs a++[(0:Int)]).length=(pcs a).length+1:=(by simp);have j:=bQI (n:=1) (at':=0) hp i (by omega) (by omega) (by omega);have d:=tkI hp i (n:=1) (at':=0) (by omega) (by omega) ((pcs b++List.replicate k 0).length+1) (oM _);refine⟨_,_,j,by rw[d.len]; omega,VX d.pc ?_⟩;have m:=d.val;have e:=d.fin (by omega);rw[List.take_of_length_le (by omega),bK4,bUN,e,Int.add_zero,f,bEP]at m;have hn:=aCL d.pc;rw[d.len,g]at hn;have n0:=zU d.pc;rw[f]at n0 hn ⊢;rcases d.bo with hc|hc;grind;grind
def RY a b (y:Lib.nDigits a<=900000)(A:Lib.nDigits b<=900000)(h:b<=a):dM (Dn a,Dn b,())=some (Dn (a-b),0,()):=by
 by_cases g:Lib.nDigits a<=18/\Lib.nDigits b<=18;exact bK9 a b g.1 g.2 h
 ·have d:=a02 (a:=a) (b:=b) (by omega);have t:=aTB a (by omega) [];have i:=aTB b (by omega) [];have la:=aW7 (u:=a) (by omega);have hd:=vC (show a-b<=a by omega);have s:=aZP (a-b) (by omega);have f:=aM5 h;have e:ltI (aUL a b) 0=false:=(by rw[aF]; unfold aUL;grind);obtain⟨k,n⟩:∃ k,(pcs b).length+k=(pcs a).length:=⟨(pcs a).length-(pcs b).length,by omega⟩;have⟨c,l,q,z,w⟩:=bT5 h n (by omega);have j:((pcs a++[0]).length:Int)=((pcs a).length:Int)+1:=(by simp)
  have o:aA .i64 (aA .i64 (((pcs a).length:Int)+1-1)-((pcs b).length:Int))=(k:Int):=by rw[wrap64 (x:=((pcs a).length:Int)+1-1) (by omega) (by omega),wrap64 (by omega) (by omega)]; omega
  have v:ltI (k:Int) 0=false:=zf
  have p:ltI 1048576 (k:Int)=false:=zf
  have r:Nat.ble (pcs a).length 1048576=true:=zm
  have m:Nat.ble (pcs b).length 1048576=true:=zm
  unfold dM;simp only[HP a b (by omega) (by omega),e,d,t,i,zz];rw[j,o,v,p,r,m,oN];rw[q,aC];show (aB (bU l () []) _)=_;rw[aOL (by omega),w,aC];rw[s,aC]
def bEV a b (h:Lib.nDigits a+Lib.nDigits b<=900000):gO (Dn a,Dn b,())=some (Dn (a*b),()):=by
 by_cases i:Lib.nDigits a+Lib.nDigits b<=18;exact bIX a b i
 ·have f:=aTB a (by omega) [];have c:=aTB b (by omega) [];have la:=aW7 (u:=a) (by omega);have k:=aW7 (u:=b) (by omega);have hm:=a0E a b;have g:=aZP (a*b) (by omega);have d:=bIL a b (by omega) [];have e:aA .i64 ((Lib.nDigits a:Int)+(Lib.nDigits b:Int))=(Lib.nDigits a:Int)+(Lib.nDigits b:Int):=wrap64 (by omega) (by omega);have j:ltI 18 ((Lib.nDigits a)+(Lib.nDigits b:Int))=true:=by rw[aF]; grind
  unfold gO;simp only[R2,e,j,f,c,d,g,zz]
def a5Q a b (C:Lib.nDigits a<=900000)(x:Lib.nDigits b<=900000)(h:b≠0):u7 (Dn a,Dn b,())=some (Dn (a/b),Dn (a%b),0,()):=by
 by_cases j:Lib.nDigits a<=18/\Lib.nDigits b<=18;exact a7F a b j.1 j.2 h
 ·have d:=a02 (a:=a) (b:=b) (by omega);have o:=aTB a (by omega) [];have p:=aTB b (by omega) [];have la:=aW7 (u:=a) (by omega);have B:=aW7 (u:=b) (by omega);have v:=bNS a b (by omega) (by omega);have y:=vC (Nat.div_le_self a b);have z:=vC (Nat.mod_le a b);have i:=aZP (a/b) (by omega);have q:=aZP (a%b) (by omega);have g:eqS (Dn b) (ByteArray.mk #[48])=false:=by rw[a6N]; exact oF h
  unfold u7;simp only[g,d,o,p,v,zz];by_cases c:a<b;rw[if_pos c];have:ltI (-1) 0=true:=rfl;rw[this,Nat.div_eq_of_lt c,Nat.mod_eq_of_lt c,<- b03];rfl
  ·rw[if_neg c];have r:ltI (if b<a then (1:Int) else 0) 0=false:=by
    rw[aF]; refine oF ?_;grind
   rw[r,oD];by_cases m:(pcs b).length=1
   ·have f:b<1000000000:=by have:=a9S b; rw[m]at this; simpa using this
    have e:eqI ((pcs b).length:Int) 1=true:=zg
    have s:aE 0 (pcs b).length=true:=zi
    have t:Nat.blt 0 (pcs b).length=true:=zk
    have k:(pcs b).getD 0 0=(b:Int):=by rw[bAV]; simp; omega
    have sm:=bJR a (n:=b) ⟨by omega,f⟩ (by omega) [];have A:a%b<b:=Nat.mod_lt _ (by omega);rw[e,s,t,k];rw[sm,aC];rw[i,aC];show (aB (EF (((a%b:Nat):Int),())) _)=_;rw[aAE _ (by omega),aC]
   ·have w:0<(pcs b).length:=by rw[aYW h]; simp
    have e:eqI ((pcs b).length:Int) 1=false:=zh
    have l:=bQQ a b (by omega) (by omega) (by omega) [];rw[e];rw[l,aC];rw[i,aC];show (aB (dK (pcs (a%b),())) _)=_;rw[q,aC]
def a73(x y:Int) (h:Lib.nDigits x.natAbs<=400000) (f:Lib.nDigits y.natAbs<=400000):aIG (Zn x,Zn y,())=some (Zn (x+y),()):=by
 have d:(aB (dE (Zn x,())) λy4=>aB (dE (Zn y,())) λc =>
   bif y4.1 then
    bif c.1 then
     aB (gM (y4.2.1,c.2.1,())) λy6 =>
     aB (aD (y4.1,y6.1,())) λv =>
     some (v.1,())
    else aB (iF (y4.2.1,c.2.1,())) λA =>
    bif ltI A.1 0 then
     aB (dM (c.2.1,y4.2.1,())) λB =>
     aB (aD (c.1,B.1,())) λj =>
     some (j.1,())
    else aB (dM (y4.2.1,c.2.1,())) λt =>
    aB (aD (y4.1,t.1,())) λs =>
    some (s.1,())
   else bif c.1 then
    aB (iF (y4.2.1,c.2.1,())) λl =>
    bif ltI l.1 0 then
     aB (dM (c.2.1,y4.2.1,())) λq =>
     aB (aD (c.1,q.1,())) λm =>
     some (m.1,())
    else aB (dM (y4.2.1,c.2.1,())) λr =>
    aB (aD (y4.1,r.1,())) λn =>
    some (n.1,())
   else aB (gM (y4.2.1,c.2.1,())) λo =>
   aB (aD (y4.1,o.1,())) λp =>
   some (p.1,()))=some (Zn (x+y),()):=by
  simp only[D7 x,D7 y,aC];have dg:∀ u:Nat,u<=x.natAbs+y.natAbs->Lib.nDigits u<2^32:=λu hu=>by
   have z:=vC hu;have w:=aJS x.natAbs y.natAbs;omega
  have cm:∀ a b:Nat,ltI (aUL a b) 0=decide (a<b):=λa b=>by
   rw[aF]; unfold aUL;grind
  rcases(by omega:x<0\/0<=x)with gx|gx
  ·rcases(by omega:y<0\/0<=y)with gy|gy
   ·simp only[gx,gy,decide_true,aEV _ _ (oR h (by decide)) (oR f (by decide)),vP (x.natAbs+y.natAbs) (dg _ (by omega)),zz];grind
   ·have e:¬ y<0:=by omega
    simp only[gx,e,decide_true,decide_false,HP x.natAbs y.natAbs (by omega) (by omega),cm,zz]
    by_cases g:x.natAbs<y.natAbs
    ·simp only[g,decide_true,RY _ _ (oR f (by decide)) (oR h (by decide)) (Nat.le_of_lt g),BE (y.natAbs-x.natAbs) (dg _ (by omega)),zz];have:((y.natAbs-x.natAbs:Nat):Int)=x+y:=by omega
     rw[this]
    ·simp only[g,decide_false,RY _ _ (oR h (by decide)) (oR f (by decide)) (Nat.not_lt.1 g),vP (x.natAbs-y.natAbs) (dg _ (by omega)),zz];have : -((x.natAbs-y.natAbs:Nat):Int)=x+y:=by omega
     rw[this]
  ·have i:¬ x<0:=by omega
   rcases(by omega:y<0\/0<=y)with gy|gy
   ·simp only[i,gy,decide_true,decide_false,HP x.natAbs y.natAbs (by omega) (by omega),cm,zz]
    by_cases g:x.natAbs<y.natAbs
    ·simp only[g,decide_true,RY _ _ (oR f (by decide)) (oR h (by decide)) (Nat.le_of_lt g),vP (y.natAbs-x.natAbs) (dg _ (by omega)),zz];have : -((y.natAbs-x.natAbs:Nat):Int)=x+y:=by omega
     rw[this]
    ·simp only[g,decide_false,RY _ _ (oR h (by decide)) (oR f (by decide)) (Nat.not_lt.1 g),BE (x.natAbs-y.natAbs) (dg _ (by omega)),zz];have:((x.natAbs-y.natAbs:Nat):Int)=x+y:=by omega
     rw[this]
   ·have e:¬ y<0:=by omega
    simp only[i,e,decide_false,aEV _ _ (oR h (by decide)) (oR f (by decide)),BE (x.natAbs+y.natAbs) (dg _ (by omega)),zz];have:((x.natAbs+y.natAbs:Nat):Int)=x+y:=by omega
    rw[this]
 unfold aIG;simp only[R9 x 18 (by decide),R9 y 18 (by decide),aC];by_cases g1:((Zn x).size:Int)<=18;simp only[g1,if_true,zz];by_cases g2:((Zn y).size:Int)<=18;have z:=a3U (ZY (k:=18) g1);have w:=a3U (ZY (k:=18) g2);simp only[g2,if_true,zz];rw[wrap64 (by omega) (by omega),FC _ (by omega) (by omega)];rfl;simp only[g2,if_false,zz];exact d;simp only[g1,if_false,zz];exact d
def a94 x y (a:Lib.nDigits x.natAbs<=400000)(b:Lib.nDigits y.natAbs<=400000):aGT (Zn x,Zn y,())=some (Zn (x-y),()):=by
 unfold aGT;simp only[bB9 y (by omega),aC];rw[a73 x (-y) a (by grind)];rfl
def aWN(x y:Int) (h:Lib.nDigits x.natAbs+Lib.nDigits y.natAbs<=400000):ZN (Zn x,Zn y,())=some (Zn (x*y),()):=by
 have q:(x*y).natAbs=x.natAbs*y.natAbs:=Int.natAbs_mul _ _;have c:(aB (dE ((Zn x),())) λb =>
  aB (dE ((Zn y),())) λa =>
  bif b.1 then
   bif a.1 then
    aB (gO (b.2.1,a.2.1,())) λn =>
    aB (aD (false,n.1,())) λi =>
    some (i.1,())
   else aB (gO (b.2.1,a.2.1,())) λj =>
   aB (aD (true,j.1,())) λm =>
   some (m.1,())
  else bif a.1 then
   aB (gO (b.2.1,a.2.1,())) λl =>
   aB (aD (true,l.1,())) λf =>
   some (f.1,())
  else aB (gO (b.2.1,a.2.1,())) λo =>
  aB (aD (false,o.1,())) λg =>
  some (g.1,()))=some (Zn (x*y),()):=by
  have dg:Lib.nDigits (x.natAbs*y.natAbs)<2^32:=by
   have:=a0E x.natAbs y.natAbs;omega
  have t:=bEV _ _ (oR h (by decide));simp only[D7 x,D7 y,aC,t];rcases(by omega:x<0\/0<=x)with gx|gx
  ·rcases(by omega:y<0\/0<=y)with gy|gy
   ·have:((x.natAbs*y.natAbs:Nat):Int)=x*y:=by
     grind
    simp only[gx,gy,decide_true,BE _ dg,this,zz]
   ·have d:¬ y<0:=by omega
    have : -((x.natAbs*y.natAbs:Nat):Int)=x*y:=by grind
    simp only[gx,d,decide_true,decide_false,vP _ dg,this,zz]
  ·have e:¬ x<0:=by omega
   rcases(by omega:y<0\/0<=y)with gy|gy
   ·have : -((x.natAbs*y.natAbs:Nat):Int)=x*y:=by
     grind
    simp only[e,gy,decide_true,decide_false,vP _ dg,this,zz]
   ·have d:¬ y<0:=by omega
    have:((x.natAbs*y.natAbs:Nat):Int)=x*y:=by grind
    simp only[e,d,decide_false,BE _ dg,this,zz]
 unfold ZN;simp only[R9 x 9 (by decide),R9 y 9 (by decide),aC];by_cases g1:((Zn x).size:Int)<=9;simp only[g1,if_true,zz];by_cases g2:((Zn y).size:Int)<=9;have r:=pD x.natAbs;have p:=pD y.natAbs;have z:=ZY (k:=9) g1;have v:=ZY (k:=9) g2;have u:x.natAbs*y.natAbs<1000000000000000000:=(by have s:x.natAbs*y.natAbs<10^Lib.nDigits x.natAbs*10^Lib.nDigits y.natAbs:=Nat.mul_lt_mul'' r p;rw[<- Nat.pow_add]at s;have A:10^(Lib.nDigits x.natAbs+Lib.nDigits y.natAbs)<=10^18:=Nat.pow_le_pow_right (by decide) (by omega);have w:(10:Nat)^18=1000000000000000000:=(by decide);omega);simp only[g2,if_true,zz];rw[wrap64 (by omega) (by omega),FC _ (by omega) (by omega)];rfl;simp only[g2,if_false,zz];exact c;simp only[g1,if_false,zz];exact c
def aK0(x y:Int) (hx:Lib.nDigits x.natAbs<=400000) (hy:Lib.nDigits y.natAbs<=400000) (l:y≠0):OP (Zn x,Zn y,())=some (Zn (x.fdiv y),Zn (x.fmod y),0,()):=by
 have w:(aB (dE ((Zn x),())) λi =>
  aB (dE ((Zn y),())) λb =>
  aB (u7 (i.2.1,b.2.1,())) λc =>
  bif !(eqI c.2.2.1 0) then
   some ((ByteArray.mk #[]),(ByteArray.mk #[]),c.2.2.1,())
  else bif i.1 then
   bif b.1 then
    bif i.1 then
     bif b.1 then
      aB (aD (false,c.1,())) λy71 =>
      aB (aD (b.1,c.2.1,())) λy72 =>
      some (y71.1,y72.1,0,())
     else aB (aD (true,c.1,())) λy73 =>
     aB (aD (b.1,c.2.1,())) λZ =>
     some (y73.1,Z.1,0,())
    else bif b.1 then
     aB (aD (true,c.1,())) λy75 =>
     aB (aD (b.1,c.2.1,())) λy76 =>
     some (y75.1,y76.1,0,())
    else aB (aD (false,c.1,())) λy77 =>
    aB (aD (b.1,c.2.1,())) λy78 =>
    some (y77.1,y78.1,0,())
   else bif !(eqS c.2.1 (ByteArray.mk #[48])) then
    aB (gM (c.1,(ByteArray.mk #[49]),())) λt =>
    aB (dM (b.2.1,c.2.1,())) λv =>
    bif i.1 then
     bif b.1 then
      aB (aD (false,t.1,())) λy81 =>
      aB (aD (b.1,v.1,())) λy82 =>
      some (y81.1,y82.1,0,())
     else aB (aD (true,t.1,())) λy83 =>
     aB (aD (b.1,v.1,())) λy84 =>
     some (y83.1,y84.1,0,())
    else bif b.1 then
     aB (aD (true,t.1,())) λy85 =>
     aB (aD (b.1,v.1,())) λy86 =>
     some (y85.1,y86.1,0,())
    else aB (aD (false,t.1,())) λy87 =>
    aB (aD (b.1,v.1,())) λy88 =>
    some (y87.1,y88.1,0,())
   else bif i.1 then
    bif b.1 then
     aB (aD (false,c.1,())) λy89 =>
     aB (aD (b.1,c.2.1,())) λy90 =>
     some (y89.1,y90.1,0,())
    else aB (aD (true,c.1,())) λy91 =>
    aB (aD (b.1,c.2.1,())) λy92 =>
    some (y91.1,y92.1,0,())
   else bif b.1 then
    aB (aD (true,c.1,())) λy93 =>
    aB (aD (b.1,c.2.1,())) λy94 =>
    some (y93.1,y94.1,0,())
   else aB (aD (false,c.1,())) λy95 =>
   aB (aD (b.1,c.2.1,())) λy96 =>
   some (y95.1,y96.1,0,())
  else bif b.1 then
   bif !(eqS c.2.1 (ByteArray.mk #[48])) then
    aB (gM (c.1,(ByteArray.mk #[49]),())) λs =>
    aB (dM (b.2.1,c.2.1,())) λo =>
    bif i.1 then
     bif b.1 then
      aB (aD (false,s.1,())) λy99 =>
      aB (aD (b.1,o.1,())) λB =>
      some (y99.1,B.1,0,())
     else aB (aD (true,s.1,())) λT =>
     aB (aD (b.1,o.1,())) λO =>
     some (T.1,O.1,0,())
    else bif b.1 then
     aB (aD (true,s.1,())) λG =>
     aB (aD (b.1,o.1,())) λI =>
     some (G.1,I.1,0,())
    else aB (aD (false,s.1,())) λL =>
    aB (aD (b.1,o.1,())) λW =>
    some (L.1,W.1,0,())
   else bif i.1 then
    bif b.1 then
     aB (aD (false,c.1,())) λV =>
     aB (aD (b.1,c.2.1,())) λN =>
     some (V.1,N.1,0,())
    else aB (aD (true,c.1,())) λA =>
    aB (aD (b.1,c.2.1,())) λQ =>
    some (A.1,Q.1,0,())
   else bif b.1 then
    aB (aD (true,c.1,())) λJ =>
    aB (aD (b.1,c.2.1,())) λR =>
    some (J.1,R.1,0,())
   else aB (aD (false,c.1,())) λK =>
   aB (aD (b.1,c.2.1,())) λM =>
   some (K.1,M.1,0,())
  else bif i.1 then
   bif b.1 then
    aB (aD (false,c.1,())) λX =>
    aB (aD (b.1,c.2.1,())) λC =>
    some (X.1,C.1,0,())
   else aB (aD (true,c.1,())) λS =>
   aB (aD (b.1,c.2.1,())) λP =>
   some (S.1,P.1,0,())
  else bif b.1 then
   aB (aD (true,c.1,())) λF =>
   aB (aD (b.1,c.2.1,())) λD =>
   some (F.1,D.1,0,())
  else aB (aD (false,c.1,())) λH =>
  aB (aD (b.1,c.2.1,())) λU =>
  some (H.1,U.1,0,()))=some (Zn (x.fdiv y),Zn (x.fmod y),0,()):=by
  have dm:=a5Q _ _ (oR hx (by decide)) (oR hy (by decide)) (show y.natAbs≠0 by omega);have ed:x.natAbs=y.natAbs*(x.natAbs/y.natAbs)+x.natAbs%y.natAbs:=(Nat.div_add_mod _ _).symm;have lm:x.natAbs%y.natAbs<y.natAbs:=Nat.mod_lt _ (by omega);have lq:x.natAbs/y.natAbs<=x.natAbs:=Nat.div_le_self _ _;have e00:eqI 0 0=true:=by decide
  simp only[D7 x,D7 y,dm,e00,a6N,b3S,zz];generalize x.natAbs/y.natAbs=q at *;generalize x.natAbs%y.natAbs=r at *;have dg:∀ u:Nat,u<=x.natAbs+y.natAbs+1->Lib.nDigits u<2^32:=λu hu=>by
   have h1:=vC hu;have h2:=aJS x.natAbs y.natAbs;have h3:=aJS (x.natAbs+y.natAbs) 1;have h4:Lib.nDigits 1=1:=Lib.nDigits_small (by decide);omega
  have d18:∀ u:Nat,u<=x.natAbs\/u<=y.natAbs->Lib.nDigits u<=900000:=λu hu=>by
   rcases hu with h|h
   ·have:=vC h; omega
   ·have:=vC h; omega
  have j:(x.natAbs:Int)=(y.natAbs:Int)*(q:Int)+(r:Int):=by rw[ed]; simp
  rcases(by omega:x<0\/0<=x)with gx|gx
  ·rcases(by omega:y<0\/0<=y)with gy|gy
   ·simp only[gx,gy,decide_true,BE q (dg _ (by omega)),vP r (dg _ (by omega)),zz];have ex:x=y*(q:Int) + -(r:Int):=by
     have m:(x.natAbs:Int) = -x:=by omega
     have a2:(y.natAbs:Int) = -y:=by omega
     rw[m,a2]at j;grind
    have⟨d,e⟩:=xV ex (by omega) (by omega) l;rw[d,e]
   ·have p:¬ y<0:=by omega
    by_cases n:r=0
    ·simp only[gx,p,n,decide_true,decide_false,vP q (dg _ (by omega)),BE 0 (dg _ (by omega)),zz];have ex:x=y * -(q:Int)+((0:Nat):Int):=by
      have m:(x.natAbs:Int) = -x:=by omega
      have a2:(y.natAbs:Int)=y:=by omega
      rw[m,a2,n]at j;grind
     have⟨d,e⟩:=xV ex (by omega) (by omega) l;rw[d,e]
    ·simp only[gx,p,n,decide_true,decide_false,aEV q 1 (d18 _ (by omega)) (d18 _ (by omega)),RY y.natAbs r (oR hy (by decide)) (d18 _ (by omega)) (Nat.le_of_lt lm),vP (q+1) (dg _ (by omega)),BE (y.natAbs-r) (dg _ (by omega)),zz];have ex:x=y * -((q+1:Nat):Int)+((y.natAbs-r:Nat):Int):=by
      have m:(x.natAbs:Int) = -x:=by omega
      have a2:(y.natAbs:Int)=y:=by omega
      have a3:((y.natAbs-r:Nat):Int)=y-r:=by omega
      have a4:((q+1:Nat):Int)=(q:Int)+1:=by omega
      rw[m,a2]at j;rw[a3,a4];grind
     have⟨d,e⟩:=xV ex (by omega) (by omega) l;rw[d,e]
  ·have z:¬ x<0:=by omega
   rcases(by omega:y<0\/0<=y)with gy|gy
   ·by_cases n:r=0
    ·simp only[z,gy,n,decide_true,decide_false,vP q (dg _ (by omega)),vP 0 (dg _ (by omega)),zz];have ex:x=y * -(q:Int) + -((0:Nat):Int):=by
      have m:(x.natAbs:Int)=x:=by omega
      have a2:(y.natAbs:Int) = -y:=by omega
      rw[m,a2,n]at j;grind
     have⟨d,e⟩:=xV ex (by omega) (by omega) l;rw[d,e]
    ·simp only[z,gy,n,decide_true,decide_false,aEV q 1 (d18 _ (by omega)) (d18 _ (by omega)),RY y.natAbs r (oR hy (by decide)) (d18 _ (by omega)) (Nat.le_of_lt lm),vP (q+1) (dg _ (by omega)),vP (y.natAbs-r) (dg _ (by omega)),zz];have ex:x=y * -((q+1:Nat):Int) + -((y.natAbs-r:Nat):Int):=by
      have m:(x.natAbs:Int)=x:=by omega
      have a2:(y.natAbs:Int) = -y:=by omega
      have a3:((y.natAbs-r:Nat):Int) = -y-r:=by omega
      have a4:((q+1:Nat):Int)=(q:Int)+1:=by omega
      rw[m,a2]at j;rw[a3,a4];grind
     have⟨d,e⟩:=xV ex (by omega) (by omega) l;rw[d,e]
   ·have p:¬ y<0:=by omega
    simp only[z,p,decide_true,decide_false,BE q (dg _ (by omega)),BE r (dg _ (by omega)),zz];have ex:x=y*(q:Int)+(r:Int):=by
     have m:(x.natAbs:Int)=x:=by omega
     have a2:(y.natAbs:Int)=y:=by omega
     rw[m,a2]at j;exact j
    have⟨d,e⟩:=xV ex (by omega) (by omega) l;rw[d,e]
 unfold OP;simp only[R9 x 18 (by decide),R9 y 18 (by decide),WS,l,decide_false,zz];by_cases g1:((Zn x).size:Int)<=18
 ·simp only[g1,if_true,zz];by_cases g2:((Zn y).size:Int)<=18
  ·have b1:=a3U (ZY (k:=18) g1);have b2:=a3U (ZY (k:=18) g2);simp only[g2,if_true,zz];have e1:eqI y 0=false:=by rw[bN]; simp[l]
   have t1:x=y*x.tdiv y+x.tmod y:=(Int.mul_tdiv_add_tmod x y).symm;have t2:(x.tmod y).natAbs<y.natAbs:=by rw[Int.natAbs_tmod]; exact Nat.mod_lt _ (by omega)
   have t3:(x.tdiv y).natAbs<=x.natAbs:=by rw[Int.natAbs_tdiv]; exact Nat.div_le_self _ _
   have t4:0<=x->0<=x.tmod y:=λh=>Int.tmod_nonneg y h
   have t5:x<=0->x.tmod y<=0:=λh=>by
    have:=Int.tmod_nonneg (a:=-x) y (by omega);rw[Int.neg_tmod]at this;omega
   simp only[e1,oD,bN,aF];generalize x.tdiv y=q at *;generalize x.tmod y=r at *;by_cases n:r=0;have⟨d,e⟩:=xV (x:=x) (y:=y) (f:=q) (g:=r) t1 (by omega) (by omega) l;simp only[n,decide_true,zz];rw[wrap64 (by omega) (by omega),FC _ (by omega) (by omega),aC,FC _ (by omega) (by omega),aC,d,e,n];simp only[n,decide_false,zz];by_cases Y:r<0;by_cases E:y<0;have⟨d,e⟩:=xV (x:=x) (y:=y) (f:=q) (g:=r) t1 (by omega) (by omega) l;simp only[Y,E,decide_true,oC];rw[wrap64 (by omega) (by omega),FC _ (by omega) (by omega),aC,FC _ (by omega) (by omega),aC,d,e];have⟨d,e⟩:=xV (x:=x) (y:=y) (f:=q-1) (g:=r+y) (by grind) (by omega) (by omega) l;simp only[Y,E,decide_true,decide_false,zz];rw[wrap64 (x:=q) (by omega) (by omega),wrap64 (by omega) (by omega),FC _ (by omega) (by omega),aC,wrap64 (by omega) (by omega),FC _ (by omega) (by omega),aC,d,e];by_cases E:y<0;have⟨d,e⟩:=xV (x:=x) (y:=y) (f:=q-1) (g:=r+y) (by grind) (by omega) (by omega) l;simp only[Y,E,decide_true,decide_false,zz];rw[wrap64 (x:=q) (by omega) (by omega),wrap64 (by omega) (by omega),FC _ (by omega) (by omega),aC,wrap64 (by omega) (by omega),FC _ (by omega) (by omega),aC,d,e];have⟨d,e⟩:=xV (x:=x) (y:=y) (f:=q) (g:=r) t1 (by omega) (by omega) l;simp only[Y,E,decide_false,oD];rw[wrap64 (by omega) (by omega),FC _ (by omega) (by omega),aC,FC _ (by omega) (by omega),aC,d,e]
  simp only[g2,if_false,zz];exact w
 simp only[g1,if_false,zz];exact w
end Go.PM
namespace Go.Lz
abbrev V:=Nat->Int
inductive Sp (k:Nat) (M:Nat->V):V->Prop
 | zero:Sp k M (λ_=>0)
 | add {v:V} (j:Nat) (t:Int):j<k->Sp k M v->Sp k M (λi=>v i+t*M j i)
def Sp.mem {k M j}(h:j<k):Sp k M (M j):=by
 have:=Sp.add j 1 h (Sp.zero (M:=M));grind
def Sp.comb {k M u v} t (hu:Sp k M u)(a:Sp k M v):Sp k M (λi=>u i+t*v i):=by
 induction a with
 | zero=>grind
 | add j s hj _ ih =>
  have:=Sp.add j (t*s) hj ih;grind
def Sp.smul {k M v} t (a:Sp k M v):Sp k M (λi=>t*v i):=by
 have:=Sp.comb t Sp.zero a;grind
def Sp.sub {k M u v}(hu:Sp k M u)(a:Sp k M v):Sp k M (λi=>u i-v i):=by
 have:=Sp.comb (-1) hu a;grind
def Sp.trans {k k' M M'}(h:∀ j,j<k->Sp k' M' (M j)){v}(a:Sp k M v):Sp k' M' v:=by
 induction a with
 | zero=>exact .zero;| add j t hj _ ih=>exact Sp.comb t ih (h j hj)
def Sp.aS8 {k M x}(h:∀ j,j<k->M j x=0){v}(a:Sp k M v):v x=0:=by
 induction a with
 | zero=>rfl;| add j t hj _ ih=>grind
def Same(k:Nat) (M:Nat->V) (k':Nat) (M':Nat->V):Prop:=∀ v,Sp k M v↔Sp k' M' v
def Same.refl k M:Same k M k M:=λ_=>Iff.rfl
def Same.symm {k k' M M'}(h:Same k M k' M'):Same k' M' k M:=λv=>(h v).symm
def Same.trans {k k' k'' M M' M''}(h:Same k M k' M')(g:Same k' M' k'' M''):Same k M k'' M'':=λv=>(h v).trans (g v)
def Same.of {k k' M M'}(h:∀ j,j<k->Sp k' M' (M j))(g:∀ j,j<k'->Sp k M (M' j)):Same k M k' M':=λ_=>⟨Sp.trans h,Sp.trans g⟩
def Same.congr {k M M'}(h:∀ j,j<k->M j=M' j):Same k M k M' :=Same.of (λj a=>by rw[h j a]; exact Sp.mem a) (λj a=>by rw[<- h j a]; exact Sp.mem a)
def Sp.first {k:Nat} {M:Nat->V} {v:V} (h:Sp (k+1) M v):∃ t u,Sp k (λi=>M (i+1)) u/\v=λi=>u i+t*M 0 i:=by
 induction h with
 | zero=>exact⟨0,λ_=>0,.zero,by funext i; simp⟩
 | add j s hj _ ih =>
  obtain⟨t,u,hu,rfl⟩:=ih;cases j with
  | zero=>exact⟨t+s,u,hu,by funext i; grind⟩
  | succ j=>exact⟨t,_,Sp.add j s (by omega) hu,by funext i; grind⟩
def Sp.behind {k M u}(h:Sp k (λi=>M (i+1)) u):Sp (k+1) M u :=Sp.trans (λj a=>Sp.mem (by omega)) h
structure Hn (k:Nat) (M:Nat->V) (c:Nat->Nat):Prop where
 inc:∀ i j,i<j->j<k->c i<c j
 low:∀ i,i<k->∀ x,x<c i->M i x=0
 pos:∀ i,i<k->0<M i (c i)
 red:∀ i j,i<j->j<k->0<=M i (c j)/\M i (c j)<M j (c j)
def Hn.tail {k M c}(h:Hn (k+1) M c):Hn k (λi=>M (i+1)) (λi=>c (i+1)) where
 inc:=λi j a b=>h.inc _ _ (by omega) (by omega)
 low:=λi hi=>h.low _ (by omega)
 pos:=λi hi=>h.pos _ (by omega)
 red:=λi j a b=>h.red _ _ (by omega) (by omega)
def Hn.a5D {k M c}(h:Hn (k+1) M c){u}(hu:Sp k (λi=>M (i+1)) u){x}(b:x<=c 0):u x=0 :=Sp.aS8 (λj a=>h.low (j+1) (by omega) x (by have:=h.inc 0 (j+1) (by simp) (by omega); omega)) hu
def Hn.small:∀ {k:Nat} {M:Nat->V} {c:Nat->Nat},Hn k M c->∀ {v:V},Sp k M v->(∀ i,i<k->-(M i (c i))<v (c i)/\v (c i)<M i (c i))->v=λ_=>0
 | 0,M,c,h,v,hv,_=>by
  cases hv with
  | zero=>rfl
  | add j t hj _=>omega
 | k+1,M,c,h,v,hv,hs=>by
  obtain⟨t,u,hu,rfl⟩:=hv.first;have b:=h.a5D hu (Nat.le_refl _);have a:=hs 0 (by omega);simp only[b,Int.zero_add]at a;have ht:t=0:=by
   rcases Int.lt_trichotomy t 0 with h1|h1|h1
   ·have:t*M 0 (c 0)<=(-1)*M 0 (c 0):=Int.mul_le_mul_of_nonneg_right (by omega) (by omega);omega
   ·exact h1
   ·have:1*M 0 (c 0)<=t*M 0 (c 0):=Int.mul_le_mul_of_nonneg_right (by omega) (by omega);omega
  subst ht;have e:(λi=>u i+0*M 0 i)=u:=by funext i; simp
  rw[e]at hs ⊢;exact Hn.small h.tail hu λi hi=>hs (i+1) (by omega)
def Hn.unique:∀ {k k':Nat} {M M':Nat->V} {c c':Nat->Nat},Hn k M c->Hn k' M' c'->Same k M k' M'->k=k'/\(∀ i,i<k->c i=c' i)/\∀ i,i<k->M i=M' i
 | 0,0,_,_,_,_,_,_,_=>⟨rfl,λi hi=>by omega,λi hi=>by omega⟩
 | 0,k'+1,M,M',c,c',h,h',e=>by
  have:=Hn.small h ((e _).2 (Sp.mem (M:=M') (Nat.succ_pos k'))) (λi hi=>by omega);have hp:=h'.pos 0 (by omega);grind
 | k+1,0,M,M',c,c',h,h',e=>by
  have:=Hn.small h' ((e _).1 (Sp.mem (M:=M) (Nat.succ_pos k))) (λi hi=>by omega);have hp:=h.pos 0 (by omega);grind
 | k+1,k'+1,M,M',c,c',h,h',e=>by
  have hp:=h.pos 0 (by omega);have d:=h'.pos 0 (by omega);have⟨t,u,hu,ht⟩:=Sp.first ((e _).1 (Sp.mem (M:=M) (Nat.succ_pos k)));have⟨l,E,f,g⟩:=Sp.first ((e _).2 (Sp.mem (M:=M') (Nat.succ_pos k')));have p:c 0=c' 0:=by
   rcases Nat.lt_trichotomy (c 0) (c' 0)with h1|h1|h1
   ·exfalso;have a:=congrFun ht (c 0);have a2:=h'.a5D hu (x:=c 0) (by omega);have a3:=h'.low 0 (by omega) _ h1;grind
   ·exact h1
   ·exfalso;have a:=congrFun g (c' 0);have a2:=h.a5D f (x:=c' 0) (by omega);have a3:=h.low 0 (by omega) _ h1;grind
  have B:M 0 (c 0)=t*M' 0 (c 0):=by
   have a:=congrFun ht (c 0);have a2:=h'.a5D hu (x:=c 0) (by omega);grind
  have A:M' 0 (c 0)=l*M 0 (c 0):=by
   have a:=congrFun g (c 0);have a2:=h.a5D f (x:=c 0) (by omega);grind
  rw[<- p]at d;have C:M 0 (c 0)=M' 0 (c 0):=Int.le_antisymm (Int.le_of_dvd d ⟨l,by rw[A]; exact Int.mul_comm _ _⟩) (Int.le_of_dvd hp ⟨t,by rw[B]; exact Int.mul_comm _ _⟩);have b:Same k (λi=>M (i+1)) k' (λi=>M' (i+1)):=by
   intro v;constructor
   ·intro j;obtain⟨s,w,hw,rfl⟩:=Sp.first ((e _).1 j.behind);have a:=h.a5D j (Nat.le_refl _);have a2:=h'.a5D hw (x:=c 0) (by omega);simp only[a2,Int.zero_add]at a;have:s=0:=by
     rcases Int.mul_eq_zero.1 a with h1|h1
     ·exact h1
     ·omega
    subst this;grind
   ·intro j;obtain⟨s,w,hw,rfl⟩:=Sp.first ((e _).2 j.behind);have a:=h'.a5D j (x:=c 0) (by omega);have a2:=h.a5D hw (x:=c 0) (by omega);simp only[a2,Int.zero_add]at a;have:s=0:=by
     rcases Int.mul_eq_zero.1 a with h1|h1
     ·exact h1
     ·omega
    subst this;have e:(λi=>w i+0*M 0 i)=w:=by funext i; simp
    rw[e]; exact hw
  have⟨z,q,m⟩:=Hn.unique h.tail h'.tail b;subst z;have hd:Sp k (λi=>M (i+1)) (λx=>M 0 x-M' 0 x):=by
   have⟨s,w,hw,n⟩:=Sp.first (Sp.sub (Sp.mem (M:=M) (Nat.succ_pos k)) ((e _).2 (Sp.mem (M:=M') (Nat.succ_pos k))));have a:=congrFun n (c 0);have a2:=h.a5D hw (Nat.le_refl _);simp only[a2,C,Int.zero_add,Int.sub_self]at a;have:s=0:=by
    rcases Int.mul_eq_zero.1 a.symm with h1|h1
    ·exact h1
    ·omega
   subst this;have e:(λi=>w i+0*M 0 i)=w:=by funext i; simp
   rw[n,e]; exact hw
  have hz:=Hn.small h.tail hd (λi hi=>by
   have D:=h.red 0 (i+1) (by omega) (by omega);have o:=h'.red 0 (i+1) (by omega) (by omega);have r:=q i hi;have y:=congrFun (m i hi) (c (i+1));rw[<- r]at o;rw[<- y]at o;constructor <;> omega)
  refine⟨rfl,λi hi=>?_,λi hi=>?_⟩
  ·cases i with
   | zero=>exact p
   | succ i=>exact q i (by omega)
  ·cases i with
   | zero =>
    funext x
    have:=congrFun hz x;omega
   | succ i=>exact m i (by omega)
def up(M:Nat->V) (i:Nat) (r:V):Nat->V:=λj=>if j=i then r else M j
def aKF M i r:up M i r i=r:=by simp[up]
def XK M {i j} r (h:j≠i):up M i r j=M j:=by simp[up,h]
def swp(M:Nat->V)(a b:Nat):Nat->V:=λj=>if j=a then M b else if j=b then M a else M j
def bT6 {k a b} M (e:a<k)(f:b<k):Same k M k (swp M a b):=by
 refine Same.of (λj d=>?_) (λj d=>?_);by_cases g:j=a;subst g;by_cases c:b=j;have:=Sp.mem (M:=swp M j b) e;simp only[swp,c]at this ⊢;exact this;have:=Sp.mem (M:=swp M j b) f;simp only[swp,c]at this ⊢;exact this;by_cases c:j=b;subst c;have:=Sp.mem (M:=swp M a j) e;simp only[swp]at this ⊢;grind;have:=Sp.mem (M:=swp M a b) d;simp only[swp]at this ⊢;grind;unfold swp;split;exact Sp.mem f;split;exact Sp.mem e;exact Sp.mem d
def bDY {k i d} M q (hi:i<k)(hd:d<k)(b:i≠d):Same k M k (up M i λx=>M i x-q*M d x):=by
 refine Same.of (λj a=>?_) (λj a=>?_);by_cases h:j=i;subst h;have c:=Sp.mem (M:=up M j λx=>M j x-q*M d x) a;have e:=Sp.mem (M:=up M j λx=>M j x-q*M d x) hd;rw[aKF]at c;rw[XK _ _ (Ne.symm b)]at e;have:=Sp.comb q c e;grind;have:=Sp.mem (M:=up M i λx=>M i x-q*M d x) a;rwa[XK _ _ h]at this;by_cases h:j=i;subst h;rw[aKF];have:=Sp.comb (-q) (Sp.mem a) (Sp.mem (M:=M) hd);grind;rw[XK _ _ h]; exact Sp.mem a
def bVI {k i} M (hi:i<k):Same k M k (up M i λx=>-(M i x)):=by
 refine Same.of (λj a=>?_) (λj a=>?_);by_cases h:j=i;subst h;have b:=Sp.mem (M:=up M j λx=>-(M j x)) a;rw[aKF]at b;have:=Sp.smul (-1) b;grind;have:=Sp.mem (M:=up M i λx=>-(M i x)) a;rwa[XK _ _ h]at this;by_cases h:j=i;subst h;rw[aKF];have:=Sp.smul (-1) (Sp.mem (M:=M) a);grind;rw[XK _ _ h]; exact Sp.mem a
def bVL {k d:Nat} (M:Nat->V) (hd:d<=k) (h:∀ i,d<=i->i<k->M i=λ_=>0):Same k M d M:=by
 refine Same.of (λj a=>?_) (λj a=>Sp.mem (by omega));rcases Nat.lt_or_ge j d with h1|h1;exact Sp.mem h1;rw[h j h1 a]; exact .zero
structure Fo (k:Nat) (M0 M:Nat->V) (d c:Nat) (p:Nat->Nat):Prop where
 le:d<=k
 same:Same k M0 k M
 inc:∀ i j,i<j->j<d->p i<p j
 lt:∀ i,i<d->p i<c
 low:∀ i,i<d->∀ x,x<p i->M i x=0
 pos:∀ i,i<d->0<M i (p i)
 red:∀ i j,i<j->j<d->0<=M i (p j)/\M i (p j)<M j (p j)
 rest:∀ i,d<=i->i<k->∀ x,x<c->M i x=0
def Fo.start k M:Fo k M M 0 0 (λ_=>0) where
 le:=Nat.zero_le _
 same:=Same.refl _ _
 inc:=λi j _ h=>by omega
 lt:=λi h=>by omega
 low:=λi h=>by simp
 pos:=λi h=>by omega
 red:=λi j _ h=>by omega
 rest:=λi _ _ x h=>by omega
section
variable {k d c:Nat} {M0 M:Nat->V} {p:Nat->Nat}
def Fo.aXW (h:Fo k M0 M d c p) {M':Nat->V} (g:Same k M k M') (a:∀ i,i<d->M' i=M i) (f:∀ i,d<=i->i<k->∀ x,x<c->M' i x=0):Fo k M0 M' d c p where
 le:=h.le
 same:=h.same.trans g
 inc:=h.inc
 lt:=h.lt
 low:=λi hi=>by rw[a i hi]; exact h.low i hi
 pos:=λi hi=>by rw[a i hi]; exact h.pos i hi
 red:=λi j b e=>by rw[a i (by omega),a j e]; exact h.red i j b e
 rest:=f
def Fo.swap (h:Fo k M0 M d c p){a}(g:d<=a)(e:a<k):Fo k M0 (swp M d a) d c p:=by
 refine h.aXW (bT6 M (by omega) e) (λi hi=>?_) (λi l j x b=>?_);have f:¬ i=d:=(by omega);have m:¬ i=a:=(by omega);simp only[swp,f,m,if_false];unfold swp;split;exact h.rest a g e x b;split;exact h.rest d (Nat.le_refl _) (by omega) x b;exact h.rest i l j x b
def Fo.less (h:Fo k M0 M d c p){i} q (hi:d<i)(g:i<k):Fo k M0 (up M i λx=>M i x-q*M d x) d c p:=by
 refine h.aXW (bDY M q g (by omega) (by omega)) (λj l=>XK _ _ (by omega)) (λj f b x a=>?_);by_cases e:j=i;subst e;rw[aKF,h.rest j f b x a,h.rest d (Nat.le_refl _) (by omega) x a];simp;rw[XK _ _ e]; exact h.rest j f b x a
def Fo.neg (h:Fo k M0 M d c p)(g:d<k):Fo k M0 (up M d λx=>-(M d x)) d c p:=by
 refine h.aXW (bVI M g) (λj i=>XK _ _ (by omega)) (λj b a x f=>?_);by_cases e:j=d;subst e;rw[aKF,h.rest j b a x f];rfl;rw[XK _ _ e]; exact h.rest j b a x f
def Fo.skip (h:Fo k M0 M d c p) (hz:∀ i,d<=i->i<k->M i c=0):Fo k M0 M d (c+1) p where
 le:=h.le
 same:=h.same
 inc:=h.inc
 lt:=λi hi=>by have:=h.lt i hi; omega
 low:=h.low
 pos:=h.pos
 red:=h.red
 rest:=λi a b x e=>by
  rcases Nat.lt_or_ge x c with h3|h3
  ·exact h.rest i a b x h3
  ·grind
structure Fp (k:Nat) (M0 M:Nat->V) (d c:Nat) (p:Nat->Nat) (m:Nat):Prop extends Fo k M0 M d c p where
 dk:d<k
 piv:0<M d c
 below:∀ i,d<i->i<k->M i c=0
 up:∀ i,i<m->0<=M i c/\M i c<M d c
def Fp.less {m}(h:Fp k M0 M d c p m)(hm:m<d):Fp k M0 (Lz.up M m λx=>M m x-(M m c).fdiv (M d c)*M d x) d c p (m+1):=by
 have o:∀ x,x<c->M d x=0:=h.rest d (Nat.le_refl _) h.dk;have f:∀ x,x<c->∀ i,Lz.up M m (λx=>M m x-(M m c).fdiv (M d c)*M d x) i x=M i x:=(by intro x b i;by_cases e:i=m;subst e;rw[aKF,o x b]; simp;rw[XK _ _ e]);have a:∀ i,i≠m->Lz.up M m (λx=>M m x-(M m c).fdiv (M d c)*M d x) i=M i:=λi e=>XK _ _ e;refine { le:=h.le,same:=h.same.trans (bDY M _ (by have:=h.le; omega) h.dk (by omega)),inc:=h.inc,lt:=h.lt,low:=λi hi x b=>?_,pos:=λi hi=>?_,red:=λi j q n=>?_,rest:=λi l g x b=>?_,dk:=h.dk,piv:=?_,below:=λi l g=>?_,up:=λi hi=>?_ };rw[f x (by have:=h.lt i hi; omega)]; exact h.low i hi x b;rw[f _ (h.lt i hi)]; exact h.pos i hi;rw[f _ (h.lt j n),f _ (h.lt j n)]; exact h.red i j q n;rw[f x b]; exact h.rest i l g x b;rw[a d (by omega)]; exact h.piv;rw[a i (by omega)]; exact h.below i l g;rw[a d (by omega)];by_cases e:i=m;subst e;rw[aKF];have l:=Int.fmod_def (M i c) (M d c);have g:=Int.fmod_nonneg_of_pos (M i c) h.piv;have r:=Int.fmod_lt_of_pos (M i c) h.piv;grind;rw[a i e]; exact h.up i (by omega)
def Fp.done (h:Fp k M0 M d c p d):Fo k M0 M (d+1) (c+1) (λi=>if i=d then c else p i):=by
 have hp:∀ i,i<d->(if i=d then c else p i)=p i:=λi hi=>by rw[if_neg (by omega)]
 refine { le:=h.dk,same:=h.same,inc:=λi j a g=>?_,lt:=λi hi=>?_,low:=λi hi x b=>?_,pos:=λi hi=>?_,red:=λi j a g=>?_,rest:=λi l f x b=>?_ };rw[hp i (by omega)];by_cases e:j=d;subst e; rw[if_pos rfl]; exact h.lt i a;rw[if_neg e]; exact h.inc i j a (by omega);by_cases e:i=d;grind;rw[if_neg e]; have:=h.lt i (by omega); omega;by_cases e:i=d;subst e; rw[if_pos rfl]at b; exact h.rest i (Nat.le_refl _) h.dk x b;rw[if_neg e]at b; exact h.low i (by omega) x b;by_cases e:i=d;subst e; rw[if_pos rfl]; exact h.piv;rw[if_neg e]; exact h.pos i (by omega);by_cases e:j=d;subst e; rw[if_pos rfl]; exact h.up i a;rw[if_neg e]; exact h.red i j a (by omega);rcases Nat.lt_or_ge x c with h3|h3;exact h.rest i (by omega) f x h3;have:x=c:=(by omega);subst this;exact h.below i (by omega) f
def Fo.hn (h:Fo k M0 M d c p) (hz:d=k\/∀ i,i<k->∀ x,c<=x->M i x=0):Hn d M p/\Same k M0 d M:=by
 refine⟨⟨h.inc,h.low,h.pos,h.red⟩,h.same.trans ?_⟩;rcases hz with rfl|hz;exact Same.refl _ _;refine bVL M h.le λi a b=>?_;funext x;rcases Nat.lt_or_ge x c with h3|h3;exact h.rest i a b x h3;grind
end
def dot:Nat->V->V->Int| 0,_,_=>0| n+1,a,b=>dot n a b+a n*b n
def TR a b:∀ n,dot n a b=dot n b a| 0=>rfl| n+1=>by rw[dot,dot,TR a b n,Int.mul_comm]
def aSM u v b t:∀ n,dot n (λi=>u i+t*v i) b=dot n u b+t*dot n v b
 | 0=>by simp[dot]
 | n+1=>by
  rw[dot,dot,dot,aSM u v b t n];grind
def aZI b:∀ n,dot n (λ_=>0) b=0| 0=>rfl| n+1=>by rw[dot,aZI b n]; simp
def Ker(n m:Nat) (A:Nat->V) (y:V):Prop:=(∀ c,n<=c->y c=0)/\∀ x,x<m->dot n y (A x)=0
def Ker.span {n m A y}(h:Ker n m A y){v}(a:Sp m A v):dot n y v=0:=by
 induction a with
 | zero=>rw[TR]; exact aZI _ _;| add j t hj _ ih=>rw[TR,aSM,TR _ y,ih,TR _ y,h.2 j hj]; simp
def Ker.bPW {n m A y}(a:∀ c,n<=c->y c=0)(b:∀ v,Sp m A v->dot n y v=0):Ker n m A y:=⟨a,λx d=>b _ (Sp.mem d)⟩
def Ker.same {n m m' A A'}(h:Same m A m' A'){y}:Ker n m A y↔Ker n m' A' y :=⟨λg=>.bPW g.1 λv a=>g.span ((h v).2 a),λg=>.bPW g.1 λv a=>g.span ((h v).1 a)⟩
def I0(n m:Nat) (A:Nat->V) (k:Nat) (K:Nat->V):Prop:=∀ y,Sp k K y↔Ker n m A y
def I0.width {n m k A K}(h:I0 n m A k K){i}(hi:i<k):∀ c,n<=c->K i c=0:=((h _).1 (Sp.mem hi)).1
def wide(n m:Nat) (A:Nat->V):Nat->V:=λc x=>if x<m then A x c else if x=m+c then 1 else 0
def bJ7 {n m A} y:∀ j,j<=n->Sp n (wide n m A) (λx=>if x<m then dot j y (A x) else if x<m+j then y (x-m) else 0)
 | 0,_=>by
  refine cast (congrArg _ ?_) Sp.zero
  funext x
  split
  ·rfl
  grind
 | j+1,h=>by
  have:=Sp.comb (y j) (bJ7 y j (by omega)) (Sp.mem (M:=wide n m A) (show j<n by omega));refine cast (congrArg _ ?_) this
  funext x
  simp only[wide];split
  ·rfl
  ·grind
def bX7 {n m A v}(h:Sp n (wide n m A) v):(∀ x,x<m->v x=dot n (λc=>v (m+c)) (A x))/\∀ c,n<=c->v (m+c)=0:=by
 have unit:∀ (j:Nat) (b:V),∀ n,dot n (λc=>if m+c=m+j then (1:Int) else 0) b=if j<n then b j else 0:=by
  intro j b n;induction n with
  | zero=>rfl
  | succ n a =>
   rw[dot,a];grind
 induction h with
 | zero=>exact⟨λx _=>(aZI _ _).symm,λ_ _=>rfl⟩
 | add j t hj _ a =>
  have⟨i,g⟩:=a;refine⟨λx d=>?_,λc l=>?_⟩
  ·rw[aSM,<- i x d];have e:(λc=>wide n m A j (m+c))=λc=>if m+c=m+j then 1 else 0:=by
    funext c
    have:¬ m+c<m:=by omega
    simp only[wide,this,if_false]
   rw[e,unit,if_pos hj];simp only[wide,d,if_true]
  ·have k:=g c l;have f:¬ m+c<m:=by omega
   have o:¬ m+c=m+j:=by omega
   simp only[wide,f,o,if_false,Int.mul_zero,Int.add_zero,k]
def Hn.drop:∀ {j k:Nat} {M:Nat->V} {p:Nat->Nat} {m:Nat},Hn k M p->j<=k->(∀ i,i<j->p i<m)->∀ {v:V},Sp k M v->(∀ x,x<m->v x=0)->Sp (k-j) (λi=>M (j+i)) v
 | 0,k,M,p,m,h,_,_,v,hv,_=>by grind
 | j+1,0,M,p,m,h,hj,_,v,hv,_=>by omega
 | j+1,k+1,M,p,m,h,hj,hp,v,hv,hz=>by
  obtain⟨t,u,hu,rfl⟩:=hv.first;have a:=hz (p 0) (hp 0 (by omega));have b:=h.a5D hu (Nat.le_refl _);have c:=h.pos 0 (by omega);simp only[b,Int.zero_add]at a;have ht:t=0:=by
   rcases Int.mul_eq_zero.1 a with h3|h3
   ·exact h3
   ·omega
  subst ht;have e:(λi=>u i+0*M 0 i)=u:=by funext i; simp
  rw[e]at hz ⊢;have:=Hn.drop (j:=j) h.tail (by omega) (λi hi=>hp (i+1) (by omega)) hu hz;grind
def bSO {n m k j:Nat} {A W:Nat->V} {p:Nat->Nat} (h:Hn k W p) (d:Same n (wide n m A) k W) (e:j<=k) (o:∀ i,i<j->p i<m) (f:∀ i,j<=i->i<k->m<=p i) :
  I0 n m A (k-j) (λi y=>W (j+i) (m+y)):=by
 intro y;constructor
 ·intro g;have key:∃ v,Sp k W v/\(∀ x,x<m->v x=0)/\y=λc=>v (m+c):=by
   induction g with
   | zero=>exact⟨_,.zero,λ_ _=>rfl,rfl⟩
   | add i t hi _ ih =>
    obtain⟨v,g1,g2,rfl⟩:=ih;refine⟨_,Sp.add (j+i) t (by omega) g1,λx a=>?_,rfl⟩;have:=h.low (j+i) (by omega) x (by have:=f (j+i) (by omega) (by omega); omega);grind
  obtain⟨v,g1,g2,rfl⟩:=key;have⟨l,q⟩:=bX7 ((d v).2 g1);exact⟨q,λx a=>by rw[<- l x a]; exact g2 x a⟩
 ·rintro⟨g1,g2⟩;have b:=bJ7 (A:=A) (n:=n) (m:=m) y n (Nat.le_refl _);have:=Hn.drop h e o ((d _).1 b) (λx a=>by simp only[a,if_true]; exact g2 x a);have key:∀ {v:V},Sp (k-j) (λi=>W (j+i)) v->Sp (k-j) (λi y=>W (j+i) (m+y)) (λc=>v (m+c)):=by
   intro v b
   induction b with
   | zero=>exact .zero
   | add i t hi _ ih=>exact Sp.add i t hi ih
  have:=key this;refine cast (congrArg _ ?_) this;grind
def aSL(a:Int){m}(h:m<0):m<a.fmod m/\a.fmod m<=0:=by
 have b:=Int.neg_fmod_neg (-a) (-m);rw[Int.neg_neg,Int.neg_neg]at b;have c:=Int.fmod_nonneg_of_pos (-a) (show 0 < -m by omega);have d:=Int.fmod_lt_of_pos (-a) (show 0 < -m by omega);omega
def bJF(a m:Int)(hm:m≠0):(a.fdiv m).natAbs*m.natAbs<=a.natAbs+m.natAbs:=by
 have c:=Int.fmod_def a m;have d:(m*a.fdiv m).natAbs=(a.fdiv m).natAbs*m.natAbs:=(by rw[Int.natAbs_mul,Nat.mul_comm]);rcases Int.lt_or_gt_of_ne hm with h|h;have b:=aSL a h;omega;have b:=Int.fmod_nonneg_of_pos a h;have e:=Int.fmod_lt_of_pos a h;omega
def bI7(a m:Int)(hm:m≠0):(a.fmod m).natAbs<m.natAbs:=by
 rcases Int.lt_or_gt_of_ne hm with h|h;have b:=aSL a h;omega;have b:=Int.fmod_nonneg_of_pos a h;have c:=Int.fmod_lt_of_pos a h;omega
def a8S(a m:Int):a-a.fdiv m*m=a.fmod m:=by rw[Int.fmod_def,Int.mul_comm]
def bWS {a b q:Int} {E Q:Nat} (e:a.natAbs<=E) (d:b.natAbs<=E) (c:q.natAbs<=Q):(a-q*b).natAbs<=E+Q*E:=by
 have g:(q*b).natAbs=q.natAbs*b.natAbs:=Int.natAbs_mul _ _;have f:q.natAbs*b.natAbs<=Q*E:=Nat.mul_le_mul c d;omega
def Wi(k:Nat) (M:Nat->V) (d c E A:Nat):Prop:=∀ i,d<=i->i<k->(∀ x,(M i x).natAbs<=E)/\(M i c).natAbs<=A
def Rd(k:Nat) (M M':Nat->V) (d c:Nat):Prop:=M' d=M d/\∀ i,d<i->i<k->M' i=λx=>M i x-(M i c).fdiv (M d c)*M d x
def Rd.bOQ {k d c E A:Nat} {M M':Nat->V} (h:Rd k M M' d c) (hw:Wi k M d c E A) (j:d<k) (hm:M d c≠0) (r:(M d c).natAbs<=A) :
  ∃ g,Wi k M' d c g (M d c).natAbs/\g*(M d c).natAbs<=3*(E*A):=by
 have f:0<(M d c).natAbs:=(by omega);refine⟨E+(A/(M d c).natAbs+1)*E,λi a b=>?_,?_⟩;by_cases e:i=d;subst e;rw[h.1];refine⟨λx=>?_,Nat.le_refl _⟩;have:=(hw i a b).1 x;grind;have o:=h.2 i (by omega) b;have l:((M i c).fdiv (M d c)).natAbs<=A/(M d c).natAbs+1:=(by have p:=bJF (M i c) (M d c) hm;have n:=(hw i a b).2;have s:((M i c).fdiv (M d c)).natAbs<=(A+(M d c).natAbs)/(M d c).natAbs:=(by rw[Nat.le_div_iff_mul_le f];omega);simp_all);rw[o];refine⟨λx=>bWS ((hw i a b).1 x) ((hw d (Nat.le_refl _) j).1 x) l,?_⟩;dsimp only;rw[a8S];exact Nat.le_of_lt (bI7 _ _ hm);have a:A/(M d c).natAbs*(M d c).natAbs<=A:=Nat.div_mul_le_self _ _;generalize A/(M d c).natAbs=q at a;generalize (M d c).natAbs=m at *;have b:(E+(q+1)*E)*m=2*(E*m)+E*(q*m):=(by grind);have p:E*(q*m)<=E*A:=Nat.mul_le_mul_left _ a;have n:E*m<=E*A:=Nat.mul_le_mul_left _ r;omega
def bVY a b c (h:a+b<=c):4*(a*b)<=c*c:=by
 have d :=Nat.mul_le_mul h h;have f :=(by have:(a+b)*(a+b)=4*(a*b)+(a-b)*(a-b)+(b-a)*(b-a):=(by rcases Nat.le_total a b with g|g;obtain⟨e,rfl⟩:=Nat.exists_eq_add_of_le g;grind;obtain⟨e,rfl⟩:=Nat.exists_eq_add_of_le g;grind);omega);omega
structure Bt (k:Nat) (M:Nat->V) (d c C:Nat):Prop where
 dk:d<k
 ex:∃ E,Wi k M d c E (M d c).natAbs/\∃ i,d<i/\i<k/\M i c≠0/\E*(M d c).natAbs^3*(M i c).natAbs<=C
 piv:M d c≠0
 sign:∀ i,d<i->i<k->(M i c).natAbs<(M d c).natAbs/\(0<M d c->0<=M i c)/\(M d c<0->M i c<=0)
def Wi.swap {k d c E A a M}(h:Wi k M d c E A)(e:d<=a)(g:a<k):Wi k (swp M d a) d c E A:=by
 intro i b f;unfold swp;split;exact h a e g;split;exact h d (Nat.le_refl _) (by omega);exact h i b f
def Rd.sign {k d c M M'}(h:Rd k M M' d c)(hm:M d c≠0):∀ i,d<i->i<k->M' i c=(M i c).fmod (M d c)/\(M' i c).natAbs<(M' d c).natAbs/\(0<M' d c->0<=M' i c)/\(M' d c<0->M' i c<=0):=by
 intro i a b;have e:M' i c=(M i c).fmod (M d c):=by
  rw[h.2 i a b];exact a8S _ _
 rw[e,h.1];exact⟨rfl,bI7 _ _ hm,λhp=>Int.fmod_nonneg_of_pos _ hp,λhn=>(aSL _ hn).2⟩
def bWP {p n:Int} (d:(0<p/\0<n)\/(p<0/\n<0)) (e:n.natAbs<p.natAbs):(p.fmod n).natAbs+n.natAbs<=p.natAbs:=by
 have key:∀ p n:Int,0<n->n<p->(p.fmod n).natAbs+n.natAbs<=p.natAbs:=by
  intro p n a b;have j:=Int.fmod_def p n;have f:=Int.fmod_nonneg_of_pos p a;have i:=Int.fmod_lt_of_pos p a;have c:1<=p.fdiv n:=by
   rcases(by omega:p.fdiv n<1\/1<=p.fdiv n)with h|h
   ·have:n*p.fdiv n<=n*0:=Int.mul_le_mul_of_nonneg_left (by omega) (by omega);omega
   ·exact h
  have g:n*1<=n*p.fdiv n:=Int.mul_le_mul_of_nonneg_left c (by omega);omega
 rcases d with ⟨a,b⟩|⟨a,b⟩;grind;have:=key (-p) (-n) (by omega) (by omega);simp_all
def Rd.first {k d c E A:Nat} {M M':Nat->V} (h:Rd k M M' d c) (hw:Wi k M d c E A) (b:d<k) (hm:M d c≠0) :
  ((∀ i,d<i->i<k->M' i c=0)/\Wi k M' d c (3*(E*A)) A)\/Bt k M' d c (3*(E*A)*A^3):=by
 have g:=(hw d (Nat.le_refl _) b).2;have f:0<(M d c).natAbs:=(by omega);have⟨a,e,m⟩:=h.bOQ hw b hm g;have l:=h.sign hm;by_cases hz:∀ i,d<i->i<k->M' i c=0;refine .inl ⟨hz,λi g1 g2=>⟨λx=>?_,?_⟩⟩;have j:=(e i g1 g2).1 x;have a2:a*1<=a*(M d c).natAbs:=Nat.mul_le_mul_left _ f;omega;exact Nat.le_trans (e i g1 g2).2 g;refine .inr ⟨b,⟨a,by rw[h.1]; exact e,?_⟩,by rw[h.1]; exact hm,λi g1 g2=>(l i g1 g2).2⟩;have⟨i,hi⟩:=Classical.not_forall.1 hz;have⟨g1,hi⟩:=Classical.not_forall.1 hi;have⟨g2,g3⟩:=Classical.not_forall.1 hi;refine⟨i,g1,g2,g3,?_⟩;have j:=(l i g1 g2).2.1;rw[h.1]at j ⊢;have a2:(M d c).natAbs^2*(M' i c).natAbs<=A^2*A:=Nat.mul_le_mul (Nat.pow_le_pow_left g 2) (by omega);have a3:a*(M d c).natAbs*((M d c).natAbs^2*(M' i c).natAbs)<=3*(E*A)*(A^2*A):=Nat.mul_le_mul m a2;grind
def Bt.left {k d c C a:Nat} {M M':Nat->V} (h:Bt k M d c C) (v:d<=a) (j:a<k) (hm:M a c≠0) (f:∀ i,d<=i->i<k->M i c≠0->(M a c).natAbs<=(M i c).natAbs) (q:Rd k (swp M d a) M' d c) (hz:¬ ∀ i,d<i->i<k->M' i c=0):M' d=M a/\(M a c).natAbs<(M d c).natAbs/\∃ i,d<i/\i<k/\M' i c≠0/\(M' i c).natAbs+(M a c).natAbs<=(M d c).natAbs/\(M' i c).natAbs<(M a c).natAbs:=by
 have⟨E,w,i0,g1,g2,g3,g4⟩:=h.ex;have b:d<a:=(by rcases Nat.lt_or_ge d a with h9|h9;exact h9;have:a=d:=(by omega);subst this;have:=f i0 (by omega) g2 g3;have:=(h.sign i0 g1 g2).1;omega);have l:swp M d a d=M a:=(by simp[swp]);have u:swp M d a a=M d:=(by have:¬ a=d:=(by omega);simp[swp,this]);have m:=h.sign a b j;have r:=q.sign (by rw[l]; exact hm);have o:M' d=M a:=(by rw[q.1,l]);have main:∃ i,d<i/\i<k/\M' i c≠0/\(M' i c).natAbs+(M a c).natAbs<=(M d c).natAbs:=(by have g:=(r a b j).1;rw[l,u]at g;by_cases e:M' a c=0;have⟨i,hi⟩:=Classical.not_forall.1 hz;have⟨p,hi⟩:=Classical.not_forall.1 hi;have⟨z2,z3⟩:=Classical.not_forall.1 hi;refine⟨i,p,z2,z3,?_⟩;have s:=(r i p z2).2.1;rw[o]at s;have a2:(M a c).natAbs ∣ (M d c).natAbs:=(by have:M a c ∣ M d c:=(by rw[e]at g;exact Int.dvd_of_fmod_eq_zero g.symm);simp_all);have⟨t,ht⟩:=a2;have n:2<=t:=(by rcases Nat.lt_or_ge t 2 with h|h;have:(M a c).natAbs*t<=(M a c).natAbs*1:=Nat.mul_le_mul_left _ (by omega);omega;exact h);have:(M a c).natAbs*2<=(M a c).natAbs*t:=Nat.mul_le_mul_left _ n;omega;refine⟨a,b,j,e,?_⟩;rw[g];refine bWP ?_ m.1;grind);grind
def Pt(k:Nat) (M:Nat->V) (d c P:Nat):Prop:=∃ i,d<i/\i<k/\M i c≠0/\(M d c).natAbs*(M i c).natAbs<=P
def Bt.half {k d c C a M M'}(h:Bt k M d c C)(f:d<=a)(e:a<k)(hm:M a c≠0)(b:∀ i,d<=i->i<k->M i c≠0->(M a c).natAbs<=(M i c).natAbs)(m:Rd k (swp M d a) M' d c)(hz:¬ ∀ i,d<i->i<k->M' i c=0){P}(g:Pt k M d c P):Pt k M' d c (P/2):=by
 have⟨s,t,i,j,z2,z3,z4,z5⟩:=h.left f e hm b m hz;have⟨i0,q,n,l,p⟩:=g;have o:=b i0 (by omega) n l;refine⟨i,j,z2,z3,?_⟩;have r:(M a c).natAbs*(2*(M' i c).natAbs)<=(M a c).natAbs*(M d c).natAbs:=Nat.mul_le_mul_left _ (by omega);have a2:(M d c).natAbs*(M a c).natAbs<=(M d c).natAbs*(M i0 c).natAbs:=Nat.mul_le_mul_left _ o;grind
def Bt.round {k d c C a:Nat} {M M':Nat->V} (h:Bt k M d c C) (t:d<=a) (q:a<k) (hm:M a c≠0) (b:∀ i,d<=i->i<k->M i c≠0->(M a c).natAbs<=(M i c).natAbs) (o:Rd k (swp M d a) M' d c) :
  ((∀ i,d<i->i<k->M' i c=0)/\∃ A,Wi k M' d c (3*C) A)\/(Bt k M' d c C/\(M' d c).natAbs<(M d c).natAbs):=by
 have⟨E,v,i0,g1,g2,g3,g4⟩:=h.ex;have p:d<a:=(by rcases Nat.lt_or_ge d a with h9|h9;exact h9;have:a=d:=(by omega);subst this;have:=b i0 (by omega) g2 g3;have:=(h.sign i0 g1 g2).1;omega);have g:swp M d a d=M a:=(by simp[swp])
 have r:=h.sign a p q;have z:(swp M d a d c).natAbs<=(M d c).natAbs:=by rw[g]; omega
 have⟨l,n,u⟩:=o.bOQ (v.swap t q) h.dk (by rw[g]; exact hm) z;rw[g]at n u;have w:=o.sign (by rw[g]; exact hm);have hC:E*(M d c).natAbs^3*(M a c).natAbs<=C:=Nat.le_trans (Nat.mul_le_mul_left _ (b i0 (by omega) g2 g3)) g4;have j:0<(M a c).natAbs:=(by omega);have e:M' d=M a:=(by rw[o.1,g]);by_cases hz:∀ i,d<i->i<k->M' i c=0;refine .inl ⟨hz,(M a c).natAbs,λi f z2=>⟨λx=>?_,(n i f z2).2⟩⟩;have s:=(n i f z2).1 x;have a2:l*1<=l*(M a c).natAbs:=Nat.mul_le_mul_left _ j;have a3:E*(M d c).natAbs*1<=E*(M d c).natAbs*((M d c).natAbs^2*(M a c).natAbs):=Nat.mul_le_mul_left _ (Nat.mul_pos (Nat.pow_pos (by omega)) j);grind;refine .inr ⟨⟨h.dk,⟨l,by rw[e]; exact n,?_⟩,by rw[e]; exact hm,λi f z2=>(w i f z2).2⟩,by rw[e]; exact r.1⟩;have⟨_,_,i,f,z2,z3,z4,_⟩:=h.left t q hm b o hz;refine⟨i,f,z2,z3,?_⟩;rw[e];have s:=bVY _ _ _ z4;generalize (M' i c).natAbs=y at *;generalize (M a c).natAbs=x at *;generalize (M d c).natAbs=m at *;have a2:l*x*(x^2*y)<=3*(E*m)*(x^2*y):=Nat.mul_le_mul_right _ u;have a3:(E*m*x)*(4*(y*x))<=(E*m*x)*(m*m):=Nat.mul_le_mul_left _ s;grind
def Hn.shift {k M p}(h:Hn k M p) j (e:j<=k):Hn (k-j) (λi=>M (j+i)) (λi=>p (j+i)) where
 inc:=λa b c d=>h.inc _ _ (by omega) (by omega)
 low:=λi hi=>h.low _ (by omega)
 pos:=λi hi=>h.pos _ (by omega)
 red:=λa b c d=>h.red _ _ (by omega) (by omega)
end Go.Lz
namespace Go.PM
open Go Go.RowKit Go.Proofs Go.Lz
abbrev DP:Nat:=400000
def Zr(n:Nat) (v:V):List ByteArray:=(List.range n).map λi=>Zn (v i)
def mD n v:(Zr n v).length=n:=by simp[Zr]
def aG4 {n i} v (h:i<n) d:(Zr n v).getD i d=Zn (v i):=by simp[Zr,h]
def aAV {n u v}(h:∀ i,i<n->u i=v i):Zr n u=Zr n v:=by
 refine List.map_congr_left λi hi=>?_;grind
def bL6 {n}(u v:V) t (h:t<n):(Zr n λx=>if x<t then v x else u x).set t (Zn (v t))=Zr n λx=>if x<t+1 then v x else u x:=by
 refine List.ext_getElem? λi=>?_;simp only[Zr];grind
def aVN {α:Type}(A:List α) j x d (h:j<A.length):(A.set j x).getD j d=x:=by grind
def getD_set_ne {α:Type}(A:List α){j k} x d (h:j≠k):(A.set j x).getD k d=A.getD k d:=by grind
def aZX {α:Type}{A:List α}{j x} d (h:A[j]?=some x):A.getD j d=x:=by grind
structure a7N (n:Nat) (u v:V) (q:Int):Prop where
 mul:∀ i,i<n->Lib.nDigits q.natAbs+Lib.nDigits (v i).natAbs<=DP
 sub:∀ i,i<n->Lib.nDigits (u i).natAbs<=DP
def a4D a b:Lib.nDigits (a*b)<=Lib.nDigits a+Lib.nDigits b:=by
 have d:=pD a;have e:=pD b;have p2:=nDigits_pos b;have c :=Nat.mul_lt_mul'' d e;rw[<- Nat.pow_add]at c;obtain⟨k,f⟩:∃ k,Lib.nDigits a+Lib.nDigits b=k+1:=⟨Lib.nDigits a+Lib.nDigits b-1,by omega⟩;rw[f]at c ⊢;exact xL c
def aQ2 {α:Type}{pre l:List α}{o t}(h:pre.length=o) d:(pre++l).getD (o+t) d=l.getD t d:=by grind
def bP4 {α:Type}{pre l:List α}{o t}(h:pre.length=o) x:(pre++l).set (o+t) x=pre++l.set t x:=by grind
def bSQ {A:List (List ByteArray)}{J K o n u v q pre pre'}(hn:n<1048576)(c:J≠K)(hp:pre.length=o)(a:pre'.length=o)(y:A[J]?=some (pre++Zr n u))(p:A[K]?=some (pre'++Zr n v))(ok:a7N n u v q) :
  zA ((J,o,n),Zn q,(K,o,n),(n:Int),0,A,())=some (A.set J (pre++Zr n λx=>u x-q*v x),()):=by
 have d:J<A.length:=(oO.1 y).1;have key:=aK (step:=sQ) (N:=2^64)
  (λt=>((J,o,n),Zn q,(K,o,n),(n:Int),(t:Int),A.set J (pre++Zr n λx=>if x<t then u x-q*v x else u x),())) n (A.set J (pre++Zr n λx=>u x-q*v x),()) (by omega) (λt ht=>?_) ?_
 ·have w:(A.set J (pre++Zr n λx=>if x<0 then u x-q*v x else u x))=A:=by
   have:Zr n (λx=>if x<0 then u x-q*v x else u x)=Zr n u:=aAV λi _=>by simp
   rw[this];refine List.ext_getElem? λi=>?_;grind
  simp only[w]at key;exact key
 ·have f:(A.set J (pre++Zr n λx=>if x<t then u x-q*v x else u x)).getD J []=pre++Zr n λx=>if x<t then u x-q*v x else u x:=aVN _ _ _ _ d
  have g:(A.set J (pre++Zr n λx=>if x<t then u x-q*v x else u x)).getD K []=pre'++Zr n v:=by rw[getD_set_ne _ _ _ c]; exact aZX _ p
  have b:ltI (t:Int) (n:Int)=true:=by rw[aF]; simp; omega
  have z:aE (t:Int) n=true:=by rw[aL]; simp; omega
  have k:(o+((t:Nat):Int).toNat)*1=o+t:=(by simp);have m:dG (A.set J (pre++Zr n λx=>if x<t then u x-q*v x else u x)) J=o+n:=(by rw[dG,f,oH,mD,hp]);have h:dG (A.set J (pre++Zr n λx=>if x<t then u x-q*v x else u x)) K=o+n:=(by rw[dG,g,oH,mD,a])
  have j:Nat.blt (o+t) (o+n)=true:=by rw[cF]; simpa using ht
  have r:dZ (A.set J (pre++Zr n λx=>if x<t then u x-q*v x else u x)) J (o+t) ByteArray.empty=Zn (u t):=by rw[dZ,f,aQ2 hp,aG4 _ ht]; simp
  have s:dZ (A.set J (pre++Zr n λx=>if x<t then u x-q*v x else u x)) K (o+t) ByteArray.empty=Zn (v t):=(by rw[dZ,g,aQ2 a,aG4 _ ht]);have B:DQ (A.set J (pre++Zr n λx=>if x<t then u x-q*v x else u x)) J (o+t) (Zn (u t-q*v t))=A.set J (pre++Zr n λx=>if x<t+1 then u x-q*v x else u x):=(by rw[DQ,f,List.set_set,bP4 hp];exact oZ (λl=>A.set J (pre++l)) (bL6 u (λx=>u x-q*v x) t ht));have m1:=aWN q (v t) (ok.mul t ht);have m2:=a94 (u t) (q*v t) (ok.sub t ht) (by rw[Int.natAbs_mul]; exact oR (a4D _ _) (ok.mul t ht));have e:=bP t (by omega);simp only[sQ,b,z,k,h,j,m,r,s,m1,m2,B,e,zz]
 ·have b:ltI (n:Int) (n:Int)=false:=by rw[aF]; simp
  simp only[sQ,b,oD];have:Zr n (λx=>if x<n then u x-q*v x else u x)=Zr n λx=>u x-q*v x:=aAV λi hi=>by simp[hi]
  rw[this]
def bJ8 {α:Type}{A:List α}{J x}(h:A[J]?=some x):A.set J x=A:=by
 refine List.ext_getElem? λi=>?_;grind
def bZJ {A:List (List ByteArray)} {J K o n:Nat} {u v:V} {q:Int} {pre a:List ByteArray} (hn:n<1048576) (c:J≠K) (hp:pre.length=o) (b:a.length=o) (e:A[J]?=some (pre++Zr n u)) (f:A[K]?=some (a++Zr n v)) (ok:a7N n u v q) :
  iR () ((J,o,n),Zn q,(K,o,n),()) A=some ((),A.set J (pre++Zr n λx=>u x-q*v x)):=by
 unfold iR;simp only[WS];by_cases d:q=0
 ·subst d;simp only[decide_true,oC];have:Zr n (λx=>u x-0*v x)=Zr n u:=aAV λi _=>by simp
  rw[this,bJ8 e]
 simp only[d,decide_false,bSQ hn c hp b e f ok,zz]
def negate_eq {A:List (List ByteArray)} {J o n:Nat} {u:V} {pre:List ByteArray} (hn:n<1048576) (hp:pre.length=o) (e:A[J]?=some (pre++Zr n u)) (ok:∀ i,i<n->Lib.nDigits (u i).natAbs<=DP) :
  fH () ((J,o,n),()) A=some ((),A.set J (pre++Zr n λx=>-(u x))):=by
 have b:J<A.length:=(oO.1 e).1;have key:=aK (step:=pY) (N:=2^64)
  (λt=>((J,o,n),(J,o,n),(n:Int),(t:Int),A.set J (pre++Zr n λx=>if x<t then -(u x) else u x),())) n (A.set J (pre++Zr n λx=>-(u x)),()) (by omega) (λt ht=>?_) ?_
 ·have m:(A.set J (pre++Zr n λx=>if x<0 then -(u x) else u x))=A:=by
   have:Zr n (λx=>if x<0 then -(u x) else u x)=Zr n u:=aAV λi _=>by simp
   rw[this,bJ8 e]
  simp only[m]at key;unfold fH wW;have f:((0:Nat):Int)=0:=rfl;rw[f]at key;simp only[key,aC]
 ·have d:(A.set J (pre++Zr n λx=>if x<t then -(u x) else u x)).getD J []=pre++Zr n λx=>if x<t then -(u x) else u x:=aVN _ _ _ _ b
  have a:ltI (t:Int) (n:Int)=true:=by rw[aF]; simp; omega
  have p:aE (t:Int) n=true:=by rw[aL]; simp; omega
  have h:(o+((t:Nat):Int).toNat)*1=o+t:=(by simp);have j:dG (A.set J (pre++Zr n λx=>if x<t then -(u x) else u x)) J=o+n:=(by rw[dG,d,oH,mD,hp])
  have g:Nat.blt (o+t) (o+n)=true:=by rw[cF]; simpa using ht
  have k:dZ (A.set J (pre++Zr n λx=>if x<t then -(u x) else u x)) J (o+t) ByteArray.empty=Zn (u t):=by rw[dZ,d,aQ2 hp,aG4 _ ht]; simp
  have q:DQ (A.set J (pre++Zr n λx=>if x<t then -(u x) else u x)) J (o+t) (Zn (-(u t)))=A.set J (pre++Zr n λx=>if x<t+1 then -(u x) else u x):=(by rw[DQ,d,List.set_set,bP4 hp];exact oZ (λl=>A.set J (pre++l)) (bL6 u (λx=>-(u x)) t ht));have m1:=bB9 (u t) (Nat.lt_of_le_of_lt (ok t ht) (by decide));have c:=bP t (by omega);simp only[pY,a,p,h,g,j,k,m1,q,c,zz]
 ·have a:ltI (n:Int) (n:Int)=false:=by rw[aF]; simp
  simp only[pY,a,oD];have:Zr n (λx=>if x<n then -(u x) else u x)=Zr n λx=>-(u x):=aAV λi hi=>by simp[hi]
  rw[this]
def a27 {σ τ:Type} {step:σ->Option (σ⊕τ)} {N:Nat} (m:Nat) (I:Nat->σ->Prop) (Q:τ->Prop) (d:m<N) (x:σ) (i:I 0 x) (h:∀ t x,t<m->I t x->∃ y,step x=some (.inl y)/\I (t+1) y) (he:∀ x,I m x->∃ z,step x=some (.inr z)/\Q z) :
  ∃ z,aV step N x=some z/\Q z:=by
 have key:∀ (j t:Nat) (x:σ) (N:Nat),t+j=m->j<N->I t x->∃ z,aV step N x=some z/\Q z:=by
  intro j;induction j with
  | zero =>
   intro t x N ht d a;have:t=m:=by omega
   subst this;obtain⟨N,rfl⟩:∃ M,N=M+1:=⟨N-1,by omega⟩;have⟨z,c,b⟩:=he x a;exact⟨z,by rw[eF,c],b⟩
  | succ j e =>
   intro t x N ht d a;obtain⟨N,rfl⟩:∃ M,N=M+1:=⟨N-1,by omega⟩;have⟨y,c,b⟩:=h t x (by omega) a;have⟨z,g,f⟩:=e (t+1) y N (by omega) (by omega) b;exact⟨z,by rw[eF,c]; exact g,f⟩
 grind
structure sF (o k n:Nat) (m:List (Nat×Nat×Nat)) (A:List (List ByteArray)) (J:Nat->Nat) (M:Nat->V):Prop where
 ml:m=(List.range k).map λi=>(J i,o,n)
 at_:∀ i,i<k->∃ pre:List ByteArray,pre.length=o/\A[J i]?=some (pre++Zr n (M i))
 inj:∀ i j,i<k->j<k->J i=J j->i=j
section
variable {o k n:Nat} {m:List (Nat×Nat×Nat)} {A:List (List ByteArray)} {J:Nat->Nat} {M:Nat->V}
def sF.len (h:sF o k n m A J M):m.length=k:=by rw[h.ml]; simp
def sF.get (h:sF o k n m A J M){i}(hi:i<k):m.getD i (0,0,0)=(J i,o,n):=by rw[h.ml]; grind
def sF.dG (h:sF o k n m A J M){i}(hi:i<k):dG A (J i)=o+n:=by
 have⟨pre,a,b⟩:=h.at_ i hi;rw[PM.dG,aZX _ b,oH,mD,a]
def sF.dZ (h:sF o k n m A J M){i c}(hi:i<k)(b:c<n):dZ A (J i) (o+c) ByteArray.empty=Zn (M i c):=by
 have⟨pre,a,d⟩:=h.at_ i hi;rw[PM.dZ,aZX _ d,aQ2 a,aG4 _ b]
def sF.aXW (h:sF o k n m A J M){i}(hi:i<k) r {pre}(hp:pre.length=o):sF o k n m (A.set (J i) (pre++Zr n r)) J (up M i r) where
 ml:=h.ml
 at_:=λj b=>by
  by_cases e:j=i
  ·subst e;have⟨a,d,c⟩:=h.at_ j b;exact⟨pre,hp,by rw[List.getElem?_set_self (oO.1 c).1,aKF]⟩
  ·have⟨a,d,c⟩:=h.at_ j b;exact⟨a,d,by rw[List.getElem?_set_ne (λf=>e (h.inj i j hi b f).symm),XK _ _ e]; grind⟩
 inj:=h.inj
def sF.less (h:sF o k n m A J M)(hn:n<1048576){i d}(hi:i<k)(hd:d<k)(a:i≠d) q (ok:a7N n (M i) (M d) q) :
  ∃ A',iR () ((J i,o,n),Zn q,(J d,o,n),()) A=some ((),A')/\sF o k n m A' J (up M i λx=>M i x-q*M d x):=by
 have⟨pre,b,f⟩:=h.at_ i hi;have⟨c,j,g⟩:=h.at_ d hd;exact⟨_,bZJ hn (λe=>a (h.inj i d hi hd e)) b j f g ok,h.aXW hi _ b⟩
def sF.neg (h:sF o k n m A J M)(hn:n<1048576){i}(hi:i<k)(ok:∀ x,x<n->Lib.nDigits (M i x).natAbs<=DP) :
  ∃ A',fH () ((J i,o,n),()) A=some ((),A')/\sF o k n m A' J (up M i λx=>-(M i x)):=by
 have⟨pre,a,b⟩:=h.at_ i hi;exact⟨_,negate_eq hn a b ok,h.aXW hi _ a⟩
def sF.swap (h:sF o k n m A J M){a b}(g:a<k)(l:b<k):sF o k n ((m.set a (J b,o,n)).set b (J a,o,n)) A (λi=>if i=a then J b else if i=b then J a else J i) (swp M a b) where
 ml:=by
  refine List.ext_getElem? λi=>?_
  have p:=h.len;rw[List.getElem?_map]
  by_cases c:i=b
  ·grind
  ·rw[List.getElem?_set_ne (Ne.symm c)]
   by_cases d:i=a
   ·grind
   ·rw[List.getElem?_set_ne (Ne.symm d),h.ml,List.getElem?_map];grind
 at_:=λi hi=>by
  by_cases c:i=a
  ·subst c;simp only[if_true,swp];exact h.at_ b l
  ·by_cases d:i=b
   ·subst d;simp only[c,if_false,if_true,swp];exact h.at_ a g
   ·simp only[c,d,if_false,swp];exact h.at_ i hi
 inj:=λi j hi f e=>by
  have key:∀ i,i<k->(if i=a then J b else if i=b then J a else J i)=J (if i=a then b else if i=b then a else i):=λi _=>by grind
  simp only[key i hi,key j f]at e;have lt:∀ i,i<k->(if i=a then b else if i=b then a else i)<k:=λi hi=>by grind
  have:=h.inj _ _ (lt i hi) (lt j f) e;grind
end
def atv:Option Nat->Int| none=>-1| some a=>a
structure bT9 (M:Nat->V) (c d t:Nat) (r:Option Nat):Prop where
 none:r=Option.none->∀ i,d<=i->i<d+t->M i c=0
 some:∀ a,r=Option.some a->d<=a/\a<d+t/\M a c≠0/\∀ i,d<=i->i<d+t->M i c≠0->(M a c).natAbs<=(M i c).natAbs
def Cm(k n:Nat) (M:Nat->V):Prop:=∀ i,i<k->∀ x,x<n->Lib.nDigits (M i x).natAbs<=DP
def bJ2 {o k n m A J M}(h:sF o k n m A J M)(V:k<1048576)(T:Cm k n M){c d}(j:c<n)(hd:d<=k)(f:Int) :
  ∃ r,nF (m,f,(d:Int),(c:Int),-1,(d:Int),A,())=some (m,f,(d:Int),(c:Int),atv r,A,())/\bT9 M c d (k-d) r:=by
 have:=a27 (step:=dX) (N:=2^64) (k-d)
  (λt x=>∃ r,x=(m,f,(d:Int),(c:Int),atv r,((d+t:Nat):Int),A,())/\bT9 M c d t r)
  (λz=>∃ r,z=(m,f,(d:Int),(c:Int),atv r,A,())/\bT9 M c d (k-d) r) (by omega) (m,f,(d:Int),(c:Int),-1,(d:Int),A,())
  ⟨none,rfl,⟨λ_ i q w=>by omega,λa l=>by cases l⟩⟩ ?_ ?_
 obtain⟨z,q,r,rfl,w⟩:=this;exact⟨r,q,w⟩
 ·rintro t x ht ⟨r,rfl,y⟩;have hi:d+t<k:=(by omega)
  have B:ltI ((d+t:Nat):Int) (m.length:Int)=true:=by rw[aF,h.len]; simp; omega
  have H:aE ((d+t:Nat):Int) m.length=true:=by rw[aL,h.len]; simp; omega
  have K:(((d+t:Nat):Int)).toNat=d+t:=oN _;have L:Nat.blt (d+t) m.length=true:=by rw[cF,h.len]; simpa using hi
  have D:aE (c:Int) n=true:=by rw[aL]; simp; omega
  have G:(o+((c:Nat):Int).toNat)*1=o+c:=(by simp)
  have E:Nat.blt (o+c) (o+n)=true:=by rw[cF]; simpa using j
  have I:=bP (d+t) (by omega);have F:=h.get hi;have v:=h.dG hi;have s:=h.dZ hi j;by_cases hz:M (d+t) c=0
  ·refine⟨_,?_,r,rfl,⟨λg i q w=>?_,λa l=>?_⟩⟩
   ·have p:eqS (Zn (M (d+t) c)) (ByteArray.mk #[48])=true:=by rw[WS]; simp[hz]
    simp only[dX,B,H,K,L,F,D,G,v,E,s,p,I,zz];rfl
   by_cases e:i=d+t;grind;exact y.none g i q (by omega);have⟨Q,U,R,P⟩:=y.some a l;grind
  ·have p:eqS (Zn (M (d+t) c)) (ByteArray.mk #[48])=false:=by rw[WS]; simp[hz]
   cases r with
   | none =>
    have u:ltI (atv none) 0=true:=by decide
    refine⟨_,?_,some (d+t),rfl,⟨λg=>by (cases g),λa l=>?_⟩⟩
    ·simp only[dX,B,H,K,L,F,D,G,v,E,s,p,I,u,zz];rfl
    ·obtain rfl:=oB l;refine⟨by omega,by omega,hz,λi q w C=>?_⟩
     by_cases e:i=d+t
     ·subst e; exact oM _
     ·exact absurd (y.none rfl i q (by omega)) C
   | some a =>
    have⟨Q,U,R,P⟩:=y.some a rfl;have l:a<k:=by omega
    have u:ltI (atv (some a)) 0=false:=by rw[aF]; exact oF (by unfold atv; dsimp only; omega)
    have f2:aE (atv (some a)) m.length=true:=by rw[aL,h.len]; simp[atv]; omega
    have f3:(atv (some a)).toNat=a:=by simp[atv]
    have f4:Nat.blt a m.length=true:=by rw[cF,h.len]; simpa using l
    have f9:=h.get l;have f10:=h.dG l;have f11:=h.dZ l j;have c1:=bDR (M (d+t) c);have c2:=bDR (M a c);have c3:=bBB (M (d+t) c).natAbs (M a c).natAbs (Nat.lt_of_le_of_lt (T _ hi c j) (by decide)) (Nat.lt_of_le_of_lt (T _ l c j) (by decide))
    by_cases S:(M (d+t) c).natAbs<(M a c).natAbs
    ·have c4:ltI (aUL (M (d+t) c).natAbs (M a c).natAbs) 0=true:=by rw[aF,aUL,if_pos S]; rfl
     refine⟨_,?_,some (d+t),rfl,⟨λg=>by (cases g),λb O=>?_⟩⟩
     ·simp only[dX,B,H,K,L,F,D,G,v,E,s,p,I,u,f2,f3,f4,f9,f10,f11,c1,c2,c3,c4,zz];rfl
     ·obtain rfl:=oB O;refine⟨by omega,by omega,hz,λi q w C=>?_⟩
      by_cases e:i=d+t
      ·subst e; exact oM _
      ·have:=P i q (by omega) C; omega
    ·have c4:ltI (aUL (M (d+t) c).natAbs (M a c).natAbs) 0=false:=by
      rw[aF,aUL,if_neg S]; split <;> rfl
     refine⟨_,?_,some a,rfl,⟨λg=>by (cases g),λb O=>?_⟩⟩
     ·simp only[dX,B,H,K,L,F,D,G,v,E,s,p,I,u,f2,f3,f4,f9,f10,f11,c1,c2,c3,c4,zz];rfl
     ·obtain rfl:=oB O;refine⟨Q,by omega,R,λi q w C=>?_⟩
      by_cases e:i=d+t
      ·subst e; omega
      ·exact P i q (by omega) C
 ·rintro x ⟨r,rfl,y⟩;have B:ltI ((d+(k-d):Nat):Int) (m.length:Int)=false:=by rw[aF,h.len]; simp; omega
  refine⟨_,?_,r,rfl,y⟩;simp only[dX,B,oD]
def aJV {T}(b:2*Lib.nDigits (T+1)<=DP){a}(h:a<=T+1):2*Lib.nDigits a<=DP:=oR (Nat.mul_le_mul_left 2 (vC h)) b
def aZR {a m:Int}{T}(h:a.natAbs<=T)(hm:m≠0):(a.fdiv m).natAbs<=T+1:=by
 have d:=bJF a m hm;have b:1<=m.natAbs:=by omega
 have c:(a.fdiv m).natAbs*m.natAbs<=(T+1)*m.natAbs:=by
  rw[Nat.succ_mul];have:T*1<=T*m.natAbs:=Nat.mul_le_mul_left _ b;omega
 exact Nat.le_of_mul_le_mul_right c (by omega)
def bCY {T n}(a:2*Lib.nDigits (T+1)<=DP){u v q}(hu:∀ x,x<n->(u x).natAbs<=T)(c:∀ x,x<n->(v x).natAbs<=T)(b:q.natAbs<=T+1):a7N n u v q:=by
 constructor;intro i hi;have e:=aJV a b;have d:=aJV a (Nat.le_succ_of_le (c i hi));omega;intro i hi;have d:=aJV a (Nat.le_succ_of_le (hu i hi));omega
def Big(k n:Nat) (M:Nat->V) (T:Nat):Prop:=∀ i,i<k->∀ x,x<n->(M i x).natAbs<=T
def Big.cm {k n T M}(h:Big k n M T)(b:2*Lib.nDigits (T+1)<=DP):Cm k n M:=λi hi x a=>by
 have:=aJV b (Nat.le_succ_of_le (h i hi x a));omega
section
variable {o k n d c:Nat} {m:List (Nat×Nat×Nat)} {A:List (List ByteArray)} {J:Nat->Nat} {M M0:Nat->V} {p:Nat->Nat} {T:Nat}
def rdT(M:Nat->V) (d c t:Nat):Nat->V:=λi=>if d<i/\i<d+1+t then (λx=>M i x-(M i c).fdiv (M d c)*M d x) else M i
def bLI(h:sF o k n m A J M)(hk:k<1048576)(hn:n<1048576)(f:Fo k M0 M d c p)(hd:d<k)(j:c<n)(hm:M d c≠0)(E:Big k n M T)(O:2*Lib.nDigits (T+1)<=DP)(a:Int) :
  ∃ A' M' rest,uS (m,a,(d:Int),(c:Int),false,aA .i64 (d+1),A,())=some (m,a,(d:Int),(c:Int),rest,A',())/\sF o k n m A' J M'/\Rd k M M' d c/\Fo k M0 M' d c p/\(∀ i,i<d->M' i=M i) /\
   (rest=true->∃ i,d<i/\i<k/\M' i c≠0)/\(rest=false->∀ i,d<i->i<k->M' i c=0):=by
 have I:∀ t i,d<i->i<d+1+t->rdT M d c t i c=(M i c).fmod (M d c):=λt i P G=>by
  unfold rdT;rw[if_pos ⟨P,G⟩];exact a8S _ _
 have r:∀ t,rdT M d c t d=M d:=λt=>by unfold rdT; rw[if_neg (by omega)]
 have:=a27 (step:=eT) (N:=2^64) (k-(d+1))
  (λt x=>∃ A' rest,x=(m,a,(d:Int),(c:Int),rest,((d+1+t:Nat):Int),A',())/\sF o k n m A' J (rdT M d c t)/\Fo k M0 (rdT M d c t) d c p/\(rest=true->∃ i,d<i/\i<d+1+t/\(M i c).fmod (M d c)≠0)/\(rest=false->∀ i,d<i->i<d+1+t->(M i c).fmod (M d c)=0))
  (λz=>∃ A' rest,z=(m,a,(d:Int),(c:Int),rest,A',())/\sF o k n m A' J (rdT M d c (k-(d+1)))/\Fo k M0 (rdT M d c (k-(d+1))) d c p/\(rest=true->∃ i,d<i/\i<k/\(M i c).fmod (M d c)≠0)/\(rest=false->∀ i,d<i->i<k->(M i c).fmod (M d c)=0))
  (by omega) (m,a,(d:Int),(c:Int),false,aA .i64 ((d:Int)+1),A,()) ?_ ?_ ?_
 obtain⟨z,P,A',rest,rfl,G,h3,Y,h5⟩:=this;refine⟨A',_,rest,P,G,⟨r _,λi g1 g2=>?_⟩,h3,λi hi=>by unfold rdT; rw[if_neg (by omega)],λb=>?_,λb i g1 g2=>?_⟩;unfold rdT; rw[if_pos ⟨g1,by omega⟩];have⟨i,g1,g2,g3⟩:=Y b;exact⟨i,g1,g2,by rw[I _ i g1 (by omega)]; exact g3⟩;grind;have e:rdT M d c 0=M:=(by funext i; unfold rdT; rw[if_neg (by omega)]);refine⟨A,false,?_,by rw[e]; exact h,by rw[e]; exact f,λb=>(by cases b),λ_ i g1 g2=>by omega⟩;rw[bP d (by omega)]
 ·rintro t x ht ⟨A',rest,rfl,q,R,B,u⟩;have hi:d+1+t<k:=(by omega)
  have w:rdT M d c t (d+1+t)=M (d+1+t):=by unfold rdT; rw[if_neg (by omega)]
  have D:ltI ((d+1+t:Nat):Int) (m.length:Int)=true:=by rw[aF,h.len]; exact oT (by omega)
  have Q:aE ((d+1+t:Nat):Int) m.length=true:=by rw[aL,h.len]; exact oT (by omega)
  have U:(((d+1+t:Nat):Int)).toNat=d+1+t:=oN _;have W:Nat.blt (d+1+t) m.length=true:=by rw[cF,h.len]; simpa using hi
  have F:aE (c:Int) n=true:=zi
  have L:(o+((c:Nat):Int).toNat)*1=o+c:=(by simp)
  have H:Nat.blt (o+c) (o+n)=true:=by rw[cF]; simpa using j
  have S:=bP (d+1+t) (by omega);have K:=q.get hi;have v:=q.dG hi;have l:=q.dZ hi j;rw[w]at l;have f2:aE ((d:Nat):Int) m.length=true:=by rw[aL,h.len]; exact oT (by omega)
  have f3:((d:Nat):Int).toNat=d:=oN _;have f4:Nat.blt d m.length=true:=by rw[cF,h.len]; simpa using hd
  have f9:=q.get hd;have f10:=q.dG hd;have f11:=q.dZ hd j;rw[r]at f11;have X:=E _ hi c j;have Z:=E _ hd c j;have k1:=aJV O (Nat.le_succ_of_le X);have k2:=aJV O (Nat.le_succ_of_le Z);have c1:=aK0 (M (d+1+t) c) (M d c) (by have:DP=400000:=rfl; omega) (by have:DP=400000:=rfl; omega) hm;have⟨V,c2,c3⟩:=q.less hn hi hd (by omega) ((M (d+1+t) c).fdiv (M d c)) (by
   rw[w,r];exact bCY O (E _ hi) (E _ hd) (aZR X hm))
  have C:up (rdT M d c t) (d+1+t) (λx=>rdT M d c t (d+1+t) x-(M (d+1+t) c).fdiv (M d c)*rdT M d c t d x)=rdT M d c (t+1):=(by funext i;by_cases e:i=d+1+t;subst e;rw[aKF,w,r];unfold rdT;rw[if_pos (by omega)];rw[XK _ _ e];unfold rdT;by_cases g:d<i/\i<d+1+t;rw[if_pos g,if_pos (by omega)];rw[if_neg g,if_neg (by omega)])
  rw[C]at c3;have s:Fo k M0 (rdT M d c (t+1)) d c p:=by
   rw[<- C];exact R.less _ (by omega) hi
  have c4:eqS (Zn ((M (d+1+t) c).fmod (M d c))) (ByteArray.mk #[48])=decide ((M (d+1+t) c).fmod (M d c)=0):=WS _;have y:((d+1+t+1:Nat):Int)=((d+1+(t+1):Nat):Int):=(by omega);cases rest with
  | true =>
   refine⟨_,?_,V,true,rfl,c3,s,λ_=>?_,λb=>(by cases b)⟩
   ·simp only[eT,D,Q,U,W,K,F,L,v,H,l,f2,f3,f4,f9,f10,f11,c1,c2,S,y,zz]
   ·have⟨i,g1,g2,g3⟩:=B rfl;exact⟨i,g1,by omega,g3⟩
  | false =>
   by_cases hz:(M (d+1+t) c).fmod (M d c)=0
   ·have c5:eqS (Zn ((M (d+1+t) c).fmod (M d c))) (ByteArray.mk #[48])=true:=by rw[c4]; exact oT hz
    refine⟨_,?_,V,false,rfl,c3,s,λb=>(by cases b),λ_ i g1 g2=>?_⟩
    ·simp only[eT,D,Q,U,W,K,F,L,v,H,l,f2,f3,f4,f9,f10,f11,c1,c2,c5,S,y,zz]
    ·by_cases e:i=d+1+t
     ·subst e; exact hz
     ·exact u rfl i g1 (by omega)
   ·have c5:eqS (Zn ((M (d+1+t) c).fmod (M d c))) (ByteArray.mk #[48])=false:=by rw[c4]; exact oF hz
    refine⟨_,?_,V,true,rfl,c3,s,λ_=>⟨d+1+t,by omega,by omega,hz⟩,λb=>(by cases b)⟩;simp only[eT,D,Q,U,W,K,F,L,v,H,l,f2,f3,f4,f9,f10,f11,c1,c2,c5,S,y,zz]
 ·rintro x ⟨A',rest,rfl,q,R,B,u⟩;have D:ltI ((d+1+(k-(d+1)):Nat):Int) (m.length:Int)=false:=by rw[aF,h.len]; exact oF (by omega)
  refine⟨_,?_,A',rest,rfl,q,R,λb=>?_,λb i g1 g2=>u b i g1 (by omega)⟩;simp only[eT,D,oD];have⟨i,g1,g2,g3⟩:=B b;exact⟨i,g1,by omega,g3⟩
def bL3 {E:Nat} (h:sF o k n m A J M) (hk:k<1048576) (hn:n<1048576) (f:Fp k M0 M d c p 0) (b:c<n) (u:Big k n M T) (H:∀ i,i<d->∀ x,x<n->(M i x).natAbs<=E) (Y:E<=T) (w:2*Lib.nDigits (T+1)<=DP) (a:Int) :
  ∃ A' M',dW (m,a,(d:Int),(c:Int),(d:Int),0,A,())=some (m,a,(d:Int),(c:Int),A',())/\sF o k n m A' J M'/\Fp k M0 M' d c p d/\(∀ i,d<=i->M' i=M i)/\∀ i,i<d->∀ x,x<n->(M' i x).natAbs<=E+(E+1)*T:=by
 have hd:=f.dk;have:=a27 (step:=mQ) (N:=2^64) d
  (λt x=>∃ A' M',x=(m,a,(d:Int),(c:Int),(d:Int),(t:Int),A',())/\sF o k n m A' J M'/\Fp k M0 M' d c p t/\(∀ i,t<=i->M' i=M i)/\∀ i,i<t->∀ x,x<n->(M' i x).natAbs<=E+(E+1)*T)
  (λz=>∃ A' M',z=(m,a,(d:Int),(c:Int),A',())/\sF o k n m A' J M'/\Fp k M0 M' d c p d/\(∀ i,d<=i->M' i=M i)/\∀ i,i<d->∀ x,x<n->(M' i x).natAbs<=E+(E+1)*T)
  (by omega) (m,a,(d:Int),(c:Int),(d:Int),0,A,()) ⟨A,M,rfl,h,f,λ_ _=>rfl,λi hi=>by omega⟩ ?_ ?_
 obtain⟨z,S,A',M',rfl,K⟩:=this;exact⟨A',M',S,K⟩
 ·rintro t x ht ⟨A',M',rfl,j,C,g,l⟩;have hi:t<k:=(by omega)
  have q:=g t (oM _);have r:=g d (by omega);have F:ltI (t:Int) (d:Int)=true:=ze
  have U:aE (t:Int) m.length=true:=by rw[aL,h.len]; exact oT (by omega)
  have X:((t:Nat):Int).toNat=t:=oN _;have e4:Nat.blt t m.length=true:=by rw[cF,h.len]; simpa using hi
  have I:aE (c:Int) n=true:=zi
  have P:(o+((c:Nat):Int).toNat)*1=o+c:=(by simp)
  have L:Nat.blt (o+c) (o+n)=true:=by rw[cF]; simpa using b
  have V:=bP t (by omega);have O:=j.get hi;have B:=j.dG hi;have s:=j.dZ hi b;rw[q]at s;have f2:aE ((d:Nat):Int) m.length=true:=by rw[aL,h.len]; exact oT (by omega)
  have f3:((d:Nat):Int).toNat=d:=oN _;have f4:Nat.blt d m.length=true:=by rw[cF,h.len]; simpa using hd
  have f9:=j.get hd;have f10:=j.dG hd;have f11:=j.dZ hd b;rw[r]at f11;have hm:M d c≠0:=by have:=f.piv; omega
  have Q:=H t ht c b;have G:=u _ hi c b;have W:=u _ hd c b;have k1:=aJV w (Nat.le_succ_of_le G);have k2:=aJV w (Nat.le_succ_of_le W);have c1:=aK0 (M t c) (M d c) (by have:DP=400000:=rfl; omega) (by have:DP=400000:=rfl; omega) hm;have⟨Z,c2,c3⟩:=j.less hn hi hd (by omega) ((M t c).fdiv (M d c)) (by
   rw[q,r];exact bCY w (u _ hi) (u _ hd) (aZR G hm))
  have v:=C.less ht;rw[q,r]at v c3;refine⟨_,?_,Z,_,rfl,c3,v,λi y=>?_,λi y x D=>?_⟩;simp only[mQ,F,U,X,e4,O,I,P,B,L,s,f2,f3,f4,f9,f10,f11,c1,c2,V,zz];rw[XK _ _ (by omega)]; exact g i (by omega);by_cases e:i=t;subst e;rw[aKF];have R:=aZR Q hm;have q2:((M i c).fdiv (M d c)*M d x).natAbs=((M i c).fdiv (M d c)).natAbs*(M d x).natAbs:=Int.natAbs_mul _ _;have q3:((M i c).fdiv (M d c)).natAbs*(M d x).natAbs<=(E+1)*T:=Nat.mul_le_mul R (u _ hd x D);have q4:=H i (by omega) x D;omega;rw[XK _ _ e]; exact l i (by omega) x D
 ·rintro x ⟨A',M',rfl,j,C,g,l⟩;have F:ltI (d:Int) (d:Int)=false:=zf
  refine⟨_,?_,A',M',rfl,j,C,g,l⟩;simp only[mQ,F,oD]
end
def Wd(k n:Nat) (M:Nat->V):Prop:=∀ i,i<k->∀ x,n<=x->M i x=0
section
variable {o k n d c:Nat} {m:List (Nat×Nat×Nat)} {A:List (List ByteArray)} {J:Nat->Nat} {M M0:Nat->V} {p:Nat->Nat} {T E:Nat}
def Big.all (h:Big k n M T)(hw:Wd k n M):∀ i,i<k->∀ x,(M i x).natAbs<=T:=λi hi x=>by
 rcases oG x n with g|g
 ·exact h i hi x g
 ·rw[hw i hi x g]; simp
def pass(h:sF o k n m A J M) (hk:k<1048576) (hn:n<1048576) (f:Fo k M0 M d c p) (y:c<n) (hB:Big k n M T) (hw:Wd k n M) (hE:∀ i,i<d->∀ x,x<n->(M i x).natAbs<=E) (hET:E<=T) (hT:2*Lib.nDigits (T+1)<=DP) {a:Nat} (hd:d<k) (ha:d<=a) (w:a<k) (hm:M a c≠0)
  (b:Int) (H:nF (m,b,(d:Int),(c:Int),-1,(d:Int),A,())=some (m,b,(d:Int),(c:Int),(a:Int),A,())) :
  ∃ m1 A' D M',sF o k n m1 A' D M'/\Rd k (swp M d a) M' d c/\Fo k M0 M' d c p/\(∀ i,i<d->M' i=M i)/\Wd k n M' /\
   ((∃ i,d<i/\i<k/\M' i c≠0)->dY (m,b,(d:Int),(c:Int),A,())=some (.inl (m1,b,(d:Int),(c:Int),A',()))) /\
   ((∀ i,d<i->i<k->M' i c=0)->Big k n M' T->∃ t s p',dY (m,b,(d:Int),(c:Int),A,())=some (.inr (m1,b,((d+1:Nat):Int),(c:Int),t,()))/\sF o k n m1 t D s/\Fo k M0 s (d+1) (c+1) p'/\Wd k n s/\Big k n s (E+(E+1)*T)):=by
 obtain⟨D,hs⟩:∃ D,sF o k n ((m.set d (J a,o,n)).set a (J d,o,n)) A D (swp M d a):=⟨_,h.swap hd w⟩;have Q:∀ i,i<k->∃ j,j<k/\swp M d a i=M j:=λi hi=>by
  unfold swp;grind
 have hBs:Big k n (swp M d a) T:=λi hi x r=>by
  have⟨j,h1,Y⟩:=Q i hi;rw[Y]; exact hB j h1 x r
 have u:Wd k n (swp M d a):=λi hi x r=>by
  have⟨j,h1,Y⟩:=Q i hi;rw[Y]; exact hw j h1 x r
 have S:swp M d a d=M a:=by simp[swp]
 have⟨A',M',rest,g1,g2,g3,g4,g5,g6,g7⟩:=bLI hs hk hn (f.swap ha w) hd y (by rw[S]; exact hm) hBs hT b;have v:Wd k n M':=λi hi x r=>by
  rcases Nat.lt_trichotomy i d with q|q|q
  ·rw[g5 i q]; exact u i hi x r
  ·subst q; rw[g3.1]; exact u i hi x r
  ·rw[g3.2 i q hi];simp only[u i hi x r,u d hd x r,Int.mul_zero,Int.sub_zero]
 have C:∀ i,i<d->M' i=M i:=λi hi=>by
  rw[g5 i hi];unfold swp;rw[if_neg (by omega),if_neg (by omega)]
 -- what the pass begins with
 have e1:ltI (a:Int) 0=false:=zf
 have e2:aE (a:Int) m.length=true:=by rw[aL,h.len]; exact oT (by omega)
 have e3:((a:Nat):Int).toNat=a:=oN _;have e4:Nat.blt a m.length=true:=by rw[cF,h.len]; simpa using w
 have f2:aE (d:Int) m.length=true:=by rw[aL,h.len]; exact oT (by omega)
 have f3:((d:Nat):Int).toNat=d:=oN _;have f4:Nat.blt d m.length=true:=by rw[cF,h.len]; simpa using hd
 have e9:=h.get w;have f9:=h.get hd;have s1:(m.set d (J a,o,n)).length=m.length:=by simp
 have first:dY (m,b,(d:Int),(c:Int),A,()) =
   (bif rest then some (.inl ((m.set d (J a,o,n)).set a (J d,o,n),b,(d:Int),(c:Int),A',()))
   else bif aE (d:Int) ((m.set d (J a,o,n)).set a (J d,o,n)).length then bif Nat.blt d ((m.set d (J a,o,n)).set a (J d,o,n)).length then bif aE (c:Int) (((m.set d (J a,o,n)).set a (J d,o,n)).getD d (0,0,0)).2.2 then
    bif Nat.blt (((((m.set d (J a,o,n)).set a (J d,o,n)).getD d (0,0,0)).2.1+((c:Nat):Int).toNat)*1) (dG A' (((m.set d (J a,o,n)).set a (J d,o,n)).getD d (0,0,0)).1) then
    aB (RQ ((dZ A' (((m.set d (J a,o,n)).set a (J d,o,n)).getD d (0,0,0)).1 (((((m.set d (J a,o,n)).set a (J d,o,n)).getD d (0,0,0)).2.1+((c:Nat):Int).toNat)*1) ByteArray.empty),())) λy23 =>
    bif ltI y23.1 0 then
     bif aE (d:Int) ((m.set d (J a,o,n)).set a (J d,o,n)).length then bif Nat.blt d ((m.set d (J a,o,n)).set a (J d,o,n)).length then
     aB (fH () (((((m.set d (J a,o,n)).set a (J d,o,n)).getD d (0,0,0)).1,(((m.set d (J a,o,n)).set a (J d,o,n)).getD d (0,0,0)).2.1,(((m.set d (J a,o,n)).set a (J d,o,n)).getD d (0,0,0)).2.2),()) A') λy24 =>
     aB (dW ((m.set d (J a,o,n)).set a (J d,o,n),b,(d:Int),(c:Int),(d:Int),0,y24.2,())) λz25 =>
     some (.inr ((z25.1,z25.2.1,(aA .i64 (z25.2.2.1+1)),z25.2.2.2.1,z25.2.2.2.2.1,()))) else none else none
    else aB (dW ((m.set d (J a,o,n)).set a (J d,o,n),b,(d:Int),(c:Int),(d:Int),0,A',())) λz26 =>
    some (.inr ((z26.1,z26.2.1,(aA .i64 (z26.2.2.1+1)),z26.2.2.2.1,z26.2.2.2.2.1,()))) else none else none else none else none):=by
  simp only[dY,H,e1,e2,e3,e4,f2,f3,f4,e9,f9,s1,g1,zz]
 refine⟨_,A',D,M',g2,g3,g4,C,v,λhex=>?_,λhz B=>?_⟩
 ·have⟨i,G,F,O⟩:=hex;have W:rest=true:=by
   cases rest with
   | true=>rfl
   | false=>exact absurd (g7 rfl i G F) O
  rw[first,W]; rfl
 ·have W:rest=false:=by
   cases rest with
   | false=>rfl
   | true =>
    have⟨i,G,F,O⟩:=g6 rfl;exact absurd (hz i G F) O
  have hmd:M' d c≠0:=by rw[g3.1,S]; exact hm
  have t1:=g2.len;have t2:aE (d:Int) k=true:=zi
  have t3:Nat.blt d k=true:=by rw[cF]; simpa using hd
  have t4:=g2.get hd;have t5:aE (c:Int) n=true:=zi
  have t6:(o+((c:Nat):Int).toNat)*1=o+c:=by simp
  have t7:Nat.blt (o+c) (o+n)=true:=by rw[cF]; simpa using y
  have t8:=g2.dG hd;have t9:=g2.dZ hd y;have t10:=aVS (M' d c);have t11:=bP d (by omega);have X:∀ i,i<d->∀ x,x<n->(M' i x).natAbs<=E:=λi hi x r=>by rw[C i hi]; exact hE i hi x r
  have fin:∀ (N:List (List ByteArray)) (z:Nat->V),sF o k n ((m.set d (J a,o,n)).set a (J d,o,n)) N D z->Fo k M0 z d c p->0<z d c->(∀ i,d<i->i<k->z i c=0)->Big k n z T->Wd k n z->(∀ i,i<d->z i=M' i) ->
    ∃ t s p',dW ((m.set d (J a,o,n)).set a (J d,o,n),b,(d:Int),(c:Int),(d:Int),0,N,())=some ((m.set d (J a,o,n)).set a (J d,o,n),b,(d:Int),(c:Int),t,())/\sF o k n ((m.set d (J a,o,n)).set a (J d,o,n)) t D s/\Fo k M0 s (d+1) (c+1) p'/\Wd k n s/\Big k n s (E+(E+1)*T):=by
   intro N z G F O q4 q5 q6 q7;have⟨U,M2,L,R,I,K,P⟩:=bL3 G hk hn { toFo:=F,dk:=hd,piv:=O,below:=q4,up:=λi hi=>by omega } y q5 (λi hi x r=>by rw[q7 i hi]; exact X i hi x r) hET hT b;refine⟨U,M2,_,L,R,I.done,λi hi x r=>?_,λi hi x r=>?_⟩
   ·rcases oG i d with g|g
    ·have Z:Same k M0 k M2:=I.same;have h0:∀ j,j<k->M0 j x=0:=λj hj=>Sp.aS8 (M:=z) (λl hl=>q6 l hl x r) ((F.same _).1 (Sp.mem hj))
     exact Sp.aS8 (M:=M0) h0 ((Z _).2 (Sp.mem hi))
    ·rw[K i g]; exact q6 i hi x r
   ·rcases oG i d with g|g
    ·exact P i g x r
    ·rw[K i g];have:=q5 i hi x r;have:T*1<=T*(E+1):=Nat.mul_le_mul_left _ (by omega);rw[Nat.mul_comm (E+1) T];omega
  by_cases hn0:M' d c<0
  ·have⟨N,u1,u2⟩:=g2.neg hn hd (λx r=>(B.cm hT) d hd x r);have l1:up M' d (λx=>-(M' d x)) d c = -(M' d c):=by rw[aKF]
   have⟨U,M2,p2,L,R,I,K,P⟩:=fin N _ u2 (g4.neg hd) (by rw[l1]; omega) (λi G F=>by rw[XK _ _ (by omega)]; exact hz i G F)
    (λi hi x r=>by
     by_cases e:i=d
     ·subst e; rw[aKF,Int.natAbs_neg]; exact B i hi x r
     ·rw[XK _ _ e]; exact B i hi x r)
    (λi hi x r=>by
     by_cases e:i=d
     ·subst e; rw[aKF,v i hi x r]; rfl
     ·rw[XK _ _ e]; exact v i hi x r)
    (λi hi=>XK _ _ (by omega))
   refine⟨U,M2,p2,?_,R,I,K,P⟩;have s2:ltI (M' d c).sign 0=true:=by rw[aF,Int.sign_eq_neg_one_of_neg hn0]; rfl
   rw[first,W];simp only[t1,t2,t3,t4,t5,t6,t7,t8,t9,t10,s2,u1,L,t11,zz]
  ·have⟨U,M2,p2,L,R,I,K,P⟩:=fin A' _ g2 g4 (by omega) hz B v (λ_ _=>rfl);refine⟨U,M2,p2,?_,R,I,K,P⟩;have s2:ltI (M' d c).sign 0=false:=by rw[aF,Int.sign_eq_one_of_pos (by omega)]; rfl
   rw[first,W];simp only[t1,t2,t3,t4,t5,t6,t7,t8,t9,t10,s2,L,t11,zz]
end
structure St (k n d E T:Nat):Prop where
 e1:1<=E
 et:E<=T
 eu:d+1<k->9*E^5<=T
 fit:2*Lib.nDigits (T+1)<=DP
def b13(o k n d c:Nat) (M0:Nat->V) (cols:Int) (E T:Nat) (z:List (Nat×Nat×Nat)×Int×Int×Int×List (List ByteArray)×Unit):Prop :=∃ m' A' J' M' d' p',z=(m',cols,((d':Nat):Int),(c:Int),A',())/\sF o k n m' A' J' M'/\Fo k M0 M' d' (c+1) p'/\Wd k n M'/\((d'=d/\Big k n M' E)\/(d'=d+1/\Big k n M' (E+(E+1)*T)))
section
variable {o k n d c:Nat} {m:List (Nat×Nat×Nat)} {A:List (List ByteArray)} {J:Nat->Nat} {M M0:Nat->V} {p:Nat->Nat} {T E:Nat}
def bVO {a g}(h:a<10^g):a<2^(4*g):=by
 refine Nat.lt_of_lt_of_le h ?_;rw[Nat.pow_mul];exact Nat.pow_le_pow_left (by simp) g
def rounds(B:k<1048576) (hn:n<1048576) (q:c<n) (D:2*Lib.nDigits (T+1)<=DP) (u:E<=T) {C:Nat} (hC:3*C<=T) (b:Int):∀ (R N P:Nat) {m:List (Nat×Nat×Nat)} {A:List (List ByteArray)} {J:Nat->Nat} {M:Nat->V},
  sF o k n m A J M->Fo k M0 M d c p->Wd k n M->(∀ i,i<d->∀ x,x<n->(M i x).natAbs<=E)->Bt k M d c C->Pt k M d c P->P<2^R->R<N->∃ z,aV dY N (m,b,(d:Int),(c:Int),A,())=some z/\b13 o k n d c M0 b E T z
 | 0,N,P,m,A,J,M,h,f,hw,hE,hB,hP,hlt,_=>by
  have⟨i,w1,w2,w3,w4⟩:=hP;have:=hB.piv;have X:1*1<=(M d c).natAbs*(M i c).natAbs:=Nat.mul_le_mul (by omega) (by omega);grind
 | R+1,N+1,P,m,A,J,M,h,f,hw,hE,hB,hP,hlt,hN=>by
  have⟨I,L,i0,b2,b3,b4,b5⟩:=hB.ex;have t:=hB.dk;have H:=hB.piv;have Q:I<=C:=by
   have X:I*1<=I*((M d c).natAbs^3*(M i0 c).natAbs):=Nat.mul_le_mul_left _ (Nat.mul_pos (Nat.pow_pos (by omega)) (by omega));grind
  have l:Big k n M T:=λi hi x G=>by
   rcases oG i d with g|g
   ·grind
   ·have:=(L i g hi).1 x;omega
  have⟨r,f1,f2⟩:=bJ2 h B (l.cm D) q (Nat.le_of_lt t) b;cases r with
  | none=>exact absurd (f2.none rfl d (oM _) (by omega)) H
  | some a =>
   have⟨v,q2,w,q4⟩:=f2.some a rfl;have j:a<k:=by omega
   have e:∀ i,d<=i->i<k->M i c≠0->(M a c).natAbs<=(M i c).natAbs:=λi g1 g2 g3=>q4 i g1 (by omega) g3
   have⟨m1,A',S,M',s1,s2,s3,O,s5,K,U⟩:=pass h B hn f q l hw hE u D t v j w b f1;have y:∀ i,i<d->∀ x,x<n->(M' i x).natAbs<=E:=λi hi x G=>by rw[O i hi]; exact hE i hi x G
   by_cases hz:∀ i,d<i->i<k->M' i c=0
   ·rcases hB.round v j w e s2 with ⟨_,A1,g1⟩|⟨g1,_⟩
    ·have s:Big k n M' T:=λi hi x G=>by
      rcases oG i d with g|g
      ·grind
      ·exact oR ((g1 i g hi).1 x) hC
     have⟨A2,M2,p2,u1,W,u3,Y,Z⟩:=U hz s;exact⟨_,by rw[eF,u1],m1,A2,S,M2,d+1,p2,rfl,W,u3,Y,.inr ⟨rfl,Z⟩⟩
    ·have⟨_,_,i,z1,z2,z3,_⟩:=g1.ex;grind
   ·have hex:∃ i,d<i/\i<k/\M' i c≠0:=by
     have⟨i,hi⟩:=Classical.not_forall.1 hz;have⟨g1,hi⟩:=Classical.not_forall.1 hi;have⟨g2,g3⟩:=Classical.not_forall.1 hi;exact⟨i,g1,g2,g3⟩
    rcases hB.round v j w e s2 with ⟨g0,_⟩|⟨g1,_⟩
    ·exact absurd g0 hz
    ·have F:=hB.half v j w e s2 hz hP;have⟨z,v1,v2⟩:=rounds B hn q D u hC b R N (P/2) s1 s3 s5 y g1 F (by rw[Nat.pow_succ]at hlt; omega) (by omega);exact⟨z,by rw[eF,K hex]; exact v1,v2⟩
def column(I:k<1048576) (hn:n<1048576) (h:sF o k n m A J M) (f:Fo k M0 M d c p) (hw:Wd k n M) (hd:d<k) (q:c<n) (B:Big k n M E) (st:St k n d E T) (e:Int) :
  ∃ z,mO (m,e,(d:Int),(c:Int),A,())=some z/\b13 o k n d c M0 e E T z:=by
 have b:Big k n M T:=λi hi x s=>oR (B i hi x s) st.et;have y:∀ i,i<d->∀ x,x<n->(M i x).natAbs<=E:=λi hi x s=>B i (by omega) x s;have⟨r,f1,f2⟩:=bJ2 h I (b.cm st.fit) q (Nat.le_of_lt hd) e;unfold mO;obtain⟨N,hN⟩:∃ N,2^64=N+1:=⟨2^64-1,by omega⟩;rw[hN];cases r with
 | none =>
  have e1:ltI (atv none) 0=true:=by decide
  refine⟨_,?_,m,A,J,M,d,p,rfl,h,f.skip λi w D=>f2.none rfl i w (by omega),hw,.inl ⟨rfl,B⟩⟩;rw[eF];simp only[dY,f1,e1,zz]
 | some a =>
  have⟨Y,q2,Z,q4⟩:=f2.some a rfl;have l:a<k:=by omega
  have⟨m1,A',W,M',s1,s2,s3,s4,s5,s6,X⟩:=pass h I hn f q b hw y st.et st.fit hd Y l Z e f1;have v:∀ i,i<d->∀ x,x<n->(M' i x).natAbs<=E:=λi hi x s=>by rw[s4 i hi]; exact y i hi x s
  have F:Wi k (swp M d a) d c E E:=(show Wi k M d c E E from λi g1 g2=>⟨λx=>B.all hw i g2 x,B.all hw i g2 c⟩).swap Y l;have u:swp M d a d=M a:=by simp[swp]
  have t:=s2.first F hd (by rw[u]; exact Z);have hpow:3*(3*(E*E)*E^3)=9*E^5:=by grind
  by_cases U:d+1<k
  ·have h9:=st.eu U;rcases t with ⟨hz,g1⟩|g1
   ·have j:Big k n M' T:=λi hi x s=>by
     rcases oG i d with g|g
     ·exact oR (v i g x s) st.et
     ·have:=(g1 i g hi).1 x;have h3:3*(E*E)*1<=3*(E*E)*E^3:=Nat.mul_le_mul_left _ (Nat.pow_pos st.e1);omega
    have⟨V,M2,p2,P,K,Q,L,O⟩:=X hz j;exact⟨_,by rw[eF,P],m1,V,W,M2,d+1,p2,rfl,K,Q,L,.inr ⟨rfl,O⟩⟩
   ·have⟨E1,b1,i0,S,G,b4,b5⟩:=g1.ex;have R:Pt k M' d c (T*T):=by
     refine⟨i0,S,G,b4,Nat.mul_le_mul ?_ ?_⟩
     ·rw[s2.1,u]; exact b a l c q
     ·have w:=(g1.sign i0 S G).1;rw[s2.1,u]at w;exact oR (Nat.le_of_lt w) (b a l c q)
    have H:T*T<2^(8*Lib.nDigits (T+1)):=by
     have w:=bVO (pD (T+1));have D:(T+1)*(T+1)<2^(4*Lib.nDigits (T+1))*2^(4*Lib.nDigits (T+1)):=Nat.mul_lt_mul'' w w;rw[<- Nat.pow_add]at D;have h3:4*Lib.nDigits (T+1)+4*Lib.nDigits (T+1)=8*Lib.nDigits (T+1):=by omega
     rw[h3]at D;have h4:T*T<=(T+1)*(T+1):=Nat.mul_le_mul (by omega) (by omega);omega
    have hex:∃ i,d<i/\i<k/\M' i c≠0:=⟨i0,S,G,b4⟩;have⟨z,v1,v2⟩:=rounds I hn q st.fit st.et (C:=3*(E*E)*E^3) (by omega) e (8*Lib.nDigits (T+1)) N (T*T) s1 s3 s5 v g1 R H (by have:=st.fit; have:DP=400000:=rfl; omega);exact⟨z,by rw[eF,s6 hex]; exact v1,v2⟩
  ·have hz:∀ i,d<i->i<k->M' i c=0:=λi g1 g2=>by omega
   have j:Big k n M' T:=λi hi x s=>by
    rcases oG i d with g|g
    ·exact oR (v i g x s) st.et
    ·have:i=d:=by omega
     subst this;rw[s2.1,u];exact b a l x s
   have⟨V,M2,p2,P,K,Q,L,O⟩:=X hz j;exact⟨_,by rw[eF,P],m1,V,W,M2,d+1,p2,rfl,K,Q,L,.inr ⟨rfl,O⟩⟩
structure Bds (k n:Nat) (E T:Nat->Nat):Prop where
 st:∀ d,d<k->d<n->St k n d (E d) (T d)
 up:∀ d,d<k->d<n->E d+(E d+1)*T d<=E (d+1)
def bZ2 {d t p M'}(h:Fo k M M' d t p):d<=t:=by
 have:∀ i,i<d->i<=p i:=by
  intro i;induction i with
  | zero=>simp;| succ i a=>intro hi; have:=h.inc i (i+1) (by simp) hi; omega
 rcases Nat.eq_zero_or_pos d with h0|h0;omega;have:=this (d-1) (by omega); have:=h.lt (d-1) (by omega); omega
def a6C {E T:Nat->Nat} (K:k<1048576) (hn:n<1048576) (h:sF o k n m A J M) (hw:Wd k n M) (Q:Big k n M (E 0)) (C:Bds k n E T) :
  ∃ a A' b M' d p,eQ m ((n:Int),()) A=some (a.take d,A')/\d<=k/\sF o k n a A' b M'/\Hn d M' p/\Same k M d M'/\Wd k n M'/\Big k n M' (E d):=by
 have fin:∀ (N:Nat) {a:List (Nat×Nat×Nat)} {A':List (List ByteArray)} {b:Nat->Nat} {M':Nat->V} {d t:Nat} {p:Nat->Nat},t<=n->n-t<N->sF o k n a A' b M'->Fo k M M' d t p->Wd k n M'->Big k n M' (E d) ->
   ∃ z,aV eU N (a,(n:Int),(d:Int),(t:Int),A',())=some z/\∃ (a:List (Nat×Nat×Nat)) (A':List (List ByteArray)) (b:Nat->Nat) (M':Nat->V) (d:Nat) (p:Nat->Nat),z=(a,(d:Int),A',())/\sF o k n a A' b M'/\(d<=k/\Hn d M' p/\Same k M d M')/\Wd k n M'/\Big k n M' (E d):=by
  intro N
  induction N with
  | zero=>intro a A' b M' d t p O G; omega
  | succ N X =>
   intro a A' b M' d t p O G f c j B;rw[eF];rcases oG t n with ht|ht
   ·have l:ltI (t:Int) (n:Int)=true:=ze
    rcases oG d k with hd|hd
    ·have u:ltI (d:Int) (a.length:Int)=true:=by rw[aF,f.len]; exact oT (by omega)
     obtain⟨z,s,m2,W,Z,M2,d2,p2,rfl,g,q,y3,y4⟩:=column K hn f c j hd ht B (C.st d hd (Nat.lt_of_le_of_lt (bZ2 c) ht)) (n:Int);have U:=bP t (by omega);have S:eU (a,(n:Int),(d:Int),(t:Int),A',())=some (.inl (m2,(n:Int),(d2:Int),((t+1:Nat):Int),W,())):=by simp only[eU,l,u,s,U,zz]
     rw[S];refine X (by omega) (by omega) g q y3 ?_;rcases y4 with ⟨rfl,y4⟩|⟨rfl,y4⟩
     ·exact y4
     ·exact λi hi x v=>oR (y4 i hi x v) (C.up d hd (Nat.lt_of_le_of_lt (bZ2 c) ht))
    ·have w:d=k:=by have:=c.le; omega
     have u:ltI (d:Int) (a.length:Int)=false:=by rw[aF,f.len]; exact oF (by omega)
     refine⟨_,by simp only[eU,l,u,zz],a,A',b,M',d,p,rfl,f,⟨c.le,c.hn (.inl w)⟩,j,B⟩
   ·have r:t=n:=by omega
    subst r;have l:ltI (t:Int) (t:Int)=false:=zf
    refine⟨_,by simp only[eU,l,oD],a,A',b,M',d,p,rfl,f,⟨c.le,c.hn (.inr λi hi x v=>j i hi x v)⟩,j,B⟩
 obtain⟨z,s,a,A',b,M',d,p,rfl,g,⟨q,y3,y4⟩,P,y6⟩:=fin (2^64) (Nat.zero_le n) (by omega) h (Fo.start k M) hw Q;refine⟨a,A',b,M',d,p,?_,q,g,y3,y4,P,y6⟩;have z2:uT (m,(n:Int),0,0,A,())=some (a,(d:Int),A',()):=s;have Y:ltI (d:Int) 0=false:=zf
 have F:((d:Nat):Int).toNat=d:=oN _;have D:=g.len;unfold eQ;simp only[z2,D,Y,F,zz];by_cases e:k=0;have y:d=0:=(by omega);subst e; subst y;have:a=[]:=List.eq_nil_of_length_eq_zero D;subst this;rfl
 ·have L:Nat.beq k 0=false:=by
   cases k with
   | zero=>exact absurd rfl e;| succ k=>rfl
  have H:Nat.ble 0 d=true:=rfl;have R:Nat.ble d k=true:=by rw[eL]; simpa using q
  have I:Nat.blt 0 k=true:=by rw[cF]; simp; omega
  simp only[L,H,R,I,Nat.sub_zero,zz]
end
end Go.PM
namespace Go.PM
open Go Go.RowKit Go.Proofs Tryz
set_option maxHeartbeats 4000000
def aFV:zo [zd] [.bool]:=λ(a,())=>bif !(ltI a (-1000000000)) then some (!(ltI 1000000000 a),())else some (false,())
abbrev bRY:Ent:=⟨62,_,_,aFV⟩
def aX1:Ent.OK tP bRY:=oI (aS oW) func62
def aEZ:zo [zd] [.bool]:=λ(b,())=>aB (aFV (b,())) λa=>bif a.1 then some (false,())else some (true,())
abbrev bHD:Ent:=⟨61,_,_,aEZ⟩
def a4W:Ent.OK tP bHD:=oI (aS (oV aX1 oW)) func61
abbrev xA:zb:=[(0,.list TyE),(1,.fn 61),(7,zd),(8,zd)]
abbrev GN:zc:=[(.ret,[(4,zd)]),(.exit 0,[])]
def cH:zp xA GN:=λ(b,e,c,a,())=>bif ltI a c then za (aE a b.length)<|aB (aEZ ((b.getD a.toNat 0),())) λd=>bif d.1 then some (.inr (.inl (a,())))else some (.inl (b,(),c,(aA .i64 (a+1)),()))else some (.inr (.inr ((()))))
def fP:zq xA GN:=aV cH (2^64)
def kV:zo [.list TyE,.fn 61] [zd]:=λ(a,e,())=>aB (fP (a,(),(a.length:Int),0,())) λc=>mN c (λb=>some (b.1,())) λd=>some ((-1),())
abbrev Z5:Ent:=⟨106,_,_,kV⟩
def V8:Ent.OK tP Z5:=oU (aS (oV a4W oW)) func106 2 (lp:=fP) rfl
def gZ:zo [.list TyE,.fn 61] [.bool]:=λ(b,c,())=>aB (kV (b,(),())) λa=>some (!(ltI a.1 0),())
abbrev WG:Ent:=⟨60,_,_,gZ⟩
def S7:Ent.OK tP WG:=oI (aS (oV V8 oW)) func60
def kH:zo [.list TyE] [zd]:=λ(a,())=>bif ltI 64 (a.length:Int) then some (4,())else aB (gZ (a,(),())) λb=>bif b.1 then some (4,())else some (0,())
abbrev a7I:Ent:=⟨15,_,_,kH⟩
def xF:Ent.OK tP a7I:=oI (aS (oV S7 oW)) func15
abbrev Z8:zb:=[(1,zd),(8,.list TyD),(9,zd),(10,zd)]
abbrev aM7:zc:=[(.ret,[(4,zd)]),(.exit 0,[])]
def FT:zp Z8 aM7:=λ(c,b,d,a,())=>bif ltI a d then za (aE a b.length)<|aB (kH ((b.getD a.toNat []),())) λe=>bif !(eqI e.1 0) then some (.inr (.inl (e.1,())))else bif !(eqI ((b.getD a.toNat []).length:Int) c) then some (.inr (.inl (5,())))else some (.inl (c,b,d,(aA .i64 (a+1)),()))else some (.inr (.inr ((()))))
def UX:zq Z8 aM7:=aV FT (2^64)
def aAH:zo [.list TyD,zd] [zd]:=λ(a,c,())=>aB (UX (c,a,(a.length:Int),0,())) λd=>mN d (λb=>some (b.1,())) λe=>some (0,())
abbrev bB2:Ent:=⟨177,_,_,aAH⟩
def a1M:Ent.OK tP bB2:=oU (aS (oV xF oW)) func177 2 (lp:=UX) rfl
def QY:zo [zd,.list TyD] [zd]:=λ(a,b,())=>bif ltI a 0 then some (3,())else bif ltI 12 a then some (3,())else bif ltI 12 (b.length:Int) then some (4,())else aB (aAH (b,a,())) λc=>some (c.1,())
abbrev aQ8:Ent:=⟨139,_,_,QY⟩
def aJU:Ent.OK tP aQ8:=oI (aS (oV a1M oW)) func139
abbrev kW:zb:=[(4,.bag 105 TyE 29 TyD none),(6,.bag 105 TyE 29 TyD none),(13,.own 183 (.hnd 1)),(14,zd),(15,zd),(100000,.ar 167 .str)]
abbrev qU:zc:=[(.ret,[(4,.bag 105 TyE 29 TyD none),(5,zd),(100000,.ar 167 .str)]),(.exit 0,[(4,.bag 105 TyE 29 TyD none),(6,.bag 105 TyE 29 TyD none),(100000,.ar 167 .str)])]
def iJ:zp kW qU:=λ(f,e,b,d,a,u00,())=>bif ltI a d then za (aE a b.length)<|za (Nat.blt a.toNat b.length)<|aB (pL () (((b.getD a.toNat (0,0,0)).1,(b.getD a.toNat (0,0,0)).2.1,(b.getD a.toNat (0,0,0)).2.2),()) u00) λc=>bif !(eqI c.1.2.1 0) then some (.inr (.inl ((0,([],())),c.1.2.1,c.2,())))else za (Nat.ble [c.1.1].length 1048576)<|za (Nat.ble e.2.1.length 1048576)<|some (.inl ((f.1,(f.2.1,())),(e.1,((e.2.1++[c.1.1]),())),b,d,(aA .i64 (a+1)),c.2,()))else some (.inr (.inr (((f.1,(f.2.1,())),(e.1,(e.2.1,())),u00,()))))
def uX:zq kW qU:=aV iJ (2^64)
def eR(c:List (Nat×Nat×Nat))(x:aM [zd])(A:List (List ByteArray)):Option ((aM [.agg TyH,zd])×List (List ByteArray)):=match x with|(d,())=>aB (uX ((0,([],())),(d,([],())),c,(c.length:Int),0,A,())) λe=>mN e (λa=>some (((a.1.1,a.1.2.1),a.2.1,()),a.2.2.1)) λb=>some (((b.2.1.1,b.2.1.2.1),0,()),b.2.2.1)
def CG:Code:=bY f96
abbrev KP:Env:=RP [] [YS]
def Q8:dN tP KP:=jH trivial ⟨aL6,trivial⟩
def G6:Code:=inLoop (QF CG 0)
def JO(id:Nat):Option cI:=bif Nat.beq id 3 then some ⟨kW,qU,uX⟩ else none
def JK(id:Nat):Option cI:=none
def aB1:∀ x,TD tP KP 36 (xD f96) JO JK false [] G6 kW qU x=iJ x:=λ_=>by kernel_rfl
def aC3:H7 tP 36 false [] (.loop G6) ⟨kW,qU,uX⟩:=FI Q8.callee aQ.mixed _ (nK (l:=[]) (by kernel_rfl) trivial) aB1
def aEQ:dV CG=[.loop G6]:=by kernel_rfl
def aH8:∀ l x A,bN9 tP KP f96 (xD f96) JO JK CG 167 .str (.own 183 (.hnd 1)) [.int .i64] (.data [.agg TyH,.int .i64]) l x A=eR l x A:=by
 rintro u0 ⟨v1,⟨⟩⟩ A;kernel_rfl
def aK9:Z6 tP 96 167 .str (.own 183 (.hnd 1)) [.int .i64] (.data [.agg TyH,.int .i64]) eR:=bY6 aQ Q8 func96 (c:=CG) (by kernel_rfl) (keep:=xD f96) (lt:=JO) (rt:=JK) (by rfl) (nK aEQ ⟨E7 (i:=3) (by kernel_rfl) rfl aC3,trivial⟩) aH8
abbrev B9:Shr:=(96,aGA 1 (arH 167 .str (.own 183 (.hnd 1)) [.int .i64] (.data [.agg TyH,.int .i64]) eR))
def FL:sT tP B9:=yZ (g:=96) (f:=arH 167 .str (.own 183 (.hnd 1)) [.int .i64] (.data [.agg TyH,.int .i64]) eR) (QD aK9)
def MI:zo [zd,.list TyD] [.agg TyH,zd]:=λ(a,c,())=>aB (QY (a,c,())) λe=>bif !(eqI e.1 0) then some ((0,[]),e.1,())else aB (gV () (c,()) []) λd=>aB (eQ d.1 (a,()) d.2) λb=>aB (eR b.1 (a,()) b.2) λf=>some (f.1.1,f.1.2.1,())
def aSV:Code:=bY f119
abbrev a3O:Env:=RP [aQ8] [KH,CD,B9]
def a9G:dN tP a3O:=jH ⟨aJU,trivial⟩ ⟨NR,FY,FL,trivial⟩
def a0P(id:Nat):Option cI:=none
def a5G:bA aSV=[]:=by kernel_rfl
def a7U:∀ x,a3G tP a3O f119 (aP f119) a0P aSV 167 .str _ _ x=MI x:=λ_=>by kernel_rfl
abbrev bKB:Ent:=⟨119,_,_,MI⟩
def aSE:Ent.OK tP bKB:=bAO aQ a9G func119 (c:=aSV) (by kernel_rfl) (keep:=aP f119) (lt:=a0P) (aO a5G trivial) a7U
end Go.PM
namespace Go.PM
open Go Go.RowKit Go.Proofs Go.Lz
def eK(r:List Int):V:=λx=>r.getD x 0
def aDR(m:List (List Int)):Nat->V:=λi=>eK (m.getD i [])
def Vr(n:Nat) (v:V):List Int:=(List.range n).map v
def bPB r:Zr r.length (eK r)=r.map Zn:=by
 refine List.ext_getElem? λi=>?_;simp only[Zr];by_cases h:i<r.length;simp[eK,h];grind
def aTR {n v}(hw:∀ x,n<=x->v x=0):eK (Vr n v)=v:=by
 unfold eK Vr;grind
def aRB n (h:Lib.nDigits n.natAbs<=18):IF (Zn n,())=some (n,true,()):=by
 have f:(Zn n).size<=1000000000:=(by rcases(by omega:n<0\/0<=n)with g|g;rw[VK g]; omega;rw[aK1 g,R2]; omega)
 have i:Nat.ble (Zn n).size 1000000000=true:=by rw[eL]; simpa using f
 have j:Lib.parseIntB 64 (Zn n).data.toList=.ok n:=by
  have b:∀ c r,Lib.decDigits n.natAbs=c::r->c.toNat≠43/\c.toNat≠45:=λc r he=>by
   have:=aAQ n.natAbs c (by rw[he]; simp);omega
  have a:=bDM n.natAbs;rw[NP]at a;have hlen:(Lib.decDigits n.natAbs).length<=18:=by rw[Lib.decDigits_length]; exact h
  rw[Lib.parseIntB_64];rcases(by omega:n<0\/0<=n)with g|g;have hn : -(n.natAbs:Int)=n:=(by omega);rw[aOM g,Lib.atoiAll_minus,Lib.signed_short hlen,a];simp only[Option.map_some,hn];rfl
  ·have hn:(n.natAbs:Int)=n:=(by omega);rw[aK1 g,NP];cases he:Lib.decDigits n.natAbs with
   | nil=>exact absurd he (X8 _)
   | cons c r =>
    have⟨e,d⟩:=b c r he;rw[Lib.atoiAll_plain c r e d,<- he,Lib.signless_short hlen,a];simp only[Option.map_some,hn];rfl
 unfold IF;grind
def a3X(r:List Int)(n:r.length<=1048576)(h:∀ a∈r,-9223372036854775808<=a/\a<9223372036854775808) :
  F8 ([],r,(r.length:Int),0,())=some (r.map Zn,()):=by
 have key:=aK (step:=zH) (N:=2^64) (λt=>((r.take t).map Zn,r,(r.length:Int),(t:Int),())) r.length (r.map Zn,()) (by omega) (λt ht=>?_) ?_;exact key
 ·have b:ltI (t:Int) (r.length:Int)=true:=ze
  have l:aE (t:Int) r.length=true:=zi
  have e:((t:Nat):Int).toNat=t:=oN _;have g:r.getD t 0=r[t]:=(by simp[List.getD,ht])
  have⟨d,k⟩:=h r[t] (List.getElem_mem ht);have c:=FC r[t] d k;have f:Nat.ble [Zn r[t]].length 1048576=true:=rfl;have i:Nat.ble ((r.take t).map Zn).length 1048576=true:=by rw[eL,List.length_map,List.length_take]; exact oT (by omega)
  have j:=bP t (by omega);have m:(r.take t).map Zn++[Zn r[t]]=(r.take (t+1)).map Zn:=by rw[List.take_succ_eq_append_getElem ht,List.map_append]; rfl
  simp only[zH,b,l,e,g,c,f,i,j,m,zz]
 ·have b:ltI (r.length:Int) (r.length:Int)=false:=zf
  simp only[zH,b,oD,List.take_length]
def a2Y(r:List Int)(c:r.length<=1048576)(e:∀ a∈r,-9223372036854775808<=a/\a<9223372036854775808):wJ (r,())=some (r.map Zn):=by
 have b:ltI r.length 0=false:=by rfl
 have d:ltI 1048576 r.length=false:=by rw[aF]; grind
 unfold wJ;simp only[b,d,List.replicate_zero,a3X r c e,zz]
def bAX(rows:List (List Int)) {n:Nat} (w:rows.length<1048576) (hn:n<1048576) (hlen:∀ r∈rows,r.length=n) (p:∀ r∈rows,∀ a∈r,-9223372036854775808<=a/\a<9223372036854775808) :
  ∃ m A,gV () (rows,()) []=some (m,A)/\sF 0 rows.length n m A (λi=>i) (aDR rows):=by
 have key:=aK (step:=n9) (N:=2^64)
  (λt=>((List.range t).map (λi=>(i,0,n)),rows,(rows.length:Int),(t:Int),(rows.take t).map (·.map Zn),())) rows.length ((List.range rows.length).map (λi=>(i,0,n)),rows.map (·.map Zn),()) (by omega) (λt ht=>?_) ?_
 ·refine⟨(List.range rows.length).map (λi=>(i,0,n)),rows.map (·.map Zn),?_,rfl,λi hi=>⟨[],rfl,?_⟩,λi j _ _ h=>h⟩
  ·unfold gV A8;have key:aV n9 (2^64) ([],rows,(rows.length:Int),0,[],())=_:=key;simp only[key,aC]
  ·rw[List.getElem?_map,List.getElem?_eq_getElem hi];simp only[Option.map_some,List.nil_append];have q:aDR rows i=eK rows[i]:=by unfold aDR; simp[List.getD,hi]
   rw[q,<- bPB,hlen rows[i] (List.getElem_mem hi)]
 ·have c:ltI (t:Int) (rows.length:Int)=true:=ze
  have v:aE (t:Int) rows.length=true:=zi
  have k:((t:Nat):Int).toNat=t:=oN _;have o:rows.getD t []=rows[t]:=by simp[List.getD,ht]
  have hm:=List.getElem_mem ht;have f:=a2Y rows[t] (by rw[hlen _ hm]; omega) (p _ hm);have g:((rows.take t).map (·.map Zn)).length=t:=by rw[List.length_map,List.length_take]; omega
  have s:Nat.ble [(t,0,n)].length 1048576=true:=rfl;have u:Nat.ble ((List.range t).map (λi=>(i,0,n))).length 1048576=true:=by rw[eL,List.length_map,List.length_range]; exact oT (by omega)
  have l:=bP t (by omega);have d:(rows[t].map Zn).length=n:=by rw[List.length_map,hlen _ hm]
  have b:(rows.take t).map (·.map Zn)++[rows[t].map Zn]=(rows.take (t+1)).map (·.map Zn):=by rw[List.take_succ_eq_append_getElem ht,List.map_append]; rfl
  have e:(List.range t).map (λi=>(i,0,n))++[(t,0,n)]=(List.range (t+1)).map (λi=>(i,0,n)):=by rw[List.range_succ,List.map_append]; rfl
  simp only[n9,c,v,k,o,f,g,s,u,l,d,b,e,zz]
 ·have c:ltI (rows.length:Int) (rows.length:Int)=false:=zf
  simp only[n9,c,oD,List.take_length]
def bS4 {A:List (List ByteArray)} {J o n:Nat} {v:V} {pre:List ByteArray} (hn:n<1048576) (hp:pre.length=o) (h:A[J]?=some (pre++Zr n v)) (ok:∀ x,x<n->(v x).natAbs<=1000000000) :
  pL () ((J,o,n),()) A=some ((Vr n v,0,()),A):=by
 have key:=aK (step:=j9) (N:=2^64) (λt=>(Vr t v,(J,o,n),(n:Int),(t:Int),A,())) n (.inr (Vr n v,A,())) (by omega) (λt ht=>?_) ?_
 ·have a:ltI (n:Int) 0=false:=zf
  have f:ltI 1048576 (n:Int)=false:=zf
  have key:aV j9 (2^64) ([],(J,o,n),(n:Int),0,A,())=_:=key;unfold pL yB;simp only[a,f,List.replicate_zero,key,zz]
 ·have r:=ok t ht;have a:ltI (t:Int) (n:Int)=true:=ze
  have f:aE (t:Int) n=true:=zi
  have j:(o+((t:Nat):Int).toNat)*1=o+t:=by simp
  have m:dG A J=o+n:=by rw[dG,aZX _ h,oH,mD,hp]
  have i:Nat.blt (o+t) (o+n)=true:=by rw[cF]; simpa using ht
  have p:dZ A J (o+t) ByteArray.empty=Zn (v t):=by rw[dZ,aZX _ h,aQ2 hp,aG4 _ ht]
  have q:=aRB (v t) (by have:=xL (u:=(v t).natAbs) (k:=17) (by omega); omega);have l:ltI 1000000000 (v t)=false:=zf
  have d:ltI (v t) (-1000000000)=false:=zf
  have b:Nat.ble [v t].length 1048576=true:=rfl;have g:Nat.ble (Vr t v).length 1048576=true:=by rw[eL]; unfold Vr; rw[List.length_map,List.length_range]; exact oT (by omega)
  have c:=bP t (by omega);have e:Vr t v++[v t]=Vr (t+1) v:=by unfold Vr; rw[List.range_succ,List.map_append]; rfl
  simp only[j9,a,f,j,m,i,p,q,l,d,b,g,c,e,zz]
 ·have a:ltI (n:Int) (n:Int)=false:=zf
  simp only[j9,a,oD]
def a7O {o k d n:Nat} {m:List (Nat×Nat×Nat)} {A:List (List ByteArray)} {J:Nat->Nat} {M:Nat->V} (h:sF o k n m A J M) (hd:d<=k) (y:k<1048576) (hn:n<1048576) (ok:∀ i,i<d->∀ x,x<n->(M i x).natAbs<=1000000000) (a:Int) :
  eR (m.take d) (a,()) A=some (((a,(List.range d).map λi=>Vr n (M i)),0,()),A):=by
 have c:(m.take d).length=d:=by rw[List.length_take,h.len]; omega
 have u:∀ t,t<d->(m.take d).getD t (0,0,0)=(J t,o,n):=λt ht=>by
  rw[<- h.get (show t<k by omega)];grind
 have key:=aK (step:=iJ) (N:=2^64)
  (λt=>((0,([],())),(a,((List.range t).map (λi=>Vr n (M i)),())),m.take d,((m.take d).length:Int),(t:Int),A,())) d (.inr ((0,([],())),(a,((List.range d).map (λi=>Vr n (M i)),())),A,())) (by omega) (λt ht=>?_) ?_
 ·have key:aV iJ (2^64) ((0,([],())),(a,([],())),m.take d,((m.take d).length:Int),0,A,())=_:=key;unfold eR uX;simp only[key,zz]
 ·rw[c];have⟨pre,q,j⟩:=h.at_ t (by omega);have b:ltI (t:Int) (d:Int)=true:=ze
  have v:aE (t:Int) d=true:=zi
  have l:((t:Nat):Int).toNat=t:=oN _;have p:Nat.blt t d=true:=by rw[cF]; simpa using ht
  have f:=bS4 hn q j (ok t ht);have g:eqI 0 0=true:=by decide
  have r:Nat.ble [Vr n (M t)].length 1048576=true:=rfl;have s:Nat.ble ((List.range t).map (λi=>Vr n (M i))).length 1048576=true:=by rw[eL,List.length_map,List.length_range]; exact oT (by omega)
  have w:=bP t (by omega);have e:(List.range t).map (λi=>Vr n (M i))++[Vr n (M t)]=(List.range (t+1)).map (λi=>Vr n (M i)):=by rw[List.range_succ,List.map_append]; rfl
  simp only[iJ,c,b,v,l,p,u t ht,f,g,r,s,w,e,zz]
 ·rw[c];have b:ltI (d:Int) (d:Int)=false:=zf
  simp only[iJ,b,oD]
def A9(r:List Int) (k:r.length<=64) (i:∀ a∈r,a.natAbs<=1000000000):kH (r,())=some (0,()):=by
 have key:=aK (step:=cH) (N:=2^64) (λt=>(r,(),(r.length:Int),(t:Int),())) r.length (.inr ()) (by omega) (λt ht=>?_) ?_
 ·have key:aV cH (2^64) (r,(),(r.length:Int),0,())=some (.inr ()):=key;have c:ltI 64 (r.length:Int)=false:=zf
  have d:ltI (-1) 0=true:=by decide
  simp only[kH,c,gZ,kV,fP,key,d,zz]
 ·have c:ltI (t:Int) (r.length:Int)=true:=ze
  have d:aE (t:Int) r.length=true:=zi
  have f:((t:Nat):Int).toNat=t:=oN _;have h:r.getD t 0=r[t]:=by simp[List.getD,ht]
  have b:=i r[t] (List.getElem_mem ht);have e:ltI r[t] (-1000000000)=false:=zf
  have g:ltI 1000000000 r[t]=false:=zf
  have j:=bP t (by omega);simp only[cH,c,d,f,h,aEZ,aFV,e,g,j,zz]
 ·have c:ltI (r.length:Int) (r.length:Int)=false:=zf
  simp only[cH,c,oD]
def bK5(rows:List (List Int)){n}(k:rows.length<1048576)(hn:n<=64)(hlen:∀ r∈rows,r.length=n)(g:∀ r∈rows,∀ a∈r,a.natAbs<=1000000000):aAH (rows,(n:Int),())=some (0,()):=by
 have key:=aK (step:=FT) (N:=2^64) (λt=>((n:Int),rows,(rows.length:Int),(t:Int),())) rows.length (.inr ()) (by omega) (λt ht=>?_) ?_;have key:aV FT (2^64) ((n:Int),rows,(rows.length:Int),0,())=some (.inr ()):=key;simp only[aAH,UX,key,zz]
 ·have b:ltI (t:Int) (rows.length:Int)=true:=ze
  have j:aE (t:Int) rows.length=true:=zi
  have e:((t:Nat):Int).toNat=t:=oN _;have f:rows.getD t []=rows[t]:=(by simp[List.getD,ht]);have hm:=List.getElem_mem ht;have c:=A9 rows[t] (by rw[hlen _ hm]; exact hn) (g _ hm);have d:eqI 0 0=true:=(by decide)
  have h:eqI (rows[t].length:Int) (n:Int)=true:=by rw[bN,hlen _ hm]; exact oT rfl
  have i:=bP t (by omega);simp only[FT,b,j,e,f,c,d,h,i,zz]
 ·have b:ltI (rows.length:Int) (rows.length:Int)=false:=zf
  simp only[FT,b,oD]
def bH3(rows:List (List Int)){n}(f:rows.length<=12)(hn:n<=12)(hlen:∀ r∈rows,r.length=n)(d:∀ r∈rows,∀ a∈r,a.natAbs<=1000000000):QY ((n:Int),rows,())=some (0,()):=by
 have b:ltI n 0=false:=by rfl
 have e:ltI 12 n=false:=zf
 have c:ltI 12 rows.length=false:=by rw[aF]; grind
 simp only[QY,b,e,c,bK5 rows (by omega) (by omega) hlen d,zz]
def of_eq(rows:List (List Int)) {n:Nat} (u:rows.length<=12) (hn:n<=12) (hlen:∀ r∈rows,r.length=n) {E T:Nat->Nat} (j:∀ r∈rows,∀ a∈r,a.natAbs<=E 0) (w:E 0<=1000000000) (t:Bds rows.length n E T)
  (f:∀ d M p,d<=rows.length->Hn d M p->Same rows.length (aDR rows) d M->(∀ i,i<d->∀ x,n<=x->M i x=0)->∀ i,i<d->∀ x,x<n->(M i x).natAbs<=1000000000) :
  ∃ d M p,MI ((n:Int),rows,())=some (((n:Int),(List.range d).map λi=>Vr n (M i)),0,())/\d<=rows.length/\Hn d M p/\Same rows.length (aDR rows) d M/\(∀ i,i<d->∀ x,n<=x->M i x=0)/\∀ i,i<d->∀ x,x<n->(M i x).natAbs<=1000000000:=by
 have⟨m,A,v,s⟩:=bAX rows (n:=n) (by omega) (by omega) hlen (λr h a l=>by have:=j r h a l; omega);have b:∀ i,i<rows.length->∃ r,r∈rows/\aDR rows i=eK r:=λi hi=>⟨rows[i],List.getElem_mem hi,by unfold aDR; simp[List.getD,hi]⟩
 have hw:Wd rows.length n (aDR rows):=λi hi x k=>by
  have⟨r,e,c⟩:=b i hi;rw[c]; unfold eK;grind
 have y:Big rows.length n (aDR rows) (E 0):=λi hi x k=>by
  have⟨r,e,c⟩:=b i hi;rw[c]; unfold eK;have B:=hlen r e;have:r.getD x 0=r[x]'(by omega):=by simp[List.getD,show x<r.length by omega]
  rw[this];exact j r e _ (List.getElem_mem _)
 have⟨C,A',z,M',d,p,g1,g2,g3,g4,g5,g6,g7⟩:=a6C (by omega) (by omega) s hw y t;have g:∀ i,i<d->∀ x,n<=x->M' i x=0:=λi hi x k=>g6 i (by omega) x k
 have o:=f d M' p g2 g4 g5 g;refine⟨d,M',p,?_,g2,g4,g5,g,o⟩;have q:eqI 0 0=true:=by decide
 simp only[MI,bH3 rows u hn hlen (λr h a l=>oR (j r h a l) w),q,v,g1,a7O g3 g2 (by omega) (by omega) o (n:Int),zz]
end Go.PM
namespace Go.PM
open Go Go.RowKit Go.Proofs Tryz
set_option maxHeartbeats 4000000
abbrev TE:zb:=[(3,.own 167 .str),(9,.list TyE),(10,zd),(11,zd)]
abbrev aEA:zc:=[(.exit 0,[(3,.own 167 .str)])]
def aQM:zp TE aEA:=λ(c,d,b,a,())=>bif ltI a b then za (aE a d.length)<|aB (pA ((d.getD a.toNat 0),())) λe=>za (Nat.ble [e.1].length 1048576)<|za (Nat.ble c.length 1048576)<|some (.inl ((c++[e.1]),d,b,(aA .i64 (a+1)),()))else some (.inr ((c,())))
def OY:zq TE aEA:=aV aQM (2^64)
def LH:zo [.list TyE] [.list .str]:=λ(a,())=>za (!(ltI (a.length:Int) 0))<|za (!(ltI 1048576 (a.length:Int)))<|aB (OY ((List.replicate 0 (ByteArray.empty:Ty.den .str)),a,(a.length:Int),0,())) λb=>some (b.1,())
abbrev aMK:Ent:=⟨141,_,_,LH⟩
def aUW:Ent.OK tP aMK:=oU (aS (oV RZ oW)) func141 3 (lp:=OY) rfl
abbrev gS:zb:=[(0,.val),(7,.list TyD),(8,.int .i64),(9,.int .i64)]
abbrev lU:zc:=[(.exit 0,[])]
def jU(x:Shape.den gS):Option (List (Value×aM [zd,.list .str])×(Shape.den gS⊕AQ lU)):=match x with|(d,b,e,a,())=>bif ltI a e then za (aE a b.length)<|aB (LH ((b.getD a.toNat []),())) λc=>aB (EU (c.1,())) λf=>outs [(d,(f.1,c.1,()))] (some ([],.inl (d,b,e,(aA .i64 (a+1)),())))else some ([],.inr ((())))
def qP(x:Shape.den gS):Option (List (Value×aM [.int .i64,.list .str])×AQ lU):=YL jU (2^64) x
def E5(b:Value)(x:TZ [TyH]):Option (List (Value×aM [zd,.list .str])):=match x with|(a,())=>bI3 (a3D (qP (b,a.2,(a.2.length:Int),0,())) λc=>some ([],()))
def xJ:Code:=bY f216
abbrev FO:Env:=RP [aMK,aGU] []
def MG:dN tP FO:=jH ⟨aUW,aQS,trivial⟩ trivial
def mY:Code:=inLoop (QF xJ 0)
def DV(id:Nat):Option cI:=none
def DN(id:Nat):Option (aLI (Value×aM [zd,.list .str])):=bif Nat.beq id 1 then some ⟨gS,lU,qP⟩ else none
def X5:bM mY=1:=by kernel_rfl
def aBS:dV mY=[]:=by kernel_rfl
def XI:∀ x,bHJ tP FO 22 (aP f216) DV [.int .i64,.list .str] DN mY gS lU x=jU x:=by
 rintro⟨v0,v7,v8,v9,⟨⟩⟩;kernel_rfl
def YG:bC5 tP 22 [.int .i64,.list .str] mY ⟨gS,lU,qP⟩:=a9X MG.callee aQ.mixed _ (aML aBS trivial) XI
def Z9:dV xJ=[.loop mY]:=by kernel_rfl
def aBN:∀ v0 x,bQB tP FO f216 (aP f216) DV [.int .i64,.list .str] DN xJ [TyH] v0 x=E5 v0 x:=by
 rintro v0 ⟨v1,⟨⟩⟩;kernel_rfl
def aB2 {f:TZ [TyH]->Option (List (aM [zd,.list .str]))}(h:∀ yv x all,f x=some all->E5 yv x=some (all.map λe=>(yv,e))):aOQ tP 216 [TyH] [.int .i64,.list .str] f:=bGG aQ MG func216 (c:=xJ) (by kernel_rfl) (by kernel_rfl) (keep:=aP f216) (lt:=DV) (li:=DN) (aML Z9 ⟨a9V X5 rfl rfl YG,trivial⟩) (λyv x all a=>(aBN yv x).trans (h yv x all a))
def bAJ:List (List Int)->Option (List (aM [zd,.list .str]))| []=>some []| r::l=>aB (LH (r,())) λy=>aB (EU (y.1,())) λz=>aB (bAJ l) λrest=>some ((z.1,y.1,())::rest)
def aYN(x:TZ [TyH]):Option (List (aM [zd,.list .str])):=match x with|((_,b),())=>bif Nat.ble b.length 1048576 then bAJ b else none
def a4H(yv:Value)(l:List (List Int))(c:l.length<=1048576):∀ (rest pre:List (List Int)) (all:List (aM [zd,.list .str])) (N:Nat),bAJ rest=some all->pre++rest=l->rest.length<N ->
  YL jU N (yv,l,(l.length:Int),(pre.length:Int),())=some (all.map λe=>(yv,e),())
 | [],pre,all,N+1,h,hp,_=>by
  obtain rfl:=oB h;rw[List.append_nil]at hp;subst hp;have b:ltI (pre.length:Int) (pre.length:Int)=false:=by simp[aF]
  simp only[YL,jU,b,oD];rfl
 | r::rest,pre,all,N+1,h,hp,hN=>by
  have⟨y,d,h⟩:=wA h;have⟨z,hz,h⟩:=wA h;have⟨a,i,h⟩:=wA h;obtain rfl:=oB h;have hlen:l.length=pre.length+(rest.length+1):=by rw[<- hp]; simp
  have b:ltI (pre.length:Int) (l.length:Int)=true:=by simp[aF]; omega
  have f:aE (pre.length:Int) l.length=true:=by simp[aL]; omega
  have k:l.getD ((pre.length:Int)).toNat []=r:=by rw[<- hp]; simp
  have g:=a4H yv l c rest (pre++[r]) a N i (by rw[<- hp]; simp) (by simp at hN; omega);have j:aA .i64 ((pre.length:Int)+1)=((pre++[r]).length:Int):=by rw[wrap64 (by omega) (by omega)]; simp
  simp only[YL,jU,b,f,k,d,hz,outs,j,zz];rw[g];rfl
def bSE:aOQ tP 216 [TyH] [.int .i64,.list .str] aYN:=by
 refine aB2 ?_;rintro yv ⟨⟨n,b⟩,⟨⟩⟩ all h;unfold aYN at h;dsimp only at h;have⟨a,h⟩:=aJ h;have a:=oL a;have:=a4H yv b a b [] all (2^64) h rfl (by omega);unfold E5;dsimp only;unfold qP;have c:((([]:List (List Int)).length:Nat):Int)=0:=rfl;rw[c]at this;rw[this];simp[a3D,outs,bI3]
end Go.PM
namespace Go.PM
open Go Go.RowKit Go.Proofs Tryz
set_option maxHeartbeats 4000000
def aPV:zo [zd] [.bool]:=λ(a,())=>bif ltI 1000000000 a then some (true,())else some (ltI a (-1000000000),())
abbrev bHP:Ent:=⟨240,_,_,aPV⟩
def a5P:Ent.OK tP bHP:=oI (aS oW) func240
abbrev wY:zb:=[(0,.list TyE),(1,.fn 240),(7,zd),(8,zd)]
abbrev GK:zc:=[(.ret,[(4,zd)]),(.exit 0,[])]
def fT:zp wY GK:=λ(b,e,c,a,())=>bif ltI a c then za (aE a b.length)<|aB (aPV ((b.getD a.toNat 0),())) λd=>bif d.1 then some (.inr (.inl (a,())))else some (.inl (b,(),c,(aA .i64 (a+1)),()))else some (.inr (.inr ((()))))
def uJ:zq wY GK:=aV fT (2^64)
def AD:zo [.list TyE,.fn 240] [zd]:=λ(a,e,())=>aB (uJ (a,(),(a.length:Int),0,())) λc=>mN c (λb=>some (b.1,())) λd=>some ((-1),())
abbrev ZG:Ent:=⟨106,_,_,AD⟩
def WH:Ent.OK tP ZG:=oU (aS (oV a5P oW)) func106 2 (lp:=uJ) rfl
def nJ:zo [.list TyE,.fn 240] [.bool]:=λ(b,c,())=>aB (AD (b,(),())) λa=>some (!(ltI a.1 0),())
abbrev WB:Ent:=⟨60,_,_,nJ⟩
def TL:Ent.OK tP WB:=oI (aS (oV WH oW)) func60
abbrev aCS:zb:=[(0,.list TyD),(8,.list TyD),(9,zd),(10,zd)]
abbrev aP6:zc:=[(.ret,[(2,zd)]),(.exit 0,[])]
def HZ:zp aCS aP6:=λ(c,b,d,a,())=>bif ltI a d then za (aE a b.length)<|bif ltI 12 ((b.getD a.toNat []).length:Int) then some (.inr (.inl (4,())))else za (aE 0 c.length)<|bif !(eqI ((b.getD a.toNat []).length:Int) ((c.getD 0 []).length:Int)) then some (.inr (.inl (5,())))else aB (nJ ((b.getD a.toNat []),(),())) λe=>bif e.1 then some (.inr (.inl (4,())))else some (.inl (c,b,d,(aA .i64 (a+1)),()))else some (.inr (.inr ((()))))
def XB:zq aCS aP6:=aV HZ (2^64)
def aFL:zo [.list TyD] [zd]:=λ(a,())=>bif ltI 12 (a.length:Int) then some (4,())else aB (XB (a,a,(a.length:Int),0,())) λb=>mN b (λc=>some (c.1,())) λd=>some (0,())
abbrev bG4:Ent:=⟨178,_,_,aFL⟩
def a5C:Ent.OK tP bG4:=oU (aS (oV TL oW)) func178 4 (lp:=XB) rfl
def R4:zo [zd] [.bool]:=λ(a,())=>some (!(eqI a 0),())
abbrev a2J:Ent:=⟨283,_,_,R4⟩
def aUQ:Ent.OK tP a2J:=oI (aS oW) func283
abbrev xB:zb:=[(0,.list TyE),(1,.fn 283),(7,zd),(8,zd)]
abbrev GM:zc:=[(.ret,[(4,zd)]),(.exit 0,[])]
def fO:zp xB GM:=λ(b,e,c,a,())=>bif ltI a c then za (aE a b.length)<|aB (R4 ((b.getD a.toNat 0),())) λd=>bif d.1 then some (.inr (.inl (a,())))else some (.inl (b,(),c,(aA .i64 (a+1)),()))else some (.inr (.inr ((()))))
def uQ:zq xB GM:=aV fO (2^64)
def zY:zo [.list TyE,.fn 283] [zd]:=λ(a,e,())=>aB (uQ (a,(),(a.length:Int),0,())) λc=>mN c (λb=>some (b.1,())) λd=>some ((-1),())
abbrev Y5:Ent:=⟨106,_,_,zY⟩
def WL:Ent.OK tP Y5:=oU (aS (oV aUQ oW)) func106 2 (lp:=uQ) rfl
def XD:zo [.list TyE] [zd]:=λ(b,())=>aB (zY (b,(),())) λa=>some (a.1,())
abbrev a9J:Ent:=⟨241,_,_,XD⟩
def a0D:Ent.OK tP a9J:=oI (aS (oV WL oW)) func241
def U4:zo [.list TyE,.ptr TyE,.ptr TyD] [.bool]:=λ(b,a,c,())=>za (aE a b.length)<|bif ltI (b.getD a.toNat 0) 0 then some (true,())else za (aE a b.length)<|za (aE a c.length)<|some (!(ltI (b.getD a.toNat 0) (c.getD a.toNat 0)),())
abbrev aV6:Ent:=⟨243,_,_,U4⟩
def aQF:Ent.OK tP aV6:=oI (aS oW) func243
abbrev pK:zb:=[(0,.list TyD),(1,.clo 243 [TyE,TyD]),(7,zd),(8,zd)]
abbrev zG:zc:=[(.ret,[(4,zd)]),(.exit 0,[])]
def dR:zp pK zG:=λ(c,b,d,a,())=>bif ltI a d then za (aE a c.length)<|aB (U4 ((c.getD a.toNat []),b.1,b.2.1,())) λe=>bif e.1 then some (.inr (.inl (a,())))else some (.inl (c,(b.1,b.2.1,()),d,(aA .i64 (a+1)),()))else some (.inr (.inr ((()))))
def mJ:zq pK zG:=aV dR (2^64)
def rQ:zo [.list TyD,.clo 243 [TyE,TyD]] [zd]:=λ(b,a,())=>aB (mJ (b,(a.1,a.2.1,()),(b.length:Int),0,())) λd=>mN d (λc=>some (c.1,())) λe=>some ((-1),())
abbrev SD:Ent:=⟨284,_,_,rQ⟩
def PB:Ent.OK tP SD:=oU (aS (oV aQF oW)) func284 2 (lp:=mJ) rfl
def gI:zo [.list TyD,.clo 243 [TyE,TyD]] [.bool]:=λ(c,a,())=>aB (rQ (c,(a.1,a.2.1,()),())) λb=>some (!(ltI b.1 0),())
abbrev O8:Ent:=⟨242,_,_,gI⟩
def L9:Ent.OK tP O8:=oI (aS (oV PB oW)) func242
abbrev UY:zb:=[(0,.list TyD),(3,zd),(7,.list TyD),(8,zd),(9,zd)]
abbrev aHI:zc:=[(.ret,[(2,.bool)]),(.exit 0,[])]
def BX:zp UY aHI:=λ(d,f,b,e,a,())=>bif ltI a e then za (aE a b.length)<|aB (XD ((b.getD a.toNat []),())) λc=>bif !(ltI f c.1) then some (.inr (.inl (false,())))else za (aE c.1 (b.getD a.toNat []).length)<|bif ltI ((b.getD a.toNat []).getD c.1.toNat 0) 0 then some (.inr (.inl (false,())))else za (!(ltI a 0))<|za (Nat.ble 0 a.toNat)<|za (Nat.ble a.toNat d.length)<|aB (gI (((d.drop 0).take (a.toNat-0)),(c.1,(b.getD a.toNat []),()),())) λg=>bif g.1 then some (.inr (.inl (false,())))else some (.inl (d,c.1,b,e,(aA .i64 (a+1)),()))else some (.inr (.inr ((()))))
def QQ:zq UY aHI:=aV BX (2^64)
def UG:zo [.list TyD] [.bool]:=λ(a,())=>aB (QQ (a,(-1),a,(a.length:Int),0,())) λb=>mN b (λc=>some (c.1,())) λd=>some (true,())
abbrev a5B:Ent:=⟨179,_,_,UG⟩
def aWP:Ent.OK tP a5B:=oU (aS (oV a0D (oV L9 oW))) func179 3 (lp:=QQ) rfl
def aCO:zo [.list TyD] [.bool,zd]:=λ(b,())=>aB (aFL (b,())) λa=>bif !(eqI a.1 0) then some (false,a.1,())else aB (UG (b,())) λc=>some (c.1,0,())
abbrev a5A:Ent:=⟨140,_,_,aCO⟩
def aVT:Ent.OK tP a5A:=oI (aS (oV aWP (oV a5C oW))) func140
def EY:zo [.agg TyH] [zd]:=λ(a,())=>aB (QY (a.1,a.2,())) λb=>bif !(eqI b.1 0) then some (b.1,())else aB (aCO (a.2,())) λc=>bif !(eqI c.2.1 0) then some (7,())else bif c.1 then some (0,())else some (7,())
abbrev aF9:Ent:=⟨93,_,_,EY⟩
def PW:Ent.OK tP aF9:=oI (aS (oV aVT (oV aJU oW))) func93
def PH:zo [.agg TyH,.list TyE] [zd]:=λ(d,b,())=>aB (EY (d,())) λa=>bif !(eqI a.1 0) then some (a.1,())else aB (kH (b,())) λc=>bif !(eqI c.1 0) then some (c.1,())else bif !(eqI (b.length:Int) d.1) then some (5,())else some (0,())
abbrev aYA:Ent:=⟨104,_,_,PH⟩
def aR9:Ent.OK tP aYA:=oI (aS (oV PW (oV xF oW))) func104
def LK:zo [.agg TyH] [.clo 216 [TyH]]:=λ(a,())=>some ((a,()),())
abbrev VF:Ent:=⟨157,_,_,LK⟩
def aIK:Ent.OK tP VF:=oI (aS oW) func157
abbrev dB:zb:=[(4,.bown 183 167 .str),(5,.bown 183 167 .str),(14,.clo 216 [TyH])]
abbrev gF:zc:=[(.normal,[(4,.bown 183 167 .str),(5,.bown 183 167 .str)])]
def nE(x:Shape.den dB)(e:aM [zd,.list .str]):oS dB gF:=match x,e with|(b,g,c,()),(a,d,())=>bif aE a b.length then bif Nat.blt a.toNat b.length then bif aE a d.length then aB (OP ((b.getD a.toNat ByteArray.empty),(d.getD a.toNat ByteArray.empty),())) λf=>aB (aBW (t:=.str) lM b (f.1,d,())) λh=>bif Nat.ble [f.1].length 1048576 then bif Nat.ble g.length 1048576 then some (.inl (h,(g++[f.1]),(c.1,()),())) else none else none else none else none else none
def DY(x:Shape.den dB):TZ [TyH]:=match x with|(b,c,a,())=>(a.1,())
def nG(x:Shape.den dB):oX gF:=a2H dB gF (λx=>aYN (DY x)) nE x
def wF:zo [.agg TyH,.list TyE] [.list .str,.list .str]:=λ(c,b,())=>aB (wJ (b,())) λd=>aB (LK (c,())) λe=>aB (nG (d,[],(e.1.1,()),())) λa=>some (a.1,a.2.1,())
def B6:Code:=bY f122
abbrev LF:Env:=RP [VF,aKV] [SF,YM]
def QO:dN tP LF:=jH ⟨aIK,aNN,trivial⟩ ⟨S2,aL2,trivial⟩
def cG:Code:=QF B6 0
def aJF:Code:=inLoop cG
def JV(id:Nat):Option cI:=none
def J3(id:Nat):Option cI:=bif Nat.beq id 5 then some ⟨dB,gF,nG⟩ else none
def aA2:bM aJF=5:=by kernel_rfl
def N2:cG=.rangeFunc (aNR cG) (a1W cG) (II cG) (inLoop cG):=by kernel_rfl
def aB8:∀ y e,aST tP LF 40 (xD f122) JV J3 (a1W cG).toList (II cG) (inLoop cG) [.int .i64,.list .str] dB gF y e=nE y e:=λ_ _=>by kernel_rfl
def aEM:∀ x,a8H 216 [TyH] dB (aNR cG) x=some (DY x):=λ_=>by kernel_rfl
def aDW:H7 tP 40 false [] cG ⟨dB,gF,nG⟩:=aNV QO aQ N2 func216 (c:=bY f216) (by kernel_rfl) bSE (by kernel_rfl) (nK (l:=[]) (by kernel_rfl) trivial) aEM aB8
def aEX:dV B6=[cG]:=by kernel_rfl
def aG5:∀ x,a0L tP LF f122 (xD f122) JV J3 B6 [.agg TyH,.list TyE] [.list .str,.list .str] x=wF x:=λ_=>by kernel_rfl
abbrev aNB:Ent:=⟨122,_,_,wF⟩
def aF6:Ent.OK tP aNB:=aJK aQ QO func122 (c:=B6) (by kernel_rfl) (keep:=xD f122) (lt:=JV) (rt:=J3) (nK aEX ⟨aF1 N2 aA2 rfl aDW,trivial⟩) aG5
end Go.PM
namespace Go.PM
open Go Go.RowKit Go.Proofs Tryz
set_option maxHeartbeats 4000000
def xX(u0:Unit) (x:aM [zd]) (A:List (List ByteArray)):Option ((List ByteArray)×List (List ByteArray)):=match x with|(a,())=>bif !(ltI a 0) then bif !(ltI a a) then bif !(ltI 1048576 a) then aB (wJ ((List.replicate a.toNat (0:Ty.den TyE)),())) λb=>some (b,A) else none else none else none
def WQ:Code:=bY f142
abbrev aJO:Env:=RP [] [SF]
def aTE:dN tP aJO:=jH trivial ⟨S2,trivial⟩
def aHF(id:Nat):Option cI:=none
def aQJ:bA WQ=[]:=by kernel_rfl
def aSQ:∀ l x A,SQ tP aJO f142 (aP f142) aHF WQ 167 .str .none [.int .i64] (.own 167 .str) l x A=xX l x A:=by
 rintro u0 ⟨v0,⟨⟩⟩ A;kernel_rfl
def aWJ:Z6 tP 142 167 .str .none [.int .i64] (.own 167 .str) xX:=I7 aQ aTE func142 (c:=WQ) (by kernel_rfl) (keep:=aP f142) (lt:=aHF) (by rfl) (aO aQJ trivial) aSQ
abbrev aJ3:Shr:=(142,aGA 0 (arH 167 .str .none [.int .i64] (.own 167 .str) xX))
def aRG:sT tP aJ3:=yZ (g:=142) (f:=arH 167 .str .none [.int .i64] (.own 167 .str) xX) (QD aWJ)
abbrev jI:zb:=[(1,zd),(2,zd),(7,.own 183 (.hnd 1)),(10,.list (.hnd 1)),(11,zd),(12,zd),(100000,.ar 167 .str)]
abbrev pW:zc:=[(.exit 0,[(2,zd),(7,.own 183 (.hnd 1)),(100000,.ar 167 .str)])]
def gQ:zp jI pW:=λ(c,f,e,b,d,a,u00,())=>bif ltI a d then za (aE a b.length)<|aB (lP () (((b.getD a.toNat (0,0,0)).1,(b.getD a.toNat (0,0,0)).2.1,(b.getD a.toNat (0,0,0)).2.2),()) u00) λg=>bif !(ltI g.1.1 c) then za (!(ltI c 0))<|za (Nat.ble c.toNat ((b.getD a.toNat (0,0,0)).2.2))<|za (Nat.ble ((b.getD a.toNat (0,0,0)).2.2) ((b.getD a.toNat (0,0,0)).2.2))<|za (Nat.ble [((b.getD a.toNat (0,0,0)).1,((b.getD a.toNat (0,0,0)).2.1+c.toNat),((b.getD a.toNat (0,0,0)).2.2-c.toNat))].length 1048576)<|za (Nat.ble e.length 1048576)<|some (.inl (c,f,(e++[((b.getD a.toNat (0,0,0)).1,((b.getD a.toNat (0,0,0)).2.1+c.toNat),((b.getD a.toNat (0,0,0)).2.2-c.toNat))]),b,d,(aA .i64 (a+1)),g.2,()))else some (.inl (c,f,e,b,d,(aA .i64 (a+1)),g.2,()))else some (.inr ((f,e,u00,())))
def lJ:zq jI pW:=aV gQ (2^64)
def nZ(u0:Unit)(x:aM [.list (.hnd 1),zd,zd])(A:List (List ByteArray)):Option ((List (Nat×Nat×Nat))×List (List ByteArray)):=match x with|(b,d,c,())=>aB (lJ (d,c,[],b,(b.length:Int),0,A,())) λa=>aB (eQ a.2.1 (a.1,()) a.2.2.1) λe=>some e
def AS:Code:=bY f144
abbrev JW:Env:=RP [] [aBC,CD]
def PG:dN tP JW:=jH trivial ⟨aNQ,FY,trivial⟩
def EX:Code:=dC AS 0
def HB(id:Nat):Option cI:=bif Nat.beq id 3 then some ⟨jI,pW,lJ⟩ else none
def Z2:∀ x,dL tP JW 30 (aP f144) HB EX jI pW x=gQ x:=λ_=>by kernel_rfl
def aBH:cJ tP 30 EX ⟨jI,pW,lJ⟩:=cC PG.callee aQ.mixed _ (aO (l:=[]) (by kernel_rfl) trivial) Z2
def aDG:bA AS=[EX]:=by kernel_rfl
def aEJ:∀ l x A,SQ tP JW f144 (aP f144) HB AS 167 .str .none [.list (.hnd 1),.int .i64,.int .i64] (.own 183 (.hnd 1)) l x A=nZ l x A:=by
 rintro u0 ⟨v0,v1,v2,⟨⟩⟩ A;kernel_rfl
def aIZ:Z6 tP 144 167 .str .none [.list (.hnd 1),.int .i64,.int .i64] (.own 183 (.hnd 1)) nZ:=I7 aQ PG func144 (c:=AS) (by kernel_rfl) (keep:=aP f144) (lt:=HB) (by rfl) (aO aDG ⟨cB (i:=3) (by kernel_rfl) rfl aBH,trivial⟩) aEJ
abbrev TT:Shr:=(144,aGA 0 (arH 167 .str .none [.list (.hnd 1),.int .i64,.int .i64] (.own 183 (.hnd 1)) nZ))
def aFK:sT tP TT:=yZ (g:=144) (f:=arH 167 .str .none [.list (.hnd 1),.int .i64,.int .i64] (.own 183 (.hnd 1)) nZ) (QD aIZ)
abbrev jC:zb:=[(0,.list (.hnd 1)),(1,zd),(5,.own 183 (.hnd 1)),(6,zd),(7,.own 167 .str),(11,zd),(12,zd),(15,.list (.hnd 1)),(16,zd),(17,zd),(100000,.ar 167 .str)]
abbrev pZ:zc:=[(.exit 2,[(0,.list (.hnd 1)),(1,zd),(5,.own 183 (.hnd 1)),(6,zd),(7,.own 167 .str),(11,zd),(12,zd),(100000,.ar 167 .str)])]
def lK:zp jC pZ:=λ(j,h,i,c,g,d,e,b,f,a,u00,())=>bif ltI a f then za (aE a b.length)<|za (aE c ((b.getD a.toNat (0,0,0)).2.2))<|za (Nat.blt (((b.getD a.toNat (0,0,0)).2.1+c.toNat)*1) (dG u00 ((b.getD a.toNat (0,0,0)).1)))<|za (Nat.ble [(dZ u00 ((b.getD a.toNat (0,0,0)).1) (((b.getD a.toNat (0,0,0)).2.1+c.toNat)*1) ByteArray.empty)].length 1048576)<|za (Nat.ble g.length 1048576)<|some (.inl (j,h,i,c,(g++[(dZ u00 ((b.getD a.toNat (0,0,0)).1) (((b.getD a.toNat (0,0,0)).2.1+c.toNat)*1) ByteArray.empty)]),d,e,b,f,(aA .i64 (a+1)),u00,()))else some (.inr ((j,h,i,c,g,d,e,u00,())))
def s9:zq jC pZ:=aV lK (2^64)
abbrev jJ:zb:=[(0,.list (.hnd 1)),(1,zd),(5,.own 183 (.hnd 1)),(11,zd),(12,zd),(100000,.ar 167 .str)]
abbrev qA:zc:=[(.exit 0,[(0,.list (.hnd 1)),(1,zd),(5,.own 183 (.hnd 1)),(100000,.ar 167 .str)])]
def lY:zp jJ qA:=λ(e,f,g,d,c,u00,())=>bif ltI c d then aB (s9 (e,f,g,c,[],d,c,e,(e.length:Int),0,u00,())) λa=>aB (xX () (a.2.1,()) a.2.2.2.2.2.2.2.1) λb=>za (aE a.2.2.2.1 b.1.length)<|za (Nat.blt a.2.2.2.1.toNat b.1.length)<|za (Nat.ble (b.1.set a.2.2.2.1.toNat (ByteArray.mk #[49])).length 1048576)<|za (Nat.ble a.2.2.2.2.1.length 1048576)<|za (Nat.ble [(b.2.length,0,(a.2.2.2.2.1++(b.1.set a.2.2.2.1.toNat (ByteArray.mk #[49]))).length)].length 1048576)<|za (Nat.ble a.2.2.1.length 1048576)<|some (.inl (a.1,a.2.1,(a.2.2.1++[(b.2.length,0,(a.2.2.2.2.1++(b.1.set a.2.2.2.1.toNat (ByteArray.mk #[49]))).length)]),a.2.2.2.2.2.1,(aA .i64 (a.2.2.2.2.2.2.1+1)),(b.2++[(a.2.2.2.2.1++(b.1.set a.2.2.2.1.toNat (ByteArray.mk #[49])))]),()))else some (.inr ((e,f,g,u00,())))
def lX:zq jJ qA:=aV lY (2^64)
def cY(u0:Unit)(x:aM [.list (.hnd 1),zd])(A:List (List ByteArray)):Option ((List (Nat×Nat×Nat))×List (List ByteArray)):=match x with|(e,c,())=>aB (lX (e,c,[],c,0,A,())) λa=>aB (eQ a.2.2.1 ((aA .i64 ((a.1.length:Int)+a.2.1)),()) a.2.2.2.1) λb=>aB (nZ () (b.1,(a.1.length:Int),a.2.1,()) b.2) λd=>some d
def AR:Code:=bY f95
abbrev AV:Env:=RP [] [TT,CD,aJ3]
def DR:dN tP AV:=jH trivial ⟨aFK,FY,aRG,trivial⟩
def qW:Code:=dC AR 0
def ES:Code:=dC qW 0
def zC(id:Nat):Option cI:=bif Nat.beq id 7 then some ⟨jC,pZ,s9⟩ else bif Nat.beq id 3 then some ⟨jJ,qA,lX⟩ else none
def ZR:∀ x,dL tP AV 51 (aP f95) zC ES jC pZ x=lK x:=λ_=>by kernel_rfl
def aBA:cJ tP 51 ES ⟨jC,pZ,s9⟩:=cC DR.callee aQ.mixed _ (aO (l:=[]) (by kernel_rfl) trivial) ZR
def ZL:∀ x,dL tP AV 51 (aP f95) zC qW jJ qA x=lY x:=λ_=>by kernel_rfl
def aE8:bA qW=[ES]:=by kernel_rfl
def aA8:cJ tP 51 qW ⟨jJ,qA,lX⟩:=cC DR.callee aQ.mixed _ (aO aE8 ⟨cB (i:=7) (by kernel_rfl) rfl aBA,trivial⟩) ZL
def aDM:bA AR=[qW]:=by kernel_rfl
def aE9:∀ l x A,SQ tP AV f95 (aP f95) zC AR 167 .str .none [.list (.hnd 1),.int .i64] (.own 183 (.hnd 1)) l x A=cY l x A:=by
 rintro u0 ⟨v0,v1,⟨⟩⟩ A;kernel_rfl
def aIR:Z6 tP 95 167 .str .none [.list (.hnd 1),.int .i64] (.own 183 (.hnd 1)) cY:=I7 aQ DR func95 (c:=AR) (by kernel_rfl) (keep:=aP f95) (lt:=zC) (by rfl) (aO aDM ⟨cB (i:=3) (by kernel_rfl) rfl aA8,trivial⟩) aE9
abbrev JS:Shr:=(95,aGA 0 (arH 167 .str .none [.list (.hnd 1),.int .i64] (.own 183 (.hnd 1)) cY))
def PS:sT tP JS:=yZ (g:=95) (f:=arH 167 .str .none [.list (.hnd 1),.int .i64] (.own 183 (.hnd 1)) cY) (QD aIR)
def CB:zo [.agg TyH] [.agg TyH,zd]:=λ(a,())=>aB (EY (a,())) λd=>bif !(eqI d.1 0) then some ((0,[]),d.1,())else aB (gV () (a.2,()) []) λc=>aB (cY () (c.1,a.1,()) c.2) λb=>aB (cY () (b.1,a.1,()) b.2) λe=>aB (eR e.1 (a.1,()) e.2) λf=>some (f.1.1,f.1.2.1,())
def WR:Code:=bY f120
abbrev aJR:Env:=RP [aF9] [KH,JS,B9]
def aR4:dN tP aJR:=jH ⟨PW,trivial⟩ ⟨NR,PS,FL,trivial⟩
def aH3(id:Nat):Option cI:=none
def aQY:bA WR=[]:=by kernel_rfl
def aRL:∀ x,a3G tP aJR f120 (aP f120) aH3 WR 167 .str _ _ x=CB x:=λ_=>by kernel_rfl
abbrev a0G:Ent:=⟨120,_,_,CB⟩
def aBQ:Ent.OK tP a0G:=bAO aQ aR4 func120 (c:=WR) (by kernel_rfl) (keep:=aP f120) (lt:=aH3) (aO aQY trivial) aRL
def vQ:zo [.agg TyH] [.agg TyH,zd]:=λ(a,())=>aB (EY (a,())) λd=>bif !(eqI d.1 0) then some ((0,[]),d.1,())else aB (gV () (a.2,()) []) λc=>aB (cY () (c.1,a.1,()) c.2) λb=>aB (eR b.1 (a.1,()) b.2) λe=>some (e.1.1,e.1.2.1,())
def RV:Code:=bY f53
abbrev aBI:Env:=RP [aF9] [KH,JS,B9]
def aNY:dN tP aBI:=jH ⟨PW,trivial⟩ ⟨NR,PS,FL,trivial⟩
def Y3(id:Nat):Option cI:=none
def aL5:bA RV=[]:=by kernel_rfl
def aMJ:∀ x,a3G tP aBI f53 (aP f53) Y3 RV 167 .str _ _ x=vQ x:=λ_=>by kernel_rfl
abbrev aTA:Ent:=⟨53,_,_,vQ⟩
def V5:Ent.OK tP aTA:=bAO aQ aNY func53 (c:=RV) (by kernel_rfl) (keep:=aP f53) (lt:=Y3) (aO aL5 trivial) aMJ
end Go.PM
