/- Texts of one proof, joined (8). -/
import Derived.Lib.AtoiAllCases
import Derived.Test.YtmghkhgpkefgeaaGreatDoorQP7
set_option linter.unusedSimpArgs false
set_option linter.unusedVariables false
set_option maxRecDepth 100000
noncomputable section
namespace Go.PM
open Go Go.RowKit Go.Proofs Go.De
theorem bAO u m j:10*(u/10^(m+1)%10^j)+u/10^m%10=u/10^m%10^(j+1):=by
 have e:u/10^(m+1)=u/10^m/10:=by rw[Nat.pow_succ,Nat.div_div_eq_div_mul]
 rw[e,Nat.pow_succ,Nat.mul_comm (10^j) 10,Nat.mod_mul];omega
theorem bEY u t:((Lib.dg u t).toNat)=48+((u/10^t%10:Nat):Int):=by
 unfold Lib.dg;rw[UInt8.toNat_ofNat'];omega
theorem a6U u lo hi (h1:lo<=hi)(h2:hi<=Lib.nDigits u):YD ((Dn u).extract lo hi)=(List.range (hi-lo)).map λj=>48+((u/10^(Lib.nDigits u-1-(lo+j))%10:Nat):Int):=by
 have e:((Dn u).extract lo hi).data.toList=((Lib.decDigits u).drop lo).take (hi-lo):=by rw[ByteArray.data_extract,Array.toList_extract,List.extract_eq_take_drop,EN]
 unfold YD;rw[e,Lib.decDigits_eq];refine List.ext_getElem W λi h3 h4=>?_
 simp only[List.getElem_map,List.getElem_take,List.getElem_drop,List.getElem_range];exact bEY u _
theorem a6N u {lo hi}(h1:lo<=hi)(h2:hi<=Lib.nDigits u)(h9:hi-lo<=9)(v0:ByteArray)(v3:List Int)(v4:Int)(A:List (List Int)) :
  AW (v0,v3,v4,0,YD ((Dn u).extract lo hi),((YD ((Dn u).extract lo hi)).length:Int),0,A,())=some (v0,v3,v4,((u/10^(Lib.nDigits u-hi)%10^(hi-lo):Nat):Int),A,()):=by
 rw[a6U u lo hi h1 h2];have hlen:((List.range (hi-lo)).map λj=>48+((u/10^(Lib.nDigits u-1-(lo+j))%10:Nat):Int)).length=hi-lo:=R
 rw[hlen];have key:=aU (step:=uY) (N:=2^64) (λt=>(v0,v3,v4,((u/10^(Lib.nDigits u-lo-t)%10^t:Nat):Int),((List.range (hi-lo)).map λj=>48+((u/10^(Lib.nDigits u-1-(lo+j))%10:Nat):Int)),((hi-lo:Nat):Int),(t:Int),A,())) (hi-lo)
  (v0,v3,v4,((u/10^(Lib.nDigits u-hi)%10^(hi-lo):Nat):Int),A,()) Z (λt ht=>?_) ?_
 ·have e0:((u/10^(Lib.nDigits u-lo-0)%10^0:Nat):Int)=0:=by simp[Nat.mod_one]
  rw[e0]at key;exact key
 ·have e1:ltI (t:Int) ((hi-lo:Nat):Int)=true:=by rw[aE]; exact oT Z
  have e2:aF (t:Int) (hi-lo)=true:=by rw[aL]; exact oT Z
  have e3:((List.range (hi-lo)).map λj=>48+((u/10^(Lib.nDigits u-1-(lo+j))%10:Nat):Int)).getD t 0=48+((u/10^(Lib.nDigits u-1-(lo+t))%10:Nat):Int):=W
  obtain⟨m,hm⟩:∃ m,Lib.nDigits u-1-(lo+t)=m:=⟨_,rfl⟩;have hm1:Lib.nDigits u-lo-t=m+1:=Z
  have hm2:Lib.nDigits u-lo-(t+1)=m:=Z
  rw[hm]at e3;rw[hm1,hm2,<- bAO u m t];have hd:u/10^m%10<10:=Nat.mod_lt _ O;have ha:u/10^(m+1)%10^t<10^9:=by
   have h4:10^t<=10^9:=Nat.pow_le_pow_right O Z;omega
  have h109:(10:Nat)^9=1000000000:=O
  generalize u/10^m%10=d at *;generalize u/10^(m+1)%10^t=a at *;have e4:aB .u8 (48+(d:Int)-48)=(d:Int):=by rw[bAM Z Z]; omega
  have e5:IntKind.wrap .u64 (d:Int)=(d:Int):=a2K Z Z;have e6:aB .u64 (10*(a:Int))=10*(a:Int):=uE Z Z;have e7:aB .u64 (10*(a:Int)+(d:Int))=((10*a+d:Nat):Int):=by rw[uE Z Z]; omega
  have e8:=bO t Z;simp only[uY,e1,e2,e3,e4,e5,e6,e7,e8,hlen,oC,oN]
 ·have e1:ltI ((hi-lo:Nat):Int) ((hi-lo:Nat):Int)=false:=by rw[aE]; exact oF Z
  have e2:Lib.nDigits u-lo-(hi-lo)=Lib.nDigits u-hi:=Z
  simp only[uY,e1,e2,oD]
theorem bCI t:10^(9*t)=1000000000^t:=by rw[Nat.pow_mul]
theorem aUQ u:∀ t,vl ((List.range t).map λj=>((u/1000000000^j%1000000000:Nat)))=((u%1000000000^t:Nat))
 | 0=>by simp[vl,Nat.mod_one]
 | t+1=>by
  rw[List.range_succ,List.map_append,L7,aUQ u t,List.length_map,List.length_range,Nat.pow_succ,Nat.mod_mul];have e:pw t=((1000000000^t:Nat):Int):=by unfold pw; rw[Int.natCast_pow]; rfl
  rw[e];simp only[List.map_cons,List.map_nil,vl,Int.mul_zero,Int.add_zero];rw[Int.natCast_add,Int.natCast_mul]
theorem aEU u (hu:Lib.nDigits u<=1000000) A:eR () (Dn u,()) A=some (pcs u,A):=by
 have hsz:=I9 u;generalize hnd:Lib.nDigits u=nd at *;obtain⟨T,hT⟩:∃ T,T=(nd+8)/9:=⟨_,rfl⟩;have key:=aU (step:=vN) (N:=2^64) (λt=>(Dn u,((List.range t).map λj=>((u/1000000000^j%1000000000:Nat):Int)),(nd:Int)-9*(t:Int),A,())) T
  ((List.range T).map λj=>((u/1000000000^j%1000000000:Nat):Int),A,()) Z (λt ht=>?_) ?_
 ·have key:A5 (Dn u,List.replicate 0 0,(nd:Int),A,())=some ((List.range T).map (λj=>((u/1000000000^j%1000000000:Nat):Int)),A,()):=by
   exact key
  have e1:((nd:Nat):Int).tdiv 9=((nd/9:Nat):Int):=rfl;have e2:aB .i64 ((nd/9:Nat):Int)=((nd/9:Nat):Int):=wrap64 Z Z;have e3:=bO (nd/9) Z;have e4:ltI ((nd/9+1:Nat):Int) 0=false:=by rw[aE]; exact oF Z
  have e5:ltI 1048576 ((nd/9+1:Nat):Int)=false:=by rw[aE]; exact oF Z
  have ht:DT ((List.range T).map λj=>((u/1000000000^j%1000000000:Nat):Int))=pcs u:=by
   refine MC (λx hx=>?_) ?_
   ·grind
   ·rw[aUQ,Nat.mod_eq_of_lt];have h1:=Lib.lt_pow_nDigits u;have h2:(10:Nat)^nd<=10^(9*T):=Nat.pow_le_pow_right O Z;rw[bCI]at h2;grind
  unfold eR;simp only[hsz,e1,e2,e3,e4,e5,Bool.not_false,oC,key,aD,aAV (show ((List.range T).map λj=>((u/1000000000^j%1000000000:Nat):Int)).length<=4000000 by simp; omega),ht]
 ·obtain⟨hi,hhi⟩:∃ hi:Nat,hi=nd-9*t:=⟨_,rfl⟩;obtain⟨lo,hlo⟩:∃ lo:Nat,lo=hi-9:=⟨_,rfl⟩;have ehi:(nd:Int)-9*(t:Int)=(hi:Int):=Z
  have ehi':(nd:Int)-9*((t+1:Nat):Int)=(hi:Int)-9:=Z
  rw[ehi,ehi'];have e1:ltI 0 (hi:Int)=true:=by rw[aE]; exact oT Z
  have e2:aB .i64 ((hi:Int)-9)=(hi:Int)-9:=wrap64 Z Z;have e3:(if 0<(hi:Int)-9 then (hi:Int)-9 else 0)=(lo:Int):=by
   by_cases h:0<(hi:Int)-9
   ·rw[if_pos h]; omega
   ·rw[if_neg h]; omega
  have e4:ltI (lo:Int) 0=false:=by rw[aE]; exact oF Z
  have e5:ltI (hi:Int) 0=false:=by rw[aE]; exact oF Z
  have e6:Nat.ble lo hi=true:=by rw[dO]; exact oT Z
  have e7:Nat.ble hi nd=true:=by rw[dO]; exact oT Z
  have hin:=a6N u (lo:=lo) (hi:=hi) Z Z Z (Dn u) ((List.range t).map λj=>((u/1000000000^j%1000000000:Nat):Int)) (hi:Int) A;have hval:u/10^(Lib.nDigits u-hi)%10^(hi-lo)=u/1000000000^t%1000000000:=by
   rw[hnd,show nd-hi=9*t by omega,bCI]
   by_cases h:9<=hi
   ·rw[show hi-lo=9 by omega]
   ·have h1:=Lib.lt_pow_nDigits u;rw[hnd]at h1;have h2:u/1000000000^t<10^hi:=by
     rw[Nat.div_lt_iff_lt_mul (Nat.pow_pos O),<- bCI,<- Nat.pow_add,show hi+9*t=nd by omega];exact h1
    have h3:(10:Nat)^hi<=10^9:=Nat.pow_le_pow_right O Z;have h4:(10:Nat)^9=1000000000:=O
    rw[show hi-lo=hi by omega,Nat.mod_eq_of_lt h2,Nat.mod_eq_of_lt Z]
  rw[hval]at hin;have e8:Nat.ble [((u/1000000000^t%1000000000:Nat):Int)].length 1048576=true:=rfl;have e9:Nat.ble ((List.range t).map λj=>((u/1000000000^j%1000000000:Nat):Int)).length 1048576=true:=by rw[dO]; simp; omega
  simp only[vN,hsz,e1,e2,e3,e4,e5,e6,e7,e8,e9,oC,Bool.not_false,oN,hin,aD];rw[List.range_succ,List.map_append];rfl
 ·have e1:ltI 0 ((nd:Int)-9*(T:Int))=false:=by rw[aE]; exact oF Z
  simp only[vN,e1,oD]
def aFW(u:Nat):List Int:=(Lib.decDigits u).reverse.map λb=>(b.toNat:Int)
theorem a2D {u}(h:u<10):aFW u=[48+(u:Int)]:=by
 unfold aFW;rw[Lib.decDigits,dif_pos h];simp;omega
theorem aYY {u}(h:¬ u<10):aFW u=(48+((u%10:Nat):Int))::aFW (u/10):=by
 unfold aFW;rw[Lib.decDigits,dif_neg h];simp only[List.reverse_append,List.reverse_cons,List.reverse_nil,List.nil_append,List.cons_append,List.map_cons,List.cons.injEq,and_true];rw[UInt8.toNat_ofNat'];omega
theorem aDB u:(aFW u).length=Lib.nDigits u:=by simp[aFW,Lib.decDigits_length]
def XZ(x:Nat):Nat->List Int
 | 0=>[]
 | k+1=>XZ x k++[48+((x/10^k%10:Nat):Int)]
theorem aM5 x:∀ k,(XZ x k).length=k
 | 0=>rfl
 | k+1=>by rw[XZ,oH,aM5 x k]; rfl
theorem aT1 x:∀ k,XZ x (k+1)=(48+((x%10:Nat):Int))::XZ (x/10) k
 | 0=>by simp[XZ]
 | k+1=>by rw[XZ,aT1 x k,XZ,List.cons_append,Nat.pow_succ,Nat.mul_comm,<- Nat.div_div_eq_div_mul]
theorem a0U:∀ k u,10^k<=u->aFW u=XZ u k++aFW (u/10^k)
 | 0,u,_=>by simp[XZ]
 | k+1,u,h=>by
  have h1:10^k<=u/10:=W
  have hp:1<=10^k:=Nat.one_le_pow _ _ R;rw[aYY Z,aT1,a0U k (u/10) h1,List.cons_append,Nat.pow_succ,Nat.mul_comm,<- Nat.div_div_eq_div_mul]
theorem aX4 x y:∀ k,k<=9->x%1000000000=y%1000000000->XZ x k=XZ y k
 | 0,_,_=>rfl
 | k+1,hk,h=>by
  rw[XZ,XZ,aX4 x y k Z h];have key:∀ z ,z/10^k%10=z%1000000000/10^k%10:=λz=>by
   have e:1000000000=10^k*(10*10^(8-k)):=by rw[<- Nat.mul_assoc,<- Nat.pow_succ,<- Nat.pow_add,show k.succ+(8-k)=9 by omega]
   rw[e,Nat.mod_mul_right_div_self,Nat.mod_mul_right_mod]
  simp_all
theorem a6M(p:List Int) (v3:List Int) {i x:Nat} (hi:i+1<p.length) (hp:p.length<=4000000) (hx:x<1000000000) (hv:v3.length<=1000100) (v14:List Int) (v15 v16:Int) :
  nZ (p,v3,(i:Int),(x:Int),0,v14,v15,v16,())=some (p,v3++XZ x 9,v14,v15,v16,()):=by
 have key:=aU (step:=eW) (N:=2^64) (λt=>(p,v3++XZ x t,(i:Int),((x/10^t:Nat):Int),(t:Int),v14,v15,v16,())) 9
  (p,v3++XZ x 9,v14,v15,v16,()) Z (λt ht=>?_) ?_
 ·have hp0:XZ x 0=[]:=rfl;rw[hp0,List.append_nil,Nat.pow_zero,Nat.div_one]at key;exact key
 ·have e1:ltI (t:Int) 9=true:=by rw[aE]; exact oT Z
  have e2:=bO i Z;have e3:ltI ((i+1:Nat):Int) (p.length:Int)=true:=by rw[aE]; exact oT Z
  have hy:x/10^t<=x:=Nat.div_le_self _ _;have e9:x/10^(t+1)=x/10^t/10:=by rw[Nat.pow_succ,Nat.div_div_eq_div_mul]
  rw[e9,XZ,<- List.append_assoc];generalize x/10^t=y at *;have e4:((y:Nat):Int).tmod 10=((y%10:Nat):Int):=rfl;have e5:((y:Nat):Int).tdiv 10=((y/10:Nat):Int):=rfl;have e6:IntKind.wrap .u8 (aB .u64 (48+((y%10:Nat):Int)))=48+((y%10:Nat):Int):=by rw[uE Z Z,a4Q Z Z]
  have e7:aB .u64 ((y/10:Nat):Int)=((y/10:Nat):Int):=uE Z Z;have e8:=bO t Z;have e10:Nat.ble [48+((y%10:Nat):Int)].length 1048576=true:=rfl;have e11:Nat.ble (v3++XZ x t).length 1048576=true:=by rw[dO,oH,aM5]; exact oT Z
  simp only[eW,e1,e2,e3,e4,e5,e6,e7,e8,e10,e11,oC]
 ·rfl
theorem aTO(p:List Int){i}(hi:p.length=i+1)(hp:p.length<=4000000)(v14:List Int)(v15 v16:Int):∀ (k x:Nat) (v3:List Int),0<x->x<10^k->k<=9->v3.length+k<=1000100->∀ N,
  bF eW (k+1+N) (p,v3,(i:Int),(x:Int),((9-k:Nat):Int),v14,v15,v16,())=some (p,v3++aFW x,v14,v15,v16,())
 | 0,x,v3,h0,h1,_,_,N=>W
 | k+1,x,v3,h0,h1,h9,hv,N=>by
  rw[show k+1+1+N=(k+1+N)+1 by omega,cZ];have e1:ltI ((9-(k+1):Nat):Int) 9=true:=by rw[aE]; exact oT Z
  have e2:=bO i Z;have e3:ltI ((i+1:Nat):Int) (p.length:Int)=false:=by rw[aE]; exact oF Z
  have e0:ltI 0 (x:Int)=true:=by rw[aE]; exact oT Z
  have hxB:x<10^9:=Nat.lt_of_lt_of_le h1 (Nat.pow_le_pow_right O h9);have e4:((x:Nat):Int).tmod 10=((x%10:Nat):Int):=rfl;have e5:((x:Nat):Int).tdiv 10=((x/10:Nat):Int):=rfl;have e6:IntKind.wrap .u8 (aB .u64 (48+((x%10:Nat):Int)))=48+((x%10:Nat):Int):=by rw[uE Z Z,a4Q Z Z]
  have e7:aB .u64 ((x/10:Nat):Int)=((x/10:Nat):Int):=uE Z Z;have e8:aB .i64 (((9-(k+1):Nat):Int)+1)=((9-k:Nat):Int):=by rw[wrap64 Z Z]; omega
  have e10:Nat.ble [48+((x%10:Nat):Int)].length 1048576=true:=rfl;have e11:Nat.ble v3.length 1048576=true:=by rw[dO]; exact oT Z
  simp only[eW,e1,e2,e3,e0,e4,e5,e6,e7,e8,e10,e11,oC,oD]
  by_cases hx:x<10
  ·have hz:x/10=0:=Z
   have hm:x%10=x:=Nat.mod_eq_of_lt hx;rw[hz,hm,a2D hx,show k+1+N=(k+N)+1 by omega,cZ];have e12:ltI 0 ((0:Nat):Int)=false:=rfl;cases hk:ltI ((9-k:Nat):Int) 9 with
   | true=>simp only[eW,hk,e2,e3,e12,oC,oD]
   | false=>simp only[eW,hk,oD]
  ·rw[aYY hx,aTO p hi hp v14 v15 v16 k (x/10) (v3++[48+((x%10:Nat):Int)]) Z (by rw[Nat.pow_succ]at h1; omega) Z (by rw[oH,List.length_singleton]; omega) N,List.append_assoc];rfl
theorem aRY u i:(pcs u).getD i 0=((u/1000000000^i%1000000000:Nat)):=by
 induction i generalizing u with
 | zero =>
  by_cases h:u=0
  ·subst h; rw[aC4]; rfl
  ·rw[aJE h]; simp
 | succ i ih =>
  by_cases h:u=0
  ·subst h; rw[aC4]; simp
  ·rw[aJE h,List.getD_cons_succ,ih,Nat.pow_succ,Nat.mul_comm,<- Nat.div_div_eq_div_mul]
theorem aNL {u i}(h:i<(pcs u).length):0<u/1000000000^i:=by
 have:=bES h;exact Nat.div_pos this (Nat.pow_pos R)
theorem aV8 {u i}(h:(pcs u).length<=i):u/1000000000^i=0:=by
 refine Nat.div_eq_of_lt ?_;obtain⟨a,b,c⟩:=jQ u;have h1:=RX a;have h2:=aWT h;grind
def aJR(u:Nat):Nat->List Int
 | 0=>[]
 | i+1=>if i+1<(pcs u).length then aJR u i++XZ (u/1000000000^i%1000000000) 9 else aJR u i++aFW (u/1000000000^i)
theorem aPP u:∀ i,i<(pcs u).length->aJR u i++aFW (u/1000000000^i)=aFW u
 | 0,_=>by simp[aJR]
 | i+1,h=>by
  have ih:=aPP u i Z;have hp:=aNL h;have e:u/1000000000^(i+1)=u/1000000000^i/1000000000:=by rw[Nat.pow_succ,Nat.div_div_eq_div_mul]
  have h109:(10:Nat)^9=1000000000:=O
  have hr:=a0U 9 (u/1000000000^i) Z;rw[h109,<- e,<- aX4 (u/1000000000^i%1000000000) (u/1000000000^i) 9 O (by rw[Nat.mod_mod])]at hr;rw[aJR,if_pos h,List.append_assoc,<- hr];exact ih
theorem a9M {u}(h:0<(pcs u).length):aJR u (pcs u).length=aFW u:=by
 obtain⟨k,hk⟩:∃ k,(pcs u).length=k+1:=⟨(pcs u).length-1,by omega⟩;rw[hk,aJR,if_neg Z];exact aPP u k Z
theorem a9R u {i}(h:i<(pcs u).length):(aJR u i).length<=Lib.nDigits u:=by
 have:=oZ List.length (aPP u i h);rw[oH,aDB,aDB]at this;omega
theorem aH0 {u}(hu:Lib.nDigits u<=1000000):(pcs u).length*9<=1000008:=by
 have h1:=Lib.lt_pow_nDigits u;have h2:10^Lib.nDigits u<=10^(9*((Lib.nDigits u+8)/9)):=Nat.pow_le_pow_right R Z;rw[bCI]at h2;have:=aAA (n:=u) (k:=(Lib.nDigits u+8)/9) Z;omega
theorem a5W u (hu:Lib.nDigits u<=1000000)(h0:0<(pcs u).length):tB (pcs u,List.replicate 0 0,pcs u,((pcs u).length:Int),0,())=some (aFW u,()):=by
 have hlen:=aH0 hu;have key:=aU (step:=kQ) (N:=2^64) (λt=>(pcs u,aJR u t,pcs u,((pcs u).length:Int),(t:Int),())) (pcs u).length (aJR u (pcs u).length,()) Z (λt ht=>?_) ?_
 ·rw[a9M h0]at key;exact key
 ·have e1:ltI (t:Int) ((pcs u).length:Int)=true:=by rw[aE]; exact oT Z
  have e2:aF (t:Int) (pcs u).length=true:=by rw[aL]; exact oT Z
  have e3:=bO t Z;have hol:=a9R u ht;have hx:u/1000000000^t%1000000000<1000000000:=Nat.mod_lt _ O;rw[aJR]
  by_cases h:t+1<(pcs u).length
  ·have hi:=a6M (pcs u) (aJR u t) (i:=t) (x:=u/1000000000^t%1000000000) h Z hx Z (pcs u) ((pcs u).length:Int) (t:Int);rw[if_pos h];simp only[kQ,e1,e2,e3,oC,oN,aRY,hi,aD]
  ·have hz:u/1000000000^(t+1)=0:=aV8 Z;have hp:=aNL ht;have hm:u/1000000000^t%1000000000=u/1000000000^t:=by
    rw[Nat.pow_succ,<- Nat.div_div_eq_div_mul]at hz;grind
   rw[hm]at hx;have h109:(10:Nat)^9=1000000000:=O
   have hi:=aTO (pcs u) (i:=t) Z Z (pcs u) ((pcs u).length:Int) (t:Int) 9 (u/1000000000^t) (aJR u t) hp (by rw[h109]; exact hx) (oM _) Z (2^64-10);have hi:nZ (pcs u,aJR u t,(t:Int),((u/1000000000^t:Nat):Int),0,pcs u,((pcs u).length:Int),(t:Int),())=_:=hi;rw[if_neg h];simp only[kQ,e1,e2,e3,oC,oN,aRY,hm,hi,aD]
 ·have e1:ltI ((pcs u).length:Int) ((pcs u).length:Int)=false:=by rw[aE]; exact oF Z
  simp only[kQ,e1,oD]
def aWL(l:List Int):Nat->List Int
 | 0=>l
 | t+1=>((aWL l t).set t (l.getD (l.length-1-t) 0)).set (l.length-1-t) (l.getD t 0)
theorem aLC l:∀ t,2*t<=l.length->(aWL l t).length=l.length/\∀ x,x<l.length->(aWL l t).getD x 0=if x<t\/l.length-1-t<x then l.getD (l.length-1-x) 0 else l.getD x 0
 | 0,_=>⟨rfl,λx hx=>by rw[if_neg Z]; rfl⟩
 | t+1,h=>by
  obtain⟨h1,h2⟩:=aLC l t Z;refine⟨by rw[aWL,List.length_set,List.length_set,h1],λx hx=>?_⟩;rw[aWL];grind
theorem a89 l:aWL l (l.length/2)=l.reverse:=by
 obtain⟨h1,h2⟩:=aLC l (l.length/2) Z;refine List.ext_getElem W λx hx hy=>?_
 grind
theorem a1Z {l:List Int}(hl:l.length<=4000000):WT (t:=.int .u8) fL l ()=some l.reverse:=by
 have key:=aU (step:=gY) (N:=2^64) (λt=>((0,0,l.length),(t:Int),(l.length:Int)-1-(t:Int),[aWL l t],())) (l.length/2) ([l.reverse],()) Z (λt ht=>?_) ?_
 ·have key:lW ((0,0,l.length),0,(l.length:Int)-1,[l],())=some ([l.reverse],()):=by
   rw[show (l.length:Int)-1-((0:Nat):Int)=(l.length:Int)-1 by omega]at key;exact key
  have e2:aB .i64 (((l.length:Nat):Int)-1)=(l.length:Int)-1:=wrap64 Z Z;unfold WT fL;simp only[e2,key,aD,List.length_reverse,aP6,oC]
 ·obtain⟨h1,h2⟩:=aLC l t Z;obtain⟨j,hj⟩:∃ j:Nat,l.length-1-t=j:=⟨_,rfl⟩;have ej:(l.length:Int)-1-(t:Int)=(j:Int):=Z
  have ej':(l.length:Int)-1-((t+1:Nat):Int)=(j:Int)-1:=Z
  have g1:=h2 t Z;have g2:=h2 j Z;rw[if_neg Z]at g1 g2;rw[aWL,ej,ej',hj];generalize aWL l t=r at *;have e1:ltI (t:Int) (j:Int)=true:=by rw[aE]; exact oT Z
  have e2:aF (t:Int) l.length=true:=by rw[aL]; exact oT Z
  have e3:aF (j:Int) l.length=true:=by rw[aL]; exact oT Z
  have e4:Nat.blt t r.length=true:=by rw[b9]; exact oT Z
  have e5:Nat.blt j r.length=true:=by rw[b9]; exact oT Z
  have e6:(0+t)*1=t:=Z
  have e7:(0+j)*1=j:=Z
  have e8:=bO t Z;have e9:aB .i64 ((j:Int)-1)=(j:Int)-1:=wrap64 Z Z;simp only[gY,e1,e2,e3,e4,e5,e6,e7,e8,e9,oC,oN,WD,U0,V4,List.length_set,g1,g2]
 ·have e1:ltI ((l.length/2:Nat):Int) ((l.length:Int)-1-((l.length/2:Nat):Int))=false:=by rw[aE]; exact oF Z
  simp only[gY,e1,oD,a89]
theorem a1B(L:List UInt8):aPL (L.map λb=>b.toNat)=⟨L.toArray⟩:=by
 have key:∀ (L:List UInt8) (r:ByteArray),(L.map λb=>(b.toNat:Int)).foldl (λr n=>r.push (UInt8.ofNat n.toNat)) r=⟨r.data++L.toArray⟩:=by
  intro L
  induction L with
  | nil=>simp
  | cons b L ih =>
   simp_all
 unfold aPL
 simp_all
theorem aJU u (hu:Lib.nDigits u<=1000000):cX (pcs u,())=some (Dn u,()):=by
 have hlen:=aH0 hu;unfold cX;dsimp only;rw[eG]
 by_cases h0:u=0
 ·subst h0;rw[aC4,oT (by rfl),oC,bE1]
 ·have hp:0<(pcs u).length:=by rw[aJE h0]; simp
  have e1:aB .i64 (9*((pcs u).length:Int))=((9*(pcs u).length:Nat):Int):=by rw[wrap64 Z Z]; omega
  have e2:ltI ((9*(pcs u).length:Nat):Int) 0=false:=by rfl
  have e3:ltI 1048576 ((9*(pcs u).length:Nat):Int)=false:=by rw[aE]; grind
  rw[oF Z,oD,e1,e2,e3];rw[a5W u hu hp,aD];rw[a1Z (by rw[aDB]; omega),aD];unfold aFW;rw[<- List.map_reverse,List.reverse_reverse,a1B];rfl
theorem a71 k:pw k=((1000000000^k:Nat)):=by rfl
theorem aQ1 u:u<1000000000^(pcs u).length:=by
 obtain⟨a,b,c⟩:=jQ u;have:=RX a;grind
theorem ZM {x y}(h:x<=y):(pcs x).length<=(pcs y).length:=aAA (Nat.lt_of_le_of_lt h (aQ1 y))
theorem a4N {u k}(h:(pcs u).length=k+1):0<(pcs u).getD k 0:=by
 obtain⟨a,b,c⟩:=jQ u;have hne:pcs u≠[]:=λh0=>W
 have h1:=b _ (List.getLast?_eq_some_getLast hne);have h2:=a.get k;grind
theorem a0Z {acur b1 out:List Int} {f n i2:Int} {i m:Nat} (A:List (List Int)) (ha:Pc acur) (hb:Pc b1) (hbl:b1.length=m+2) (hn:n=((m+2:Nat):Int)) (hi2:i2=(i:Int)) (hl:i+m+2<acur.length) (hal:acur.length<=4000000)
  {g0 r0 bt:Int} (hbt:bt=b1.getD (m+1) 0) (hbt0:0<bt) {high:Int} (h0:0<=high/\high<1000000000000000000) (hg0:g0=high/bt) (hr0:r0=high%bt) {mm:Nat} (hmm:(mm:Int)<=g0)
  (hc:∀ t:Nat,t<mm->V1 bt (b1.getD m 0) (acur.getD (i+m) 0) (g0-t) (r0+t*bt)) (hs:¬ V1 bt (b1.getD m 0) (acur.getD (i+m) 0) (g0-mm) (r0+mm*bt)) :
  pD (f,acur,b1,n,out,i2,g0,r0,A,())=some (f,acur,b1,n,out,i2,g0-mm,A,()):=by
 subst hn; subst hi2;have hg2:g0<1000000000000000000:=by rw[hg0]; exact Int.lt_of_le_of_lt (Int.ediv_le_self _ h0.1) h0.2
 have hr1:0<=r0:=by rw[hr0]; exact Int.emod_nonneg _ Z
 have hdm:r0+bt*g0=high:=by rw[hg0,hr0]; exact Int.emod_add_mul_ediv high bt
 have hrt:∀ t:Nat,(t:Int)<=g0->0<=r0+t*bt/\r0+t*bt<=high:=λt ht=>by
  have h1:0<=(t:Int)*bt:=Int.mul_nonneg Z Z;have h2:(t:Int)*bt<=g0*bt:=Int.mul_le_mul_of_nonneg_right ht Z;grind
 have e1:aB .i64 (((m+2:Nat):Int)-1)=((m+1:Nat):Int):=by rw[wrap64 Z Z]; omega
 have e2:aB .i64 (((m+2:Nat):Int)-2)=((m:Nat):Int):=by rw[wrap64 Z Z]; omega
 have e3:aF ((m+1:Nat):Int) b1.length=true:=by rw[aL]; exact oT Z
 have e4:aF ((m:Nat):Int) b1.length=true:=by rw[aL]; exact oT Z
 have e5:aB .i64 (aB .i64 ((i:Int)+((m+2:Nat):Int))-2)=((i+m:Nat):Int):=by rw[wrap64 (x:=(i:Int)+((m+2:Nat):Int)) Z Z,wrap64 Z Z]; omega
 have e6:aF ((i+m:Nat):Int) acur.length=true:=by rw[aL]; exact oT Z
 have e7:Nat.blt (i+m) acur.length=true:=by rw[b9]; exact oT Z
 have ha2:=ha.get (i+m);have hb2:=hb.get m;have stepE:∀ g r:Int,0<=g->g<=g0->0<=r->r<=high->kI (f,acur,b1,((m+2:Nat):Int),out,(i:Int),g,r,A,()) =
   if V1 bt (b1.getD m 0) (acur.getD (i+m) 0) g r then some (.inl (f,acur,b1,((m+2:Nat):Int),out,(i:Int),aB .u64 (g-1),aB .u64 (r+bt),A,())) else some (.inr (f,acur,b1,((m+2:Nat):Int),out,(i:Int),g,A,())):=by
  intro g r g1 g2 r1 r2;simp only[kI,e1,e2,e3,e4,e5,e6,e7,oC,oN,aE,<- hbt,bCC,aKR]
  by_cases c1:1000000000<=g
  ·rw[if_pos (show ¬ g<1000000000 by omega),if_pos (.inl c1)]
  ·rw[if_neg (show ¬ ¬ g<1000000000 by omega)]
   by_cases c2:r<1000000000
   ·have hm:=RH (n:=g) (x:=b1.getD m 0) Z hb2;have w1:aB .u64 (r*1000000000)=r*1000000000:=uE Z Z;have w2:aB .u64 (r*1000000000+acur.getD (i+m) 0)=r*1000000000+acur.getD (i+m) 0:=uE Z Z;have w3:aB .u64 (g*b1.getD m 0)=g*b1.getD m 0:=uE Z Z;rw[if_pos c2,w1,w2,w3]
    by_cases c3:r*1000000000+acur.getD (i+m) 0<g*b1.getD m 0
    ·rw[if_pos c3,if_pos (.inr ⟨c2,c3⟩)]
    ·rw[if_neg c3,if_neg (λh=>by rcases h with h|h; exact c1 h; exact c3 h.2)]
   ·rw[if_neg c2,if_neg (λh=>by rcases h with h|h; exact c1 h; exact c2 h.1)]
 have key:=aU (step:=kI) (N:=2^64) (λt=>(f,acur,b1,((m+2:Nat):Int),out,(i:Int),g0-(t:Int),r0+(t:Int)*bt,A,())) mm (f,acur,b1,((m+2:Nat):Int),out,(i:Int),g0-mm,A,()) Z (λt ht=>?_) ?_
 ·rw[show g0-((0:Nat):Int)=g0 by omega,show r0+((0:Nat):Int)*bt=r0 by simp]at key;exact key
 ·obtain⟨q1,q2⟩:=hrt t Z;obtain⟨q3,q4⟩:=hrt (t+1) Z;have e9:r0+((t+1:Nat):Int)*bt=r0+(t:Int)*bt+bt:=by rw[Int.natCast_add,Int.add_mul]; simp[Int.add_assoc]
  rw[stepE _ _ Z Z q1 q2,if_pos (hc t ht),e9];rw[e9]at q3 q4;rw[uE (x:=g0-(t:Int)-1) Z Z,uE (x:=r0+(t:Int)*bt+bt) q3 Z,show g0-(t:Int)-1=g0-((t+1:Nat):Int)by omega]
 ·obtain⟨q1,q2⟩:=hrt mm Z;rw[stepE _ _ Z Z q1 q2,if_neg hs]
theorem aV2 {acur b1 out:List Int} {f:Int} {i m L:Nat} (A:List (List Int)) (ha:Pc acur) (hb:Pc b1) (hbl:b1.length=m+2) (htop:0<b1.getD (m+1) 0) (hal:acur.length=L) (hl:i+m+2<L) (hL:L<=4000000)
  (hol:out.length=L-(m+2)) (hoi:out.getD i 0=0) (ho:Pc out) (hz:vl acur<pw (i+1)*vl b1) :
  ∃ acur' out',eF (f,acur,b1,((m+2:Nat):Int),out,(i:Int),A,())=some (.inl (f,acur',b1,((m+2:Nat):Int),out',(i:Int)-1,A,())) /\
   Pc acur'/\acur'.length=L/\Pc out'/\out'.length=out.length/\vl acur'<pw i*vl b1/\vl out'*vl b1+vl acur'=vl out*vl b1+vl acur/\∀ j,j<i->out'.getD j 0=out.getD j 0:=by
 have hV0:=RX hb;rw[hbl]at hV0;have pP:=SO i;have hV1:0<vl b1:=by
  have:=(a3Z hb (k:=m) (λj hj=>L0 hb hV0 Z) Z).1;have h1:0<(b1.getD (m+1) 0*1000000000+b1.getD m 0)*pw m:=Int.mul_pos (by have:=hb.get m; omega) (SO m);omega
 have hzz:vl acur<pw (i+m+3):=by
  have h1:pw (i+1)*vl b1<=pw (i+1)*pw (m+2):=Int.mul_le_mul_of_nonneg_left (Int.le_of_lt hV0) (Int.le_of_lt (SO _));rw[<- aG3,show i+1+(m+2)=i+m+3 by omega]at h1;omega
 have gs:=bF9 ha hb hbl htop (i:=i) Z hzz;have hn:=tS ha;have hVP:0<vl b1*pw i:=Int.mul_pos hV1 pP;obtain⟨qh,hqh⟩:∃ qh,qh=vl acur/(vl b1*pw i):=⟨_,rfl⟩;have q0:0<=qh:=by rw[hqh]; exact Int.ediv_nonneg hn (Int.le_of_lt hVP)
 have q1:qh*(vl b1*pw i)<=vl acur:=by rw[hqh]; exact Int.ediv_mul_le _ Z
 have q2:vl acur<(qh+1)*(vl b1*pw i):=by rw[hqh]; exact Int.lt_ediv_add_one_mul_self _ hVP
 have qB:qh<1000000000:=by
  rw[hqh];refine Int.ediv_lt_of_lt_mul hVP ?_;rw[NC]at hz;have:1000000000*pw i*vl b1=1000000000*(vl b1*pw i):=W
  omega
 have hx1:=ha.get (i+m+2);have hx2:=ha.get (i+m+1);obtain⟨high,hhigh⟩:∃ high,high=acur.getD (i+m+2) 0*1000000000+acur.getD (i+m+1) 0:=⟨_,rfl⟩;rw[<- hhigh]at gs;have hb0:0<=high/\high<1000000000000000000:=Z
 obtain⟨mm,m1,m2,m3,m4,m5⟩:=gs.bEA q0 q1 q2 qB;have gl:=a0Z (f:=f) (n:=((m+2:Nat):Int)) (i2:=(i:Int)) (out:=out) A ha hb hbl rfl rfl Z Z rfl htop hb0 rfl rfl m1 m2 m3;have hg:0<=high/b1.getD (m+1) 0-(mm:Int)/\high/b1.getD (m+1) 0-(mm:Int)<1000000000:=⟨by omega,by
  rcases Int.lt_or_le (high/b1.getD (m+1) 0-(mm:Int)) 1000000000 with h|h
  ·exact h
  ·exact absurd (.inl h) m3⟩
 obtain⟨g,hgd⟩:∃ g,g=high/b1.getD (m+1) 0-(mm:Int):=⟨_,rfl⟩;rw[<- hgd]at gl m4 m5 hg;have tr:=a14 (i:=i) (n:=m+2) ha hb hbl Z (by rw[show i+(m+2)+1=i+m+3 by omega]; exact hzz) hg q1 q2 m4 m5;have te:=a5M (n:=g) (at':=i) ha hb hg Z Z;rw[hbl]at te
 -- the operations
 have e1:ltI (i:Int) 0=false:=by rw[aE]; exact oF Z
 have e2:aB .i64 ((i:Int)+((m+2:Nat):Int))=((i+m+2:Nat):Int):=by rw[wrap64 Z Z]; omega
 have e3:aF ((i+m+2:Nat):Int) acur.length=true:=by rw[aL]; exact oT Z
 have e4:Nat.blt (i+m+2) acur.length=true:=by rw[b9]; exact oT Z
 have e5:aB .i64 (((i+m+2:Nat):Int)-1)=((i+m+1:Nat):Int):=by rw[wrap64 Z Z]; omega
 have e6:aF ((i+m+1:Nat):Int) acur.length=true:=by rw[aL]; exact oT Z
 have e7:Nat.blt (i+m+1) acur.length=true:=by rw[b9]; exact oT Z
 have e8:aB .i64 (((m+2:Nat):Int)-1)=((m+1:Nat):Int):=by rw[wrap64 Z Z]; omega
 have e9:aF ((m+1:Nat):Int) b1.length=true:=by rw[aL]; exact oT Z
 have e10:eqI (b1.getD (m+1) 0) 0=false:=by rw[eG]; exact oF Z
 have e11:aB .u64 (acur.getD (i+m+2) 0*1000000000)=acur.getD (i+m+2) 0*1000000000:=uE Z Z;have e12:aB .u64 (acur.getD (i+m+2) 0*1000000000+acur.getD (i+m+1) 0)=high:=by rw[uE Z Z,hhigh]
 have e13:high.tdiv (b1.getD (m+1) 0)=high/b1.getD (m+1) 0:=Int.tdiv_eq_ediv_of_nonneg hb0.1;have e14:high.tmod (b1.getD (m+1) 0)=high%b1.getD (m+1) 0:=Int.tmod_eq_emod_of_nonneg hb0.1;have hq0:0<=high/b1.getD (m+1) 0:=Int.ediv_nonneg hb0.1 Z;have hq1:high/b1.getD (m+1) 0<=high:=Int.ediv_le_self _ hb0.1;have e15:aB .u64 (high/b1.getD (m+1) 0)=high/b1.getD (m+1) 0:=uE hq0 Z;have e16:aF (i:Int) out.length=true:=by rw[aL]; exact oT Z
 have e17:Nat.blt i out.length=true:=by rw[b9]; exact oT Z
 have e18:aB .i64 ((i:Int)-1)=(i:Int)-1:=wrap64 Z Z;have hpwi:pw i*vl b1=vl b1*pw i:=Int.mul_comm _ _;have fin:∀ a':List Int,Pc a'->a'.length=acur.length->vl a'=vl acur-qh*(vl b1*pw i) ->
   Pc a'/\a'.length=L/\Pc (out.set i qh)/\(out.set i qh).length=out.length/\vl a'<pw i*vl b1/\vl (out.set i qh)*vl b1+vl a'=vl out*vl b1+vl acur/\∀ j,j<i->(out.set i qh).getD j 0=out.getD j 0:=by
  intro a' p1 p2 p3;refine⟨p1,p2.trans hal,ho.set ⟨q0,qB⟩ _,List.length_set,?_,?_,λj hj=>Go.De.getD_set_ne _ _ Z⟩
  ·rw[p3,hpwi];have:(qh+1)*(vl b1*pw i)=qh*(vl b1*pw i)+vl b1*pw i:=W
   omega
  ·rw[aIH out i qh Z,hoi,p3];grind
 rcases tr with ⟨t1,t2,t3,t4,t5⟩|⟨t1,t2,t3,t4,t5,t6,t7⟩
 ·refine⟨(tkS b1 g i acur (m+2+1)).1,out.set i qh,?_,fin _ t3 t4 t5⟩;rw[t1]at te;have d0:decide ((0:Int)<0)=false:=rfl;rw[d0,t2]at te;rw[t2]at gl ⊢;simp only[eF,e1,e2,e3,e4,e5,e6,e7,e8,e9,e10,e11,e12,e13,e14,e15,oC,oD,Bool.not_false,oN,gl,aD,te,e16,e17,e18]
 ·refine⟨(bkS b1 i (tkS b1 g i acur (m+2+1)).1 (m+2+1)).1,out.set i qh,?_,fin _ t5 t6 t7⟩;have be:=back_eq (at':=i) t3 hb Z Z;rw[hbl]at be;rw[t1]at te;have d0:decide ((0:Int)<1)=true:=rfl;rw[d0]at te;have e19:aB .u64 (g-1)=qh:=by rw[uE Z Z]; omega
  simp only[eF,e1,e2,e3,e4,e5,e6,e7,e8,e9,e10,e11,e12,e13,e14,e15,oC,oD,Bool.not_false,oN,gl,aD,te,be,e16,e17,e18,e19]
theorem a5S(a b:Nat)(hb2:2<=(pcs b).length)(hab:b<=a)(hl:(pcs a).length<=500000)(A:List (List Int)):iI () (pcs a,pcs b,()) A=some ((pcs (a/b),pcs (a%b),()),A):=by
 obtain⟨m,hm⟩:∃ m,(pcs b).length=m+2:=⟨(pcs b).length-2,by omega⟩;have hba:=ZM hab;have htop:=a4N (u:=b) (k:=m+1) hm;have hb0:0<b:=by
  rcases Nat.eq_zero_or_pos b with h|h
  ·subst h; rw[aC4]at hm; cases hm
  ·exact h
 have htB:=((jQ b).1.get (m+1)).2;obtain⟨top,htop'⟩:∃ top:Nat,(pcs b).getD (m+1) 0=top:=⟨((pcs b).getD (m+1) 0).toNat,by omega⟩;rw[htop']at htop htB;obtain⟨f,hf⟩:∃ f:Nat,f=1000000000/(top+1):=⟨_,rfl⟩;have hf1:1<=f:=by rw[hf]; exact Nat.div_pos za za
 have hf2:(top+1)*f<=1000000000:=by rw[hf]; exact Nat.mul_div_le _ _
 have hfB:f<1000000000:=by
  have:2*f<=(top+1)*f:=Nat.mul_le_mul_right _ za;omega
 -- the divisor keeps its length
 have hbf:(pcs (b*f)).length=m+2:=by
  have h1:b<(top+1)*1000000000^(m+1):=by
   have:=(bBC (jQ b).1 (k:=m+1) (λj hj=>L0 (jQ b).1 (k:=m+2) (by have:=RX (jQ b).1; rw[hm]at this; exact this) za) za).2;rw[(jQ b).2.2,htop',a71]at this;have e:((top:Int)+1)*((1000000000^(m+1):Nat):Int)=(((top+1)*1000000000^(m+1):Nat):Int):=by rw[Int.natCast_mul]; rfl
   omega
  have h2:b*f<1000000000^(m+2):=by
   have h3:b*f<(top+1)*1000000000^(m+1)*f:=Nat.mul_lt_mul_of_pos_right h1 hf1;have h4:(top+1)*1000000000^(m+1)*f=(top+1)*f*1000000000^(m+1):=by rw[Nat.mul_right_comm]
   have h5:(top+1)*f*1000000000^(m+1)<=1000000000*1000000000^(m+1):=Nat.mul_le_mul_right _ hf2;have h6:1000000000^(m+2)=1000000000*1000000000^(m+1):=by rw[Nat.pow_succ,Nat.mul_comm]
   omega
  have h3:=aAA h2;have h4:=ZM (show b<=b*f from Nat.le_mul_of_pos_right b hf1);omega
 have haf:=ZM (show a<=a*f from Nat.le_mul_of_pos_right a hf1);have habf:=ZM (show b*f<=a*f from Nat.mul_le_mul_right f hab);have hafl:(pcs (a*f)).length<=(pcs a).length+1:=by
  refine aAA ?_;rw[Nat.pow_succ];exact Nat.mul_lt_mul'' (aQ1 a) hfB
 obtain⟨x1,x2,x3⟩:=jQ (a*f);obtain⟨y1,y2,y3⟩:=jQ (b*f);obtain⟨L,hL⟩:∃ L,L=(pcs (a*f)).length+1:=⟨_,rfl⟩;have ha1:Pc (pcs (a*f)++[0]):=x1.append (λx hx=>by rw[List.mem_singleton.1 hx]; decide);have ha2:(pcs (a*f)++[0]).length=L:=by simp[hL]
 have ha3:vl (pcs (a*f)++[0])=((a*f:Nat):Int):=by rw[L7,x3]; simp[vl]
 have hbtop:=a4N (u:=b*f) (k:=m+1) hbf;have hbfpos:0<vl (pcs (b*f)):=by rw[y3]; have:=Nat.mul_pos hb0 hf1; omega
 -- the rounds
 have rounds:=bF3 (step:=eF) (N:=2^64)
  (Z:=λz=>∃ acur out,z=((f:Int),acur,out,A,())/\Pc acur/\acur.length=L/\Pc out/\out.length=L-(m+2)/\vl acur<vl (pcs (b*f))/\vl out*vl (pcs (b*f))+vl acur=((a*f:Nat):Int))
  (λt y=>∃ acur out,y=((f:Int),acur,pcs (b*f),((m+2:Nat):Int),out,((L-(m+2):Nat):Int)-1-(t:Int),A,())/\Pc acur/\acur.length=L/\Pc out/\out.length=L-(m+2)/\vl acur<pw (L-(m+2)-t)*vl (pcs (b*f))/\vl out*vl (pcs (b*f))+vl acur=((a*f:Nat):Int)/\∀ j,j<L-(m+2)-t->out.getD j 0=0)
  (L-(m+2)) ((f:Int),pcs (a*f)++[0],pcs (b*f),((m+2:Nat):Int),List.replicate (L-(m+2)) 0,((L-(m+2):Nat):Int)-1,A,()) za ?_ ?_ ?_
 ·obtain⟨z,z1,acur,out,rfl,c1,c2,c3,c4,c5,c6⟩:=rounds;have z1:pH ((f:Int),pcs (a*f)++[0],pcs (b*f),((m+2:Nat):Int),List.replicate (L-(m+2)) 0,((L-(m+2):Nat):Int)-1,A,())=_:=z1;obtain⟨r,hr⟩:∃ r:Nat,vl acur=r:=⟨(vl acur).toNat,by have:=tS c1; omega⟩;obtain⟨q,hq⟩:∃ q:Nat,vl out=q:=⟨(vl out).toNat,by have:=tS c3; omega⟩;rw[hr,hq,y3]at c6;rw[hr,y3]at c5;have e:q*(b*f)+r=a*f:=by
   have:((q*(b*f)+r:Nat):Int)=((a*f:Nat):Int):=by rw[Int.natCast_add,Int.natCast_mul]; exact c6
   exact Int.ofNat_inj.1 this
  have hrlt:r<b*f:=za
  have hbf0:0<b*f:=Nat.mul_pos hb0 hf1;have hq':q=a/b:=by
   have:a*f/(b*f)=q:=by rw[<- e,Nat.mul_comm q,Nat.mul_add_div hbf0,Nat.div_eq_of_lt hrlt,Nat.add_zero]
   rw[<- this,Nat.mul_div_mul_right _ _ hf1]
  have hr':r=a%b*f:=by
   have:a*f%(b*f)=r:=by rw[<- e,Nat.mul_comm q,Nat.mul_add_mod,Nat.mod_eq_of_lt hrlt]
   rw[<- this,Nat.mul_mod_mul_right]
  have t1:DT acur=pcs r:=MC c1 hr;have t2:DT out=pcs q:=MC c3 hq;have hrl:(pcs r).length<=1048576:=by
   have:=ZM (show r<=a*f by omega);omega
  have sm:=aZF r (n:=f) ⟨hf1,hfB⟩ hrl A;have hrf:r/f=a%b:=by rw[hr',Nat.mul_div_cancel _ hf1]
  rw[hrf]at sm
  -- the first operations
  have w1:aB .i64 (((m+2:Nat):Int)-1)=((m+1:Nat):Int):=by rw[wrap64 za za]; omega
  have w2:aF ((m+1:Nat):Int) (m+2)=true:=by rw[aL]; exact oT za
  have w3:aB .u64 ((top:Int)+1)=((top+1:Nat):Int):=by rw[uE za za]; omega
  have w4:eqI ((top+1:Nat):Int) 0=false:=by rw[eG]; exact oF za
  have w5:(1000000000:Int).tdiv ((top+1:Nat):Int)=(f:Int):=by rw[hf]; rfl
  have w6:aB .u64 (f:Int)=(f:Int):=uE za za;have s1:=aS4 a (n:=f) hfB za A;have s2:=aS4 b (n:=f) hfB za A;have w7:Nat.ble [(0:Int)].length 1048576=true:=rfl;have w8:Nat.ble (pcs (a*f)).length 1048576=true:=by rw[dO]; exact oT za
  have w9:pE (pcs a,(f:Int),pcs (a*f)++[0],pcs (b*f),((m+2:Nat):Int),A,())=some ((f:Int),pcs (a*f)++[0],pcs (b*f),((m+2:Nat):Int),A,()):=by
   show bF pJ (2^64) _=_;rw[show (2:Nat)^64=18446744073709551615+1 by rfl,cZ];have:ltI ((pcs a).length:Int) (L:Int)=true:=by rw[aE]; exact oT za
   simp only[pJ,ha2,this,Bool.not_true,oD]
  have w10:aB .i64 ((L:Int)-((m+2:Nat):Int))=((L-(m+2):Nat):Int):=by rw[wrap64 za za]; omega
  have w11:ltI ((L-(m+2):Nat):Int) 0=false:=by rw[aE]; exact oF za
  have w12:ltI ((L-(m+2):Nat):Int) ((L-(m+2):Nat):Int)=false:=by rw[aE]; exact oF za
  have w13:ltI 1048576 ((L-(m+2):Nat):Int)=false:=by rw[aE]; exact oF za
  have w14:aB .i64 (((L-(m+2):Nat):Int)-1)=((L-(m+2):Nat):Int)-1:=wrap64 za za;unfold iI;simp only[hm,w1,w2,oN,htop',w3,w4,w5,w6,oC,oD,s1,aD,w7,w8,s2,hbf,w9,ha2,w10,w11,w12,w13,w14,Bool.not_false,z1,aAV (show acur.length<=4000000 by omega),t1,sm,aAV (show out.length<=4000000 by omega),t2,hq'];rfl
 ·refine⟨_,_,by rw[show ((L-(m+2):Nat):Int)-1-((0:Nat):Int)=((L-(m+2):Nat):Int)-1 by omega],ha1,ha2,Pc.rep _,by simp,?_,by rw[aBR,ha3]; simp,λj hj=>by simp[oQ,List.getElem?_replicate]; split <;> rfl⟩;rw[ha3,<- x3,Nat.sub_zero];have h1:=RX x1;have h2:=(bBC y1 (k:=m+1) (λj hj=>L0 y1 (k:=m+2) (by have:=RX y1; rw[hbf]at this; exact this) za) za).1;have h3:pw (m+1)<=vl (pcs (b*f)):=by
   have:1*pw (m+1)<=(pcs (b*f)).getD (m+1) 0*pw (m+1):=Int.mul_le_mul_of_nonneg_right za (Int.le_of_lt (SO _));omega
  have h4:pw (L-(m+2))*pw (m+1)<=pw (L-(m+2))*vl (pcs (b*f)):=Int.mul_le_mul_of_nonneg_left h3 (Int.le_of_lt (SO _));rw[<- aG3,show L-(m+2)+(m+1)=(pcs (a*f)).length by omega]at h4;omega
 ·rintro t y ht ⟨acur,out,rfl,c1,c2,c3,c4,c5,c6,c7⟩;obtain⟨i,hi⟩:∃ i,i=L-(m+2)-t-1:=⟨_,rfl⟩;have ei:((L-(m+2):Nat):Int)-1-(t:Int)=(i:Int):=za
  have ei':((L-(m+2):Nat):Int)-1-((t+1:Nat):Int)=(i:Int)-1:=za
  rw[show L-(m+2)-t=i+1 by omega]at c5 c7;obtain⟨acur',out',s,d1,d2,d3,d4,d5,d6,d7⟩:=aV2 (f:=(f:Int)) A c1 y1 hbf hbtop c2 (i:=i) za za c4 (c7 i za) c3 c5;rw[ei];refine⟨_,s,acur',out',by rw[ei'],d1,d2,d3,d4.trans c4,?_,d6.trans c6,λj hj=>?_⟩
  ·rw[show L-(m+2)-(t+1)=i by omega]; exact d5
  ·rw[d7 j za]; exact c7 j za
 ·rintro y ⟨acur,out,rfl,c1,c2,c3,c4,c5,c6,c7⟩;rw[Nat.sub_self,aU6,Int.one_mul]at c5;have e1:ltI (((L-(m+2):Nat):Int)-1-((L-(m+2):Nat):Int)) 0=true:=by rw[aE]; exact oT za
  exact⟨_,by simp only[eF,e1,Bool.not_true,oD],acur,out,rfl,c1,c2,c3,c4,c5,c6⟩
theorem XD a b:Lib.nDigits (a+b)<=max (Lib.nDigits a) (Lib.nDigits b)+1:=by
 have h1:=jZ a;have h2:=jZ b;have h3:10^Lib.nDigits a<=10^max (Lib.nDigits a) (Lib.nDigits b):=Nat.pow_le_pow_right R Z;have h4:10^Lib.nDigits b<=10^max (Lib.nDigits a) (Lib.nDigits b):=Nat.pow_le_pow_right R Z;refine HI ?_;grind
theorem aKG a b:Lib.nDigits (a*b)<=Lib.nDigits a+Lib.nDigits b:=by
 have p1:=nDigits_pos a;obtain⟨k,hk⟩:∃ k,Lib.nDigits a+Lib.nDigits b=k+1:=⟨Lib.nDigits a+Lib.nDigits b-1,by omega⟩;rw[hk];refine HI ?_;rw[<- hk,Nat.pow_add];exact Nat.mul_lt_mul'' (jZ a) (jZ b)
theorem aK2 {a b}(h:18<Lib.nDigits a\/18<Lib.nDigits b):uP (Dn a,Dn b,())=some (0,0,false,()):=by
 unfold uP;simp only[I9,aE];grind
theorem aIA {u}(hu:Lib.nDigits u<=1000000):(pcs u).length<=111112:=by
 have:=aH0 hu;omega
theorem a0K u:vl (pcs u++[0])=u:=by rw[L7,(jQ u).2.2]; rfl
theorem a0X u:Pc (pcs u++[0]):=(jQ u).1.append (λx hx=>by grind)
theorem a84 u k:vl (pcs u++List.replicate k 0)=u:=by rw[L7,(jQ u).2.2,aBR]; rfl
theorem bAY u k:Pc (pcs u++List.replicate k 0):=(jQ u).1.append (Pc.rep k)
theorem a86 {a b k:Nat} (h:(pcs b).length+k=(pcs a).length) (hl:(pcs a).length<=1048576) :
  ∃ l,WT (t:=.int .u64) dM (pcs a++[0]) (pcs b++List.replicate k 0,0,())=some l/\l.length<=1048577/\DT l=pcs (a+b):=by
 have hq:=bAY b k;have hp:=a0X a;have hql:(pcs b++List.replicate k (0:Int)).length=(pcs a).length:=by simp; omega
 have hpl:(pcs a++[(0:Int)]).length=(pcs a).length+1:=R
 have be:=back_eq (at':=0) hp hq Z Z;have bi:=bkI hp hq (at':=0) Z ((pcs b++List.replicate k 0).length+1) (oM _);refine⟨_,be,by rw[bi.len]; omega,MC bi.pc ?_⟩;have hv:=bi.val;rw[List.take_of_length_le Z,a0K,a84,hql,aU6,Int.one_mul]at hv;have hn:=RX bi.pc;have n0:=tS bi.pc;have ha:=aQ1 a;have hb:=aQ1 b;have hb2:1000000000^(pcs b).length<=1000000000^(pcs a).length:=Nat.pow_le_pow_right O Z
 have e2:pw (0+((pcs a).length+1))=1000000000*((1000000000^(pcs a).length:Nat):Int):=by rw[Nat.zero_add,NC,a71]
 rw[hql]at n0 hn ⊢;rcases bi.ca with hc|hc
 ·grind
 ·grind
theorem TL a b (ha:Lib.nDigits a<=900000)(hb:Lib.nDigits b<=900000):fZ (Dn a,Dn b,())=some (Dn (a+b),()):=by
 by_cases hs:Lib.nDigits a<=18/\Lib.nDigits b<=18
 ·exact aYH a b hs.1 hs.2
 ·have hba:=aK2 (a:=a) (b:=b) Z;have ca:=aEU a Z [];have cb:=aEU b Z [];have la:=aIA (u:=a) Z;have lb:=aIA (u:=b) Z;have hsum:=XD a b;have tx:=aJU (a+b) Z;have long:∀ x y:Nat,(pcs y).length<=(pcs x).length->(pcs x).length<=111112->x+y=a+b->(bif Nat.ble [0].length 1048576 then bif Nat.ble (pcs x).length 1048576 then bif !(ltI (aB .i64 ((aB .i64 (((pcs x++[0]).length:Int)-1))-((pcs y).length:Int))) 0) then bif !(ltI 1048576 (aB .i64 ((aB .i64 (((pcs x++[0]).length:Int)-1))-((pcs y).length:Int)))) then bif Nat.ble (pcs y).length 1048576 then aC (WT (t:=(.int .u64)) dM (pcs x++[0]) ((pcs y++List.replicate (aB .i64 ((aB .i64 (((pcs x++[0]).length:Int)-1))-((pcs y).length:Int))).toNat (0:Ty.den (.int .u64))),0,())) λy8 =>
    aC (bL y8 (()) []) λy9 =>
    aC (cX (y9.1,())) λy10 =>
    some (y10.1,()) else none else none else none else none else none)=some (Dn (a+b),()):=by
   intro x y h1 h2 h3;obtain⟨k,hk⟩:∃ k,(pcs y).length+k=(pcs x).length:=⟨(pcs x).length-(pcs y).length,by omega⟩;obtain⟨l,l1,l2,l3⟩:=a86 hk Z;have e0:((pcs x++[0]).length:Int)=((pcs x).length:Int)+1:=R
   have e1:aB .i64 (aB .i64 (((pcs x).length:Int)+1-1)-((pcs y).length:Int))=(k:Int):=by rw[wrap64 (x:=((pcs x).length:Int)+1-1) Z Z,wrap64 Z Z]; omega
   have e2:ltI (k:Int) 0=false:=by rw[aE]; exact oF Z
   have e3:ltI 1048576 (k:Int)=false:=by rw[aE]; exact oF Z
   have e4:Nat.ble (pcs x).length 1048576=true:=by rw[dO]; exact oT Z
   have e5:Nat.ble (pcs y).length 1048576=true:=by rw[dO]; exact oT Z
   rw[h3]at l3;rw[e0,e1,e2,e3,e4,e5,oN];rw[l1,aD,aAV Z,l3,aD];show (aC (cX (pcs (a+b),())) _)=_;rw[tx,aD]
  unfold fZ;simp only[hba,aD,oD,ca,cb,aE (((pcs a).length:Nat):Int) ((pcs b).length:Int)];grind
theorem a8L {a b k}(hab:b<=a)(h:(pcs b).length+k=(pcs a).length)(hl:(pcs a).length<=1048576) :
  ∃ c l,aF9 (t:=.int .u64) fJ (pcs a++[0]) (pcs b++List.replicate k 0,1,0,())=some (c,l)/\l.length<=1048577/\DT l=pcs (a-b):=by
 have hq:=bAY b k;have hp:=a0X a;have hql:(pcs b++List.replicate k (0:Int)).length=(pcs a).length:=by simp; omega
 have hpl:(pcs a++[(0:Int)]).length=(pcs a).length+1:=R
 have te:=a5M (n:=1) (at':=0) hp hq Z Z Z;have ti:=tkI hp hq (n:=1) (at':=0) Z Z ((pcs b++List.replicate k 0).length+1) (oM _);refine⟨_,_,te,by rw[ti.len]; omega,MC ti.pc ?_⟩;have hv:=ti.val;have hfin:=ti.fin Z;rw[List.take_of_length_le Z,a0K,a84,hfin,Int.add_zero,hql,aU6]at hv;have hn:=RX ti.pc;rw[ti.len,hpl]at hn;have n0:=tS ti.pc;rw[hql]at n0 hn ⊢
 rcases ti.bo with hc|hc
 ·grind
 ·grind
theorem I3 a b (ha:Lib.nDigits a<=900000)(hb:Lib.nDigits b<=900000)(h:b<=a):cY (Dn a,Dn b,())=some (Dn (a-b),0,()):=by
 by_cases hs:Lib.nDigits a<=18/\Lib.nDigits b<=18
 ·exact a0P a b hs.1 hs.2 h
 ·have hba:=aK2 (a:=a) (b:=b) Z;have ca:=aEU a Z [];have cb:=aEU b Z [];have la:=aIA (u:=a) Z;have hd:=A9 (show a-b<=a by omega);have tx:=aJU (a-b) Z;have hmono:=ZM h;have e:ltI (aFV a b) 0=false:=by
   rw[aE]; unfold aFV;grind
  obtain⟨k,hk⟩:∃ k,(pcs b).length+k=(pcs a).length:=⟨(pcs a).length-(pcs b).length,by omega⟩;obtain⟨c,l,l1,l2,l3⟩:=a8L h hk Z;have e0:((pcs a++[0]).length:Int)=((pcs a).length:Int)+1:=R
  have e1:aB .i64 (aB .i64 (((pcs a).length:Int)+1-1)-((pcs b).length:Int))=(k:Int):=by rw[wrap64 (x:=((pcs a).length:Int)+1-1) Z Z,wrap64 Z Z]; omega
  have e2:ltI (k:Int) 0=false:=by rw[aE]; exact oF Z
  have e3:ltI 1048576 (k:Int)=false:=by rw[aE]; exact oF Z
  have e4:Nat.ble (pcs a).length 1048576=true:=by rw[dO]; exact oT Z
  have e5:Nat.ble (pcs b).length 1048576=true:=by rw[dO]; exact oT Z
  unfold cY;simp only[AM a b Z Z,e,hba,aD,oD,ca,cb];rw[e0,e1,e2,e3,e4,e5,oN];rw[l1,aD];show (aC (bL l () []) _)=_;rw[aAV Z,l3,aD];rw[tx,aD]
theorem aVA a b (h:Lib.nDigits a+Lib.nDigits b<=900000):gA (Dn a,Dn b,())=some (Dn (a*b),()):=by
 by_cases hs:Lib.nDigits a+Lib.nDigits b<=18
 ·exact aYN a b hs
 ·have ca:=aEU a Z [];have cb:=aEU b Z [];have la:=aIA (u:=a) Z;have lb:=aIA (u:=b) Z;have hm:=aKG a b;have tx:=aJU (a*b) Z;have tm:=aYE a b Z [];have e1:aB .i64 ((Lib.nDigits a:Int)+(Lib.nDigits b:Int))=(Lib.nDigits a:Int)+(Lib.nDigits b:Int):=wrap64 Z Z;have e2:ltI 18 ((Lib.nDigits a)+(Lib.nDigits b:Int))=true:=by rw[aE]; grind
  unfold gA;simp only[I9,e1,e2,Bool.not_true,oD,ca,cb,aD,tm,tx]
theorem aOD a b (ha:Lib.nDigits a<=900000)(hb:Lib.nDigits b<=900000)(h:b≠0):qI (Dn a,Dn b,())=some (Dn (a/b),Dn (a%b),0,()):=by
 by_cases hs:Lib.nDigits a<=18/\Lib.nDigits b<=18
 ·exact aPH a b hs.1 hs.2 h
 ·have hba:=aK2 (a:=a) (b:=b) Z;have ca:=aEU a Z [];have cb:=aEU b Z [];have la:=aIA (u:=a) Z;have lb:=aIA (u:=b) Z;have cp:=a27 a b Z Z;have nq:=A9 (Nat.div_le_self a b);have nr:=A9 (Nat.mod_le a b);have tq:=aJU (a/b) Z;have tr:=aJU (a%b) Z;have hd0:eqS (Dn b) (ByteArray.mk #[48])=false:=by rw[aOW]; exact oF h
  unfold qI;simp only[hd0,oD,hba,aD,ca,cb,cp]
  by_cases hlt:a<b
  ·rw[if_pos hlt];have:ltI (-1) 0=true:=rfl;rw[this,Nat.div_eq_of_lt hlt,Nat.mod_eq_of_lt hlt,<- bE1];rfl
  ·rw[if_neg hlt];have e1:ltI (if b<a then (1:Int) else 0) 0=false:=by
    rw[aE]; refine oF ?_;grind
   rw[e1,oD]
   by_cases h1:(pcs b).length=1
   ·have hbB:b<1000000000:=by have:=aQ1 b; rw[h1]at this; simpa using this
    have e2:eqI ((pcs b).length:Int) 1=true:=by rw[eG]; exact oT Z
    have e3:aF 0 (pcs b).length=true:=by rw[aL]; exact oT Z
    have e4:Nat.blt 0 (pcs b).length=true:=by rw[b9]; exact oT Z
    have e5:(pcs b).getD 0 0=(b:Int):=by rw[aRY]; simp; omega
    have sm:=aZF a (n:=b) ⟨by omega,hbB⟩ Z [];have hr:a%b<b:=Nat.mod_lt _ Z;rw[e2,e3,e4,e5];rw[sm,aD];rw[tq,aD];show (aC (yL (((a%b:Nat):Int),())) _)=_;rw[PY _ Z,aD]
   ·have h0:0<(pcs b).length:=by rw[aJE h]; simp
    have e2:eqI ((pcs b).length:Int) 1=false:=by rw[eG]; exact oF Z
    have dv:=a5S a b Z Z Z [];rw[e2];rw[dv,aD];rw[tq,aD];show (aC (cX (pcs (a%b),())) _)=_;rw[tr,aD]
theorem a1X(x y:Int) (hx:Lib.nDigits x.natAbs<=400000) (hy:Lib.nDigits y.natAbs<=400000):aBZ (Zn x,Zn y,())=some (Zn (x+y),()):=by
 have slow:(aC (cT (Zn x,())) λy4=>aC (cT (Zn y,())) λy5 =>
   bif y4.1 then
    bif y5.1 then
     aC (fZ (y4.2.1,y5.2.1,())) λy6 =>
     aC (aA (y4.1,y6.1,())) λy7 =>
     some (y7.1,())
    else aC (gO (y4.2.1,y5.2.1,())) λy8 =>
    bif ltI y8.1 0 then
     aC (cY (y5.2.1,y4.2.1,())) λy9 =>
     aC (aA (y5.1,y9.1,())) λy10 =>
     some (y10.1,())
    else aC (cY (y4.2.1,y5.2.1,())) λy11 =>
    aC (aA (y4.1,y11.1,())) λy12 =>
    some (y12.1,())
   else bif y5.1 then
    aC (gO (y4.2.1,y5.2.1,())) λy13 =>
    bif ltI y13.1 0 then
     aC (cY (y5.2.1,y4.2.1,())) λy14 =>
     aC (aA (y5.1,y14.1,())) λy15 =>
     some (y15.1,())
    else aC (cY (y4.2.1,y5.2.1,())) λy16 =>
    aC (aA (y4.1,y16.1,())) λy17 =>
    some (y17.1,())
   else aC (fZ (y4.2.1,y5.2.1,())) λy18 =>
   aC (aA (y4.1,y18.1,())) λy19 =>
   some (y19.1,()))=some (Zn (x+y),()):=by
  simp only[yG x,yG y,aD];have dg:∀ u:Nat,u<=x.natAbs+y.natAbs->Lib.nDigits u<2^32:=λu hu=>by
   have h1:=A9 hu;have h2:=XD x.natAbs y.natAbs;omega
  have cm:∀ a b:Nat,ltI (aFV a b) 0=decide (a<b):=λa b=>by
   rw[aE]; unfold aFV;grind
  rcases(by omega:x<0\/0<=x)with gx|gx
  ·rcases(by omega:y<0\/0<=y)with gy|gy
   ·simp only[gx,gy,decide_true,oC,TL _ _ (oR hx O) (oR hy O),aD,qX (x.natAbs+y.natAbs) (dg _ Z)];grind
   ·have gy':¬ y<0:=Z
    simp only[gx,gy',decide_true,decide_false,oC,oD,AM x.natAbs y.natAbs Z Z,aD,cm]
    by_cases g:x.natAbs<y.natAbs
    ·simp only[g,decide_true,oC,I3 _ _ (oR hy O) (oR hx O) (Nat.le_of_lt g),aD,uU (y.natAbs-x.natAbs) (dg _ Z)];have:((y.natAbs-x.natAbs:Nat):Int)=x+y:=Z
     rw[this]
    ·simp only[g,decide_false,oD,I3 _ _ (oR hx O) (oR hy O) (Nat.not_lt.1 g),aD,qX (x.natAbs-y.natAbs) (dg _ Z)];have : -((x.natAbs-y.natAbs:Nat):Int)=x+y:=Z
     rw[this]
  ·have gx':¬ x<0:=Z
   rcases(by omega:y<0\/0<=y)with gy|gy
   ·simp only[gx',gy,decide_true,decide_false,oC,oD,AM x.natAbs y.natAbs Z Z,aD,cm]
    by_cases g:x.natAbs<y.natAbs
    ·simp only[g,decide_true,oC,I3 _ _ (oR hy O) (oR hx O) (Nat.le_of_lt g),aD,qX (y.natAbs-x.natAbs) (dg _ Z)];have : -((y.natAbs-x.natAbs:Nat):Int)=x+y:=Z
     rw[this]
    ·simp only[g,decide_false,oD,I3 _ _ (oR hx O) (oR hy O) (Nat.not_lt.1 g),aD,uU (x.natAbs-y.natAbs) (dg _ Z)];have:((x.natAbs-y.natAbs:Nat):Int)=x+y:=Z
     rw[this]
   ·have gy':¬ y<0:=Z
    simp only[gx',gy',decide_false,oD,TL _ _ (oR hx O) (oR hy O),aD,uU (x.natAbs+y.natAbs) (dg _ Z)];have:((x.natAbs+y.natAbs:Nat):Int)=x+y:=Z
    rw[this]
 unfold aBZ;simp only[JI x 18 O,JI y 18 O,aD]
 by_cases g1:((Zn x).size:Int)<=18
 ·simp only[g1,if_true,aD,oC]
  by_cases g2:((Zn y).size:Int)<=18
  ·have h1:=aM1 (PJ (k:=18) g1);have h2:=aM1 (PJ (k:=18) g2);simp only[g2,if_true,aD,oC];rw[wrap64 Z Z,CW _ Z Z];rfl
  ·simp only[g2,if_false,aD,oD];exact slow
 ·simp only[g1,if_false,aD,oD];exact slow
theorem a2U x y (hx:Lib.nDigits x.natAbs<=400000)(hy:Lib.nDigits y.natAbs<=400000):U2 (Zn x,Zn y,())=some (Zn (x-y),()):=by
 unfold U2;simp only[aS7 y Z,aD];rw[a1X x (-y) hx W];rfl
theorem a17(x y:Int) (h:Lib.nDigits x.natAbs+Lib.nDigits y.natAbs<=400000):U4 (Zn x,Zn y,())=some (Zn (x*y),()):=by
 have hab:(x*y).natAbs=x.natAbs*y.natAbs:=Int.natAbs_mul _ _;have slow:(aC (cT ((Zn x),())) λy14 =>
  aC (cT ((Zn y),())) λy15 =>
  bif y14.1 then
   bif y15.1 then
    aC (gA (y14.2.1,y15.2.1,())) λy16 =>
    aC (aA (false,y16.1,())) λy17 =>
    some (y17.1,())
   else aC (gA (y14.2.1,y15.2.1,())) λy18 =>
   aC (aA (true,y18.1,())) λy19 =>
   some (y19.1,())
  else bif y15.1 then
   aC (gA (y14.2.1,y15.2.1,())) λy20 =>
   aC (aA (true,y20.1,())) λy21 =>
   some (y21.1,())
  else aC (gA (y14.2.1,y15.2.1,())) λy22 =>
  aC (aA (false,y22.1,())) λy23 =>
  some (y23.1,()))=some (Zn (x*y),()):=by
  have dg:Lib.nDigits (x.natAbs*y.natAbs)<2^32:=by
   have:=aKG x.natAbs y.natAbs;omega
  have dm:=aVA _ _ (oR h O);simp only[yG x,yG y,aD,dm];rcases(by omega:x<0\/0<=x)with gx|gx
  ·rcases(by omega:y<0\/0<=y)with gy|gy
   ·have:((x.natAbs*y.natAbs:Nat):Int)=x*y:=by
     grind
    simp only[gx,gy,decide_true,oC,uU _ dg,aD,this]
   ·have gy':¬ y<0:=Z
    have : -((x.natAbs*y.natAbs:Nat):Int)=x*y:=W
    simp only[gx,gy',decide_true,decide_false,oC,oD,qX _ dg,aD,this]
  ·have gx':¬ x<0:=Z
   rcases(by omega:y<0\/0<=y)with gy|gy
   ·have : -((x.natAbs*y.natAbs:Nat):Int)=x*y:=by
     grind
    simp only[gx',gy,decide_true,decide_false,oC,oD,qX _ dg,aD,this]
   ·have gy':¬ y<0:=Z
    have:((x.natAbs*y.natAbs:Nat):Int)=x*y:=W
    simp only[gx',gy',decide_false,oD,uU _ dg,aD,this]
 unfold U4;simp only[JI x 9 O,JI y 9 O,aD]
 by_cases g1:((Zn x).size:Int)<=9
 ·simp only[g1,if_true,aD,oC]
  by_cases g2:((Zn y).size:Int)<=9
  ·have h1:=jZ x.natAbs;have h2:=jZ y.natAbs;have h3:=PJ (k:=9) g1;have h4:=PJ (k:=9) g2;have hb:x.natAbs*y.natAbs<1000000000000000000:=by
    have h5:x.natAbs*y.natAbs<10^Lib.nDigits x.natAbs*10^Lib.nDigits y.natAbs:=Nat.mul_lt_mul'' h1 h2;rw[<- Nat.pow_add]at h5;have h6:10^(Lib.nDigits x.natAbs+Lib.nDigits y.natAbs)<=10^18:=Nat.pow_le_pow_right O Z;have h7:(10:Nat)^18=1000000000000000000:=O
    omega
   simp only[g2,if_true,aD,oC];rw[wrap64 Z Z,CW _ Z Z];rfl
  ·simp only[g2,if_false,aD,oD];exact slow
 ·simp only[g1,if_false,aD,oD];exact slow
theorem X2(x y:Int) (hx:Lib.nDigits x.natAbs<=400000) (hy:Lib.nDigits y.natAbs<=400000) (h0:y≠0):FG (Zn x,Zn y,())=some (Zn (x.fdiv y),Zn (x.fmod y),0,()):=by
 have slow:(aC (cT ((Zn x),())) λy68 =>
  aC (cT ((Zn y),())) λy69 =>
  aC (qI (y68.2.1,y69.2.1,())) λy70 =>
  bif !(eqI y70.2.2.1 0) then
   some ((ByteArray.mk #[]),(ByteArray.mk #[]),y70.2.2.1,())
  else bif y68.1 then
   bif y69.1 then
    bif y68.1 then
     bif y69.1 then
      aC (aA (false,y70.1,())) λy71 =>
      aC (aA (y69.1,y70.2.1,())) λy72 =>
      some (y71.1,y72.1,0,())
     else aC (aA (true,y70.1,())) λy73 =>
     aC (aA (y69.1,y70.2.1,())) λy74 =>
     some (y73.1,y74.1,0,())
    else bif y69.1 then
     aC (aA (true,y70.1,())) λy75 =>
     aC (aA (y69.1,y70.2.1,())) λy76 =>
     some (y75.1,y76.1,0,())
    else aC (aA (false,y70.1,())) λy77 =>
    aC (aA (y69.1,y70.2.1,())) λy78 =>
    some (y77.1,y78.1,0,())
   else bif !(eqS y70.2.1 (ByteArray.mk #[48])) then
    aC (fZ (y70.1,(ByteArray.mk #[49]),())) λy79 =>
    aC (cY (y69.2.1,y70.2.1,())) λy80 =>
    bif y68.1 then
     bif y69.1 then
      aC (aA (false,y79.1,())) λy81 =>
      aC (aA (y69.1,y80.1,())) λy82 =>
      some (y81.1,y82.1,0,())
     else aC (aA (true,y79.1,())) λy83 =>
     aC (aA (y69.1,y80.1,())) λy84 =>
     some (y83.1,y84.1,0,())
    else bif y69.1 then
     aC (aA (true,y79.1,())) λy85 =>
     aC (aA (y69.1,y80.1,())) λy86 =>
     some (y85.1,y86.1,0,())
    else aC (aA (false,y79.1,())) λy87 =>
    aC (aA (y69.1,y80.1,())) λy88 =>
    some (y87.1,y88.1,0,())
   else bif y68.1 then
    bif y69.1 then
     aC (aA (false,y70.1,())) λy89 =>
     aC (aA (y69.1,y70.2.1,())) λy90 =>
     some (y89.1,y90.1,0,())
    else aC (aA (true,y70.1,())) λy91 =>
    aC (aA (y69.1,y70.2.1,())) λy92 =>
    some (y91.1,y92.1,0,())
   else bif y69.1 then
    aC (aA (true,y70.1,())) λy93 =>
    aC (aA (y69.1,y70.2.1,())) λy94 =>
    some (y93.1,y94.1,0,())
   else aC (aA (false,y70.1,())) λy95 =>
   aC (aA (y69.1,y70.2.1,())) λy96 =>
   some (y95.1,y96.1,0,())
  else bif y69.1 then
   bif !(eqS y70.2.1 (ByteArray.mk #[48])) then
    aC (fZ (y70.1,(ByteArray.mk #[49]),())) λy97 =>
    aC (cY (y69.2.1,y70.2.1,())) λy98 =>
    bif y68.1 then
     bif y69.1 then
      aC (aA (false,y97.1,())) λy99 =>
      aC (aA (y69.1,y98.1,())) λy100 =>
      some (y99.1,y100.1,0,())
     else aC (aA (true,y97.1,())) λy101 =>
     aC (aA (y69.1,y98.1,())) λy102 =>
     some (y101.1,y102.1,0,())
    else bif y69.1 then
     aC (aA (true,y97.1,())) λy103 =>
     aC (aA (y69.1,y98.1,())) λy104 =>
     some (y103.1,y104.1,0,())
    else aC (aA (false,y97.1,())) λy105 =>
    aC (aA (y69.1,y98.1,())) λy106 =>
    some (y105.1,y106.1,0,())
   else bif y68.1 then
    bif y69.1 then
     aC (aA (false,y70.1,())) λy107 =>
     aC (aA (y69.1,y70.2.1,())) λy108 =>
     some (y107.1,y108.1,0,())
    else aC (aA (true,y70.1,())) λy109 =>
    aC (aA (y69.1,y70.2.1,())) λy110 =>
    some (y109.1,y110.1,0,())
   else bif y69.1 then
    aC (aA (true,y70.1,())) λy111 =>
    aC (aA (y69.1,y70.2.1,())) λy112 =>
    some (y111.1,y112.1,0,())
   else aC (aA (false,y70.1,())) λy113 =>
   aC (aA (y69.1,y70.2.1,())) λy114 =>
   some (y113.1,y114.1,0,())
  else bif y68.1 then
   bif y69.1 then
    aC (aA (false,y70.1,())) λy115 =>
    aC (aA (y69.1,y70.2.1,())) λy116 =>
    some (y115.1,y116.1,0,())
   else aC (aA (true,y70.1,())) λy117 =>
   aC (aA (y69.1,y70.2.1,())) λy118 =>
   some (y117.1,y118.1,0,())
  else bif y69.1 then
   aC (aA (true,y70.1,())) λy119 =>
   aC (aA (y69.1,y70.2.1,())) λy120 =>
   some (y119.1,y120.1,0,())
  else aC (aA (false,y70.1,())) λy121 =>
  aC (aA (y69.1,y70.2.1,())) λy122 =>
  some (y121.1,y122.1,0,()))=some (Zn (x.fdiv y),Zn (x.fmod y),0,()):=by
  have dm:=aOD _ _ (oR hx O) (oR hy O) (show y.natAbs≠0 by omega);have ed:x.natAbs=y.natAbs*(x.natAbs/y.natAbs)+x.natAbs%y.natAbs:=(Nat.div_add_mod _ _).symm;have lm:x.natAbs%y.natAbs<y.natAbs:=Nat.mod_lt _ Z;have lq:x.natAbs/y.natAbs<=x.natAbs:=Nat.div_le_self _ _;have e00:eqI 0 0=true:=O
  simp only[yG x,yG y,aD,dm,e00,Bool.not_true,oD,aOW,bG2];generalize x.natAbs/y.natAbs=q at *;generalize x.natAbs%y.natAbs=r at *;have dg:∀ u:Nat,u<=x.natAbs+y.natAbs+1->Lib.nDigits u<2^32:=λu hu=>by
   have h1:=A9 hu;have h2:=XD x.natAbs y.natAbs;have h3:=XD (x.natAbs+y.natAbs) 1;have h4:Lib.nDigits 1=1:=Lib.nDigits_small O;omega
  have d18:∀ u:Nat,u<=x.natAbs\/u<=y.natAbs->Lib.nDigits u<=900000:=λu hu=>by
   rcases hu with h|h
   ·have:=A9 h; omega
   ·have:=A9 h; omega
  have edI:(x.natAbs:Int)=(y.natAbs:Int)*(q:Int)+(r:Int):=by rw[ed]; simp
  rcases(by omega:x<0\/0<=x)with gx|gx
  ·rcases(by omega:y<0\/0<=y)with gy|gy
   ·simp only[gx,gy,decide_true,oC,uU q (dg _ Z),qX r (dg _ Z),aD];have ex:x=y*(q:Int) + -(r:Int):=by
     have a1:(x.natAbs:Int) = -x:=Z
     have a2:(y.natAbs:Int) = -y:=Z
     rw[a1,a2]at edI;grind
    obtain⟨u1,u2⟩:=sH ex Z Z h0;rw[u1,u2]
   ·have gy':¬ y<0:=Z
    by_cases hr:r=0
    ·simp only[gx,gy',hr,decide_true,decide_false,Bool.not_true,oC,oD,qX q (dg _ Z),uU 0 (dg _ Z),aD];have ex:x=y * -(q:Int)+((0:Nat):Int):=by
      have a1:(x.natAbs:Int) = -x:=Z
      have a2:(y.natAbs:Int)=y:=Z
      rw[a1,a2,hr]at edI;grind
     obtain⟨u1,u2⟩:=sH ex Z Z h0;rw[u1,u2]
    ·simp only[gx,gy',hr,decide_true,decide_false,Bool.not_false,Bool.not_true,oC,oD,TL q 1 (d18 _ Z) (d18 _ Z),I3 y.natAbs r (oR hy O) (d18 _ Z) (Nat.le_of_lt lm),qX (q+1) (dg _ Z),uU (y.natAbs-r) (dg _ Z),aD];have ex:x=y * -((q+1:Nat):Int)+((y.natAbs-r:Nat):Int):=by
      have a1:(x.natAbs:Int) = -x:=Z
      have a2:(y.natAbs:Int)=y:=Z
      have a3:((y.natAbs-r:Nat):Int)=y-r:=Z
      have a4:((q+1:Nat):Int)=(q:Int)+1:=Z
      rw[a1,a2]at edI;rw[a3,a4];grind
     obtain⟨u1,u2⟩:=sH ex Z Z h0;rw[u1,u2]
  ·have gx':¬ x<0:=Z
   rcases(by omega:y<0\/0<=y)with gy|gy
   ·by_cases hr:r=0
    ·simp only[gx',gy,hr,decide_true,decide_false,Bool.not_true,oC,oD,qX q (dg _ Z),qX 0 (dg _ Z),aD];have ex:x=y * -(q:Int) + -((0:Nat):Int):=by
      have a1:(x.natAbs:Int)=x:=Z
      have a2:(y.natAbs:Int) = -y:=Z
      rw[a1,a2,hr]at edI;grind
     obtain⟨u1,u2⟩:=sH ex Z Z h0;rw[u1,u2]
    ·simp only[gx',gy,hr,decide_true,decide_false,Bool.not_false,Bool.not_true,oC,oD,TL q 1 (d18 _ Z) (d18 _ Z),I3 y.natAbs r (oR hy O) (d18 _ Z) (Nat.le_of_lt lm),qX (q+1) (dg _ Z),qX (y.natAbs-r) (dg _ Z),aD];have ex:x=y * -((q+1:Nat):Int) + -((y.natAbs-r:Nat):Int):=by
      have a1:(x.natAbs:Int)=x:=Z
      have a2:(y.natAbs:Int) = -y:=Z
      have a3:((y.natAbs-r:Nat):Int) = -y-r:=Z
      have a4:((q+1:Nat):Int)=(q:Int)+1:=Z
      rw[a1,a2]at edI;rw[a3,a4];grind
     obtain⟨u1,u2⟩:=sH ex Z Z h0;rw[u1,u2]
   ·have gy':¬ y<0:=Z
    simp only[gx',gy',decide_true,decide_false,oD,uU q (dg _ Z),uU r (dg _ Z),aD];have ex:x=y*(q:Int)+(r:Int):=by
     have a1:(x.natAbs:Int)=x:=Z
     have a2:(y.natAbs:Int)=y:=Z
     rw[a1,a2]at edI;exact edI
    obtain⟨u1,u2⟩:=sH ex Z Z h0;rw[u1,u2]
 unfold FG;simp only[JI x 18 O,JI y 18 O,aD,W6,h0,decide_false,oD]
 by_cases g1:((Zn x).size:Int)<=18
 ·simp only[g1,if_true,aD,oC]
  by_cases g2:((Zn y).size:Int)<=18
  ·have b1:=aM1 (PJ (k:=18) g1);have b2:=aM1 (PJ (k:=18) g2);simp only[g2,if_true,aD,oC];have e1:eqI y 0=false:=by rw[eG]; simp[h0]
   have t1:x=y*x.tdiv y+x.tmod y:=(Int.mul_tdiv_add_tmod x y).symm;have t2:(x.tmod y).natAbs<y.natAbs:=by rw[Int.natAbs_tmod]; exact Nat.mod_lt _ Z
   have t3:(x.tdiv y).natAbs<=x.natAbs:=by rw[Int.natAbs_tdiv]; exact Nat.div_le_self _ _
   have t4:0<=x->0<=x.tmod y:=λh=>Int.tmod_nonneg y h
   have t5:x<=0->x.tmod y<=0:=λh=>by
    have:=Int.tmod_nonneg (a:=-x) y Z;rw[Int.neg_tmod]at this;omega
   simp only[e1,oD,eG,aE];generalize x.tdiv y=q at *;generalize x.tmod y=r at *
   by_cases hr:r=0
   ·obtain⟨u1,u2⟩:=sH (x:=x) (y:=y) (f:=q) (g:=r) t1 Z Z h0;simp only[hr,decide_true,Bool.not_true,oD];rw[wrap64 Z Z,CW _ Z Z,aD,CW _ Z Z,aD,u1,u2,hr]
   ·simp only[hr,decide_false,Bool.not_false,oC]
    by_cases r1:r<0
    ·by_cases y1:y<0
     ·obtain⟨u1,u2⟩:=sH (x:=x) (y:=y) (f:=q) (g:=r) t1 Z Z h0;simp only[r1,y1,decide_true,oC];rw[wrap64 Z Z,CW _ Z Z,aD,CW _ Z Z,aD,u1,u2]
     ·obtain⟨u1,u2⟩:=sH (x:=x) (y:=y) (f:=q-1) (g:=r+y) W Z Z h0;simp only[r1,y1,decide_true,decide_false,oC,oD];rw[wrap64 (x:=q) Z Z,wrap64 Z Z,CW _ Z Z,aD,wrap64 Z Z,CW _ Z Z,aD,u1,u2]
    ·by_cases y1:y<0
     ·obtain⟨u1,u2⟩:=sH (x:=x) (y:=y) (f:=q-1) (g:=r+y) W Z Z h0;simp only[r1,y1,decide_true,decide_false,oC,oD];rw[wrap64 (x:=q) Z Z,wrap64 Z Z,CW _ Z Z,aD,wrap64 Z Z,CW _ Z Z,aD,u1,u2]
     ·obtain⟨u1,u2⟩:=sH (x:=x) (y:=y) (f:=q) (g:=r) t1 Z Z h0;simp only[r1,y1,decide_false,oD];rw[wrap64 Z Z,CW _ Z Z,aD,CW _ Z Z,aD,u1,u2]
  ·simp only[g2,if_false,aD,oD];exact slow
 ·simp only[g1,if_false,aD,oD];exact slow
end Go.PM
namespace Go.Lz
abbrev V:=Nat->Int
inductive Sp (k:Nat) (M:Nat->V):V->Prop
 | zero:Sp k M (λ_=>0)
 | add {v:V} (j:Nat) (t:Int):j<k->Sp k M v->Sp k M (λi=>v i+t*M j i)
theorem Sp.mem {k M j}(h:j<k):Sp k M (M j):=by
 have:=Sp.add j 1 h (Sp.zero (M:=M));grind
theorem Sp.comb {k M u v} t (hu:Sp k M u)(hv:Sp k M v):Sp k M (λi=>u i+t*v i):=by
 induction hv with
 | zero=>grind
 | add j s hj _ ih =>
  have:=Sp.add j (t*s) hj ih;grind
theorem Sp.sum {k M u v}(hu:Sp k M u)(hv:Sp k M v):Sp k M (λi=>u i+v i):=by
 have:=Sp.comb 1 hu hv;grind
theorem Sp.smul {k M v} t (hv:Sp k M v):Sp k M (λi=>t*v i):=by
 have:=Sp.comb t Sp.zero hv;grind
theorem Sp.sub {k M u v}(hu:Sp k M u)(hv:Sp k M v):Sp k M (λi=>u i-v i):=by
 have:=Sp.comb (-1) hu hv;grind
theorem Sp.trans {k k' M M'}(h:∀ j,j<k->Sp k' M' (M j)){v}(hv:Sp k M v):Sp k' M' v:=by
 induction hv with
 | zero=>exact .zero
 | add j t hj _ ih=>exact Sp.comb t ih (h j hj)
theorem Sp.iA {k M x}(h:∀ j,j<k->M j x=0){v}(hv:Sp k M v):v x=0:=by
 induction hv with
 | zero=>rfl
 | add j t hj _ ih=>grind
def Same(k:Nat) (M:Nat->V) (k':Nat) (M':Nat->V):Prop:=∀ v,Sp k M v↔Sp k' M' v
theorem Same.refl k M:Same k M k M:=λ_=>Iff.rfl
theorem Same.symm {k k' M M'}(h:Same k M k' M'):Same k' M' k M:=λv=>(h v).symm
theorem Same.trans {k k' k'' M M' M''}(h:Same k M k' M')(g:Same k' M' k'' M''):Same k M k'' M'':=λv=>(h v).trans (g v)
theorem Same.of {k k' M M'}(h:∀ j,j<k->Sp k' M' (M j))(g:∀ j,j<k'->Sp k M (M' j)):Same k M k' M':=λ_=>⟨Sp.trans h,Sp.trans g⟩
theorem Same.congr {k M M'}(h:∀ j,j<k->M j=M' j):Same k M k M' :=
 Same.of (λj hj=>by rw[h j hj]; exact Sp.mem hj) (λj hj=>by rw[<- h j hj]; exact Sp.mem hj)
theorem Sp.first {k:Nat} {M:Nat->V} {v:V} (h:Sp (k+1) M v):∃ t u,Sp k (λi=>M (i+1)) u/\v=λi=>u i+t*M 0 i:=by
 induction h with
 | zero=>exact⟨0,λ_=>0,.zero,by funext i; simp⟩
 | add j s hj _ ih =>
  obtain⟨t,u,hu,rfl⟩:=ih;cases j with
  | zero=>exact⟨t+s,u,hu,by funext i; grind⟩
  | succ j=>exact⟨t,_,Sp.add j s Z hu,by funext i; grind⟩
theorem Sp.behind {k M u}(h:Sp k (λi=>M (i+1)) u):Sp (k+1) M u :=
 Sp.trans (λj hj=>Sp.mem Z) h
structure Hn (k:Nat) (M:Nat->V) (c:Nat->Nat):Prop where
 inc:∀ i j,i<j->j<k->c i<c j
 low:∀ i,i<k->∀ x,x<c i->M i x=0
 pos:∀ i,i<k->0<M i (c i)
 red:∀ i j,i<j->j<k->0<=M i (c j)/\M i (c j)<M j (c j)
theorem Hn.tail {k M c}(h:Hn (k+1) M c):Hn k (λi=>M (i+1)) (λi=>c (i+1)) where
 inc:=λi j hij hj=>h.inc _ _ Z Z
 low:=λi hi=>h.low _ Z
 pos:=λi hi=>h.pos _ Z
 red:=λi j hij hj=>h.red _ _ Z Z
theorem Hn.aN2 {k M c}(h:Hn (k+1) M c){u}(hu:Sp k (λi=>M (i+1)) u){x}(hx:x<=c 0):u x=0 :=
 Sp.iA (λj hj=>h.low (j+1) Z x (by have:=h.inc 0 (j+1) R Z; omega)) hu
theorem Hn.small:∀ {k:Nat} {M:Nat->V} {c:Nat->Nat},Hn k M c->∀ {v:V},Sp k M v->(∀ i,i<k->-(M i (c i))<v (c i)/\v (c i)<M i (c i))->v=λ_=>0
 | 0,M,c,h,v,hv,_=>by
  cases hv with
  | zero=>rfl
  | add j t hj _=>omega
 | k+1,M,c,h,v,hv,hs=>by
  obtain⟨t,u,hu,rfl⟩:=hv.first;have h0:=h.aN2 hu (Nat.le_refl _);have hs0:=hs 0 Z;simp only[h0,Int.zero_add]at hs0;have ht:t=0:=by
   rcases Int.lt_trichotomy t 0 with h1|h1|h1
   ·have:t*M 0 (c 0)<=(-1)*M 0 (c 0):=Int.mul_le_mul_of_nonneg_right Z Z;omega
   ·exact h1
   ·have:1*M 0 (c 0)<=t*M 0 (c 0):=Int.mul_le_mul_of_nonneg_right Z Z;omega
  subst ht;have e:(λi=>u i+0*M 0 i)=u:=by funext i; simp
  rw[e]at hs ⊢;exact Hn.small h.tail hu λi hi=>hs (i+1) Z
theorem Hn.unique:∀ {k k':Nat} {M M':Nat->V} {c c':Nat->Nat},Hn k M c->Hn k' M' c'->Same k M k' M'->k=k'/\(∀ i,i<k->c i=c' i)/\∀ i,i<k->M i=M' i
 | 0,0,_,_,_,_,_,_,_=>⟨rfl,λi hi=>by omega,λi hi=>by omega⟩
 | 0,k'+1,M,M',c,c',h,h',e=>by
  have:=Hn.small h ((e _).2 (Sp.mem (M:=M') (Nat.succ_pos k'))) (λi hi=>by omega);have hp:=h'.pos 0 Z;grind
 | k+1,0,M,M',c,c',h,h',e=>by
  have:=Hn.small h' ((e _).1 (Sp.mem (M:=M) (Nat.succ_pos k))) (λi hi=>by omega);have hp:=h.pos 0 Z;grind
 | k+1,k'+1,M,M',c,c',h,h',e=>by
  have hp:=h.pos 0 Z;have hp':=h'.pos 0 Z;obtain⟨t,u,hu,ht⟩:=Sp.first ((e _).1 (Sp.mem (M:=M) (Nat.succ_pos k)));obtain⟨t',u',hu',ht'⟩:=Sp.first ((e _).2 (Sp.mem (M:=M') (Nat.succ_pos k')));have hc:c 0=c' 0:=by
   rcases Nat.lt_trichotomy (c 0) (c' 0)with h1|h1|h1
   ·exfalso;have a1:=congrFun ht (c 0);have a2:=h'.aN2 hu (x:=c 0) Z;have a3:=h'.low 0 Z _ h1;grind
   ·exact h1
   ·exfalso;have a1:=congrFun ht' (c' 0);have a2:=h.aN2 hu' (x:=c' 0) Z;have a3:=h.low 0 Z _ h1;grind
  have e1:M 0 (c 0)=t*M' 0 (c 0):=by
   have a1:=congrFun ht (c 0);have a2:=h'.aN2 hu (x:=c 0) Z;grind
  have e2:M' 0 (c 0)=t'*M 0 (c 0):=by
   have a1:=congrFun ht' (c 0);have a2:=h.aN2 hu' (x:=c 0) Z;grind
  rw[<- hc]at hp';have e3:M 0 (c 0)=M' 0 (c 0):=Int.le_antisymm (Int.le_of_dvd hp' ⟨t',by rw[e2]; exact Int.mul_comm _ _⟩) (Int.le_of_dvd hp ⟨t,by rw[e1]; exact Int.mul_comm _ _⟩);have tails:Same k (λi=>M (i+1)) k' (λi=>M' (i+1)):=by
   intro v;constructor
   ·intro hv;obtain⟨s,w,hw,rfl⟩:=Sp.first ((e _).1 hv.behind);have a1:=h.aN2 hv (Nat.le_refl _);have a2:=h'.aN2 hw (x:=c 0) Z;simp only[a2,Int.zero_add]at a1;have:s=0:=by
     rcases Int.mul_eq_zero.1 a1 with h1|h1
     ·exact h1
     ·omega
    subst this;grind
   ·intro hv;obtain⟨s,w,hw,rfl⟩:=Sp.first ((e _).2 hv.behind);have a1:=h'.aN2 hv (x:=c 0) Z;have a2:=h.aN2 hw (x:=c 0) Z;simp only[a2,Int.zero_add]at a1;have:s=0:=by
     rcases Int.mul_eq_zero.1 a1 with h1|h1
     ·exact h1
     ·omega
    subst this;have e:(λi=>w i+0*M 0 i)=w:=by funext i; simp
    rw[e]; exact hw
  obtain⟨q1,q2,q3⟩:=Hn.unique h.tail h'.tail tails;subst q1;have hd:Sp k (λi=>M (i+1)) (λx=>M 0 x-M' 0 x):=by
   obtain⟨s,w,hw,hs⟩:=Sp.first (Sp.sub (Sp.mem (M:=M) (Nat.succ_pos k)) ((e _).2 (Sp.mem (M:=M') (Nat.succ_pos k))));have a1:=congrFun hs (c 0);have a2:=h.aN2 hw (Nat.le_refl _);simp only[a2,e3,Int.zero_add,Int.sub_self]at a1;have:s=0:=by
    rcases Int.mul_eq_zero.1 a1.symm with h1|h1
    ·exact h1
    ·omega
   subst this;have e:(λi=>w i+0*M 0 i)=w:=by funext i; simp
   rw[hs,e]; exact hw
  have hz:=Hn.small h.tail hd (λi hi=>by
   have r1:=h.red 0 (i+1) Z Z;have r2:=h'.red 0 (i+1) Z Z;have r3:=q2 i hi;have r4:=congrFun (q3 i hi) (c (i+1));rw[<- r3]at r2;rw[<- r4]at r2;constructor <;> omega)
  refine⟨rfl,λi hi=>?_,λi hi=>?_⟩
  ·cases i with
   | zero=>exact hc
   | succ i=>exact q2 i Z
  ·cases i with
   | zero =>
    funext x
    have:=congrFun hz x;omega
   | succ i=>exact q3 i Z
def up(M:Nat->V) (i:Nat) (r:V):Nat->V:=λj=>if j=i then r else M j
theorem N7 M i r:up M i r i=r:=by simp[up]
theorem E5 M {i j} r (h:j≠i):up M i r j=M j:=by simp[up,h]
def swp(M:Nat->V)(a b:Nat):Nat->V:=λj=>if j=a then M b else if j=b then M a else M j
theorem a8N {k a b} M (ha:a<k)(hb:b<k):Same k M k (swp M a b):=by
 refine Same.of (λj hj=>?_) (λj hj=>?_)
 ·by_cases h1:j=a
  ·subst h1
   by_cases h2:b=j
   ·have:=Sp.mem (M:=swp M j b) ha;simp only[swp,h2]at this ⊢;exact this
   ·have:=Sp.mem (M:=swp M j b) hb;simp only[swp,h2]at this ⊢;exact this
  ·by_cases h2:j=b
   ·subst h2;have:=Sp.mem (M:=swp M a j) ha;simp only[swp]at this ⊢;grind
   ·have:=Sp.mem (M:=swp M a b) hj;simp only[swp]at this ⊢;grind
 ·unfold swp;split
  ·exact Sp.mem hb
  ·split
   ·exact Sp.mem ha
   ·exact Sp.mem hj
theorem aUO {k i d} M q (hi:i<k)(hd:d<k)(hne:i≠d):Same k M k (up M i λx=>M i x-q*M d x):=by
 refine Same.of (λj hj=>?_) (λj hj=>?_)
 ·by_cases h:j=i
  ·subst h;have h1:=Sp.mem (M:=up M j λx=>M j x-q*M d x) hj;have h2:=Sp.mem (M:=up M j λx=>M j x-q*M d x) hd;rw[N7]at h1;rw[E5 _ _ (Ne.symm hne)]at h2;have:=Sp.comb q h1 h2;grind
  ·have:=Sp.mem (M:=up M i λx=>M i x-q*M d x) hj;rwa[E5 _ _ h]at this
 ·by_cases h:j=i
  ·subst h;rw[N7];have:=Sp.comb (-q) (Sp.mem hj) (Sp.mem (M:=M) hd);grind
  ·rw[E5 _ _ h]; exact Sp.mem hj
theorem a9X {k i} M (hi:i<k):Same k M k (up M i λx=>-(M i x)):=by
 refine Same.of (λj hj=>?_) (λj hj=>?_)
 ·by_cases h:j=i
  ·subst h;have h1:=Sp.mem (M:=up M j λx=>-(M j x)) hj;rw[N7]at h1;have:=Sp.smul (-1) h1;grind
  ·have:=Sp.mem (M:=up M i λx=>-(M i x)) hj;rwa[E5 _ _ h]at this
 ·by_cases h:j=i
  ·subst h;rw[N7];have:=Sp.smul (-1) (Sp.mem (M:=M) hj);grind
  ·rw[E5 _ _ h]; exact Sp.mem hj
theorem aZA {k d:Nat} (M:Nat->V) (hd:d<=k) (h:∀ i,d<=i->i<k->M i=λ_=>0):Same k M d M:=by
 refine Same.of (λj hj=>?_) (λj hj=>Sp.mem Z);rcases Nat.lt_or_ge j d with h1|h1
 ·exact Sp.mem h1
 ·rw[h j h1 hj]; exact .zero
structure Fo (k:Nat) (M0 M:Nat->V) (d c:Nat) (p:Nat->Nat):Prop where
 le:d<=k
 same:Same k M0 k M
 inc:∀ i j,i<j->j<d->p i<p j
 lt:∀ i,i<d->p i<c
 low:∀ i,i<d->∀ x,x<p i->M i x=0
 pos:∀ i,i<d->0<M i (p i)
 red:∀ i j,i<j->j<d->0<=M i (p j)/\M i (p j)<M j (p j)
 rest:∀ i,d<=i->i<k->∀ x,x<c->M i x=0
theorem Fo.start k M:Fo k M M 0 0 (λ_=>0) where
 le:=Nat.zero_le _
 same:=Same.refl _ _
 inc:=λi j _ h=>Z
 lt:=λi h=>Z
 low:=λi h=>R
 pos:=λi h=>Z
 red:=λi j _ h=>Z
 rest:=λi _ _ x h=>Z
section
variable {k d c:Nat} {M0 M:Nat->V} {p:Nat->Nat}
theorem Fo.aNU (h:Fo k M0 M d c p) {M':Nat->V} (hs:Same k M k M') (h1:∀ i,i<d->M' i=M i) (h2:∀ i,d<=i->i<k->∀ x,x<c->M' i x=0):Fo k M0 M' d c p where
 le:=h.le
 same:=h.same.trans hs
 inc:=h.inc
 lt:=h.lt
 low:=λi hi=>by rw[h1 i hi]; exact h.low i hi
 pos:=λi hi=>by rw[h1 i hi]; exact h.pos i hi
 red:=λi j hij hj=>by rw[h1 i Z,h1 j hj]; exact h.red i j hij hj
 rest:=h2
theorem Fo.swap (h:Fo k M0 M d c p){a}(ha:d<=a)(hk:a<k):Fo k M0 (swp M d a) d c p:=by
 refine h.aNU (a8N M Z hk) (λi hi=>?_) (λi h1 h2 x hx=>?_)
 ·have e1:¬ i=d:=Z
  have e2:¬ i=a:=Z
  simp only[swp,e1,e2,if_false]
 ·unfold swp;split
  ·exact h.rest a ha hk x hx
  ·split
   ·exact h.rest d (Nat.le_refl _) Z x hx
   ·exact h.rest i h1 h2 x hx
theorem Fo.less (h:Fo k M0 M d c p){i} q (hi:d<i)(hk:i<k):Fo k M0 (up M i λx=>M i x-q*M d x) d c p:=by
 refine h.aNU (aUO M q hk Z Z) (λj hj=>E5 _ _ Z) (λj h1 h2 x hx=>?_)
 by_cases e:j=i
 ·subst e;rw[N7,h.rest j h1 h2 x hx,h.rest d (Nat.le_refl _) Z x hx];simp
 ·rw[E5 _ _ e]; exact h.rest j h1 h2 x hx
theorem Fo.neg (h:Fo k M0 M d c p)(hk:d<k):Fo k M0 (up M d λx=>-(M d x)) d c p:=by
 refine h.aNU (a9X M hk) (λj hj=>E5 _ _ Z) (λj h1 h2 x hx=>?_)
 by_cases e:j=d
 ·subst e;rw[N7,h.rest j h1 h2 x hx];rfl
 ·rw[E5 _ _ e]; exact h.rest j h1 h2 x hx
theorem Fo.skip (h:Fo k M0 M d c p) (hz:∀ i,d<=i->i<k->M i c=0):Fo k M0 M d (c+1) p where
 le:=h.le
 same:=h.same
 inc:=h.inc
 lt:=λi hi=>by have:=h.lt i hi; omega
 low:=h.low
 pos:=h.pos
 red:=h.red
 rest:=λi h1 h2 x hx=>by
  rcases Nat.lt_or_ge x c with h3|h3
  ·exact h.rest i h1 h2 x h3
  ·grind
structure Fp (k:Nat) (M0 M:Nat->V) (d c:Nat) (p:Nat->Nat) (m:Nat):Prop extends Fo k M0 M d c p where
 dk:d<k
 piv:0<M d c
 below:∀ i,d<i->i<k->M i c=0
 up:∀ i,i<m->0<=M i c/\M i c<M d c
theorem Fp.less {m}(h:Fp k M0 M d c p m)(hm:m<d):Fp k M0 (Lz.up M m λx=>M m x-(M m c).fdiv (M d c)*M d x) d c p (m+1):=by
 have hd0:∀ x,x<c->M d x=0:=h.rest d (Nat.le_refl _) h.dk;have hr:∀ x,x<c->∀ i,Lz.up M m (λx=>M m x-(M m c).fdiv (M d c)*M d x) i x=M i x:=by
  intro x hx i
  by_cases e:i=m
  ·subst e;rw[N7,hd0 x hx]; simp
  ·rw[E5 _ _ e]
 have hne:∀ i,i≠m->Lz.up M m (λx=>M m x-(M m c).fdiv (M d c)*M d x) i=M i:=λi e=>E5 _ _ e
 refine { le:=h.le,same:=h.same.trans (aUO M _ (by have:=h.le; omega) h.dk Z),inc:=h.inc,lt:=h.lt,low:=λi hi x hx=>?_,pos:=λi hi=>?_,red:=λi j hij hj=>?_,rest:=λi h1 h2 x hx=>?_,dk:=h.dk,piv:=?_,below:=λi h1 h2=>?_,up:=λi hi=>?_ }
 ·rw[hr x (by have:=h.lt i hi; omega)]; exact h.low i hi x hx
 ·rw[hr _ (h.lt i hi)]; exact h.pos i hi
 ·rw[hr _ (h.lt j hj),hr _ (h.lt j hj)]; exact h.red i j hij hj
 ·rw[hr x hx]; exact h.rest i h1 h2 x hx
 ·rw[hne d Z]; exact h.piv
 ·rw[hne i Z]; exact h.below i h1 h2
 ·rw[hne d Z]
  by_cases e:i=m
  ·subst e;rw[N7];have h1:=Int.fmod_def (M i c) (M d c);have h2:=Int.fmod_nonneg_of_pos (M i c) h.piv;have h3:=Int.fmod_lt_of_pos (M i c) h.piv;grind
  ·rw[hne i e]; exact h.up i Z
theorem Fp.done (h:Fp k M0 M d c p d):Fo k M0 M (d+1) (c+1) (λi=>if i=d then c else p i):=by
 have hp:∀ i,i<d->(if i=d then c else p i)=p i:=λi hi=>by rw[if_neg Z]
 refine { le:=h.dk,same:=h.same,inc:=λi j hij hj=>?_,lt:=λi hi=>?_,low:=λi hi x hx=>?_,pos:=λi hi=>?_,red:=λi j hij hj=>?_,rest:=λi h1 h2 x hx=>?_ }
 ·rw[hp i Z]
  by_cases e:j=d
  ·subst e; rw[if_pos rfl]; exact h.lt i hij
  ·rw[if_neg e]; exact h.inc i j hij Z
 ·by_cases e:i=d
  ·grind
  ·rw[if_neg e]; have:=h.lt i Z; omega
 ·by_cases e:i=d
  ·subst e; rw[if_pos rfl]at hx; exact h.rest i (Nat.le_refl _) h.dk x hx
  ·rw[if_neg e]at hx; exact h.low i Z x hx
 ·by_cases e:i=d
  ·subst e; rw[if_pos rfl]; exact h.piv
  ·rw[if_neg e]; exact h.pos i Z
 ·by_cases e:j=d
  ·subst e; rw[if_pos rfl]; exact h.up i hij
  ·rw[if_neg e]; exact h.red i j hij Z
 ·rcases Nat.lt_or_ge x c with h3|h3
  ·exact h.rest i Z h2 x h3
  ·have:x=c:=Z
   subst this;exact h.below i Z h2
theorem Fo.hn (h:Fo k M0 M d c p) (hz:d=k\/∀ i,i<k->∀ x,c<=x->M i x=0):Hn d M p/\Same k M0 d M:=by
 refine⟨⟨h.inc,h.low,h.pos,h.red⟩,h.same.trans ?_⟩;rcases hz with rfl|hz
 ·exact Same.refl _ _
 ·refine aZA M h.le λi h1 h2=>?_
  funext x
  rcases Nat.lt_or_ge x c with h3|h3
  ·exact h.rest i h1 h2 x h3
  ·grind
end
def dot:Nat->V->V->Int
 | 0,_,_=>0
 | n+1,a,b=>dot n a b+a n*b n
theorem tF a b:∀ n,dot n a b=dot n b a
 | 0=>rfl
 | n+1=>by rw[dot,dot,tF a b n,Int.mul_comm]
theorem N3 u v b t:∀ n,dot n (λi=>u i+t*v i) b=dot n u b+t*dot n v b
 | 0=>by simp[dot]
 | n+1=>by
  rw[dot,dot,dot,N3 u v b t n];grind
theorem N0 b:∀ n,dot n (λ_=>0) b=0
 | 0=>rfl
 | n+1=>by rw[dot,N0 b n]; simp
theorem aTK {a b a' b'}:∀ {n},(∀ i,i<n->a i=a' i)->(∀ i,i<n->b i=b' i)->dot n a b=dot n a' b'
 | 0,_,_=>rfl
 | n+1,h,g=>by rw[dot,dot,aTK (λi hi=>h i Z) (λi hi=>g i Z),h n R,g n R]
def Ker(n m:Nat) (A:Nat->V) (y:V):Prop:=(∀ c,n<=c->y c=0)/\∀ x,x<m->dot n y (A x)=0
theorem Ker.span {n m A y}(h:Ker n m A y){v}(hv:Sp m A v):dot n y v=0:=by
 induction hv with
 | zero=>rw[tF]; exact N0 _ _
 | add j t hj _ ih=>rw[tF,N3,tF _ y,ih,tF _ y,h.2 j hj]; simp
theorem Ker.a4X {n m A y}(h1:∀ c,n<=c->y c=0)(h2:∀ v,Sp m A v->dot n y v=0):Ker n m A y:=⟨h1,λx hx=>h2 _ (Sp.mem hx)⟩
theorem Ker.same {n m m' A A'}(h:Same m A m' A'){y}:Ker n m A y↔Ker n m' A' y :=
 ⟨λg=>.a4X g.1 λv hv=>g.span ((h v).2 hv),λg=>.a4X g.1 λv hv=>g.span ((h v).1 hv)⟩
def dG(n m:Nat) (A:Nat->V) (k:Nat) (K:Nat->V):Prop:=∀ y,Sp k K y↔Ker n m A y
theorem dG.width {n m k A K}(h:dG n m A k K){i}(hi:i<k):∀ c,n<=c->K i c=0:=((h _).1 (Sp.mem hi)).1
def wide(n m:Nat) (A:Nat->V):Nat->V:=λc x=>if x<m then A x c else if x=m+c then 1 else 0
theorem aZS {n m A} y:∀ j,j<=n->Sp n (wide n m A) (λx=>if x<m then dot j y (A x) else if x<m+j then y (x-m) else 0)
 | 0,_=>by
  refine cast (congrArg _ ?_) Sp.zero
  funext x
  split
  ·rfl
  grind
 | j+1,h=>by
  have:=Sp.comb (y j) (aZS y j Z) (Sp.mem (M:=wide n m A) (show j<n by omega));refine cast (congrArg _ ?_) this
  funext x
  simp only[wide];split
  ·rfl
  ·grind
theorem bB8 {n m A v}(h:Sp n (wide n m A) v):(∀ x,x<m->v x=dot n (λc=>v (m+c)) (A x))/\∀ c,n<=c->v (m+c)=0:=by
 have unit:∀ (j:Nat) (b:V),∀ n,dot n (λc=>if m+c=m+j then (1:Int) else 0) b=if j<n then b j else 0:=by
  intro j b n
  induction n with
  | zero=>rfl
  | succ n ih =>
   rw[dot,ih];grind
 induction h with
 | zero=>exact⟨λx _=>(N0 _ _).symm,λ_ _=>rfl⟩
 | add j t hj _ ih =>
  obtain⟨h1,h2⟩:=ih;refine⟨λx hx=>?_,λc hc=>?_⟩
  ·rw[N3,<- h1 x hx];have e:(λc=>wide n m A j (m+c))=λc=>if m+c=m+j then 1 else 0:=by
    funext c
    have:¬ m+c<m:=Z
    simp only[wide,this,if_false]
   rw[e,unit,if_pos hj];simp only[wide,hx,if_true]
  ·have h3:=h2 c hc;have e1:¬ m+c<m:=Z
   have e2:¬ m+c=m+j:=Z
   simp only[wide,e1,e2,if_false,Int.mul_zero,Int.add_zero,h3]
theorem Hn.drop:∀ {j k:Nat} {M:Nat->V} {p:Nat->Nat} {m:Nat},Hn k M p->j<=k->(∀ i,i<j->p i<m)->∀ {v:V},Sp k M v->(∀ x,x<m->v x=0)->Sp (k-j) (λi=>M (j+i)) v
 | 0,k,M,p,m,h,_,_,v,hv,_=>W
 | j+1,0,M,p,m,h,hj,_,v,hv,_=>Z
 | j+1,k+1,M,p,m,h,hj,hp,v,hv,hz=>by
  obtain⟨t,u,hu,rfl⟩:=hv.first;have h0:=hz (p 0) (hp 0 Z);have h1:=h.aN2 hu (Nat.le_refl _);have h2:=h.pos 0 Z;simp only[h1,Int.zero_add]at h0;have ht:t=0:=by
   rcases Int.mul_eq_zero.1 h0 with h3|h3
   ·exact h3
   ·omega
  subst ht;have e:(λi=>u i+0*M 0 i)=u:=by funext i; simp
  rw[e]at hz ⊢;have:=Hn.drop (j:=j) h.tail Z (λi hi=>hp (i+1) Z) hu hz;grind
theorem a7E {n m k j:Nat} {A W:Nat->V} {p:Nat->Nat} (h:Hn k W p) (hs:Same n (wide n m A) k W) (hj:j<=k) (h1:∀ i,i<j->p i<m) (h2:∀ i,j<=i->i<k->m<=p i) :
  dG n m A (k-j) (λi y=>W (j+i) (m+y)):=by
 intro y;constructor
 ·intro hy;have key:∃ v,Sp k W v/\(∀ x,x<m->v x=0)/\y=λc=>v (m+c):=by
   induction hy with
   | zero=>exact⟨_,.zero,λ_ _=>rfl,rfl⟩
   | add i t hi _ ih =>
    obtain⟨v,g1,g2,rfl⟩:=ih;refine⟨_,Sp.add (j+i) t Z g1,λx hx=>?_,rfl⟩;have:=h.low (j+i) Z x (by have:=h2 (j+i) Z Z; omega);grind
  obtain⟨v,g1,g2,rfl⟩:=key;obtain⟨q1,q2⟩:=bB8 ((hs v).2 g1);exact⟨q2,λx hx=>by rw[<- q1 x hx]; exact g2 x hx⟩
 ·rintro⟨g1,g2⟩;have hv:=aZS (A:=A) (n:=n) (m:=m) y n (Nat.le_refl _);have:=Hn.drop h hj h1 ((hs _).1 hv) (λx hx=>by simp only[hx,if_true]; exact g2 x hx);have key:∀ {v:V},Sp (k-j) (λi=>W (j+i)) v->Sp (k-j) (λi y=>W (j+i) (m+y)) (λc=>v (m+c)):=by
   intro v hv
   induction hv with
   | zero=>exact .zero
   | add i t hi _ ih=>exact Sp.add i t hi ih
  have:=key this;refine cast (congrArg _ ?_) this;grind
theorem aEE(a:Int){m}(h:m<0):m<a.fmod m/\a.fmod m<=0:=by
 have h1:=Int.neg_fmod_neg (-a) (-m);rw[Int.neg_neg,Int.neg_neg]at h1;have h2:=Int.fmod_nonneg_of_pos (-a) (show 0 < -m by omega);have h3:=Int.fmod_lt_of_pos (-a) (show 0 < -m by omega);omega
theorem aY0(a m:Int)(hm:m≠0):(a.fdiv m).natAbs*m.natAbs<=a.natAbs+m.natAbs:=by
 have h1:=Int.fmod_def a m;have h2:(m*a.fdiv m).natAbs=(a.fdiv m).natAbs*m.natAbs:=by rw[Int.natAbs_mul,Nat.mul_comm]
 rcases Int.lt_or_gt_of_ne hm with h|h
 ·have h3:=aEE a h;omega
 ·have h3:=Int.fmod_nonneg_of_pos a h;have h4:=Int.fmod_lt_of_pos a h;omega
theorem aYU(a m:Int)(hm:m≠0):(a.fmod m).natAbs<m.natAbs:=by
 rcases Int.lt_or_gt_of_ne hm with h|h
 ·have h3:=aEE a h;omega
 ·have h3:=Int.fmod_nonneg_of_pos a h;have h4:=Int.fmod_lt_of_pos a h;omega
theorem aQC(a m:Int):a-a.fdiv m*m=a.fmod m:=by rw[Int.fmod_def,Int.mul_comm]
theorem bA5 {a b q:Int} {E Q:Nat} (ha:a.natAbs<=E) (hb:b.natAbs<=E) (hq:q.natAbs<=Q):(a-q*b).natAbs<=E+Q*E:=by
 have h1:(q*b).natAbs=q.natAbs*b.natAbs:=Int.natAbs_mul _ _;have h2:q.natAbs*b.natAbs<=Q*E:=Nat.mul_le_mul hq hb;omega
def Wi(k:Nat) (M:Nat->V) (d c E A:Nat):Prop:=∀ i,d<=i->i<k->(∀ x,(M i x).natAbs<=E)/\(M i c).natAbs<=A
def Rd(k:Nat) (M M':Nat->V) (d c:Nat):Prop:=M' d=M d/\∀ i,d<i->i<k->M' i=λx=>M i x-(M i c).fdiv (M d c)*M d x
theorem Rd.a3U {k d c E A:Nat} {M M':Nat->V} (h:Rd k M M' d c) (hw:Wi k M d c E A) (hk:d<k) (hm:M d c≠0) (hA:(M d c).natAbs<=A) :
  ∃ E',Wi k M' d c E' (M d c).natAbs/\E'*(M d c).natAbs<=3*(E*A):=by
 have hmp:0<(M d c).natAbs:=Z
 refine⟨E+(A/(M d c).natAbs+1)*E,λi h1 h2=>?_,?_⟩
 ·by_cases e:i=d
  ·subst e;rw[h.1];refine⟨λx=>?_,Nat.le_refl _⟩;have:=(hw i h1 h2).1 x;grind
  ·have hr:=h.2 i Z h2;have hq:((M i c).fdiv (M d c)).natAbs<=A/(M d c).natAbs+1:=by
    have h3:=aY0 (M i c) (M d c) hm;have h4:=(hw i h1 h2).2;have h5:((M i c).fdiv (M d c)).natAbs<=(A+(M d c).natAbs)/(M d c).natAbs:=by
     rw[Nat.le_div_iff_mul_le hmp];omega
    simp_all
   rw[hr];refine⟨λx=>bA5 ((hw i h1 h2).1 x) ((hw d (Nat.le_refl _) hk).1 x) hq,?_⟩;dsimp only;rw[aQC];exact Nat.le_of_lt (aYU _ _ hm)
 ·have h1:A/(M d c).natAbs*(M d c).natAbs<=A:=Nat.div_mul_le_self _ _;generalize A/(M d c).natAbs=q at h1;generalize (M d c).natAbs=m at *;have h2:(E+(q+1)*E)*m=2*(E*m)+E*(q*m):=W
  have h3:E*(q*m)<=E*A:=Nat.mul_le_mul_left _ h1;have h4:E*m<=E*A:=Nat.mul_le_mul_left _ hA;omega
theorem bAD a b c (h:a+b<=c):4*(a*b)<=c*c:=by
 have h1 :=Nat.mul_le_mul h h;have h2 :=by
  have:(a+b)*(a+b)=4*(a*b)+(a-b)*(a-b)+(b-a)*(b-a):=by
   rcases Nat.le_total a b with g|g
   ·obtain⟨e,rfl⟩:=Nat.exists_eq_add_of_le g;grind
   ·obtain⟨e,rfl⟩:=Nat.exists_eq_add_of_le g;grind
  omega
 omega
structure Bt (k:Nat) (M:Nat->V) (d c C:Nat):Prop where
 dk:d<k
 ex:∃ E,Wi k M d c E (M d c).natAbs/\∃ i,d<i/\i<k/\M i c≠0/\E*(M d c).natAbs^3*(M i c).natAbs<=C
 piv:M d c≠0
 sign:∀ i,d<i->i<k->(M i c).natAbs<(M d c).natAbs/\(0<M d c->0<=M i c)/\(M d c<0->M i c<=0)
theorem Wi.swap {k d c E A a M}(h:Wi k M d c E A)(ha:d<=a)(hk:a<k):Wi k (swp M d a) d c E A:=by
 intro i h1 h2;unfold swp;split
 ·exact h a ha hk
 ·split
  ·exact h d (Nat.le_refl _) Z
  ·exact h i h1 h2
theorem Rd.sign {k d c M M'}(h:Rd k M M' d c)(hm:M d c≠0):∀ i,d<i->i<k->M' i c=(M i c).fmod (M d c)/\(M' i c).natAbs<(M' d c).natAbs/\(0<M' d c->0<=M' i c)/\(M' d c<0->M' i c<=0):=by
 intro i h1 h2;have e:M' i c=(M i c).fmod (M d c):=by
  rw[h.2 i h1 h2];exact aQC _ _
 rw[e,h.1];exact⟨rfl,aYU _ _ hm,λhp=>Int.fmod_nonneg_of_pos _ hp,λhn=>(aEE _ hn).2⟩
theorem bAZ {p n:Int} (hs:(0<p/\0<n)\/(p<0/\n<0)) (hl:n.natAbs<p.natAbs):(p.fmod n).natAbs+n.natAbs<=p.natAbs:=by
 have key:∀ p n:Int,0<n->n<p->(p.fmod n).natAbs+n.natAbs<=p.natAbs:=by
  intro p n h1 h2;have h3:=Int.fmod_def p n;have h4:=Int.fmod_nonneg_of_pos p h1;have h5:=Int.fmod_lt_of_pos p h1;have h6:1<=p.fdiv n:=by
   rcases(by omega:p.fdiv n<1\/1<=p.fdiv n)with h|h
   ·have:n*p.fdiv n<=n*0:=Int.mul_le_mul_of_nonneg_left Z Z;omega
   ·exact h
  have h7:n*1<=n*p.fdiv n:=Int.mul_le_mul_of_nonneg_left h6 Z;omega
 rcases hs with ⟨h1,h2⟩|⟨h1,h2⟩
 ·grind
 ·have:=key (-p) (-n) Z Z
  simp_all
theorem Rd.first {k d c E A:Nat} {M M':Nat->V} (h:Rd k M M' d c) (hw:Wi k M d c E A) (hk:d<k) (hm:M d c≠0) :
  ((∀ i,d<i->i<k->M' i c=0)/\Wi k M' d c (3*(E*A)) A)\/Bt k M' d c (3*(E*A)*A^3):=by
 have hA:=(hw d (Nat.le_refl _) hk).2;have hmp:0<(M d c).natAbs:=Z
 obtain⟨E',h1,h2⟩:=h.a3U hw hk hm hA;have hs:=h.sign hm
 by_cases hz:∀ i,d<i->i<k->M' i c=0
 ·refine .inl ⟨hz,λi g1 g2=>⟨λx=>?_,?_⟩⟩
  ·have a1:=(h1 i g1 g2).1 x;have a2:E'*1<=E'*(M d c).natAbs:=Nat.mul_le_mul_left _ hmp;omega
  ·exact Nat.le_trans (h1 i g1 g2).2 hA
 ·refine .inr ⟨hk,⟨E',by rw[h.1]; exact h1,?_⟩,by rw[h.1]; exact hm,λi g1 g2=>(hs i g1 g2).2⟩;obtain⟨i,hi⟩:=Classical.not_forall.1 hz;obtain⟨g1,hi⟩:=Classical.not_forall.1 hi;obtain⟨g2,g3⟩:=Classical.not_forall.1 hi;refine⟨i,g1,g2,g3,?_⟩;have a1:=(hs i g1 g2).2.1;rw[h.1]at a1 ⊢;have a2:(M d c).natAbs^2*(M' i c).natAbs<=A^2*A:=Nat.mul_le_mul (Nat.pow_le_pow_left hA 2) Z;have a3:E'*(M d c).natAbs*((M d c).natAbs^2*(M' i c).natAbs)<=3*(E*A)*(A^2*A):=Nat.mul_le_mul h2 a2
  grind
theorem Bt.left {k d c C a:Nat} {M M':Nat->V} (h:Bt k M d c C) (ha:d<=a) (hk:a<k) (hm:M a c≠0) (hmin:∀ i,d<=i->i<k->M i c≠0->(M a c).natAbs<=(M i c).natAbs) (hr:Rd k (swp M d a) M' d c) (hz:¬ ∀ i,d<i->i<k->M' i c=0):M' d=M a/\(M a c).natAbs<(M d c).natAbs/\∃ i,d<i/\i<k/\M' i c≠0/\(M' i c).natAbs+(M a c).natAbs<=(M d c).natAbs/\(M' i c).natAbs<(M a c).natAbs:=by
 obtain⟨E,h1,i0,g1,g2,g3,g4⟩:=h.ex;have hda:d<a:=by
  rcases Nat.lt_or_ge d a with h9|h9
  ·exact h9
  ·have:a=d:=Z
   subst this;have:=hmin i0 Z g2 g3;have:=(h.sign i0 g1 g2).1;omega
 have e1:swp M d a d=M a:=by simp[swp]
 have e2:swp M d a a=M d:=by
  have:¬ a=d:=Z
  simp[swp,this]
 have hsa:=h.sign a hda hk;have hs:=hr.sign (by rw[e1]; exact hm);have hMd:M' d=M a:=by rw[hr.1,e1]
 have main:∃ i,d<i/\i<k/\M' i c≠0/\(M' i c).natAbs+(M a c).natAbs<=(M d c).natAbs:=by
  have ea:=(hs a hda hk).1;rw[e1,e2]at ea
  by_cases hz2:M' a c=0
  ·obtain⟨i,hi⟩:=Classical.not_forall.1 hz;obtain⟨z1,hi⟩:=Classical.not_forall.1 hi;obtain⟨z2,z3⟩:=Classical.not_forall.1 hi;refine⟨i,z1,z2,z3,?_⟩;have a1:=(hs i z1 z2).2.1;rw[hMd]at a1;have a2:(M a c).natAbs ∣ (M d c).natAbs:=by
    have:M a c ∣ M d c:=by
     rw[hz2]at ea;exact Int.dvd_of_fmod_eq_zero ea.symm
    simp_all
   obtain⟨t,ht⟩:=a2;have h2t:2<=t:=by
    rcases Nat.lt_or_ge t 2 with h|h
    ·have:(M a c).natAbs*t<=(M a c).natAbs*1:=Nat.mul_le_mul_left _ Z;omega
    ·exact h
   have:(M a c).natAbs*2<=(M a c).natAbs*t:=Nat.mul_le_mul_left _ h2t;omega
  ·refine⟨a,hda,hk,hz2,?_⟩;rw[ea];refine bAZ ?_ hsa.1;grind
 grind
def Pt(k:Nat) (M:Nat->V) (d c P:Nat):Prop:=∃ i,d<i/\i<k/\M i c≠0/\(M d c).natAbs*(M i c).natAbs<=P
theorem Bt.half {k d c C a M M'}(h:Bt k M d c C)(ha:d<=a)(hk:a<k)(hm:M a c≠0)(hmin:∀ i,d<=i->i<k->M i c≠0->(M a c).natAbs<=(M i c).natAbs)(hr:Rd k (swp M d a) M' d c)(hz:¬ ∀ i,d<i->i<k->M' i c=0){P}(hP:Pt k M d c P):Pt k M' d c (P/2):=by
 obtain⟨q1,q2,i,z1,z2,z3,z4,z5⟩:=h.left ha hk hm hmin hr hz;obtain⟨i0,w1,w2,w3,w4⟩:=hP;have w5:=hmin i0 Z w2 w3;refine⟨i,z1,z2,z3,?_⟩;have a1:(M a c).natAbs*(2*(M' i c).natAbs)<=(M a c).natAbs*(M d c).natAbs:=Nat.mul_le_mul_left _ Z;have a2:(M d c).natAbs*(M a c).natAbs<=(M d c).natAbs*(M i0 c).natAbs:=Nat.mul_le_mul_left _ w5;grind
theorem Bt.round {k d c C a:Nat} {M M':Nat->V} (h:Bt k M d c C) (ha:d<=a) (hk:a<k) (hm:M a c≠0) (hmin:∀ i,d<=i->i<k->M i c≠0->(M a c).natAbs<=(M i c).natAbs) (hr:Rd k (swp M d a) M' d c) :
  ((∀ i,d<i->i<k->M' i c=0)/\∃ A,Wi k M' d c (3*C) A)\/(Bt k M' d c C/\(M' d c).natAbs<(M d c).natAbs):=by
 obtain⟨E,h1,i0,g1,g2,g3,g4⟩:=h.ex;have hda:d<a:=by
  rcases Nat.lt_or_ge d a with h9|h9
  ·exact h9
  ·have:a=d:=Z
   subst this;have:=hmin i0 Z g2 g3;have:=(h.sign i0 g1 g2).1;omega
 have e1:swp M d a d=M a:=by simp[swp]
 have hsa:=h.sign a hda hk;have hA:(swp M d a d c).natAbs<=(M d c).natAbs:=by rw[e1]; omega
 obtain⟨E',q1,q2⟩:=hr.a3U (h1.swap ha hk) h.dk (by rw[e1]; exact hm) hA;rw[e1]at q1 q2;have hs:=hr.sign (by rw[e1]; exact hm);have hC:E*(M d c).natAbs^3*(M a c).natAbs<=C:=Nat.le_trans (Nat.mul_le_mul_left _ (hmin i0 Z g2 g3)) g4;have hmp:0<(M a c).natAbs:=Z
 have hMd:M' d=M a:=by rw[hr.1,e1]
 by_cases hz:∀ i,d<i->i<k->M' i c=0
 ·refine .inl ⟨hz,(M a c).natAbs,λi z1 z2=>⟨λx=>?_,(q1 i z1 z2).2⟩⟩;have a1:=(q1 i z1 z2).1 x;have a2:E'*1<=E'*(M a c).natAbs:=Nat.mul_le_mul_left _ hmp;have a3:E*(M d c).natAbs*1<=E*(M d c).natAbs*((M d c).natAbs^2*(M a c).natAbs):=Nat.mul_le_mul_left _ (Nat.mul_pos (Nat.pow_pos Z) hmp);grind
 ·refine .inr ⟨⟨h.dk,⟨E',by rw[hMd]; exact q1,?_⟩,by rw[hMd]; exact hm,λi z1 z2=>(hs i z1 z2).2⟩,by rw[hMd]; exact hsa.1⟩;obtain⟨_,_,i,z1,z2,z3,z4,_⟩:=h.left ha hk hm hmin hr hz;refine⟨i,z1,z2,z3,?_⟩;rw[hMd];have a1:=bAD _ _ _ z4;generalize (M' i c).natAbs=y at *;generalize (M a c).natAbs=x at *;generalize (M d c).natAbs=m at *;have a2:E'*x*(x^2*y)<=3*(E*m)*(x^2*y):=Nat.mul_le_mul_right _ q2;have a3:(E*m*x)*(4*(y*x))<=(E*m*x)*(m*m):=Nat.mul_le_mul_left _ a1
  grind
theorem Hn.shift {k M p}(h:Hn k M p) j (hj:j<=k):Hn (k-j) (λi=>M (j+i)) (λi=>p (j+i)) where
 inc:=λa b hab hb=>h.inc _ _ Z Z
 low:=λi hi=>h.low _ Z
 pos:=λi hi=>h.pos _ Z
 red:=λa b hab hb=>h.red _ _ Z Z
end Go.Lz
namespace Go.PM
open Go Go.RowKit Go.Proofs Go.Lz
abbrev qN:Nat:=400000
def Zr(n:Nat) (v:V):List ByteArray:=(List.range n).map λi=>Zn (v i)
theorem pO n v:(Zr n v).length=n:=by simp[Zr]
theorem aP1 {n i} v (h:i<n) d:(Zr n v).getD i d=Zn (v i):=by simp[Zr,h]
theorem aC7 {n u v}(h:∀ i,i<n->u i=v i):Zr n u=Zr n v:=by
 refine List.map_congr_left λi hi=>?_
 grind
theorem a8Q {n}(u v:V) t (h:t<n):(Zr n λx=>if x<t then v x else u x).set t (Zn (v t))=Zr n λx=>if x<t+1 then v x else u x:=by
 refine List.ext_getElem? λi=>?_
 simp only[Zr];grind
theorem aGS {α:Type}(A:List α) j x d (h:j<A.length):(A.set j x).getD j d=x:=W
theorem getD_set_ne {α:Type}(A:List α){j k} x d (h:j≠k):(A.set j x).getD k d=A.getD k d:=W
theorem aJ2 {α:Type}{A:List α}{j x} d (h:A[j]?=some x):A.getD j d=x:=W
structure aVN (n:Nat) (u v:V) (q:Int):Prop where
 mul:∀ i,i<n->Lib.nDigits q.natAbs+Lib.nDigits (v i).natAbs<=qN
 sub:∀ i,i<n->Lib.nDigits (u i).natAbs<=qN
theorem aZU a b:Lib.nDigits (a*b)<=Lib.nDigits a+Lib.nDigits b:=by
 have h1:=jZ a;have h2:=jZ b;have p2:=nDigits_pos b;have h4 :=Nat.mul_lt_mul'' h1 h2;rw[<- Nat.pow_add]at h4;obtain⟨k,hk⟩:∃ k,Lib.nDigits a+Lib.nDigits b=k+1:=⟨Lib.nDigits a+Lib.nDigits b-1,by omega⟩;rw[hk]at h4 ⊢;exact HI h4
theorem aC1 {α:Type}{pre l:List α}{o t}(h:pre.length=o) d:(pre++l).getD (o+t) d=l.getD t d:=W
theorem a45 {α:Type}{pre l:List α}{o t}(h:pre.length=o) x:(pre++l).set (o+t) x=pre++l.set t x:=W
theorem a7H {A:List (List ByteArray)}{J K o n u v q pre pre'}(hn:n<1048576)(hne:J≠K)(hp:pre.length=o)(hp':pre'.length=o)(hJ:A[J]?=some (pre++Zr n u))(hK:A[K]?=some (pre'++Zr n v))(ok:aVN n u v q) :
  tC ((J,o,n),Zn q,(K,o,n),(n:Int),0,A,())=some (A.set J (pre++Zr n λx=>u x-q*v x),()):=by
 have hJl:J<A.length:=(oO.1 hJ).1;have key:=aU (step:=n8) (N:=2^64)
  (λt=>((J,o,n),Zn q,(K,o,n),(n:Int),(t:Int),A.set J (pre++Zr n λx=>if x<t then u x-q*v x else u x),())) n (A.set J (pre++Zr n λx=>u x-q*v x),()) Z (λt ht=>?_) ?_
 ·have h0:(A.set J (pre++Zr n λx=>if x<0 then u x-q*v x else u x))=A:=by
   have:Zr n (λx=>if x<0 then u x-q*v x else u x)=Zr n u:=aC7 λi _=>R
   rw[this];refine List.ext_getElem? λi=>?_
   grind
  simp only[h0]at key;exact key
 ·have hg:(A.set J (pre++Zr n λx=>if x<t then u x-q*v x else u x)).getD J []=pre++Zr n λx=>if x<t then u x-q*v x else u x:=aGS _ _ _ _ hJl
  have hk:(A.set J (pre++Zr n λx=>if x<t then u x-q*v x else u x)).getD K []=pre'++Zr n v:=by rw[getD_set_ne _ _ _ hne]; exact aJ2 _ hK
  have e1:ltI (t:Int) (n:Int)=true:=by rw[aE]; simp; omega
  have e2:aF (t:Int) n=true:=by rw[aL]; simp; omega
  have e3:(o+((t:Nat):Int).toNat)*1=o+t:=R
  have e4:cI (A.set J (pre++Zr n λx=>if x<t then u x-q*v x else u x)) J=o+n:=by rw[cI,hg,oH,pO,hp]
  have e5:cI (A.set J (pre++Zr n λx=>if x<t then u x-q*v x else u x)) K=o+n:=by rw[cI,hk,oH,pO,hp']
  have e6:Nat.blt (o+t) (o+n)=true:=by rw[b9]; simpa using ht
  have e7:cS (A.set J (pre++Zr n λx=>if x<t then u x-q*v x else u x)) J (o+t) ByteArray.empty=Zn (u t):=by rw[cS,hg,aC1 hp,aP1 _ ht]; simp
  have e8:cS (A.set J (pre++Zr n λx=>if x<t then u x-q*v x else u x)) K (o+t) ByteArray.empty=Zn (v t):=by rw[cS,hk,aC1 hp',aP1 _ ht]
  have e9:wQ (A.set J (pre++Zr n λx=>if x<t then u x-q*v x else u x)) J (o+t) (Zn (u t-q*v t))=A.set J (pre++Zr n λx=>if x<t+1 then u x-q*v x else u x):=by
   rw[wQ,hg,List.set_set,a45 hp];exact oZ (λl=>A.set J (pre++l)) (a8Q u (λx=>u x-q*v x) t ht)
  have m1:=a17 q (v t) (ok.mul t ht);have m2:=a2U (u t) (q*v t) (ok.sub t ht) (by rw[Int.natAbs_mul]; exact oR (aZU _ _) (ok.mul t ht));have e10:=bO t Z;simp only[n8,e1,oC,e2,e3,e5,e6,e4,e7,e8,m1,aD,m2,e9,e10]
 ·have e1:ltI (n:Int) (n:Int)=false:=by rw[aE]; simp
  simp only[n8,e1,oD];have:Zr n (λx=>if x<n then u x-q*v x else u x)=Zr n λx=>u x-q*v x:=aC7 λi hi=>by simp[hi]
  rw[this]
theorem aZT {α:Type}{A:List α}{J x}(h:A[J]?=some x):A.set J x=A:=by
 refine List.ext_getElem? λi=>?_
 grind
theorem bDM {A:List (List ByteArray)} {J K o n:Nat} {u v:V} {q:Int} {pre pre':List ByteArray} (hn:n<1048576) (hne:J≠K) (hp:pre.length=o) (hp':pre'.length=o) (hJ:A[J]?=some (pre++Zr n u)) (hK:A[K]?=some (pre'++Zr n v)) (ok:aVN n u v q) :
  gW () ((J,o,n),Zn q,(K,o,n),()) A=some ((),A.set J (pre++Zr n λx=>u x-q*v x)):=by
 unfold gW;simp only[W6]
 by_cases hq:q=0
 ·subst hq;simp only[decide_true,oC];have:Zr n (λx=>u x-0*v x)=Zr n u:=aC7 λi _=>R
  rw[this,aZT hJ]
 ·simp only[hq,decide_false,oD,a7H hn hne hp hp' hJ hK ok,aD]
theorem negate_eq {A:List (List ByteArray)} {J o n:Nat} {u:V} {pre:List ByteArray} (hn:n<1048576) (hp:pre.length=o) (hJ:A[J]?=some (pre++Zr n u)) (ok:∀ i,i<n->Lib.nDigits (u i).natAbs<=qN) :
  eB () ((J,o,n),()) A=some ((),A.set J (pre++Zr n λx=>-(u x))):=by
 have hJl:J<A.length:=(oO.1 hJ).1;have key:=aU (step:=l4) (N:=2^64)
  (λt=>((J,o,n),(J,o,n),(n:Int),(t:Int),A.set J (pre++Zr n λx=>if x<t then -(u x) else u x),())) n (A.set J (pre++Zr n λx=>-(u x)),()) Z (λt ht=>?_) ?_
 ·have h0:(A.set J (pre++Zr n λx=>if x<0 then -(u x) else u x))=A:=by
   have:Zr n (λx=>if x<0 then -(u x) else u x)=Zr n u:=aC7 λi _=>R
   rw[this,aZT hJ]
  simp only[h0]at key;unfold eB rQ;have e0:((0:Nat):Int)=0:=rfl;rw[e0]at key;simp only[key,aD]
 ·have hg:(A.set J (pre++Zr n λx=>if x<t then -(u x) else u x)).getD J []=pre++Zr n λx=>if x<t then -(u x) else u x:=aGS _ _ _ _ hJl
  have e1:ltI (t:Int) (n:Int)=true:=by rw[aE]; simp; omega
  have e2:aF (t:Int) n=true:=by rw[aL]; simp; omega
  have e3:(o+((t:Nat):Int).toNat)*1=o+t:=R
  have e4:cI (A.set J (pre++Zr n λx=>if x<t then -(u x) else u x)) J=o+n:=by rw[cI,hg,oH,pO,hp]
  have e6:Nat.blt (o+t) (o+n)=true:=by rw[b9]; simpa using ht
  have e7:cS (A.set J (pre++Zr n λx=>if x<t then -(u x) else u x)) J (o+t) ByteArray.empty=Zn (u t):=by rw[cS,hg,aC1 hp,aP1 _ ht]; simp
  have e9:wQ (A.set J (pre++Zr n λx=>if x<t then -(u x) else u x)) J (o+t) (Zn (-(u t)))=A.set J (pre++Zr n λx=>if x<t+1 then -(u x) else u x):=by
   rw[wQ,hg,List.set_set,a45 hp];exact oZ (λl=>A.set J (pre++l)) (a8Q u (λx=>-(u x)) t ht)
  have m1:=aS7 (u t) (Nat.lt_of_le_of_lt (ok t ht) O);have e10:=bO t Z;simp only[l4,e1,oC,e2,e3,e6,e4,e7,m1,aD,e9,e10]
 ·have e1:ltI (n:Int) (n:Int)=false:=by rw[aE]; simp
  simp only[l4,e1,oD];have:Zr n (λx=>if x<n then -(u x) else u x)=Zr n λx=>-(u x):=aC7 λi hi=>by simp[hi]
  rw[this]
theorem aFJ {σ τ:Type} {step:σ->Option (σ⊕τ)} {N:Nat} (m:Nat) (I:Nat->σ->Prop) (Q:τ->Prop) (hN:m<N) (x:σ) (h0:I 0 x) (h:∀ t x,t<m->I t x->∃ y,step x=some (.inl y)/\I (t+1) y) (he:∀ x,I m x->∃ z,step x=some (.inr z)/\Q z) :
  ∃ z,bF step N x=some z/\Q z:=by
 have key:∀ (j t:Nat) (x:σ) (N:Nat),t+j=m->j<N->I t x->∃ z,bF step N x=some z/\Q z:=by
  intro j
  induction j with
  | zero =>
   intro t x N ht hN hI;have:t=m:=Z
   subst this;obtain⟨N,rfl⟩:∃ M,N=M+1:=⟨N-1,by omega⟩;obtain⟨z,h1,h2⟩:=he x hI;exact⟨z,by rw[cZ,h1],h2⟩
  | succ j ih =>
   intro t x N ht hN hI;obtain⟨N,rfl⟩:∃ M,N=M+1:=⟨N-1,by omega⟩;obtain⟨y,h1,h2⟩:=h t x Z hI;obtain⟨z,h3,h4⟩:=ih (t+1) y N Z Z h2;exact⟨z,by rw[cZ,h1]; exact h3,h4⟩
 grind
structure gI (o k n:Nat) (m:List (Nat×Nat×Nat)) (A:List (List ByteArray)) (J:Nat->Nat) (M:Nat->V):Prop where
 ml:m=(List.range k).map λi=>(J i,o,n)
 at_:∀ i,i<k->∃ pre:List ByteArray,pre.length=o/\A[J i]?=some (pre++Zr n (M i))
 inj:∀ i j,i<k->j<k->J i=J j->i=j
section
variable {o k n:Nat} {m:List (Nat×Nat×Nat)} {A:List (List ByteArray)} {J:Nat->Nat} {M:Nat->V}
theorem gI.len (h:gI o k n m A J M):m.length=k:=by rw[h.ml]; simp
theorem gI.get (h:gI o k n m A J M){i}(hi:i<k):m.getD i (0,0,0)=(J i,o,n):=by rw[h.ml]; grind
theorem gI.cI (h:gI o k n m A J M){i}(hi:i<k):cI A (J i)=o+n:=by
 obtain⟨pre,h1,h2⟩:=h.at_ i hi;rw[PM.cI,aJ2 _ h2,oH,pO,h1]
theorem gI.cS (h:gI o k n m A J M){i c}(hi:i<k)(hc:c<n):cS A (J i) (o+c) ByteArray.empty=Zn (M i c):=by
 obtain⟨pre,h1,h2⟩:=h.at_ i hi;rw[PM.cS,aJ2 _ h2,aC1 h1,aP1 _ hc]
theorem gI.aNU (h:gI o k n m A J M){i}(hi:i<k) r {pre}(hp:pre.length=o):gI o k n m (A.set (J i) (pre++Zr n r)) J (up M i r) where
 ml:=h.ml
 at_:=λj hj=>by
  by_cases e:j=i
  ·subst e;obtain⟨pre',h1,h2⟩:=h.at_ j hj;exact⟨pre,hp,by rw[List.getElem?_set_self (oO.1 h2).1,N7]⟩
  ·obtain⟨pre',h1,h2⟩:=h.at_ j hj;exact⟨pre',h1,by rw[List.getElem?_set_ne (λe'=>e (h.inj i j hi hj e').symm),E5 _ _ e]; grind⟩
 inj:=h.inj
theorem gI.less (h:gI o k n m A J M)(hn:n<1048576){i d}(hi:i<k)(hd:d<k)(hne:i≠d) q (ok:aVN n (M i) (M d) q) :
  ∃ A',gW () ((J i,o,n),Zn q,(J d,o,n),()) A=some ((),A')/\gI o k n m A' J (up M i λx=>M i x-q*M d x):=by
 obtain⟨pre,h1,h2⟩:=h.at_ i hi;obtain⟨pre',h3,h4⟩:=h.at_ d hd;exact⟨_,bDM hn (λe=>hne (h.inj i d hi hd e)) h1 h3 h2 h4 ok,h.aNU hi _ h1⟩
theorem gI.neg (h:gI o k n m A J M)(hn:n<1048576){i}(hi:i<k)(ok:∀ x,x<n->Lib.nDigits (M i x).natAbs<=qN) :
  ∃ A',eB () ((J i,o,n),()) A=some ((),A')/\gI o k n m A' J (up M i λx=>-(M i x)):=by
 obtain⟨pre,h1,h2⟩:=h.at_ i hi;exact⟨_,negate_eq hn h1 h2 ok,h.aNU hi _ h1⟩
theorem gI.swap (h:gI o k n m A J M){a b}(ha:a<k)(hb:b<k):gI o k n ((m.set a (J b,o,n)).set b (J a,o,n)) A (λi=>if i=a then J b else if i=b then J a else J i) (swp M a b) where
 ml:=by
  refine List.ext_getElem? λi=>?_
  have hl:=h.len;rw[List.getElem?_map]
  by_cases e1:i=b
  ·grind
  ·rw[List.getElem?_set_ne (Ne.symm e1)]
   by_cases e2:i=a
   ·grind
   ·rw[List.getElem?_set_ne (Ne.symm e2),h.ml,List.getElem?_map];grind
 at_:=λi hi=>by
  by_cases e1:i=a
  ·subst e1;simp only[if_true,swp];exact h.at_ b hb
  ·by_cases e2:i=b
   ·subst e2;simp only[e1,if_false,if_true,swp];exact h.at_ a ha
   ·simp only[e1,e2,if_false,swp];exact h.at_ i hi
 inj:=λi j hi hj e=>by
  have key:∀ i,i<k->(if i=a then J b else if i=b then J a else J i)=J (if i=a then b else if i=b then a else i):=λi _=>W
  simp only[key i hi,key j hj]at e;have lt:∀ i,i<k->(if i=a then b else if i=b then a else i)<k:=λi hi=>W
  have:=h.inj _ _ (lt i hi) (lt j hj) e;grind
end
def atv:Option Nat->Int
 | none=>-1
 | some a=>a
structure a8R (M:Nat->V) (c d t:Nat) (r:Option Nat):Prop where
 none:r=Option.none->∀ i,d<=i->i<d+t->M i c=0
 some:∀ a,r=Option.some a->d<=a/\a<d+t/\M a c≠0/\∀ i,d<=i->i<d+t->M i c≠0->(M a c).natAbs<=(M i c).natAbs
def Cm(k n:Nat) (M:Nat->V):Prop:=∀ i,i<k->∀ x,x<n->Lib.nDigits (M i x).natAbs<=qN
theorem aJV {o k n m A J M}(h:gI o k n m A J M)(hk:k<1048576)(hc:Cm k n M){c d}(hcn:c<n)(hd:d<=k)(cols:Int) :
  ∃ r,gR (m,cols,(d:Int),(c:Int),-1,(d:Int),A,())=some (m,cols,(d:Int),(c:Int),atv r,A,())/\a8R M c d (k-d) r:=by
 have:=aFJ (step:=dQ) (N:=2^64) (k-d)
  (λt x=>∃ r,x=(m,cols,(d:Int),(c:Int),atv r,((d+t:Nat):Int),A,())/\a8R M c d t r)
  (λz=>∃ r,z=(m,cols,(d:Int),(c:Int),atv r,A,())/\a8R M c d (k-d) r) Z (m,cols,(d:Int),(c:Int),-1,(d:Int),A,())
  ⟨none,rfl,⟨λ_ i h1 h2=>by omega,λa ha=>by cases ha⟩⟩ ?_ ?_
 ·obtain⟨z,h1,r,rfl,h2⟩:=this;exact⟨r,h1,h2⟩
 ·rintro t x ht ⟨r,rfl,hr⟩;have hi:d+t<k:=Z
  have e1:ltI ((d+t:Nat):Int) (m.length:Int)=true:=by rw[aE,h.len]; simp; omega
  have e2:aF ((d+t:Nat):Int) m.length=true:=by rw[aL,h.len]; simp; omega
  have e3:(((d+t:Nat):Int)).toNat=d+t:=oN _;have e4:Nat.blt (d+t) m.length=true:=by rw[b9,h.len]; simpa using hi
  have e5:aF (c:Int) n=true:=by rw[aL]; simp; omega
  have e6:(o+((c:Nat):Int).toNat)*1=o+c:=R
  have e7:Nat.blt (o+c) (o+n)=true:=by rw[b9]; simpa using hcn
  have e8:=bO (d+t) Z;have e9:=h.get hi;have e10:=h.cI hi;have e11:=h.cS hi hcn
  by_cases hz:M (d+t) c=0
  ·refine⟨_,?_,r,rfl,⟨λhr0 i h1 h2=>?_,λa ha=>?_⟩⟩
   ·have e12:eqS (Zn (M (d+t) c)) (ByteArray.mk #[48])=true:=by rw[W6]; simp[hz]
    simp only[dQ,e1,e2,e3,e4,e9,e5,e6,e10,e7,e11,e12,e8,oC,Bool.not_true,oD];rfl
   ·by_cases e:i=d+t
    ·grind
    ·exact hr.none hr0 i h1 Z
   ·obtain⟨q1,q2,q3,q4⟩:=hr.some a ha;grind
  ·have e12:eqS (Zn (M (d+t) c)) (ByteArray.mk #[48])=false:=by rw[W6]; simp[hz]
   cases r with
   | none =>
    have e13:ltI (atv none) 0=true:=O
    refine⟨_,?_,some (d+t),rfl,⟨λhr0=>by (cases hr0),λa ha=>?_⟩⟩
    ·simp only[dQ,e1,e2,e3,e4,e9,e5,e6,e10,e7,e11,e12,e8,oC,Bool.not_false,e13];rfl
    ·obtain rfl:=oB ha;refine⟨by omega,by omega,hz,λi h1 h2 h3=>?_⟩
     by_cases e:i=d+t
     ·subst e; exact oM _
     ·exact absurd (hr.none rfl i h1 Z) h3
   | some a =>
    obtain⟨q1,q2,q3,q4⟩:=hr.some a rfl;have ha:a<k:=Z
    have e13:ltI (atv (some a)) 0=false:=by rw[aE]; exact oF (by unfold atv; dsimp only; omega)
    have f2:aF (atv (some a)) m.length=true:=by rw[aL,h.len]; simp[atv]; omega
    have f3:(atv (some a)).toNat=a:=by simp[atv]
    have f4:Nat.blt a m.length=true:=by rw[b9,h.len]; simpa using ha
    have f9:=h.get ha;have f10:=h.cI ha;have f11:=h.cS ha hcn;have c1:=aUI (M (d+t) c);have c2:=aUI (M a c);have c3:=aR9 (M (d+t) c).natAbs (M a c).natAbs (Nat.lt_of_le_of_lt (hc _ hi c hcn) O) (Nat.lt_of_le_of_lt (hc _ ha c hcn) O)
    by_cases hl:(M (d+t) c).natAbs<(M a c).natAbs
    ·have c4:ltI (aFV (M (d+t) c).natAbs (M a c).natAbs) 0=true:=by rw[aE,aFV,if_pos hl]; rfl
     refine⟨_,?_,some (d+t),rfl,⟨λhr0=>by (cases hr0),λb hb=>?_⟩⟩
     ·simp only[dQ,e1,e2,e3,e4,e9,e5,e6,e10,e7,e11,e12,e8,oC,Bool.not_false,e13,oD,f2,f3,f4,f9,f10,f11,c1,c2,c3,c4,aD];rfl
     ·obtain rfl:=oB hb;refine⟨by omega,by omega,hz,λi h1 h2 h3=>?_⟩
      by_cases e:i=d+t
      ·subst e; exact oM _
      ·have:=q4 i h1 Z h3; omega
    ·have c4:ltI (aFV (M (d+t) c).natAbs (M a c).natAbs) 0=false:=by
      rw[aE,aFV,if_neg hl]; split <;> rfl
     refine⟨_,?_,some a,rfl,⟨λhr0=>by (cases hr0),λb hb=>?_⟩⟩
     ·simp only[dQ,e1,e2,e3,e4,e9,e5,e6,e10,e7,e11,e12,e8,oC,Bool.not_false,e13,oD,f2,f3,f4,f9,f10,f11,c1,c2,c3,c4,aD];rfl
     ·obtain rfl:=oB hb;refine⟨q1,by omega,q3,λi h1 h2 h3=>?_⟩
      by_cases e:i=d+t
      ·subst e; omega
      ·exact q4 i h1 Z h3
 ·rintro x ⟨r,rfl,hr⟩;have e1:ltI ((d+(k-d):Nat):Int) (m.length:Int)=false:=by rw[aE,h.len]; simp; omega
  refine⟨_,?_,r,rfl,hr⟩;simp only[dQ,e1,oD]
theorem P6 {T}(hT:2*Lib.nDigits (T+1)<=qN){a}(h:a<=T+1):2*Lib.nDigits a<=qN:=oR (Nat.mul_le_mul_left 2 (A9 h)) hT
theorem aJW {a m:Int}{T}(h:a.natAbs<=T)(hm:m≠0):(a.fdiv m).natAbs<=T+1:=by
 have h1:=aY0 a m hm;have h2:1<=m.natAbs:=Z
 have h3:(a.fdiv m).natAbs*m.natAbs<=(T+1)*m.natAbs:=by
  rw[Nat.succ_mul];have:T*1<=T*m.natAbs:=Nat.mul_le_mul_left _ h2;omega
 exact Nat.le_of_mul_le_mul_right h3 Z
theorem aLI {T n}(hT:2*Lib.nDigits (T+1)<=qN){u v q}(hu:∀ x,x<n->(u x).natAbs<=T)(hv:∀ x,x<n->(v x).natAbs<=T)(hq:q.natAbs<=T+1):aVN n u v q:=by
 constructor
 ·intro i hi;have h1:=P6 hT hq;have h2:=P6 hT (Nat.le_succ_of_le (hv i hi));omega
 ·intro i hi;have h2:=P6 hT (Nat.le_succ_of_le (hu i hi));omega
def Big(k n:Nat) (M:Nat->V) (T:Nat):Prop:=∀ i,i<k->∀ x,x<n->(M i x).natAbs<=T
theorem Big.cm {k n T M}(h:Big k n M T)(hT:2*Lib.nDigits (T+1)<=qN):Cm k n M:=λi hi x hx=>by
 have:=P6 hT (Nat.le_succ_of_le (h i hi x hx));omega
section
variable {o k n d c:Nat} {m:List (Nat×Nat×Nat)} {A:List (List ByteArray)} {J:Nat->Nat} {M M0:Nat->V} {p:Nat->Nat} {T:Nat}
def rdT(M:Nat->V) (d c t:Nat):Nat->V:=λi=>if d<i/\i<d+1+t then (λx=>M i x-(M i c).fdiv (M d c)*M d x) else M i
theorem aO4(h:gI o k n m A J M)(hk:k<1048576)(hn:n<1048576)(f:Fo k M0 M d c p)(hd:d<k)(hcn:c<n)(hm:M d c≠0)(hB:Big k n M T)(hT:2*Lib.nDigits (T+1)<=qN)(cols:Int) :
  ∃ A' M' rest,qC (m,cols,(d:Int),(c:Int),false,aB .i64 (d+1),A,())=some (m,cols,(d:Int),(c:Int),rest,A',())/\gI o k n m A' J M'/\Rd k M M' d c/\Fo k M0 M' d c p/\(∀ i,i<d->M' i=M i) /\
   (rest=true->∃ i,d<i/\i<k/\M' i c≠0)/\(rest=false->∀ i,d<i->i<k->M' i c=0):=by
 have hat:∀ t i,d<i->i<d+1+t->rdT M d c t i c=(M i c).fmod (M d c):=λt i h1 h2=>by
  unfold rdT;rw[if_pos ⟨h1,h2⟩];exact aQC _ _
 have hd0:∀ t,rdT M d c t d=M d:=λt=>by unfold rdT; rw[if_neg Z]
 have:=aFJ (step:=eS) (N:=2^64) (k-(d+1))
  (λt x=>∃ A' rest,x=(m,cols,(d:Int),(c:Int),rest,((d+1+t:Nat):Int),A',())/\gI o k n m A' J (rdT M d c t)/\Fo k M0 (rdT M d c t) d c p/\(rest=true->∃ i,d<i/\i<d+1+t/\(M i c).fmod (M d c)≠0)/\(rest=false->∀ i,d<i->i<d+1+t->(M i c).fmod (M d c)=0))
  (λz=>∃ A' rest,z=(m,cols,(d:Int),(c:Int),rest,A',())/\gI o k n m A' J (rdT M d c (k-(d+1)))/\Fo k M0 (rdT M d c (k-(d+1))) d c p/\(rest=true->∃ i,d<i/\i<k/\(M i c).fmod (M d c)≠0)/\(rest=false->∀ i,d<i->i<k->(M i c).fmod (M d c)=0))
  Z (m,cols,(d:Int),(c:Int),false,aB .i64 ((d:Int)+1),A,()) ?_ ?_ ?_
 ·obtain⟨z,h1,A',rest,rfl,h2,h3,h4,h5⟩:=this;refine⟨A',_,rest,h1,h2,⟨hd0 _,λi g1 g2=>?_⟩,h3,λi hi=>by unfold rdT; rw[if_neg Z],λhr=>?_,λhr i g1 g2=>?_⟩
  ·unfold rdT; rw[if_pos ⟨g1,by omega⟩]
  ·obtain⟨i,g1,g2,g3⟩:=h4 hr;exact⟨i,g1,g2,by rw[hat _ i g1 Z]; exact g3⟩
  ·grind
 ·have e:rdT M d c 0=M:=by
   funext i; unfold rdT; rw[if_neg Z]
  refine⟨A,false,?_,by rw[e]; exact h,by rw[e]; exact f,λhr=>(by cases hr),λ_ i g1 g2=>by omega⟩;rw[bO d Z]
 ·rintro t x ht ⟨A',rest,rfl,hL,hF,hr1,hr2⟩;have hi:d+1+t<k:=Z
  have hMi:rdT M d c t (d+1+t)=M (d+1+t):=by unfold rdT; rw[if_neg Z]
  have e1:ltI ((d+1+t:Nat):Int) (m.length:Int)=true:=by rw[aE,h.len]; exact oT Z
  have e2:aF ((d+1+t:Nat):Int) m.length=true:=by rw[aL,h.len]; exact oT Z
  have e3:(((d+1+t:Nat):Int)).toNat=d+1+t:=oN _;have e4:Nat.blt (d+1+t) m.length=true:=by rw[b9,h.len]; simpa using hi
  have e5:aF (c:Int) n=true:=by rw[aL]; exact oT Z
  have e6:(o+((c:Nat):Int).toNat)*1=o+c:=R
  have e7:Nat.blt (o+c) (o+n)=true:=by rw[b9]; simpa using hcn
  have e8:=bO (d+1+t) Z;have e9:=hL.get hi;have e10:=hL.cI hi;have e11:=hL.cS hi hcn;rw[hMi]at e11;have f2:aF ((d:Nat):Int) m.length=true:=by rw[aL,h.len]; exact oT Z
  have f3:((d:Nat):Int).toNat=d:=oN _;have f4:Nat.blt d m.length=true:=by rw[b9,h.len]; simpa using hd
  have f9:=hL.get hd;have f10:=hL.cI hd;have f11:=hL.cS hd hcn;rw[hd0]at f11;have b1:=hB _ hi c hcn;have b2:=hB _ hd c hcn;have k1:=P6 hT (Nat.le_succ_of_le b1);have k2:=P6 hT (Nat.le_succ_of_le b2);have c1:=X2 (M (d+1+t) c) (M d c) (by have:qN=400000:=rfl; omega) (by have:qN=400000:=rfl; omega) hm;obtain⟨A2,c2,c3⟩:=hL.less hn hi hd Z ((M (d+1+t) c).fdiv (M d c)) (by
   rw[hMi,hd0];exact aLI hT (hB _ hi) (hB _ hd) (aJW b1 hm))
  have hup:up (rdT M d c t) (d+1+t) (λx=>rdT M d c t (d+1+t) x-(M (d+1+t) c).fdiv (M d c)*rdT M d c t d x)=rdT M d c (t+1):=by
   funext i
   by_cases e:i=d+1+t
   ·subst e;rw[N7,hMi,hd0];unfold rdT;rw[if_pos Z]
   ·rw[E5 _ _ e];unfold rdT
    by_cases g:d<i/\i<d+1+t
    ·rw[if_pos g,if_pos Z]
    ·rw[if_neg g,if_neg Z]
  rw[hup]at c3;have hF':Fo k M0 (rdT M d c (t+1)) d c p:=by
   rw[<- hup];exact hF.less _ Z hi
  have c4:eqS (Zn ((M (d+1+t) c).fmod (M d c))) (ByteArray.mk #[48])=decide ((M (d+1+t) c).fmod (M d c)=0):=W6 _;have e8':((d+1+t+1:Nat):Int)=((d+1+(t+1):Nat):Int):=Z
  cases rest with
  | true =>
   refine⟨_,?_,A2,true,rfl,c3,hF',λ_=>?_,λhr=>(by cases hr)⟩
   ·simp only[eS,e1,e2,e3,e4,e9,e5,e6,e10,e7,e11,f2,f3,f4,f9,f10,f11,c1,c2,aD,oC,e8,e8']
   ·obtain⟨i,g1,g2,g3⟩:=hr1 rfl;exact⟨i,g1,by omega,g3⟩
  | false =>
   by_cases hz:(M (d+1+t) c).fmod (M d c)=0
   ·have c5:eqS (Zn ((M (d+1+t) c).fmod (M d c))) (ByteArray.mk #[48])=true:=by rw[c4]; exact oT hz
    refine⟨_,?_,A2,false,rfl,c3,hF',λhr=>(by cases hr),λ_ i g1 g2=>?_⟩
    ·simp only[eS,e1,e2,e3,e4,e9,e5,e6,e10,e7,e11,f2,f3,f4,f9,f10,f11,c1,c2,c5,aD,oC,oD,e8,e8',Bool.not_true]
    ·by_cases e:i=d+1+t
     ·subst e; exact hz
     ·exact hr2 rfl i g1 Z
   ·have c5:eqS (Zn ((M (d+1+t) c).fmod (M d c))) (ByteArray.mk #[48])=false:=by rw[c4]; exact oF hz
    refine⟨_,?_,A2,true,rfl,c3,hF',λ_=>⟨d+1+t,by omega,by omega,hz⟩,λhr=>(by cases hr)⟩;simp only[eS,e1,e2,e3,e4,e9,e5,e6,e10,e7,e11,f2,f3,f4,f9,f10,f11,c1,c2,c5,aD,oC,oD,e8,e8',Bool.not_false]
 ·rintro x ⟨A',rest,rfl,hL,hF,hr1,hr2⟩;have e1:ltI ((d+1+(k-(d+1)):Nat):Int) (m.length:Int)=false:=by rw[aE,h.len]; exact oF Z
  refine⟨_,?_,A',rest,rfl,hL,hF,λhr=>?_,λhr i g1 g2=>hr2 hr i g1 Z⟩
  ·simp only[eS,e1,oD]
  ·obtain⟨i,g1,g2,g3⟩:=hr1 hr;exact⟨i,g1,by omega,g3⟩
theorem a1G {E:Nat} (h:gI o k n m A J M) (hk:k<1048576) (hn:n<1048576) (f:Fp k M0 M d c p 0) (hcn:c<n) (hB:Big k n M T) (hE:∀ i,i<d->∀ x,x<n->(M i x).natAbs<=E) (hET:E<=T) (hT:2*Lib.nDigits (T+1)<=qN) (cols:Int) :
  ∃ A' M',bQ (m,cols,(d:Int),(c:Int),(d:Int),0,A,())=some (m,cols,(d:Int),(c:Int),A',())/\gI o k n m A' J M'/\Fp k M0 M' d c p d/\(∀ i,d<=i->M' i=M i)/\∀ i,i<d->∀ x,x<n->(M' i x).natAbs<=E+(E+1)*T:=by
 have hd:=f.dk;have:=aFJ (step:=dP) (N:=2^64) d
  (λt x=>∃ A' M',x=(m,cols,(d:Int),(c:Int),(d:Int),(t:Int),A',())/\gI o k n m A' J M'/\Fp k M0 M' d c p t/\(∀ i,t<=i->M' i=M i)/\∀ i,i<t->∀ x,x<n->(M' i x).natAbs<=E+(E+1)*T)
  (λz=>∃ A' M',z=(m,cols,(d:Int),(c:Int),A',())/\gI o k n m A' J M'/\Fp k M0 M' d c p d/\(∀ i,d<=i->M' i=M i)/\∀ i,i<d->∀ x,x<n->(M' i x).natAbs<=E+(E+1)*T)
  Z (m,cols,(d:Int),(c:Int),(d:Int),0,A,()) ⟨A,M,rfl,h,f,λ_ _=>rfl,λi hi=>by omega⟩ ?_ ?_
 ·obtain⟨z,h1,A',M',rfl,h2⟩:=this;exact⟨A',M',h1,h2⟩
 ·rintro t x ht ⟨A',M',rfl,hL,hF,hr1,hr2⟩;have hi:t<k:=Z
  have hMi:=hr1 t (oM _);have hMd:=hr1 d Z;have e1:ltI (t:Int) (d:Int)=true:=by rw[aE]; exact oT Z
  have e2:aF (t:Int) m.length=true:=by rw[aL,h.len]; exact oT Z
  have e3:((t:Nat):Int).toNat=t:=oN _;have e4:Nat.blt t m.length=true:=by rw[b9,h.len]; simpa using hi
  have e5:aF (c:Int) n=true:=by rw[aL]; exact oT Z
  have e6:(o+((c:Nat):Int).toNat)*1=o+c:=R
  have e7:Nat.blt (o+c) (o+n)=true:=by rw[b9]; simpa using hcn
  have e8:=bO t Z;have e9:=hL.get hi;have e10:=hL.cI hi;have e11:=hL.cS hi hcn;rw[hMi]at e11;have f2:aF ((d:Nat):Int) m.length=true:=by rw[aL,h.len]; exact oT Z
  have f3:((d:Nat):Int).toNat=d:=oN _;have f4:Nat.blt d m.length=true:=by rw[b9,h.len]; simpa using hd
  have f9:=hL.get hd;have f10:=hL.cI hd;have f11:=hL.cS hd hcn;rw[hMd]at f11;have hm:M d c≠0:=by have:=f.piv; omega
  have b0:=hE t ht c hcn;have b1:=hB _ hi c hcn;have b2:=hB _ hd c hcn;have k1:=P6 hT (Nat.le_succ_of_le b1);have k2:=P6 hT (Nat.le_succ_of_le b2);have c1:=X2 (M t c) (M d c) (by have:qN=400000:=rfl; omega) (by have:qN=400000:=rfl; omega) hm;obtain⟨A2,c2,c3⟩:=hL.less hn hi hd Z ((M t c).fdiv (M d c)) (by
   rw[hMi,hMd];exact aLI hT (hB _ hi) (hB _ hd) (aJW b1 hm))
  have hF2:=hF.less ht;rw[hMi,hMd]at hF2 c3;refine⟨_,?_,A2,_,rfl,c3,hF2,λi hi2=>?_,λi hi2 x hx=>?_⟩
  ·simp only[dP,e1,e2,e3,e4,e9,e5,e6,e10,e7,e11,f2,f3,f4,f9,f10,f11,c1,c2,aD,oC,e8]
  ·rw[E5 _ _ Z]; exact hr1 i Z
  ·by_cases e:i=t
   ·subst e;rw[N7];have q1:=aJW b0 hm;have q2:((M i c).fdiv (M d c)*M d x).natAbs=((M i c).fdiv (M d c)).natAbs*(M d x).natAbs:=Int.natAbs_mul _ _;have q3:((M i c).fdiv (M d c)).natAbs*(M d x).natAbs<=(E+1)*T:=Nat.mul_le_mul q1 (hB _ hd x hx);have q4:=hE i Z x hx;omega
   ·rw[E5 _ _ e]; exact hr2 i Z x hx
 ·rintro x ⟨A',M',rfl,hL,hF,hr1,hr2⟩;have e1:ltI (d:Int) (d:Int)=false:=by rw[aE]; exact oF Z
  refine⟨_,?_,A',M',rfl,hL,hF,hr1,hr2⟩;simp only[dP,e1,oD]
end
def Wd(k n:Nat) (M:Nat->V):Prop:=∀ i,i<k->∀ x,n<=x->M i x=0
section
variable {o k n d c:Nat} {m:List (Nat×Nat×Nat)} {A:List (List ByteArray)} {J:Nat->Nat} {M M0:Nat->V} {p:Nat->Nat} {T E:Nat}
theorem Big.all (h:Big k n M T)(hw:Wd k n M):∀ i,i<k->∀ x,(M i x).natAbs<=T:=λi hi x=>by
 rcases oG x n with g|g
 ·exact h i hi x g
 ·rw[hw i hi x g]; simp
theorem pass(h:gI o k n m A J M) (hk:k<1048576) (hn:n<1048576) (f:Fo k M0 M d c p) (hcn:c<n) (hB:Big k n M T) (hw:Wd k n M) (hE:∀ i,i<d->∀ x,x<n->(M i x).natAbs<=E) (hET:E<=T) (hT:2*Lib.nDigits (T+1)<=qN) {a:Nat} (hd:d<k) (ha:d<=a) (hak:a<k) (hm:M a c≠0)
  (cols:Int) (hfind:gR (m,cols,(d:Int),(c:Int),-1,(d:Int),A,())=some (m,cols,(d:Int),(c:Int),(a:Int),A,())) :
  ∃ m1 A' J' M',gI o k n m1 A' J' M'/\Rd k (swp M d a) M' d c/\Fo k M0 M' d c p/\(∀ i,i<d->M' i=M i)/\Wd k n M' /\
   ((∃ i,d<i/\i<k/\M' i c≠0)->aX (m,cols,(d:Int),(c:Int),A,())=some (.inl (m1,cols,(d:Int),(c:Int),A',()))) /\
   ((∀ i,d<i->i<k->M' i c=0)->Big k n M' T->∃ A'' M'' p',aX (m,cols,(d:Int),(c:Int),A,())=some (.inr (m1,cols,((d+1:Nat):Int),(c:Int),A'',()))/\gI o k n m1 A'' J' M''/\Fo k M0 M'' (d+1) (c+1) p'/\Wd k n M''/\Big k n M'' (E+(E+1)*T)):=by
 obtain⟨J',hs⟩:∃ J',gI o k n ((m.set d (J a,o,n)).set a (J d,o,n)) A J' (swp M d a):=⟨_,h.swap hd hak⟩;have hsw:∀ i,i<k->∃ j,j<k/\swp M d a i=M j:=λi hi=>by
  unfold swp;grind
 have hBs:Big k n (swp M d a) T:=λi hi x hx=>by
  obtain⟨j,h1,h2⟩:=hsw i hi;rw[h2]; exact hB j h1 x hx
 have hws:Wd k n (swp M d a):=λi hi x hx=>by
  obtain⟨j,h1,h2⟩:=hsw i hi;rw[h2]; exact hw j h1 x hx
 have hpd:swp M d a d=M a:=by simp[swp]
 obtain⟨A',M',rest,g1,g2,g3,g4,g5,g6,g7⟩:=aO4 hs hk hn (f.swap ha hak) hd hcn (by rw[hpd]; exact hm) hBs hT cols;have hw':Wd k n M':=λi hi x hx=>by
  rcases Nat.lt_trichotomy i d with q|q|q
  ·rw[g5 i q]; exact hws i hi x hx
  ·subst q; rw[g3.1]; exact hws i hi x hx
  ·rw[g3.2 i q hi];simp only[hws i hi x hx,hws d hd x hx,Int.mul_zero,Int.sub_zero]
 have hlow:∀ i,i<d->M' i=M i:=λi hi=>by
  rw[g5 i hi];unfold swp;rw[if_neg Z,if_neg Z]
 -- what the pass begins with
 have e1:ltI (a:Int) 0=false:=by rw[aE]; exact oF Z
 have e2:aF (a:Int) m.length=true:=by rw[aL,h.len]; exact oT Z
 have e3:((a:Nat):Int).toNat=a:=oN _;have e4:Nat.blt a m.length=true:=by rw[b9,h.len]; simpa using hak
 have f2:aF (d:Int) m.length=true:=by rw[aL,h.len]; exact oT Z
 have f3:((d:Nat):Int).toNat=d:=oN _;have f4:Nat.blt d m.length=true:=by rw[b9,h.len]; simpa using hd
 have e9:=h.get hak;have f9:=h.get hd;have s1:(m.set d (J a,o,n)).length=m.length:=R
 have first:aX (m,cols,(d:Int),(c:Int),A,()) =
   (bif rest then some (.inl ((m.set d (J a,o,n)).set a (J d,o,n),cols,(d:Int),(c:Int),A',()))
   else bif aF (d:Int) ((m.set d (J a,o,n)).set a (J d,o,n)).length then bif Nat.blt d ((m.set d (J a,o,n)).set a (J d,o,n)).length then bif aF (c:Int) (((m.set d (J a,o,n)).set a (J d,o,n)).getD d (0,0,0)).2.2 then
    bif Nat.blt (((((m.set d (J a,o,n)).set a (J d,o,n)).getD d (0,0,0)).2.1+((c:Nat):Int).toNat)*1) (cI A' (((m.set d (J a,o,n)).set a (J d,o,n)).getD d (0,0,0)).1) then
    aC (DV ((cS A' (((m.set d (J a,o,n)).set a (J d,o,n)).getD d (0,0,0)).1 (((((m.set d (J a,o,n)).set a (J d,o,n)).getD d (0,0,0)).2.1+((c:Nat):Int).toNat)*1) ByteArray.empty),())) λy23 =>
    bif ltI y23.1 0 then
     bif aF (d:Int) ((m.set d (J a,o,n)).set a (J d,o,n)).length then bif Nat.blt d ((m.set d (J a,o,n)).set a (J d,o,n)).length then
     aC (eB () (((((m.set d (J a,o,n)).set a (J d,o,n)).getD d (0,0,0)).1,(((m.set d (J a,o,n)).set a (J d,o,n)).getD d (0,0,0)).2.1,(((m.set d (J a,o,n)).set a (J d,o,n)).getD d (0,0,0)).2.2),()) A') λy24 =>
     aC (bQ ((m.set d (J a,o,n)).set a (J d,o,n),cols,(d:Int),(c:Int),(d:Int),0,y24.2,())) λz25 =>
     some (.inr ((z25.1,z25.2.1,(aB .i64 (z25.2.2.1+1)),z25.2.2.2.1,z25.2.2.2.2.1,()))) else none else none
    else aC (bQ ((m.set d (J a,o,n)).set a (J d,o,n),cols,(d:Int),(c:Int),(d:Int),0,A',())) λz26 =>
    some (.inr ((z26.1,z26.2.1,(aB .i64 (z26.2.2.1+1)),z26.2.2.2.1,z26.2.2.2.2.1,()))) else none else none else none else none):=by
  simp only[aX,hfind,aD,e1,oD,e2,e3,e4,f2,f3,f4,e9,f9,s1,oC,g1]
 refine⟨_,A',J',M',g2,g3,g4,hlow,hw',λhex=>?_,λhz hB'=>?_⟩
 ·obtain⟨i,q1,q2,q3⟩:=hex;have hr:rest=true:=by
   cases rest with
   | true=>rfl
   | false=>exact absurd (g7 rfl i q1 q2) q3
  rw[first,hr]; rfl
 ·have hr:rest=false:=by
   cases rest with
   | false=>rfl
   | true =>
    obtain⟨i,q1,q2,q3⟩:=g6 rfl;exact absurd (hz i q1 q2) q3
  have hmd:M' d c≠0:=by rw[g3.1,hpd]; exact hm
  have t1:=g2.len;have t2:aF (d:Int) k=true:=by rw[aL]; exact oT Z
  have t3:Nat.blt d k=true:=by rw[b9]; simpa using hd
  have t4:=g2.get hd;have t5:aF (c:Int) n=true:=by rw[aL]; exact oT Z
  have t6:(o+((c:Nat):Int).toNat)*1=o+c:=R
  have t7:Nat.blt (o+c) (o+n)=true:=by rw[b9]; simpa using hcn
  have t8:=g2.cI hd;have t9:=g2.cS hd hcn;have t10:=Z8 (M' d c);have t11:=bO d Z;have hE':∀ i,i<d->∀ x,x<n->(M' i x).natAbs<=E:=λi hi x hx=>by rw[hlow i hi]; exact hE i hi x hx
  have fin:∀ (A1:List (List ByteArray)) (M1:Nat->V),gI o k n ((m.set d (J a,o,n)).set a (J d,o,n)) A1 J' M1->Fo k M0 M1 d c p->0<M1 d c->(∀ i,d<i->i<k->M1 i c=0)->Big k n M1 T->Wd k n M1->(∀ i,i<d->M1 i=M' i) ->
    ∃ A'' M'' p',bQ ((m.set d (J a,o,n)).set a (J d,o,n),cols,(d:Int),(c:Int),(d:Int),0,A1,())=some ((m.set d (J a,o,n)).set a (J d,o,n),cols,(d:Int),(c:Int),A'',())/\gI o k n ((m.set d (J a,o,n)).set a (J d,o,n)) A'' J' M''/\Fo k M0 M'' (d+1) (c+1) p'/\Wd k n M''/\Big k n M'' (E+(E+1)*T):=by
   intro A1 M1 q1 q2 q3 q4 q5 q6 q7;obtain⟨A2,M2,r1,r2,r3,r4,r5⟩:=a1G q1 hk hn { toFo:=q2,dk:=hd,piv:=q3,below:=q4,up:=λi hi=>by omega } hcn q5 (λi hi x hx=>by rw[q7 i hi]; exact hE' i hi x hx) hET hT cols;refine⟨A2,M2,_,r1,r2,r3.done,λi hi x hx=>?_,λi hi x hx=>?_⟩
   ·rcases oG i d with g|g
    ·have hs0:Same k M0 k M2:=r3.same;have h0:∀ j,j<k->M0 j x=0:=λj hj=>Sp.iA (M:=M1) (λl hl=>q6 l hl x hx) ((q2.same _).1 (Sp.mem hj))
     exact Sp.iA (M:=M0) h0 ((hs0 _).2 (Sp.mem hi))
    ·rw[r4 i g]; exact q6 i hi x hx
   ·rcases oG i d with g|g
    ·exact r5 i g x hx
    ·rw[r4 i g];have:=q5 i hi x hx;have:T*1<=T*(E+1):=Nat.mul_le_mul_left _ Z;rw[Nat.mul_comm (E+1) T];omega
  by_cases hn0:M' d c<0
  ·obtain⟨A1,u1,u2⟩:=g2.neg hn hd (λx hx=>(hB'.cm hT) d hd x hx);have l1:up M' d (λx=>-(M' d x)) d c = -(M' d c):=by rw[N7]
   obtain⟨A2,M2,p2,r1,r2,r3,r4,r5⟩:=fin A1 _ u2 (g4.neg hd) (by rw[l1]; omega) (λi q1 q2=>by rw[E5 _ _ Z]; exact hz i q1 q2)
    (λi hi x hx=>by
     by_cases e:i=d
     ·subst e; rw[N7,Int.natAbs_neg]; exact hB' i hi x hx
     ·rw[E5 _ _ e]; exact hB' i hi x hx)
    (λi hi x hx=>by
     by_cases e:i=d
     ·subst e; rw[N7,hw' i hi x hx]; rfl
     ·rw[E5 _ _ e]; exact hw' i hi x hx)
    (λi hi=>E5 _ _ Z)
   refine⟨A2,M2,p2,?_,r2,r3,r4,r5⟩;have s2:ltI (M' d c).sign 0=true:=by rw[aE,Int.sign_eq_neg_one_of_neg hn0]; rfl
   rw[first,hr];simp only[oD,t1,t2,t3,t4,t5,t6,t7,t8,t9,t10,aD,oC,s2,u1,r1,t11]
  ·obtain⟨A2,M2,p2,r1,r2,r3,r4,r5⟩:=fin A' _ g2 g4 Z hz hB' hw' (λ_ _=>rfl);refine⟨A2,M2,p2,?_,r2,r3,r4,r5⟩;have s2:ltI (M' d c).sign 0=false:=by rw[aE,Int.sign_eq_one_of_pos Z]; rfl
   rw[first,hr];simp only[oD,t1,t2,t3,t4,t5,t6,t7,t8,t9,t10,aD,oC,s2,r1,t11]
end
structure St (k n d E T:Nat):Prop where
 e1:1<=E
 et:E<=T
 eu:d+1<k->9*E^5<=T
 fit:2*Lib.nDigits (T+1)<=qN
def bFS(o k n d c:Nat) (M0:Nat->V) (cols:Int) (E T:Nat) (z:List (Nat×Nat×Nat)×Int×Int×Int×List (List ByteArray)×Unit):Prop :=
 ∃ m' A' J' M' d' p',z=(m',cols,((d':Nat):Int),(c:Int),A',())/\gI o k n m' A' J' M'/\Fo k M0 M' d' (c+1) p'/\Wd k n M'/\((d'=d/\Big k n M' E)\/(d'=d+1/\Big k n M' (E+(E+1)*T)))
section
variable {o k n d c:Nat} {m:List (Nat×Nat×Nat)} {A:List (List ByteArray)} {J:Nat->Nat} {M M0:Nat->V} {p:Nat->Nat} {T E:Nat}
theorem aZE {a g}(h:a<10^g):a<2^(4*g):=by
 refine Nat.lt_of_lt_of_le h ?_;rw[Nat.pow_mul];exact Nat.pow_le_pow_left R g
theorem rounds(hk:k<1048576) (hn:n<1048576) (hcn:c<n) (hT:2*Lib.nDigits (T+1)<=qN) (hET:E<=T) {C:Nat} (hC:3*C<=T) (cols:Int):∀ (R N P:Nat) {m:List (Nat×Nat×Nat)} {A:List (List ByteArray)} {J:Nat->Nat} {M:Nat->V},
  gI o k n m A J M->Fo k M0 M d c p->Wd k n M->(∀ i,i<d->∀ x,x<n->(M i x).natAbs<=E)->Bt k M d c C->Pt k M d c P->P<2^R->R<N->∃ z,bF aX N (m,cols,(d:Int),(c:Int),A,())=some z/\bFS o k n d c M0 cols E T z
 | 0,N,P,m,A,J,M,h,f,hw,hE,hB,hP,hlt,_=>by
  obtain⟨i,w1,w2,w3,w4⟩:=hP;have:=hB.piv;have h1:1*1<=(M d c).natAbs*(M i c).natAbs:=Nat.mul_le_mul Z Z;grind
 | R+1,N+1,P,m,A,J,M,h,f,hw,hE,hB,hP,hlt,hN=>by
  obtain⟨E1,b1,i0,b2,b3,b4,b5⟩:=hB.ex;have hdk:=hB.dk;have hmp:=hB.piv;have hE1:E1<=C:=by
   have h1:E1*1<=E1*((M d c).natAbs^3*(M i0 c).natAbs):=Nat.mul_le_mul_left _ (Nat.mul_pos (Nat.pow_pos Z) Z);grind
  have hBig:Big k n M T:=λi hi x hx=>by
   rcases oG i d with g|g
   ·grind
   ·have:=(b1 i g hi).1 x;omega
  obtain⟨r,f1,f2⟩:=aJV h hk (hBig.cm hT) hcn (Nat.le_of_lt hdk) cols;cases r with
  | none=>exact absurd (f2.none rfl d (oM _) Z) hmp
  | some a =>
   obtain⟨q1,q2,q3,q4⟩:=f2.some a rfl;have hak:a<k:=Z
   have hmin:∀ i,d<=i->i<k->M i c≠0->(M a c).natAbs<=(M i c).natAbs:=λi g1 g2 g3=>q4 i g1 Z g3
   obtain⟨m1,A',J',M',s1,s2,s3,s4,s5,s6,s7⟩:=pass h hk hn f hcn hBig hw hE hET hT hdk q1 hak q3 cols f1;have hE':∀ i,i<d->∀ x,x<n->(M' i x).natAbs<=E:=λi hi x hx=>by rw[s4 i hi]; exact hE i hi x hx
   by_cases hz:∀ i,d<i->i<k->M' i c=0
   ·rcases hB.round q1 hak q3 hmin s2 with ⟨_,A1,g1⟩|⟨g1,_⟩
    ·have hBig':Big k n M' T:=λi hi x hx=>by
      rcases oG i d with g|g
      ·grind
      ·exact oR ((g1 i g hi).1 x) hC
     obtain⟨A2,M2,p2,u1,u2,u3,u4,u5⟩:=s7 hz hBig';exact⟨_,by rw[cZ,u1],m1,A2,J',M2,d+1,p2,rfl,u2,u3,u4,.inr ⟨rfl,u5⟩⟩
    ·obtain⟨_,_,i,z1,z2,z3,_⟩:=g1.ex;grind
   ·have hex:∃ i,d<i/\i<k/\M' i c≠0:=by
     obtain⟨i,hi⟩:=Classical.not_forall.1 hz;obtain⟨g1,hi⟩:=Classical.not_forall.1 hi;obtain⟨g2,g3⟩:=Classical.not_forall.1 hi;exact⟨i,g1,g2,g3⟩
    rcases hB.round q1 hak q3 hmin s2 with ⟨g0,_⟩|⟨g1,_⟩
    ·exact absurd g0 hz
    ·have hP':=hB.half q1 hak q3 hmin s2 hz hP;obtain⟨z,v1,v2⟩:=rounds hk hn hcn hT hET hC cols R N (P/2) s1 s3 s5 hE' g1 hP' (by rw[Nat.pow_succ]at hlt; omega) Z;exact⟨z,by rw[cZ,s6 hex]; exact v1,v2⟩
theorem column(hk:k<1048576) (hn:n<1048576) (h:gI o k n m A J M) (f:Fo k M0 M d c p) (hw:Wd k n M) (hd:d<k) (hcn:c<n) (hE:Big k n M E) (st:St k n d E T) (cols:Int) :
  ∃ z,eQ (m,cols,(d:Int),(c:Int),A,())=some z/\bFS o k n d c M0 cols E T z:=by
 have hBig:Big k n M T:=λi hi x hx=>oR (hE i hi x hx) st.et
 have hEl:∀ i,i<d->∀ x,x<n->(M i x).natAbs<=E:=λi hi x hx=>hE i Z x hx
 obtain⟨r,f1,f2⟩:=aJV h hk (hBig.cm st.fit) hcn (Nat.le_of_lt hd) cols;unfold eQ;obtain⟨N,hN⟩:∃ N,2^64=N+1:=⟨2^64-1,by omega⟩;rw[hN];cases r with
 | none =>
  have e1:ltI (atv none) 0=true:=O
  refine⟨_,?_,m,A,J,M,d,p,rfl,h,f.skip λi h1 h2=>f2.none rfl i h1 Z,hw,.inl ⟨rfl,hE⟩⟩;rw[cZ];simp only[aX,f1,aD,e1,oC]
 | some a =>
  obtain⟨q1,q2,q3,q4⟩:=f2.some a rfl;have hak:a<k:=Z
  obtain⟨m1,A',J',M',s1,s2,s3,s4,s5,s6,s7⟩:=pass h hk hn f hcn hBig hw hEl st.et st.fit hd q1 hak q3 cols f1;have hE':∀ i,i<d->∀ x,x<n->(M' i x).natAbs<=E:=λi hi x hx=>by rw[s4 i hi]; exact hEl i hi x hx
  have hWi:Wi k (swp M d a) d c E E:=(show Wi k M d c E E from λi g1 g2=>⟨λx=>hE.all hw i g2 x,hE.all hw i g2 c⟩).swap q1 hak;have hpd:swp M d a d=M a:=by simp[swp]
  have hfirst:=s2.first hWi hd (by rw[hpd]; exact q3);have hpow:3*(3*(E*E)*E^3)=9*E^5:=W
  by_cases hdk:d+1<k
  ·have h9:=st.eu hdk;rcases hfirst with ⟨hz,g1⟩|g1
   ·have hBig':Big k n M' T:=λi hi x hx=>by
     rcases oG i d with g|g
     ·exact oR (hE' i g x hx) st.et
     ·have:=(g1 i g hi).1 x;have h3:3*(E*E)*1<=3*(E*E)*E^3:=Nat.mul_le_mul_left _ (Nat.pow_pos st.e1);omega
    obtain⟨A2,M2,p2,u1,u2,u3,u4,u5⟩:=s7 hz hBig';exact⟨_,by rw[cZ,u1],m1,A2,J',M2,d+1,p2,rfl,u2,u3,u4,.inr ⟨rfl,u5⟩⟩
   ·obtain⟨E1,b1,i0,b2,b3,b4,b5⟩:=g1.ex;have hPt:Pt k M' d c (T*T):=by
     refine⟨i0,b2,b3,b4,Nat.mul_le_mul ?_ ?_⟩
     ·rw[s2.1,hpd]; exact hBig a hak c hcn
     ·have h1:=(g1.sign i0 b2 b3).1;rw[s2.1,hpd]at h1;exact oR (Nat.le_of_lt h1) (hBig a hak c hcn)
    have hT2:T*T<2^(8*Lib.nDigits (T+1)):=by
     have h1:=aZE (jZ (T+1));have h2:(T+1)*(T+1)<2^(4*Lib.nDigits (T+1))*2^(4*Lib.nDigits (T+1)):=Nat.mul_lt_mul'' h1 h1;rw[<- Nat.pow_add]at h2;have h3:4*Lib.nDigits (T+1)+4*Lib.nDigits (T+1)=8*Lib.nDigits (T+1):=Z
     rw[h3]at h2;have h4:T*T<=(T+1)*(T+1):=Nat.mul_le_mul Z Z;omega
    have hex:∃ i,d<i/\i<k/\M' i c≠0:=⟨i0,b2,b3,b4⟩;obtain⟨z,v1,v2⟩:=rounds hk hn hcn st.fit st.et (C:=3*(E*E)*E^3) Z cols (8*Lib.nDigits (T+1)) N (T*T) s1 s3 s5 hE' g1 hPt hT2 (by have:=st.fit; have:qN=400000:=rfl; omega);exact⟨z,by rw[cZ,s6 hex]; exact v1,v2⟩
  ·have hz:∀ i,d<i->i<k->M' i c=0:=λi g1 g2=>Z
   have hBig':Big k n M' T:=λi hi x hx=>by
    rcases oG i d with g|g
    ·exact oR (hE' i g x hx) st.et
    ·have:i=d:=Z
     subst this;rw[s2.1,hpd];exact hBig a hak x hx
   obtain⟨A2,M2,p2,u1,u2,u3,u4,u5⟩:=s7 hz hBig';exact⟨_,by rw[cZ,u1],m1,A2,J',M2,d+1,p2,rfl,u2,u3,u4,.inr ⟨rfl,u5⟩⟩
structure Bds (k n:Nat) (E T:Nat->Nat):Prop where
 st:∀ d,d<k->d<n->St k n d (E d) (T d)
 up:∀ d,d<k->d<n->E d+(E d+1)*T d<=E (d+1)
theorem bD5 {d t p M'}(h:Fo k M M' d t p):d<=t:=by
 have:∀ i,i<d->i<=p i:=by
  intro i
  induction i with
  | zero=>simp
  | succ i ih=>intro hi; have:=h.inc i (i+1) R hi; omega
 rcases Nat.eq_zero_or_pos d with h0|h0
 ·omega
 ·have:=this (d-1) Z; have:=h.lt (d-1) Z; omega
theorem aE4 {E T:Nat->Nat} (hk:k<1048576) (hn:n<1048576) (h:gI o k n m A J M) (hw:Wd k n M) (hE:Big k n M (E 0)) (hb:Bds k n E T) :
  ∃ m' A' J' M' d p,cF m ((n:Int),()) A=some (m'.take d,A')/\d<=k/\gI o k n m' A' J' M'/\Hn d M' p/\Same k M d M'/\Wd k n M'/\Big k n M' (E d):=by
 have fin:∀ (N:Nat) {m':List (Nat×Nat×Nat)} {A':List (List ByteArray)} {J':Nat->Nat} {M':Nat->V} {d t:Nat} {p:Nat->Nat},t<=n->n-t<N->gI o k n m' A' J' M'->Fo k M M' d t p->Wd k n M'->Big k n M' (E d) ->
   ∃ z,bF bT N (m',(n:Int),(d:Int),(t:Int),A',())=some z/\∃ (m':List (Nat×Nat×Nat)) (A':List (List ByteArray)) (J':Nat->Nat) (M':Nat->V) (d:Nat) (p:Nat->Nat),z=(m',(d:Int),A',())/\gI o k n m' A' J' M'/\(d<=k/\Hn d M' p/\Same k M d M')/\Wd k n M'/\Big k n M' (E d):=by
  intro N
  induction N with
  | zero=>intro m' A' J' M' d t p h1 h2; omega
  | succ N ih =>
   intro m' A' J' M' d t p h1 h2 hL hF hW hB;rw[cZ];rcases oG t n with ht|ht
   ·have e1:ltI (t:Int) (n:Int)=true:=by rw[aE]; exact oT Z
    rcases oG d k with hd|hd
    ·have e2:ltI (d:Int) (m'.length:Int)=true:=by rw[aE,hL.len]; exact oT Z
     obtain⟨z,z1,m2,A2,J2,M2,d2,p2,rfl,y1,y2,y3,y4⟩:=column hk hn hL hF hW hd ht hB (hb.st d hd (Nat.lt_of_le_of_lt (bD5 hF) ht)) (n:Int);have e3:=bO t Z;have hs:bT (m',(n:Int),(d:Int),(t:Int),A',())=some (.inl (m2,(n:Int),(d2:Int),((t+1:Nat):Int),A2,())):=by simp only[bT,e1,e2,oC,z1,aD,e3]
     rw[hs];refine ih Z Z y1 y2 y3 ?_;rcases y4 with ⟨rfl,y4⟩|⟨rfl,y4⟩
     ·exact y4
     ·exact λi hi x hx=>oR (y4 i hi x hx) (hb.up d hd (Nat.lt_of_le_of_lt (bD5 hF) ht))
    ·have hdk:d=k:=by have:=hF.le; omega
     have e2:ltI (d:Int) (m'.length:Int)=false:=by rw[aE,hL.len]; exact oF Z
     refine⟨_,by simp only[bT,e1,e2,oC,oD],m',A',J',M',d,p,rfl,hL,⟨hF.le,hF.hn (.inl hdk)⟩,hW,hB⟩
   ·have htn:t=n:=Z
    subst htn;have e1:ltI (t:Int) (t:Int)=false:=by rw[aE]; exact oF Z
    refine⟨_,by simp only[bT,e1,oD],m',A',J',M',d,p,rfl,hL,⟨hF.le,hF.hn (.inr λi hi x hx=>hW i hi x hx)⟩,hW,hB⟩
 obtain⟨z,z1,m',A',J',M',d,p,rfl,y1,⟨y2,y3,y4⟩,y5,y6⟩:=fin (2^64) (Nat.zero_le n) Z h (Fo.start k M) hw hE;refine⟨m',A',J',M',d,p,?_,y2,y1,y3,y4,y5,y6⟩;have z2:kZ (m,(n:Int),0,0,A,())=some (m',(d:Int),A',()):=z1;have e4:ltI (d:Int) 0=false:=by rw[aE]; exact oF Z
 have e5:((d:Nat):Int).toNat=d:=oN _;have hl:=y1.len;unfold cF;simp only[z2,aD,hl,e4,e5,Bool.not_false,oC]
 by_cases hk0:k=0
 ·have hd0:d=0:=Z
  subst hk0; subst hd0;have:m'=[]:=List.eq_nil_of_length_eq_zero hl;subst this;rfl
 ·have e6:Nat.beq k 0=false:=by
   cases k with
   | zero=>exact absurd rfl hk0
   | succ k=>rfl
  have e7:Nat.ble 0 d=true:=rfl;have e8:Nat.ble d k=true:=by rw[dO]; simpa using y2
  have e9:Nat.blt 0 k=true:=by rw[b9]; simp; omega
  simp only[e6,e7,e8,e9,oC,oD,Nat.sub_zero]
end
section
variable {o k n d c:Nat} {m:List (Nat×Nat×Nat)} {A:List (List ByteArray)} {J:Nat->Nat} {M M0:Nat->V} {p:Nat->Nat} {T E:Nat}
theorem aXY(h:gI o k n m A J M) (hk:k<1048576) (hn:n<1048576) (f:Fp k M0 M d c p 0) (hcn:c<n) (hB:Big k n M T) (hT:2*Lib.nDigits (T+1)<=qN) (cols:Int) :
  ∃ A' M',bQ (m,cols,(d:Int),(c:Int),(d:Int),0,A,())=some (m,cols,(d:Int),(c:Int),A',())/\gI o k n m A' J M'/\Fp k M0 M' d c p d/\(∀ i,d<=i->M' i=M i)/\∀ i,i<d->M' i=λx=>M i x-(M i c).fdiv (M d c)*M d x:=by
 have hd:=f.dk;have:=aFJ (step:=dP) (N:=2^64) d
  (λt x=>∃ A' M',x=(m,cols,(d:Int),(c:Int),(d:Int),(t:Int),A',())/\gI o k n m A' J M'/\Fp k M0 M' d c p t/\(∀ i,t<=i->M' i=M i)/\∀ i,i<t->M' i=λx=>M i x-(M i c).fdiv (M d c)*M d x)
  (λz=>∃ A' M',z=(m,cols,(d:Int),(c:Int),A',())/\gI o k n m A' J M'/\Fp k M0 M' d c p d/\(∀ i,d<=i->M' i=M i)/\∀ i,i<d->M' i=λx=>M i x-(M i c).fdiv (M d c)*M d x)
  Z (m,cols,(d:Int),(c:Int),(d:Int),0,A,()) ⟨A,M,rfl,h,f,λ_ _=>rfl,λi hi=>by omega⟩ ?_ ?_
 ·obtain⟨z,h1,A',M',rfl,h2⟩:=this;exact⟨A',M',h1,h2⟩
 ·rintro t x ht ⟨A',M',rfl,hL,hF,hr1,hr2⟩;have hi:t<k:=Z
  have hMi:=hr1 t (oM _);have hMd:=hr1 d Z;have e1:ltI (t:Int) (d:Int)=true:=by rw[aE]; exact oT Z
  have e2:aF (t:Int) m.length=true:=by rw[aL,h.len]; exact oT Z
  have e3:((t:Nat):Int).toNat=t:=oN _;have e4:Nat.blt t m.length=true:=by rw[b9,h.len]; simpa using hi
  have e5:aF (c:Int) n=true:=by rw[aL]; exact oT Z
  have e6:(o+((c:Nat):Int).toNat)*1=o+c:=R
  have e7:Nat.blt (o+c) (o+n)=true:=by rw[b9]; simpa using hcn
  have e8:=bO t Z;have e9:=hL.get hi;have e10:=hL.cI hi;have e11:=hL.cS hi hcn;rw[hMi]at e11;have f2:aF ((d:Nat):Int) m.length=true:=by rw[aL,h.len]; exact oT Z
  have f3:((d:Nat):Int).toNat=d:=oN _;have f4:Nat.blt d m.length=true:=by rw[b9,h.len]; simpa using hd
  have f9:=hL.get hd;have f10:=hL.cI hd;have f11:=hL.cS hd hcn;rw[hMd]at f11;have hm:M d c≠0:=by have:=f.piv; omega
  have b1:=hB _ hi c hcn;have b2:=hB _ hd c hcn;have k1:=P6 hT (Nat.le_succ_of_le b1);have k2:=P6 hT (Nat.le_succ_of_le b2);have c1:=X2 (M t c) (M d c) (by have:qN=400000:=rfl; omega) (by have:qN=400000:=rfl; omega) hm;obtain⟨A2,c2,c3⟩:=hL.less hn hi hd Z ((M t c).fdiv (M d c)) (by
   rw[hMi,hMd];exact aLI hT (hB _ hi) (hB _ hd) (aJW b1 hm))
  have hF2:=hF.less ht;rw[hMi,hMd]at hF2 c3;refine⟨_,?_,A2,_,rfl,c3,hF2,λi hi2=>?_,λi hi2=>?_⟩
  ·simp only[dP,e1,e2,e3,e4,e9,e5,e6,e10,e7,e11,f2,f3,f4,f9,f10,f11,c1,c2,aD,oC,e8]
  ·rw[E5 _ _ Z]; exact hr1 i Z
  ·by_cases e:i=t
   ·subst e;rw[N7]
   ·rw[E5 _ _ e]; exact hr2 i Z
 ·rintro x ⟨A',M',rfl,hL,hF,hr1,hr2⟩;have e1:ltI (d:Int) (d:Int)=false:=by rw[aE]; exact oF Z
  refine⟨_,?_,A',M',rfl,hL,hF,hr1,hr2⟩;simp only[dP,e1,oD]
theorem bD6(h:gI o k n m A J M) (hk:k<1048576) (hn:n<1048576) (f:Fo k M0 M d c p) (hcn:c<n) (hB:Big k n M T) (hw:Wd k n M) (hT:2*Lib.nDigits (T+1)<=qN) {a:Nat} (hd:d<k) (ha:d<=a) (hak:a<k) (hm:M a c≠0)
  (cols:Int) (hfind:gR (m,cols,(d:Int),(c:Int),-1,(d:Int),A,())=some (m,cols,(d:Int),(c:Int),(a:Int),A,())) :
  ∃ m1 A' J' M',gI o k n m1 A' J' M'/\Rd k (swp M d a) M' d c/\Fo k M0 M' d c p/\(∀ i,i<d->M' i=M i)/\Wd k n M' /\
   ((∃ i,d<i/\i<k/\M' i c≠0)->aX (m,cols,(d:Int),(c:Int),A,())=some (.inl (m1,cols,(d:Int),(c:Int),A',()))) /\
   ((∀ i,d<i->i<k->M' i c=0)->Big k n M' T->∃ A'' M'' p',aX (m,cols,(d:Int),(c:Int),A,())=some (.inr (m1,cols,((d+1:Nat):Int),(c:Int),A'',()))/\gI o k n m1 A'' J' M''/\Fo k M0 M'' (d+1) (c+1) p'/\Wd k n M''/\(M'' d=M' d\/M'' d=λx=>-(M' d x))/\(∀ i,d<i->M'' i=M' i)/\∀ i,i<d->M'' i=λx=>M' i x-(M' i c).fdiv (M'' d c)*M'' d x):=by
 obtain⟨J',hs⟩:∃ J',gI o k n ((m.set d (J a,o,n)).set a (J d,o,n)) A J' (swp M d a):=⟨_,h.swap hd hak⟩;have hsw:∀ i,i<k->∃ j,j<k/\swp M d a i=M j:=λi hi=>by
  unfold swp;grind
 have hBs:Big k n (swp M d a) T:=λi hi x hx=>by
  obtain⟨j,h1,h2⟩:=hsw i hi;rw[h2]; exact hB j h1 x hx
 have hws:Wd k n (swp M d a):=λi hi x hx=>by
  obtain⟨j,h1,h2⟩:=hsw i hi;rw[h2]; exact hw j h1 x hx
 have hpd:swp M d a d=M a:=by simp[swp]
 obtain⟨A',M',rest,g1,g2,g3,g4,g5,g6,g7⟩:=aO4 hs hk hn (f.swap ha hak) hd hcn (by rw[hpd]; exact hm) hBs hT cols;have hw':Wd k n M':=λi hi x hx=>by
  rcases Nat.lt_trichotomy i d with q|q|q
  ·rw[g5 i q]; exact hws i hi x hx
  ·subst q; rw[g3.1]; exact hws i hi x hx
  ·rw[g3.2 i q hi];simp only[hws i hi x hx,hws d hd x hx,Int.mul_zero,Int.sub_zero]
 have hlow:∀ i,i<d->M' i=M i:=λi hi=>by
  rw[g5 i hi];unfold swp;rw[if_neg Z,if_neg Z]
 -- what the pass begins with
 have e1:ltI (a:Int) 0=false:=by rw[aE]; exact oF Z
 have e2:aF (a:Int) m.length=true:=by rw[aL,h.len]; exact oT Z
 have e3:((a:Nat):Int).toNat=a:=oN _;have e4:Nat.blt a m.length=true:=by rw[b9,h.len]; simpa using hak
 have f2:aF (d:Int) m.length=true:=by rw[aL,h.len]; exact oT Z
 have f3:((d:Nat):Int).toNat=d:=oN _;have f4:Nat.blt d m.length=true:=by rw[b9,h.len]; simpa using hd
 have e9:=h.get hak;have f9:=h.get hd;have s1:(m.set d (J a,o,n)).length=m.length:=R
 have first:aX (m,cols,(d:Int),(c:Int),A,()) =
   (bif rest then some (.inl ((m.set d (J a,o,n)).set a (J d,o,n),cols,(d:Int),(c:Int),A',()))
   else bif aF (d:Int) ((m.set d (J a,o,n)).set a (J d,o,n)).length then bif Nat.blt d ((m.set d (J a,o,n)).set a (J d,o,n)).length then bif aF (c:Int) (((m.set d (J a,o,n)).set a (J d,o,n)).getD d (0,0,0)).2.2 then
    bif Nat.blt (((((m.set d (J a,o,n)).set a (J d,o,n)).getD d (0,0,0)).2.1+((c:Nat):Int).toNat)*1) (cI A' (((m.set d (J a,o,n)).set a (J d,o,n)).getD d (0,0,0)).1) then
    aC (DV ((cS A' (((m.set d (J a,o,n)).set a (J d,o,n)).getD d (0,0,0)).1 (((((m.set d (J a,o,n)).set a (J d,o,n)).getD d (0,0,0)).2.1+((c:Nat):Int).toNat)*1) ByteArray.empty),())) λy23 =>
    bif ltI y23.1 0 then
     bif aF (d:Int) ((m.set d (J a,o,n)).set a (J d,o,n)).length then bif Nat.blt d ((m.set d (J a,o,n)).set a (J d,o,n)).length then
     aC (eB () (((((m.set d (J a,o,n)).set a (J d,o,n)).getD d (0,0,0)).1,(((m.set d (J a,o,n)).set a (J d,o,n)).getD d (0,0,0)).2.1,(((m.set d (J a,o,n)).set a (J d,o,n)).getD d (0,0,0)).2.2),()) A') λy24 =>
     aC (bQ ((m.set d (J a,o,n)).set a (J d,o,n),cols,(d:Int),(c:Int),(d:Int),0,y24.2,())) λz25 =>
     some (.inr ((z25.1,z25.2.1,(aB .i64 (z25.2.2.1+1)),z25.2.2.2.1,z25.2.2.2.2.1,()))) else none else none
    else aC (bQ ((m.set d (J a,o,n)).set a (J d,o,n),cols,(d:Int),(c:Int),(d:Int),0,A',())) λz26 =>
    some (.inr ((z26.1,z26.2.1,(aB .i64 (z26.2.2.1+1)),z26.2.2.2.1,z26.2.2.2.2.1,()))) else none else none else none else none):=by
  simp only[aX,hfind,aD,e1,oD,e2,e3,e4,f2,f3,f4,e9,f9,s1,oC,g1]
 refine⟨_,A',J',M',g2,g3,g4,hlow,hw',λhex=>?_,λhz hB'=>?_⟩
 ·obtain⟨i,q1,q2,q3⟩:=hex;have hr:rest=true:=by
   cases rest with
   | true=>rfl
   | false=>exact absurd (g7 rfl i q1 q2) q3
  rw[first,hr]; rfl
 ·have hr:rest=false:=by
   cases rest with
   | false=>rfl
   | true =>
    obtain⟨i,q1,q2,q3⟩:=g6 rfl;exact absurd (hz i q1 q2) q3
  have hmd:M' d c≠0:=by rw[g3.1,hpd]; exact hm
  have t1:=g2.len;have t2:aF (d:Int) k=true:=by rw[aL]; exact oT Z
  have t3:Nat.blt d k=true:=by rw[b9]; simpa using hd
  have t4:=g2.get hd;have t5:aF (c:Int) n=true:=by rw[aL]; exact oT Z
  have t6:(o+((c:Nat):Int).toNat)*1=o+c:=R
  have t7:Nat.blt (o+c) (o+n)=true:=by rw[b9]; simpa using hcn
  have t8:=g2.cI hd;have t9:=g2.cS hd hcn;have t10:=Z8 (M' d c);have t11:=bO d Z;have fin:∀ (A1:List (List ByteArray)) (M1:Nat->V),gI o k n ((m.set d (J a,o,n)).set a (J d,o,n)) A1 J' M1->Fo k M0 M1 d c p->0<M1 d c->(∀ i,d<i->i<k->M1 i c=0)->Big k n M1 T->Wd k n M1->(∀ i,i≠d->M1 i=M' i) ->
    ∃ A'' M'' p',bQ ((m.set d (J a,o,n)).set a (J d,o,n),cols,(d:Int),(c:Int),(d:Int),0,A1,())=some ((m.set d (J a,o,n)).set a (J d,o,n),cols,(d:Int),(c:Int),A'',())/\gI o k n ((m.set d (J a,o,n)).set a (J d,o,n)) A'' J' M''/\Fo k M0 M'' (d+1) (c+1) p'/\Wd k n M''/\M'' d=M1 d/\(∀ i,d<i->M'' i=M' i)/\∀ i,i<d->M'' i=λx=>M' i x-(M' i c).fdiv (M'' d c)*M'' d x:=by
   intro A1 M1 q1 q2 q3 q4 q5 q6 q7;obtain⟨A2,M2,r1,r2,r3,r4,r5⟩:=aXY q1 hk hn { toFo:=q2,dk:=hd,piv:=q3,below:=q4,up:=λi hi=>by omega } hcn q5 hT cols;refine⟨A2,M2,_,r1,r2,r3.done,λi hi x hx=>?_,r4 d (oM _),λi hi=>by rw[r4 i Z,q7 i Z],λi hi=>?_⟩
   ·rcases oG i d with g|g
    ·have hs0:Same k M0 k M2:=r3.same;have h0:∀ j,j<k->M0 j x=0:=λj hj=>Sp.iA (M:=M1) (λl hl=>q6 l hl x hx) ((q2.same _).1 (Sp.mem hj))
     exact Sp.iA (M:=M0) h0 ((hs0 _).2 (Sp.mem hi))
    ·rw[r4 i g]; exact q6 i hi x hx
   ·rw[r5 i hi,q7 i Z,r4 d (oM _)]
  by_cases hn0:M' d c<0
  ·obtain⟨A1,u1,u2⟩:=g2.neg hn hd (λx hx=>(hB'.cm hT) d hd x hx);have l1:up M' d (λx=>-(M' d x)) d c = -(M' d c):=by rw[N7]
   obtain⟨A2,M2,p2,r1,r2,r3,r4,r5,r6,r7⟩:=fin A1 _ u2 (g4.neg hd) (by rw[l1]; omega) (λi q1 q2=>by rw[E5 _ _ Z]; exact hz i q1 q2)
    (λi hi x hx=>by
     by_cases e:i=d
     ·subst e; rw[N7,Int.natAbs_neg]; exact hB' i hi x hx
     ·rw[E5 _ _ e]; exact hB' i hi x hx)
    (λi hi x hx=>by
     by_cases e:i=d
     ·subst e; rw[N7,hw' i hi x hx]; rfl
     ·rw[E5 _ _ e]; exact hw' i hi x hx)
    (λi hi=>E5 _ _ hi)
   refine⟨A2,M2,p2,?_,r2,r3,r4,.inr (by rw[r5,N7]),r6,r7⟩;have s2:ltI (M' d c).sign 0=true:=by rw[aE,Int.sign_eq_neg_one_of_neg hn0]; rfl
   rw[first,hr];simp only[oD,t1,t2,t3,t4,t5,t6,t7,t8,t9,t10,aD,oC,s2,u1,r1,t11]
  ·obtain⟨A2,M2,p2,r1,r2,r3,r4,r5,r6,r7⟩:=fin A' _ g2 g4 Z hz hB' hw' (λ_ _=>rfl);refine⟨A2,M2,p2,?_,r2,r3,r4,.inl r5,r6,r7⟩;have s2:ltI (M' d c).sign 0=false:=by rw[aE,Int.sign_eq_one_of_pos Z]; rfl
   rw[first,hr];simp only[oD,t1,t2,t3,t4,t5,t6,t7,t8,t9,t10,aD,oC,s2,r1,t11]
end
def smN(f:Nat->Nat):Nat->Nat
 | 0=>0
 | k+1=>smN f k+f k
theorem aLF {f f':Nat->Nat}:∀ {k},(∀ i,i<k->f i=f' i)->smN f k=smN f' k
 | 0,_=>rfl
 | k+1,h=>by rw[smN,smN,aLF λi hi=>h i Z,h k Z]
theorem aWN(f:Nat->Nat)(j v:Nat):∀ {k},j<k->smN (λi=>if i=j then v else f i) k+f j=smN f k+v
 | k+1,h=>by
  rw[smN,smN]
  by_cases e:j=k
  ·subst e;rw[if_pos rfl,aLF (f':=f) λi hi=>if_neg Z];omega
  ·have:=aWN f j v (k:=k) Z;rw[if_neg Z];omega
theorem aIT(f:Nat->Nat){a b:Nat}(h:a<=b):smN f a<=smN f b:=by
 induction h with
 | refl=>exact oM _
 | step _ ih=>exact oR ih (Nat.le_add_right _ _)
def sw(γ:Nat->Nat)(d a:Nat):Nat->Nat:=λi=>if i=d then γ a else if i=a then γ d else γ i
def ind(γ:Nat->Nat)(g:Nat):Nat->Nat:=λi=>if γ i=g then 1 else 0
def cnt(γ:Nat->Nat)(g k:Nat):Nat:=smN (ind γ g) k
theorem aK1 {γ γ':Nat->Nat}{g k:Nat}(h:∀ i,i<k->γ i=γ' i):cnt γ g k=cnt γ' g k:=aLF λi hi=>by unfold ind; rw[h i hi]
theorem bAU {γ:Nat->Nat}{g k d a:Nat}(hd:d<k)(ha:a<k):cnt (sw γ d a) g k=cnt γ g k:=by
 by_cases e:d=a
 ·subst e;refine aK1 λi hi=>?_
  unfold sw;split
  next e=> rw[e]
  ·rfl
 ·have h1:=aWN (ind γ g) d (ind γ g a) hd;have h2:=aWN (λi=>if i=d then ind γ g a else ind γ g i) a (ind γ g d) ha;have h3:(λi=>if i=a then ind γ g d else (λi=>if i=d then ind γ g a else ind γ g i) i)=ind (sw γ d a) g:=by
   funext i
   unfold ind sw
   by_cases e1:i=a
   ·subst e1; simp[show ¬ i=d by omega]
   ·by_cases e2:i=d
    ·subst e2; simp[e1]
    ·simp[e1,e2]
  rw[h3]at h2;rw[if_neg (show ¬ a=d by omega)]at h2;unfold cnt;omega
theorem a2W {γ:Nat->Nat}{g k d a:Nat}(hd:d<=a)(ha:a<k)(h:γ a=g):cnt γ g d+1<=cnt γ g k:=by
 have h1:=aIT (ind γ g) hd;have h2:=aIT (ind γ g) (show a+1<=k by omega);have h3:smN (ind γ g) (a+1)=smN (ind γ g) a+1:=by
  show smN (ind γ g) a+ind γ g a=_;unfold ind;rw[if_pos h]
 unfold cnt;omega
def Gr(G γ:Nat->Nat) (k:Nat) (M:Nat->V):Prop:=∀ i,i<k->∀ x,M i x≠0->G x=γ i
def Mz(γ:Nat->Nat)(g:Nat)(M:Nat->V):Nat->V:=λi=>if γ i=g then M i else λ_=>0
def Bd(k n:Nat)(γ:Nat->Nat)(B:Nat->Nat)(M:Nat->V):Prop:=∀ i,i<k->∀ x,x<n->(M i x).natAbs<=B (γ i)
section
variable {o k n d c:Nat} {m:List (Nat×Nat×Nat)} {A:List (List ByteArray)} {J:Nat->Nat} {M M0 M':Nat->V} {p:Nat->Nat} {T E a:Nat} {G γ B:Nat->Nat}
theorem Gr.at_ (h:Gr G γ k M){i x:Nat}(hi:i<k)(hx:G x≠γ i):M i x=0:=Classical.byContradiction λhc=>hx (h i hi x hc)
theorem a1T(h:Gr G γ k M){i:Nat}(hi:i<k)(c:Nat):Mz γ (G c) M i c=M i c:=by
 unfold Mz;split
 ·rfl
 next e=> exact(h.at_ hi (λg=>e g.symm)).symm
structure GS (G:Nat->Nat) (k n d g:Nat) (γ B:Nat->Nat) (M:Nat->V):Prop where
 gr:Gr G γ k M
 oth:∀ i,i<k->γ i≠g->∀ x,x<n->(M i x).natAbs<=B (γ i)
 low:∀ i,i<d->γ i=g->∀ x,x<n->(M i x).natAbs<=B g
theorem bGR(γ:Nat->Nat)(d a:Nat):sw γ d a d=γ a:=by simp[sw]
theorem aYL(γ:Nat->Nat){d a i:Nat}(h:i<d)(ha:d<=a):sw γ d a i=γ i:=by
 unfold sw;rw[if_neg Z,if_neg Z]
theorem Gr.swap (h:Gr G γ k M)(hd:d<k)(hak:a<k):Gr G (sw γ d a) k (swp M d a):=λi hi x hx=>by
 unfold swp at hx;unfold sw;split at hx
 next e=> rw[if_pos e]; exact h a hak x hx
 ·split at hx
  next e1 e2=> rw[if_neg e1,if_pos e2]; exact h d hd x hx
  next e1 e2=> rw[if_neg e1,if_neg e2]; exact h i hi x hx
theorem bCP(γ:Nat->Nat)(g d a:Nat)(M:Nat->V):Mz (sw γ d a) g (swp M d a)=swp (Mz γ g M) d a:=by
 funext i
 unfold Mz sw swp
 by_cases e1:i=d
 ·subst e1; simp
 ·by_cases e2:i=a
  ·subst e2; simp[e1]
  ·simp[e1,e2]
theorem GS.pass (h:GS G k n d (G c) γ B M) (hd:d<k) (ha:d<=a) (hak:a<k) (hm:M a c≠0) (hr:Rd k (swp M d a) M' d c) (hl:∀ i,i<d->M' i=M i) :
  GS G k n d (G c) (sw γ d a) B M'/\sw γ d a d=G c/\Rd k (swp (Mz γ (G c) M) d a) (Mz (sw γ d a) (G c) M') d c:=by
 have hga:γ a=G c:=(h.gr a hak c hm).symm;have gS:=h.gr.swap hd hak;have hsd:sw γ d a d=G c:=by rw[bGR]; exact hga
 have hz:∀ i,d<i->i<k->sw γ d a i≠G c->M' i=swp M d a i:=λi h1 h2 h3=>by
  rw[hr.2 i h1 h2];have e:swp M d a i c=0:=gS.at_ h2 λq=>h3 q.symm
  funext x
  rw[e];simp
 refine⟨⟨λi hi x hx=>?_,λi hi hg x hx=>?_,λi hi hg x hx=>?_⟩,hsd,?_⟩
 ·rcases Nat.lt_trichotomy i d with q|q|q
  ·rw[hl i q]at hx;rw[aYL γ q ha];exact h.gr i hi x hx
  ·subst q;rw[hr.1]at hx;exact gS i hi x hx
  ·by_cases e:sw γ d a i=G c
   ·rw[hr.2 i q hi]at hx;rw[e]
    by_cases e1:swp M d a i x=0
    ·have e2:swp M d a d x≠0:=λe2=>hx (by show swp M d a i x-_*swp M d a d x=0; rw[e1,e2]; simp)
     rw[gS d hd x e2,hsd]
    ·rw[gS i hi x e1,e]
   ·rw[hz i q hi e]at hx;exact gS i hi x hx
 ·rcases Nat.lt_trichotomy i d with q|q|q
  ·rw[hl i q];rw[aYL γ q ha]at hg ⊢;exact h.oth i hi hg x hx
  ·subst q; exact absurd hsd hg
  ·rw[hz i q hi hg];have e3:sw γ d a i=if i=a then γ d else γ i:=by unfold sw; rw[if_neg Z]
   have e4:swp M d a i=if i=a then M d else M i:=by unfold swp; rw[if_neg Z]
   rw[e4];rw[e3]at hg ⊢
   by_cases e2:i=a
   ·rw[if_pos e2]at hg ⊢;rw[if_pos e2];exact h.oth d hd hg x hx
   ·rw[if_neg e2]at hg ⊢;rw[if_neg e2];exact h.oth i hi hg x hx
 ·rw[aYL γ hi ha]at hg;rw[hl i hi];exact h.low i hi hg x hx
 ·rw[<- bCP];refine⟨?_,λi h1 h2=>?_⟩
  ·unfold Mz;rw[if_pos hsd,if_pos hsd,hr.1]
  ·have e0:Mz (sw γ d a) (G c) (swp M d a) d=swp M d a d:=by unfold Mz; rw[if_pos hsd]
   rw[e0];unfold Mz
   by_cases e:sw γ d a i=G c
   ·rw[if_pos e,if_pos e];exact hr.2 i h1 h2
   ·rw[if_neg e,if_neg e]
    funext x
    simp
theorem GS.fin {M'':Nat->V} {C:Nat} (h:GS G k n d (G c) γ B M) (hd:d<k) (hcn:c<n) (hγ:γ d=G c) (hm:M d c≠0) (hC:∀ i,d<=i->i<k->γ i=G c->∀ x,x<n->(M i x).natAbs<=C)
  (h1:M'' d=M d\/M'' d=λx=>-(M d x)) (h2:∀ i,d<i->M'' i=M i) (h3:∀ i,i<d->M'' i=λx=>M i x-(M i c).fdiv (M'' d c)*M'' d x) :
  Gr G γ k M''/\Bd k n γ (λg=>if g=G c then B g+(B g+1)*C else B g) M'':=by
 have hd0:∀ x,M'' d x≠0->G x=G c:=λx hx=>by
  rw[<- hγ];refine h.gr d hd x λe=>hx ?_
  rcases h1 with h1|h1 <;> rw[h1]
  ·exact e
  ·show -(M d x)=0;rw[e]; rfl
 have hdC:∀ x,x<n->(M'' d x).natAbs<=C:=λx hx=>by
  have:=hC d (oM _) hd hγ x hx;rcases h1 with h1|h1 <;> rw[h1]
  ·exact this
  ·show (-(M d x)).natAbs<=C;rw[Int.natAbs_neg]; exact this
 have hmd:M'' d c≠0:=by
  rcases h1 with h1|h1 <;> rw[h1]
  ·exact hm
  ·show -(M d c)≠0;omega
 have hlow:∀ i,i<d->γ i≠G c->M'' i=M i:=λi hi hg=>by
  rw[h3 i hi];have e:M i c=0:=h.gr.at_ Z λq=>hg q.symm
  funext x
  rw[e];simp
 refine⟨λi hi x hx=>?_,λi hi x hx=>?_⟩
 ·rcases Nat.lt_trichotomy i d with q|q|q
  ·by_cases e:γ i=G c
   ·rw[h3 i q]at hx;rw[e]
    by_cases e1:M i x=0
    ·exact hd0 x λe2=>hx (by show M i x-_*M'' d x=0; rw[e1,e2]; simp)
    ·rw[h.gr i hi x e1,e]
   ·rw[hlow i q e]at hx;exact h.gr i hi x hx
  ·subst q; rw[hγ]; exact hd0 x hx
  ·rw[h2 i q]at hx; exact h.gr i hi x hx
 ·show (M'' i x).natAbs<=if γ i=G c then _ else _
  by_cases e:γ i=G c
  ·rw[if_pos e,e];have hC1:C<=(B (G c)+1)*C:=Nat.le_mul_of_pos_left _ Z;rcases Nat.lt_trichotomy i d with q|q|q
   ·rw[h3 i q];have b0:=h.low i q e c hcn;have b1:=h.low i q e x hx;have q1:=aJW b0 hmd;have q2:((M i c).fdiv (M'' d c)*M'' d x).natAbs=((M i c).fdiv (M'' d c)).natAbs*(M'' d x).natAbs:=Int.natAbs_mul _ _;have q3:((M i c).fdiv (M'' d c)).natAbs*(M'' d x).natAbs<=(B (G c)+1)*C:=Nat.mul_le_mul q1 (hdC x hx);show (M i x-(M i c).fdiv (M'' d c)*M'' d x).natAbs<=_;omega
   ·subst q; have:=hdC x hx; omega
   ·rw[h2 i q]; have:=hC i Z hi e x hx; omega
  ·rw[if_neg e];rcases Nat.lt_trichotomy i d with q|q|q
   ·rw[hlow i q e]; exact h.oth i hi e x hx
   ·subst q; exact absurd hγ e
   ·rw[h2 i q]; exact h.oth i hi e x hx
def a01(G:Nat->Nat) (o k n d c:Nat) (M0:Nat->V) (cols:Int) (γ B:Nat->Nat) (T:Nat) (z:List (Nat×Nat×Nat)×Int×Int×Int×List (List ByteArray)×Unit):Prop :=
 ∃ m' A' J' M' d' p' γ',z=(m',cols,((d':Nat):Int),(c:Int),A',())/\gI o k n m' A' J' M'/\Fo k M0 M' d' (c+1) p'/\Wd k n M'/\Gr G γ' k M'/\(∀ g,cnt γ' g k=cnt γ g k)/\(∀ i,i<d->γ' i=γ i) /\
  ((d'=d/\Bd k n γ' B M')\/(d'=d+1/\γ' d=G c/\cnt γ (G c) d+1<=cnt γ (G c) k/\Bd k n γ' (λg=>if g=G c then B g+(B g+1)*T else B g) M'))
theorem a01.sw {cols:Int}{T z}(hd:d<k)(ha:d<=a)(hak:a<k)(h:a01 G o k n d c M0 cols (sw γ d a) B T z):a01 G o k n d c M0 cols γ B T z:=by
 obtain⟨m',A',J',M',d',p',γ',r1,r2,r3,r4,r5,r6,r7,r8⟩:=h;refine⟨m',A',J',M',d',p',γ',r1,r2,r3,r4,r5,λg=>by rw[r6,bAU hd hak],λi hi=>by rw[r7 i hi,aYL γ hi ha],?_⟩;rw[bAU hd hak,aK1 (γ:=Go.PM.sw γ d a) (γ':=γ) λi hi=>aYL γ hi ha]at r8;exact r8
theorem Bd.mono {B':Nat->Nat}(h:Bd k n γ B M)(hB:∀ g,B g<=B' g):Bd k n γ B' M:=λi hi x hx=>oR (h i hi x hx) (hB _)
theorem aUC {C C':Nat}(h:C<=C')(g c:Nat):(if g=G c then B g+(B g+1)*C else B g)<=(if g=G c then B g+(B g+1)*C' else B g):=by
 split
 ·have:=Nat.mul_le_mul_left (B g+1) h;omega
 ·exact oM _
theorem a0R(hk:k<1048576) (hn:n<1048576) (hcn:c<n) {T Tg:Nat} (hT:2*Lib.nDigits (T+1)<=qN) (hBT:∀ g,B g<=T) {C:Nat} (hC:3*C<=Tg) (hTg:Tg<=T) (cols:Int):∀ (R N P:Nat) {m:List (Nat×Nat×Nat)} {A:List (List ByteArray)} {J:Nat->Nat} {M:Nat->V} {γ:Nat->Nat},
  gI o k n m A J M->Fo k M0 M d c p->Wd k n M->GS G k n d (G c) γ B M->γ d=G c->Bt k (Mz γ (G c) M) d c C->Pt k (Mz γ (G c) M) d c P->P<2^R->R<N->∃ z,bF aX N (m,cols,(d:Int),(c:Int),A,())=some z/\a01 G o k n d c M0 cols γ B Tg z
 | 0,N,P,m,A,J,M,γ,h,f,hw,hS,hγ,hB,hP,hlt,_=>by
  obtain⟨i,w1,w2,w3,w4⟩:=hP;have:=hB.piv;have h1:1*1<=(Mz γ (G c) M d c).natAbs*(Mz γ (G c) M i c).natAbs:=Nat.mul_le_mul Z Z;simp at hlt;omega
 | R+1,N+1,P,m,A,J,M,γ,h,f,hw,hS,hγ,hB,hP,hlt,hN=>by
  obtain⟨E1,b1,i0,b2,b3,b4,b5⟩:=hB.ex;have hdk:=hB.dk;have hmp:=hB.piv;have hE1:E1<=C:=by
   have h1:E1*1<=E1*((Mz γ (G c) M d c).natAbs^3*(Mz γ (G c) M i0 c).natAbs):=Nat.mul_le_mul_left _ (Nat.mul_pos (Nat.pow_pos Z) Z);have h2:E1*((Mz γ (G c) M d c).natAbs^3*(Mz γ (G c) M i0 c).natAbs)=E1*(Mz γ (G c) M d c).natAbs^3*(Mz γ (G c) M i0 c).natAbs:=by rw[Nat.mul_assoc]
   omega
  have hBig:Big k n M T:=λi hi x hx=>by
   by_cases e:γ i=G c
   ·rcases oG i d with g|g
    ·exact oR (hS.low i g e x hx) (hBT _)
    ·have:=(b1 i g hi).1 x;have e2:Mz γ (G c) M i=M i:=by unfold Mz; rw[if_pos e]
     rw[e2]at this;omega
   ·exact oR (hS.oth i hi e x hx) (hBT _)
  obtain⟨r,f1,f2⟩:=aJV h hk (hBig.cm hT) hcn (Nat.le_of_lt hdk) cols;cases r with
  | none =>
   have hmd:M d c≠0:=by rw[<- a1T hS.gr hdk c]; exact hmp
   exact absurd (f2.none rfl d (oM _) Z) hmd
  | some a =>
   obtain⟨q1,q2,q3,q4⟩:=f2.some a rfl;have hak:a<k:=Z
   have hmz:Mz γ (G c) M a c≠0:=by rw[a1T hS.gr hak]; exact q3
   have hmin:∀ i,d<=i->i<k->Mz γ (G c) M i c≠0->(Mz γ (G c) M a c).natAbs<=(Mz γ (G c) M i c).natAbs:=λi g1 g2 g3=>by
    rw[a1T hS.gr g2]at g3 ⊢;rw[a1T hS.gr hak];exact q4 i g1 Z g3
   obtain⟨m1,A',J',M',s1,s2,s3,s4,s5,s6,s7⟩:=bD6 h hk hn f hcn hBig hw hT hdk q1 hak q3 cols f1;obtain⟨t1,t2,t3⟩:=hS.pass hdk q1 hak q3 s2 s4;have hc':∀ i,i<k->Mz (sw γ d a) (G c) M' i c=M' i c:=λi hi=>a1T t1.gr hi c
   by_cases hz:∀ i,d<i->i<k->Mz (sw γ d a) (G c) M' i c=0
   ·have hz':∀ i,d<i->i<k->M' i c=0:=λi g1 g2=>by rw[<- hc' i g2]; exact hz i g1 g2
    rcases hB.round q1 hak hmz hmin t3 with ⟨_,A1,g1⟩|⟨g1,_⟩
    ·have hC':∀ i,d<=i->i<k->sw γ d a i=G c->∀ x,x<n->(M' i x).natAbs<=3*C:=λi g2 g3 g4 x _=>by
      have:=(g1 i g2 g3).1 x;have e2:Mz (sw γ d a) (G c) M' i=M' i:=by unfold Mz; rw[if_pos g4]
      rw[e2]at this;exact this
     have hBig':Big k n M' T:=λi hi x hx=>by
      by_cases e:sw γ d a i=G c
      ·rcases oG i d with g|g
       ·exact oR (t1.low i g e x hx) (hBT _)
       ·have:=hC' i g hi e x hx; omega
      ·exact oR (t1.oth i hi e x hx) (hBT _)
     obtain⟨A2,M2,p2,u1,u2,u3,u4,u5,u6,u7⟩:=s7 hz' hBig';have hm':M' d c≠0:=by
      have:M' d c=M a c:=by rw[s2.1]; simp[swp]
      rw[this]; exact q3
     obtain⟨w1,w2⟩:=t1.fin hdk hcn t2 hm' hC' u5 u6 u7;refine⟨_,by rw[cZ,u1],a01.sw hdk q1 hak ⟨m1,A2,J',M2,d+1,p2,_,rfl,u2,u3,u4,w1,λ_=>rfl,λ_ _=>rfl,.inr ⟨rfl,t2,a2W (oM _) hdk t2,w2.mono λg=>aUC hC g c⟩⟩⟩
    ·obtain⟨_,_,i,z1,z2,z3,_⟩:=g1.ex;exact absurd (hz i z1 z2) z3
   ·have hex:∃ i,d<i/\i<k/\M' i c≠0:=by
     obtain⟨i,hi⟩:=Classical.not_forall.1 hz;obtain⟨g1,hi⟩:=Classical.not_forall.1 hi;obtain⟨g2,g3⟩:=Classical.not_forall.1 hi;exact⟨i,g1,g2,by rw[<- hc' i g2]; exact g3⟩
    rcases hB.round q1 hak hmz hmin t3 with ⟨g0,_⟩|⟨g1,_⟩
    ·exact absurd g0 hz
    ·have hP':=hB.half q1 hak hmz hmin t3 hz hP;obtain⟨z,v1,v2⟩:=a0R hk hn hcn hT hBT hC hTg cols R N (P/2) s1 s3 s5 t1 t2 g1 hP' (by rw[Nat.pow_succ]at hlt; omega) Z;exact⟨z,by rw[cZ,s6 hex]; exact v1,v2.sw hdk q1 hak⟩
theorem bAJ(hk:k<1048576) (hn:n<1048576) (h:gI o k n m A J M) (f:Fo k M0 M d c p) (hw:Wd k n M) (hd:d<k) (hcn:c<n) {T Tg:Nat} (hG:Gr G γ k M) (hB:Bd k n γ B M) (hT:2*Lib.nDigits (T+1)<=qN) (hBT:∀ g,B g<=T)
  (hp:cnt γ (G c) d+1<=cnt γ (G c) k->1<=B (G c)/\B (G c)<=Tg/\9*B (G c)^5<=Tg/\Tg<=T) (cols:Int) :
  ∃ z,eQ (m,cols,(d:Int),(c:Int),A,())=some z/\a01 G o k n d c M0 cols γ B Tg z:=by
 have hBig:Big k n M T:=λi hi x hx=>oR (hB i hi x hx) (hBT _)
 obtain⟨r,f1,f2⟩:=aJV h hk (hBig.cm hT) hcn (Nat.le_of_lt hd) cols;unfold eQ;obtain⟨N,hN⟩:∃ N,2^64=N+1:=⟨2^64-1,by omega⟩;rw[hN];cases r with
 | none =>
  have e1:ltI (atv none) 0=true:=O
  refine⟨_,?_,m,A,J,M,d,p,γ,rfl,h,f.skip λi h1 h2=>f2.none rfl i h1 Z,hw,hG,λ_=>rfl,λ_ _=>rfl,.inl ⟨rfl,hB⟩⟩;rw[cZ];simp only[aX,f1,aD,e1,oC]
 | some a =>
  obtain⟨q1,q2,q3,q4⟩:=f2.some a rfl;have hak:a<k:=Z
  have hga:γ a=G c:=(hG a hak c q3).symm;obtain⟨h1,hET,h9,hTg⟩:=hp (a2W q1 hak hga);have hS:GS G k n d (G c) γ B M:=⟨hG,λi hi _ x hx=>hB i hi x hx,λi hi e x hx=>by have:=hB i Z x hx; rw[e]at this; exact this⟩;obtain⟨m1,A',J',M',s1,s2,s3,s4,s5,s6,s7⟩:=bD6 h hk hn f hcn hBig hw hT hd q1 hak q3 cols f1;obtain⟨t1,t2,t3⟩:=hS.pass hd q1 hak q3 s2 s4;have hc':∀ i,i<k->Mz (sw γ d a) (G c) M' i c=M' i c:=λi hi=>a1T t1.gr hi c
  have hmz:Mz γ (G c) M a c≠0:=by rw[a1T hG hak]; exact q3
  generalize hE:B (G c)=E at h1 hET h9;have hWi:Wi k (swp (Mz γ (G c) M) d a) d c E E:=(show Wi k (Mz γ (G c) M) d c E E from λi g1 g2=>by
   have key:∀ x,(Mz γ (G c) M i x).natAbs<=E:=λx=>by
    unfold Mz;split
    ·rename_i e;rcases oG x n with g|g
     ·have:=hB i g2 x g; rw[e,hE]at this; exact this
     ·rw[hw i g2 x g]; simp
    ·simp
   exact⟨key,key c⟩).swap q1 hak
  have hpd:swp (Mz γ (G c) M) d a d=Mz γ (G c) M a:=by simp[swp]
  have hpd':M' d=M a:=by rw[s2.1]; simp[swp]
  have hm':M' d c≠0:=by rw[hpd']; exact q3
  have hfirst:=t3.first hWi hd (by rw[hpd]; exact hmz);have hpow:3*(3*(E*E)*E^3)=9*E^5:=W
  have h3:3*(E*E)*1<=3*(E*E)*E^3:=Nat.mul_le_mul_left _ (Nat.pow_pos h1);rcases hfirst with ⟨hz,g1⟩|g1
  ·have hz':∀ i,d<i->i<k->M' i c=0:=λi g1 g2=>by rw[<- hc' i g2]; exact hz i g1 g2
   have hC':∀ i,d<=i->i<k->sw γ d a i=G c->∀ x,x<n->(M' i x).natAbs<=3*(E*E):=λi g2 g3 g4 x _=>by
    have:=(g1 i g2 g3).1 x;have e2:Mz (sw γ d a) (G c) M' i=M' i:=by unfold Mz; rw[if_pos g4]
    rw[e2]at this;exact this
   have hBig':Big k n M' T:=λi hi x hx=>by
    by_cases e:sw γ d a i=G c
    ·rcases oG i d with g|g
     ·exact oR (t1.low i g e x hx) (hBT _)
     ·have:=hC' i g hi e x hx; omega
    ·exact oR (t1.oth i hi e x hx) (hBT _)
   obtain⟨A2,M2,p2,u1,u2,u3,u4,u5,u6,u7⟩:=s7 hz' hBig';obtain⟨w1,w2⟩:=t1.fin hd hcn t2 hm' hC' u5 u6 u7;exact⟨_,by rw[cZ,u1],a01.sw hd q1 hak ⟨m1,A2,J',M2,d+1,p2,_,rfl,u2,u3,u4,w1,λ_=>rfl,λ_ _=>rfl,.inr ⟨rfl,t2,a2W (oM _) hd t2,w2.mono λg=>aUC Z g c⟩⟩⟩
  ·obtain⟨E1,b1,i0,b2,b3,b4,b5⟩:=g1.ex;have hPt:Pt k (Mz (sw γ d a) (G c) M') d c (T*T):=by
    refine⟨i0,b2,b3,b4,Nat.mul_le_mul ?_ ?_⟩
    ·rw[hc' d hd,hpd']; exact hBig a hak c hcn
    ·have h1:=(g1.sign i0 b2 b3).1;rw[hc' d hd,hpd']at h1;exact oR (Nat.le_of_lt h1) (hBig a hak c hcn)
   have hT2:T*T<2^(8*Lib.nDigits (T+1)):=by
    have h1:=aZE (jZ (T+1));have h2:(T+1)*(T+1)<2^(4*Lib.nDigits (T+1))*2^(4*Lib.nDigits (T+1)):=Nat.mul_lt_mul'' h1 h1;rw[<- Nat.pow_add]at h2;have h3:4*Lib.nDigits (T+1)+4*Lib.nDigits (T+1)=8*Lib.nDigits (T+1):=Z
    rw[h3]at h2;have h4:T*T<=(T+1)*(T+1):=Nat.mul_le_mul Z Z;omega
   have hex:∃ i,d<i/\i<k/\M' i c≠0:=⟨i0,b2,b3,by rw[<- hc' i0 b3]; exact b4⟩;obtain⟨z,v1,v2⟩:=a0R hk hn hcn hT hBT (C:=3*(E*E)*E^3) (Tg:=Tg) Z hTg cols (8*Lib.nDigits (T+1)) N (T*T) s1 s3 s5 t1 t2 g1 hPt hT2 (by have:qN=400000:=rfl; omega);exact⟨z,by rw[cZ,s6 hex]; exact v1,v2.sw hd q1 hak⟩
end
def aDY(r:List Int):V:=λx=>r.getD x 0
def KQ(m:List (List Int)):Nat->V:=λi=>aDY (m.getD i [])
def Vr(n:Nat) (v:V):List Int:=(List.range n).map v
theorem bCH r:Zr r.length (aDY r)=r.map Zn:=by
 refine List.ext_getElem? λi=>?_
 simp only[Zr]
 by_cases h:i<r.length
 ·simp[aDY,h]
 grind
theorem bC0 {n v}(hw:∀ x,n<=x->v x=0):aDY (Vr n v)=v:=by
 unfold aDY Vr;grind
theorem aX5 n (h:Lib.nDigits n.natAbs<=18):JD (Zn n,())=some (n,true,()):=by
 have hs:(Zn n).size<=1000000000:=by
  rcases(by omega:n<0\/0<=n)with g|g
  ·rw[L2 g]; omega
  ·rw[X4 g,I9]; omega
 have e1:Nat.ble (Zn n).size 1000000000=true:=by rw[dO]; simpa using hs
 have e4:Lib.parseIntB 64 (Zn n).data.toList=.ok n:=by
  have hne:∀ c r,Lib.decDigits n.natAbs=c::r->c.toNat≠43/\c.toNat≠45:=λc r he=>by
   have:=QB n.natAbs c (by rw[he]; simp);omega
  have hmag:=aUD n.natAbs;rw[EN]at hmag;have hlen:(Lib.decDigits n.natAbs).length<=18:=by rw[Lib.decDigits_length]; exact h
  rw[Lib.parseIntB_64];rcases(by omega:n<0\/0<=n)with g|g
  ·have hn : -(n.natAbs:Int)=n:=Z
   rw[aAW g,Lib.atoiAll_minus,Lib.signed_short hlen,hmag];simp only[Option.map_some,hn];rfl
  ·have hn:(n.natAbs:Int)=n:=Z
   rw[X4 g,EN];cases he:Lib.decDigits n.natAbs with
   | nil=>exact absurd he (OC _)
   | cons c r =>
    obtain⟨h1,h2⟩:=hne c r he;rw[Lib.atoiAll_plain c r h1 h2,<- he,Lib.signless_short hlen,hmag];simp only[Option.map_some,hn];rfl
 unfold JD;grind
theorem aM3(r:List Int)(hl:r.length<=1048576)(hr:∀ a∈r,-9223372036854775808<=a/\a<9223372036854775808) :
  zO ([],r,(r.length:Int),0,())=some (r.map Zn,()):=by
 have key:=aU (step:=tH) (N:=2^64) (λt=>((r.take t).map Zn,r,(r.length:Int),(t:Int),())) r.length (r.map Zn,()) Z (λt ht=>?_) ?_
 ·exact key
 ·have e1:ltI (t:Int) (r.length:Int)=true:=by rw[aE]; exact oT Z
  have e2:aF (t:Int) r.length=true:=by rw[aL]; exact oT Z
  have e3:((t:Nat):Int).toNat=t:=oN _;have e4:r.getD t 0=r[t]:=by simp[List.getD,ht]
  obtain⟨b1,b2⟩:=hr r[t] (List.getElem_mem ht);have e5:=CW r[t] b1 b2;have e6:Nat.ble [Zn r[t]].length 1048576=true:=rfl;have e7:Nat.ble ((r.take t).map Zn).length 1048576=true:=by rw[dO,List.length_map,List.length_take]; exact oT Z
  have e8:=bO t Z;have e9:(r.take t).map Zn++[Zn r[t]]=(r.take (t+1)).map Zn:=by rw[List.take_succ_eq_append_getElem ht,List.map_append]; rfl
  simp only[tH,e1,e2,e3,e4,e5,aD,e6,e7,oC,e8,e9]
 ·have e1:ltI (r.length:Int) (r.length:Int)=false:=by rw[aE]; exact oF Z
  simp only[tH,e1,oD,List.take_length]
theorem aMF(r:List Int)(hl:r.length<=1048576)(hr:∀ a∈r,-9223372036854775808<=a/\a<9223372036854775808):rK (r,())=some (r.map Zn):=by
 have e1:ltI r.length 0=false:=by rfl
 have e2:ltI 1048576 r.length=false:=by rw[aE]; grind
 unfold rK;simp only[e1,e2,Bool.not_false,oC,List.replicate_zero,aM3 r hl hr,aD]
theorem aIJ(rows:List (List Int)) {n:Nat} (hk:rows.length<1048576) (hn:n<1048576) (hlen:∀ r∈rows,r.length=n) (hr:∀ r∈rows,∀ a∈r,-9223372036854775808<=a/\a<9223372036854775808) :
  ∃ m A,cV () (rows,()) []=some (m,A)/\gI 0 rows.length n m A (λi=>i) (KQ rows):=by
 have key:=aU (step:=eA) (N:=2^64)
  (λt=>((List.range t).map (λi=>(i,0,n)),rows,(rows.length:Int),(t:Int),(rows.take t).map (·.map Zn),())) rows.length ((List.range rows.length).map (λi=>(i,0,n)),rows.map (·.map Zn),()) Z (λt ht=>?_) ?_
 ·refine⟨(List.range rows.length).map (λi=>(i,0,n)),rows.map (·.map Zn),?_,rfl,λi hi=>⟨[],rfl,?_⟩,λi j _ _ h=>h⟩
  ·unfold cV p8;have key:bF eA (2^64) ([],rows,(rows.length:Int),0,[],())=_:=key;simp only[key,aD]
  ·rw[List.getElem?_map,List.getElem?_eq_getElem hi];simp only[Option.map_some,List.nil_append];have h1:KQ rows i=aDY rows[i]:=by unfold KQ; simp[List.getD,hi]
   rw[h1,<- bCH,hlen rows[i] (List.getElem_mem hi)]
 ·have e1:ltI (t:Int) (rows.length:Int)=true:=by rw[aE]; exact oT Z
  have e2:aF (t:Int) rows.length=true:=by rw[aL]; exact oT Z
  have e3:((t:Nat):Int).toNat=t:=oN _;have e4:rows.getD t []=rows[t]:=by simp[List.getD,ht]
  have hm:=List.getElem_mem ht;have e5:=aMF rows[t] (by rw[hlen _ hm]; omega) (hr _ hm);have e6:((rows.take t).map (·.map Zn)).length=t:=by rw[List.length_map,List.length_take]; omega
  have e7:Nat.ble [(t,0,n)].length 1048576=true:=rfl;have e8:Nat.ble ((List.range t).map (λi=>(i,0,n))).length 1048576=true:=by rw[dO,List.length_map,List.length_range]; exact oT Z
  have e9:=bO t Z;have e10:(rows[t].map Zn).length=n:=by rw[List.length_map,hlen _ hm]
  have e11:(rows.take t).map (·.map Zn)++[rows[t].map Zn]=(rows.take (t+1)).map (·.map Zn):=by rw[List.take_succ_eq_append_getElem ht,List.map_append]; rfl
  have e12:(List.range t).map (λi=>(i,0,n))++[(t,0,n)]=(List.range (t+1)).map (λi=>(i,0,n)):=by rw[List.range_succ,List.map_append]; rfl
  simp only[eA,e1,e2,e3,e4,e5,aD,e6,e7,e8,e9,e10,e11,e12,oC]
 ·have e1:ltI (rows.length:Int) (rows.length:Int)=false:=by rw[aE]; exact oF Z
  simp only[eA,e1,oD,List.take_length]
theorem a7M {A:List (List ByteArray)} {J o n:Nat} {v:V} {pre:List ByteArray} (hn:n<1048576) (hp:pre.length=o) (hJ:A[J]?=some (pre++Zr n v)) (ok:∀ x,x<n->(v x).natAbs<=1000000000) :
  lS () ((J,o,n),()) A=some ((Vr n v,0,()),A):=by
 have key:=aU (step:=jI) (N:=2^64) (λt=>(Vr t v,(J,o,n),(n:Int),(t:Int),A,())) n (.inr (Vr n v,A,())) Z (λt ht=>?_) ?_
 ·have e1:ltI (n:Int) 0=false:=by rw[aE]; exact oF Z
  have e2:ltI 1048576 (n:Int)=false:=by rw[aE]; exact oF Z
  have key:bF jI (2^64) ([],(J,o,n),(n:Int),0,A,())=_:=key;unfold lS sK;simp only[e1,e2,Bool.not_false,oC,List.replicate_zero,key,aD,gB]
 ·have b1:=ok t ht;have e1:ltI (t:Int) (n:Int)=true:=by rw[aE]; exact oT Z
  have e2:aF (t:Int) n=true:=by rw[aL]; exact oT Z
  have e3:(o+((t:Nat):Int).toNat)*1=o+t:=R
  have e4:cI A J=o+n:=by rw[cI,aJ2 _ hJ,oH,pO,hp]
  have e6:Nat.blt (o+t) (o+n)=true:=by rw[b9]; simpa using ht
  have e7:cS A J (o+t) ByteArray.empty=Zn (v t):=by rw[cS,aJ2 _ hJ,aC1 hp,aP1 _ ht]
  have e8:=aX5 (v t) (by have:=HI (u:=(v t).natAbs) (k:=17) Z; omega);have e9:ltI 1000000000 (v t)=false:=by rw[aE]; exact oF Z
  have e10:ltI (v t) (-1000000000)=false:=by rw[aE]; exact oF Z
  have e11:Nat.ble [v t].length 1048576=true:=rfl;have e12:Nat.ble (Vr t v).length 1048576=true:=by rw[dO]; unfold Vr; rw[List.length_map,List.length_range]; exact oT Z
  have e13:=bO t Z;have e14:Vr t v++[v t]=Vr (t+1) v:=by unfold Vr; rw[List.range_succ,List.map_append]; rfl
  simp only[jI,e1,e2,e3,e4,e6,e7,e8,e9,e10,e11,e12,e13,e14,aD,oC,oD]
 ·have e1:ltI (n:Int) (n:Int)=false:=by rw[aE]; exact oF Z
  simp only[jI,e1,oD]
theorem QR {o k d n:Nat} {m:List (Nat×Nat×Nat)} {A:List (List ByteArray)} {J:Nat->Nat} {M:Nat->V} (h:gI o k n m A J M) (hd:d<=k) (hk:k<1048576) (hn:n<1048576) (ok:∀ i,i<d->∀ x,x<n->(M i x).natAbs<=1000000000) (cols:Int) :
  cW (m.take d) (cols,()) A=some (((cols,(List.range d).map λi=>Vr n (M i)),0,()),A):=by
 have hl:(m.take d).length=d:=by rw[List.length_take,h.len]; omega
 have hg:∀ t,t<d->(m.take d).getD t (0,0,0)=(J t,o,n):=λt ht=>by
  rw[<- h.get (show t<k by omega)];grind
 have key:=aU (step:=gQ) (N:=2^64)
  (λt=>((0,([],())),(cols,((List.range t).map (λi=>Vr n (M i)),())),m.take d,((m.take d).length:Int),(t:Int),A,())) d (.inr ((0,([],())),(cols,((List.range d).map (λi=>Vr n (M i)),())),A,())) Z (λt ht=>?_) ?_
 ·have key:bF gQ (2^64) ((0,([],())),(cols,([],())),m.take d,((m.take d).length:Int),0,A,())=_:=key;unfold cW qF;simp only[key,aD,gB]
 ·rw[hl];obtain⟨pre,h1,h2⟩:=h.at_ t Z;have e1:ltI (t:Int) (d:Int)=true:=by rw[aE]; exact oT Z
  have e2:aF (t:Int) d=true:=by rw[aL]; exact oT Z
  have e3:((t:Nat):Int).toNat=t:=oN _;have e4:Nat.blt t d=true:=by rw[b9]; simpa using ht
  have e5:=a7M hn h1 h2 (ok t ht);have e6:eqI 0 0=true:=O
  have e7:Nat.ble [Vr n (M t)].length 1048576=true:=rfl;have e8:Nat.ble ((List.range t).map (λi=>Vr n (M i))).length 1048576=true:=by rw[dO,List.length_map,List.length_range]; exact oT Z
  have e9:=bO t Z;have e10:(List.range t).map (λi=>Vr n (M i))++[Vr n (M t)]=(List.range (t+1)).map (λi=>Vr n (M i)):=by rw[List.range_succ,List.map_append]; rfl
  simp only[gQ,hl,e1,e2,e3,e4,hg t ht,e5,e6,e7,e8,e9,e10,aD,oC,Bool.not_true,oD]
 ·rw[hl];have e1:ltI (d:Int) (d:Int)=false:=by rw[aE]; exact oF Z
  simp only[gQ,e1,oD]
theorem aXA(r:List Int) (hl:r.length<=64) (hr:∀ a∈r,a.natAbs<=1000000000):VD (r,())=some (0,()):=by
 have key:=aU (step:=fN) (N:=2^64) (λt=>(r,(),(r.length:Int),(t:Int),())) r.length (.inr ()) Z (λt ht=>?_) ?_
 ·have key:bF fN (2^64) (r,(),(r.length:Int),0,())=some (.inr ()):=key;have e1:ltI 64 (r.length:Int)=false:=by rw[aE]; exact oF Z
  have e2:ltI (-1) 0=true:=O
  simp only[VD,e1,oD,rY,tZ,pS,key,aD,gB,e2,Bool.not_true]
 ·have e1:ltI (t:Int) (r.length:Int)=true:=by rw[aE]; exact oT Z
  have e2:aF (t:Int) r.length=true:=by rw[aL]; exact oT Z
  have e3:((t:Nat):Int).toNat=t:=oN _;have e4:r.getD t 0=r[t]:=by simp[List.getD,ht]
  have b:=hr r[t] (List.getElem_mem ht);have e5:ltI r[t] (-1000000000)=false:=by rw[aE]; exact oF Z
  have e6:ltI 1000000000 r[t]=false:=by rw[aE]; exact oF Z
  have e7:=bO t Z;simp only[fN,e1,e2,e3,e4,aAY,aL4,e5,e6,aD,Bool.not_false,oC,oD,e7]
 ·have e1:ltI (r.length:Int) (r.length:Int)=false:=by rw[aE]; exact oF Z
  simp only[fN,e1,oD]
theorem a0L(rows:List (List Int)){n}(hk:rows.length<1048576)(hn:n<=64)(hlen:∀ r∈rows,r.length=n)(hr:∀ r∈rows,∀ a∈r,a.natAbs<=1000000000):P3 (rows,(n:Int),())=some (0,()):=by
 have key:=aU (step:=zK) (N:=2^64) (λt=>((n:Int),rows,(rows.length:Int),(t:Int),())) rows.length (.inr ()) Z (λt ht=>?_) ?_
 ·have key:bF zK (2^64) ((n:Int),rows,(rows.length:Int),0,())=some (.inr ()):=key;simp only[P3,LQ,key,aD,gB]
 ·have e1:ltI (t:Int) (rows.length:Int)=true:=by rw[aE]; exact oT Z
  have e2:aF (t:Int) rows.length=true:=by rw[aL]; exact oT Z
  have e3:((t:Nat):Int).toNat=t:=oN _;have e4:rows.getD t []=rows[t]:=by simp[List.getD,ht]
  have hm:=List.getElem_mem ht;have e5:=aXA rows[t] (by rw[hlen _ hm]; exact hn) (hr _ hm);have e6:eqI 0 0=true:=O
  have e7:eqI (rows[t].length:Int) (n:Int)=true:=by rw[eG,hlen _ hm]; exact oT rfl
  have e8:=bO t Z;simp only[zK,e1,e2,e3,e4,e5,aD,e6,e7,e8,Bool.not_true,oC,oD]
 ·have e1:ltI (rows.length:Int) (rows.length:Int)=false:=by rw[aE]; exact oF Z
  simp only[zK,e1,oD]
theorem aO3(rows:List (List Int)){n}(hk:rows.length<=12)(hn:n<=12)(hlen:∀ r∈rows,r.length=n)(hr:∀ r∈rows,∀ a∈r,a.natAbs<=1000000000):HW ((n:Int),rows,())=some (0,()):=by
 have e1:ltI n 0=false:=by rfl
 have e2:ltI 12 n=false:=by rw[aE]; exact oF Z
 have e3:ltI 12 rows.length=false:=by rw[aE]; grind
 simp only[HW,e1,e2,e3,oD,a0L rows Z Z hlen hr,aD]
theorem of_eq(rows:List (List Int)) {n:Nat} (hk:rows.length<=12) (hn:n<=12) (hlen:∀ r∈rows,r.length=n) {E T:Nat->Nat} (hr:∀ r∈rows,∀ a∈r,a.natAbs<=E 0) (hE:E 0<=1000000000) (hb:Bds rows.length n E T)
  (hfin:∀ d M p,d<=rows.length->Hn d M p->Same rows.length (KQ rows) d M->(∀ i,i<d->∀ x,n<=x->M i x=0)->∀ i,i<d->∀ x,x<n->(M i x).natAbs<=1000000000) :
  ∃ d M p,vK ((n:Int),rows,())=some (((n:Int),(List.range d).map λi=>Vr n (M i)),0,())/\d<=rows.length/\Hn d M p/\Same rows.length (KQ rows) d M/\(∀ i,i<d->∀ x,n<=x->M i x=0)/\∀ i,i<d->∀ x,x<n->(M i x).natAbs<=1000000000:=by
 obtain⟨m,A,h1,h2⟩:=aIJ rows (n:=n) Z Z hlen (λr h a ha=>by have:=hr r h a ha; omega);have hrow:∀ i,i<rows.length->∃ r,r∈rows/\KQ rows i=aDY r:=λi hi=>⟨rows[i],List.getElem_mem hi,by unfold KQ; simp[List.getD,hi]⟩
 have hw:Wd rows.length n (KQ rows):=λi hi x hx=>by
  obtain⟨r,hr1,hr2⟩:=hrow i hi;rw[hr2]; unfold aDY;grind
 have hB:Big rows.length n (KQ rows) (E 0):=λi hi x hx=>by
  obtain⟨r,hr1,hr2⟩:=hrow i hi;rw[hr2]; unfold aDY;have hl:=hlen r hr1;have:r.getD x 0=r[x]' Z:=by simp[List.getD,show x<r.length by omega]
  rw[this];exact hr r hr1 _ (List.getElem_mem _)
 obtain⟨m',A',J',M',d,p,g1,g2,g3,g4,g5,g6,g7⟩:=aE4 Z Z h2 hw hB hb;have hwd:∀ i,i<d->∀ x,n<=x->M' i x=0:=λi hi x hx=>g6 i Z x hx
 have hf:=hfin d M' p g2 g4 g5 hwd;refine⟨d,M',p,?_,g2,g4,g5,hwd,hf⟩;have e0:eqI 0 0=true:=O
 simp only[vK,aO3 rows hk hn hlen (λr h a ha=>oR (hr r h a ha) hE),aD,e0,Bool.not_true,oD,h1,g1,QR g3 g2 Z Z hf (n:Int)]
end Go.PM
