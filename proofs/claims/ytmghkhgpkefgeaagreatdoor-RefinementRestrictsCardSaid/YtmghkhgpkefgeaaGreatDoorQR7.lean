/- Texts of one proof, joined (7). -/
import Derived.Lib.AtoiTie
import Derived.Lib.ParseIntBTie
import Derived.Test.YtmghkhgpkefgeaaGreatDoorQR6
set_option linter.unusedSimpArgs false
set_option linter.unusedVariables false
set_option maxRecDepth 100000
noncomputable section
namespace Go.PM
open Go Go.RowKit Go.Proofs Tryz
set_option maxHeartbeats 4000000
abbrev rN:List (Nat×Kd):=[(0,.list TyE),(1,.list TyE),(12,.int .i64),(13,.int .i64)]
abbrev zW:List (Ex×List (Nat×Kd)):=[(.ret,[(4,.bool)]),(.exit 0,[])]
def dY(x:Shape.den rN):oS rN zW:=match x with
 | (v0,v1,v12,v13,()) =>
  bif ltI v13 v12 then
   bif aF v13 v0.length then bif aF v13 v1.length then bif !(eqI (v0.getD v13.toNat 0) (v1.getD v13.toNat 0)) then
    some (.inr (.inl (false,())))
   else some (.inl (v0,v1,v12,(aC .i64 (v13+1)),())) else none else none
  else some (.inr (.inr ((()))))
def kN(x:Shape.den rN):oX zW:=bH dY (2^64) x
def eN(x:aK [.list TyE,.list TyE]):oK [.bool]:=match x with
 | (v0,v1,()) =>
  bif !(eqI (v0.length:Int) (v1.length:Int)) then
   some (false,())
  else aB (kN (v0,v1,(v0.length:Int),0,())) λz1 =>
  l9 z1 (λa2=>some (a2.1,())) λb3 =>
  some (true,())
abbrev CT:Ent:=⟨20,_,_,eN⟩
theorem K5:Ent.OK tP CT:=oU (aQ oW) func20 4 (lp:=kN) rfl Y (by rintro⟨v0,v1,v12,v13,⟨⟩⟩; kernel_rfl) (by rintro⟨v0,v1,⟨⟩⟩; kernel_rfl)
def HF(x:aK [.list TyE,.list TyE]):oK [.bool]:=match x with
 | (v0,v1,()) =>
  aB (dL (v0,v1,())) λy1 =>
  some (y1.1,())
abbrev aCG:Ent:=⟨133,_,_,HF⟩
theorem YJ:Ent.OK tP aCG:=oI (aQ (oV uH oW)) func133 Y (by rintro⟨v0,v1,⟨⟩⟩; kernel_rfl)
abbrev dQ:List (Nat×Kd):=[(1,.list TyD),(2,.fn 133),(15,.list TyD),(16,.int .i64),(17,.int .i64)]
abbrev iI:List (Ex×List (Nat×Kd)):=[(.ret,[(6,.bool)]),(.exit 0,[])]
def aV(x:Shape.den dQ):oS dQ iI:=match x with
 | (v1,v2,v15,v16,v17,()) =>
  bif ltI v17 v16 then
   bif aF v17 v15.length then bif aF v17 v1.length then aB (HF ((v15.getD v17.toNat []),(v1.getD v17.toNat []),())) λy2 =>
   bif y2.1 then
    some (.inl (v1,(),v15,v16,(aC .i64 (v17+1)),()))
   else some (.inr (.inl (false,()))) else none else none
  else some (.inr (.inr ((()))))
def cF(x:Shape.den dQ):oX iI:=bH aV (2^64) x
def bF(x:aK [.list TyD,.list TyD,.fn 133]):oK [.bool]:=match x with
 | (v0,v1,v2,()) =>
  bif !(eqI (v0.length:Int) (v1.length:Int)) then
   some (false,())
  else aB (cF (v1,(),v0,(v0.length:Int),0,())) λz3 =>
  l9 z3 (λa4=>some (a4.1,())) λb5 =>
  some (true,())
abbrev tL:Ent:=⟨131,_,_,bF⟩
theorem rV:Ent.OK tP tL:=oU (aQ (oV YJ oW)) func131 4 (lp:=cF) rfl Y (by rintro⟨v1,v2,v15,v16,v17,⟨⟩⟩; kernel_rfl) (by rintro⟨v0,v1,v2,⟨⟩⟩; kernel_rfl)
def D3(x:aK [.list TyD,.list TyD]):oK [.bool]:=match x with
 | (v0,v1,()) =>
  aB (bF (v0,v1,(),())) λy1 =>
  some (y1.1,())
abbrev aF8:Ent:=⟨77,_,_,D3⟩
theorem aA4:Ent.OK tP aF8:=oI (aQ (oV rV oW)) func77 Y (by rintro⟨v0,v1,⟨⟩⟩; kernel_rfl)
abbrev J7:List (Nat×Kd):=[(0,.int .i64),(3,.int .i64)]
abbrev UH:List (Ex×List (Nat×Kd)):=[(.ret,[(2,.bool)]),(.exit 0,[])]
def aCJ(x:Shape.den J7):oS J7 UH:=match x with
 | (v0,v3,()) =>
  bif !(ltI v0 (aC .i64 (v3*v3))) then
   bif eqI v3 0 then none else bif eqI (v0.tmod v3) 0 then
    some (.inr (.inl (false,())))
   else some (.inl (v0,(aC .i64 (v3+1)),()))
  else some (.inr (.inr ((()))))
def PR(x:Shape.den J7):oX UH:=bH aCJ (2^64) x
def xC(x:aK [.int .i64]):oK [.bool]:=match x with
 | (v0,()) =>
  bif ltI v0 2 then
   some (false,())
  else bif ltI 97 v0 then
   some (false,())
  else aB (PR (v0,2,())) λz1 =>
  l9 z1 (λa2=>some (a2.1,())) λb3 =>
  some (true,())
abbrev aNF:Ent:=⟨48,_,_,xC⟩
theorem aFI:Ent.OK tP aNF:=oU (aQ oW) func48 4 (lp:=PR) rfl Y (by rintro⟨v0,v3,⟨⟩⟩; kernel_rfl) (by rintro⟨v0,⟨⟩⟩; kernel_rfl)
abbrev O9:List (Nat×Kd):=[(0,.list TyE),(13,.list TyE),(14,.int .i64),(15,.int .i64)]
abbrev ZC:List (Ex×List (Nat×Kd)):=[(.ret,[(2,.int .i64)]),(.exit 1,[])]
def qW(x:Shape.den O9):oS O9 ZC:=match x with
 | (v0,v13,v14,v15,()) =>
  bif ltI v15 v14 then
   bif aF v15 v13.length then aB (xC ((v13.getD v15.toNat 0),())) λy2 =>
   bif y2.1 then
    bif ltI 0 v15 then
     bif aF (aC .i64 (v15-1)) v0.length then bif !(ltI (v0.getD ((aC .i64 (v15-1)).toNat) 0) (v13.getD v15.toNat 0)) then
      some (.inr (.inl (6,())))
     else some (.inl (v0,v13,v14,(aC .i64 (v15+1)),())) else none
    else some (.inl (v0,v13,v14,(aC .i64 (v15+1)),()))
   else some (.inr (.inl (25,()))) else none
  else some (.inr (.inr ((()))))
def KI(x:Shape.den O9):oX ZC:=bH qW (2^64) x
def aU(x:aK [.list TyE]):oK [.int .i64]:=match x with
 | (v0,()) =>
  bif eqI (v0.length:Int) 0 then
   some (13,())
  else bif ltI 6 (v0.length:Int) then
   some (4,())
  else aB (KI (v0,v0,(v0.length:Int),0,())) λz3 =>
  l9 z3 (λa4=>some (a4.1,())) λb5 =>
  some (0,())
abbrev aTY:Ent:=⟨32,_,_,aU⟩
theorem uO:Ent.OK tP aTY:=oU (aQ (oV aFI oW)) func32 6 (lp:=KI) rfl Y (by rintro⟨v0,v13,v14,v15,⟨⟩⟩; kernel_rfl) (by rintro⟨v0,⟨⟩⟩; kernel_rfl)
def mA(x:aK [.agg TyG]):oK [.int .i64]:=match x with
 | (v0,()) =>
  aB (aU (v0.1,())) λy1 =>
  bif !(eqI y1.1 0) then
   some (y1.1,())
  else aB (nV (((v0.1.length:Int),v0.2.1),())) λy2 =>
  bif !(eqI y2.1 0) then
   some (y2.1,())
  else aB (lE (((v0.1.length:Int),v0.2.1),())) λy3 =>
  bif !(eqI y3.2.1 0) then
   some (7,())
  else aB (FB (y3.1,((v0.1.length:Int),v0.2.1),())) λy4 =>
  bif y4.1 then
   aB (gH (((v0.1.length:Int),v0.2.1),())) λy5 =>
   bif !(eqI y5.2.1 0) then
    some (14,())
   else aB (D3 (y5.1.2,v0.2.2,())) λy6 =>
   bif y6.1 then
    some (0,())
   else some (14,())
  else some (7,())
abbrev SZ:Ent:=⟨24,_,_,mA⟩
theorem ZU:Ent.OK tP SZ:=oI (aQ (oV BH (oV EE (oV aGT (oV E8 (oV uO (oV aA4 oW))))))) func24 Y (by rintro⟨v0,⟨⟩⟩; kernel_rfl)
def q9(x:aK [.list TyE,.list TyD]):oK [.list TyD,.list TyD,.int .i64]:=match x with
 | (v0,v1,()) =>
  aB (aU (v0,())) λy1 =>
  bif !(eqI y1.1 0) then
   some ([],[],y1.1,())
  else aB (tO ((v0.length:Int),v1,())) λy2 =>
  bif !(eqI y2.2.1 0) then
   some ([],[],y2.2.1,())
  else aB (lE (y2.1,())) λy3 =>
  bif !(eqI y3.2.1 0) then
   some ([],[],y3.2.1,())
  else aB (gH (y2.1,())) λy4 =>
  some (y3.1.2,y4.1.2,y4.2.1,())
abbrev aFU:Ent:=⟨94,_,_,q9⟩
theorem OH:Ent.OK tP aFU:=oI (aQ (oV BH (oV SH (oV E8 (oV uO oW))))) func94 Y (by rintro⟨v0,v1,⟨⟩⟩; kernel_rfl)
def kG(x:aK [.list TyE]):oK [.list TyE]:=match x with
 | (v0,()) =>
  bif Nat.blt 0 v0.length then bif Nat.ble v0.length 1048576 then some (v0,()) else none else none
abbrev OU:Ent:=⟨95,_,_,kG⟩
theorem zX:Ent.OK tP OU:=oI (aQ oW) func95 Y (by rintro⟨v0,⟨⟩⟩; kernel_rfl)
def aN(x:aK [.list TyE,.list TyD]):oK [.agg TyG,.int .i64]:=match x with
 | (v0,v1,()) =>
  aB (q9 (v0,v1,())) λy1 =>
  bif !(eqI y1.2.2.1 0) then
   some (([],([],[])),y1.2.2.1,())
  else aB (kG (v0,())) λy2 =>
  some ((y2.1,(y1.1,y1.2.1)),0,())
abbrev BF:Ent:=⟨39,_,_,aN⟩
theorem iZ:Ent.OK tP BF:=oI (aQ (oV zX (oV OH oW))) func39 Y (by rintro⟨v0,v1,⟨⟩⟩; kernel_rfl)
def nQ(x:aK [.list TyE,.list TyD]):oK [.agg TyG,.int .i64]:=match x with
 | (v0,v1,()) =>
  aB (q9 (v0,v1,())) λy1 =>
  bif !(eqI y1.2.2.1 0) then
   some (([],([],[])),y1.2.2.1,())
  else aB (kG (v0,())) λy2 =>
  some ((y2.1,(y1.2.1,y1.1)),0,())
abbrev H9:Ent:=⟨90,_,_,nQ⟩
theorem QG:Ent.OK tP H9:=oI (aQ (oV zX (oV OH oW))) func90 Y (by rintro⟨v0,v1,⟨⟩⟩; kernel_rfl)
end Go.PM
namespace Go.PM
open Go Go.RowKit Go.Proofs Tryz
set_option maxHeartbeats 4000000
def EP(x:aK [.int .u8]):oK [.list TyE]:=match x with
 | (v0,()) =>
  bif eqI ([[2,3,5],[2,3,5,7],[2,3],[2,3,7],[2,5,7],[3,5,7],[2,3,5,11],[2],[2,3,7,13],[3,5,7,13]].length:Int) 0 then none else bif aF ((IntKind.wrap .i64 v0).tmod ([[2,3,5],[2,3,5,7],[2,3],[2,3,7],[2,5,7],[3,5,7],[2,3,5,11],[2],[2,3,7,13],[3,5,7,13]].length:Int)) [[2,3,5],[2,3,5,7],[2,3],[2,3,7],[2,5,7],[3,5,7],[2,3,5,11],[2],[2,3,7,13],[3,5,7,13]].length then some (([[2,3,5],[2,3,5,7],[2,3],[2,3,7],[2,5,7],[3,5,7],[2,3,5,11],[2],[2,3,7,13],[3,5,7,13]].getD (((IntKind.wrap .i64 v0).tmod ([[2,3,5],[2,3,5,7],[2,3],[2,3,7],[2,5,7],[3,5,7],[2,3,5,11],[2],[2,3,7,13],[3,5,7,13]].length:Int)).toNat) []),()) else none
abbrev aA9:Ent:=⟨63,_,_,EP⟩
theorem VM:Ent.OK tP aA9:=oI (aQ oW) func63 Y (by rintro⟨v0,⟨⟩⟩; kernel_rfl)
abbrev yF:List (Nat×Kd):=[(0,.list TyE),(3,.box 52 TyI),(5,.own 3 TyE),(6,.int .i64)]
abbrev GZ:List (Ex×List (Nat×Kd)):=[(.exit 0,[(5,.own 3 TyE)])]
def p7(x:Shape.den yF):oS yF GZ:=match x with
 | (v0,v3,v5,v6,()) =>
  bif ltI v6 (v0.length:Int) then
   bif ltI v6 4 then
    bif eqI v6 0 then
     bif Nat.ble [((IntKind.wrap .i64 v3.1).tmod 10)].length 1048576 then bif Nat.ble v5.length 1048576 then some (.inl (v0,v3,(v5++[((IntKind.wrap .i64 v3.1).tmod 10)]),(aC .i64 (v6+1)),())) else none else none
    else bif eqI v6 1 then
     bif Nat.ble [((IntKind.wrap .i64 v3.2.1).tmod 10)].length 1048576 then bif Nat.ble v5.length 1048576 then some (.inl (v0,v3,(v5++[((IntKind.wrap .i64 v3.2.1).tmod 10)]),(aC .i64 (v6+1)),())) else none else none
    else bif eqI v6 2 then
     bif Nat.ble [((IntKind.wrap .i64 v3.2.2.1).tmod 10)].length 1048576 then bif Nat.ble v5.length 1048576 then some (.inl (v0,v3,(v5++[((IntKind.wrap .i64 v3.2.2.1).tmod 10)]),(aC .i64 (v6+1)),())) else none else none
    else bif eqI v6 3 then bif Nat.ble [((IntKind.wrap .i64 v3.2.2.2).tmod 10)].length 1048576 then bif Nat.ble v5.length 1048576 then some (.inl (v0,v3,(v5++[((IntKind.wrap .i64 v3.2.2.2).tmod 10)]),(aC .i64 (v6+1)),())) else none else none else none
   else some (.inr ((v5,())))
  else some (.inr ((v5,())))
def vJ(x:Shape.den yF):oX GZ:=bH p7 (2^64) x
def vB(x:aK [.list TyE,.agg TyI]):oK [.list TyE]:=match x with
 | (v0,v1,()) =>
  aB (vJ (v0,v1,[],0,())) λz1 =>
  some (z1.1,())
abbrev XD:Ent:=⟨64,_,_,vB⟩
theorem TP:Ent.OK tP XD:=oU (aQ oW) func64 3 (lp:=vJ) rfl Y (by rintro⟨v0,v3,v5,v6,⟨⟩⟩; kernel_rfl) (by rintro⟨v0,v1,⟨⟩⟩; kernel_rfl)
def rE(x:aK [.list TyE,.list TyD,.bool]):oK [.agg TyG,.int .i64]:=match x with
 | (v0,v1,v2,()) =>
  aB (aU (v0,())) λy1 =>
  bif !(eqI y1.1 0) then
   some (([],([],[])),y1.1,())
  else aB (tO ((v0.length:Int),v1,())) λy2 =>
  bif !(eqI y2.2.1 0) then
   some (([],([],[])),y2.2.1,())
  else aB (lE (y2.1,())) λy3 =>
  aB (gH (y2.1,())) λy4 =>
  bif !(eqI y3.2.1 0) then
   some (([],([],[])),4,())
  else bif !(eqI y4.2.1 0) then
   some (([],([],[])),4,())
  else bif v2 then
   some ((v0,(y4.1.2,y3.1.2)),0,())
  else some ((v0,(y3.1.2,y4.1.2)),0,())
abbrev aCD:Ent:=⟨65,_,_,rE⟩
theorem XU:Ent.OK tP aCD:=oI (aQ (oV BH (oV SH (oV E8 (oV uO oW))))) func65 Y (by rintro⟨v0,v1,v2,⟨⟩⟩; kernel_rfl)
abbrev DR:List (Nat×Kd):=[(1,.box 24 TyP),(2,.box 35 TyG),(3,.list TyE),(4,.own 53 TyD),(5,.int .i64)]
abbrev LF:List (Ex×List (Nat×Kd)):=[(.exit 0,[(1,.box 24 TyP),(2,.box 35 TyG),(3,.list TyE),(4,.own 53 TyD)])]
def tU(x:Shape.den DR):oS DR LF:=match x with
 | (v1,v2,v3,v4,v5,()) =>
  bif ltI v5 (v1.2.1.length:Int) then
   bif ltI v5 3 then
    bif aF v5 v1.2.1.length then aB (vB (v3,((v1.2.1.getD v5.toNat (0,(0,(0,0)))).1,((v1.2.1.getD v5.toNat (0,(0,(0,0)))).2.1,((v1.2.1.getD v5.toNat (0,(0,(0,0)))).2.2.1,(v1.2.1.getD v5.toNat (0,(0,(0,0)))).2.2.2))),())) λy3 =>
    bif Nat.ble [y3.1].length 1048576 then bif Nat.ble v4.length 1048576 then some (.inl (v1,v2,v3,(v4++[y3.1]),(aC .i64 (v5+1)),())) else none else none else none
   else some (.inr ((v1,v2,v3,v4,())))
  else some (.inr ((v1,v2,v3,v4,())))
def A7(x:Shape.den DR):oX LF:=bH tU (2^64) x
def xH(x:aK [.agg TyP]):oK [.agg TyG]:=match x with
 | (v0,()) =>
  aB (EP (v0.1,())) λy1 =>
  aB (A7 (v0,([],([],[])),y1.1,[],0,())) λz4 =>
  aB (rE (z4.2.2.1,z4.2.2.2.1,z4.1.2.2,())) λy5 =>
  some (y5.1,())
abbrev aDZ:Ent:=⟨15,_,_,xH⟩
theorem ZK:Ent.OK tP aDZ:=oU (aQ (oV TP (oV VM (oV XU oW)))) func15 4 (lp:=A7) rfl Y (by rintro⟨v1,v2,v3,v4,v5,⟨⟩⟩; kernel_rfl) (by rintro⟨v0,⟨⟩⟩; kernel_rfl)
def xB(x:aK [.agg TyP]):oK [.bool]:=match x with
 | (v0,()) =>
  some (!(ltI 3 (v0.2.1.length:Int)),())
abbrev aDT:Ent:=⟨13,_,_,xB⟩
theorem ZP:Ent.OK tP aDT:=oI (aQ oW) func13 Y (by rintro⟨v0,⟨⟩⟩; kernel_rfl)
abbrev pN:List (Nat×Kd):=[(0,.list TyG),(8,.list TyG),(9,.int .i64),(10,.int .i64)]
abbrev sZ:List (Ex×List (Nat×Kd)):=[(.ret,[(2,.int .i64)]),(.exit 0,[(0,.list TyG)])]
def rB(x:Shape.den pN):oS pN sZ:=match x with
 | (v0,v8,v9,v10,()) =>
  bif ltI v10 v9 then
   bif aF v10 v8.length then aB (mA (((v8.getD v10.toNat ([],([],[]))).1,((v8.getD v10.toNat ([],([],[]))).2.1,(v8.getD v10.toNat ([],([],[]))).2.2)),())) λy2 =>
   bif !(eqI y2.1 0) then
    some (.inr (.inl (y2.1,())))
   else some (.inl (v0,v8,v9,(aC .i64 (v10+1)),())) else none
  else some (.inr (.inr ((v0,()))))
def vD(x:Shape.den pN):oX sZ:=bH rB (2^64) x
abbrev pR:List (Nat×Kd):=[(0,.list TyG),(20,.list TyG),(21,.int .i64),(22,.int .i64)]
abbrev tB:List (Ex×List (Nat×Kd)):=[(.ret,[(2,.int .i64)]),(.exit 2,[])]
def mQ(x:Shape.den pR):oS pR tB:=match x with
 | (v0,v20,v21,v22,()) =>
  bif ltI v22 v21 then
   bif aF v22 v20.length then bif aF 0 v0.length then aB (eN ((v20.getD v22.toNat ([],([],[]))).1,(v0.getD 0 ([],([],[]))).1,())) λy7 =>
   bif y7.1 then
    some (.inl (v0,v20,v21,(aC .i64 (v22+1)),()))
   else some (.inr (.inl (14,()))) else none else none
  else some (.inr (.inr ((()))))
def vO(x:Shape.den pR):oX tB:=bH mQ (2^64) x
def lK(x:aK [.list TyG]):oK [.int .i64]:=match x with
 | (v0,()) =>
  aB (vD (v0,v0,(v0.length:Int),0,())) λz3 =>
  l9 z3 (λa4=>some (a4.1,())) λb5 =>
  aB (vO (b5.1,b5.1,(b5.1.length:Int),0,())) λz8 =>
  l9 z8 (λa9=>some (a9.1,())) λb10 =>
  some (0,())
def KE:Code:=eB f66
abbrev KO:Env:=K9 [CT,SZ]
theorem FR:iK tP KO:=aQ ⟨K5,ZU,trivial⟩
def HW:Code:=iG KE 0
def HC:Code:=iG KE 1
def IQ(id:Nat):Option eF:=bif Nat.beq id 2 then some ⟨pN,sZ,vD⟩ else bif Nat.beq id 9 then some ⟨pR,tB,vO⟩ else none
theorem VN:∀ x,j8 tP KO 35 (aS f66) IQ HW pN sZ x=rB x:=by
 rintro⟨v0,v8,v9,v10,⟨⟩⟩
 kernel_rfl
theorem YE:eT tP 35 HW ⟨pN,sZ,vD⟩:=fI FR.callee bT.mixed _ (aT (l:=[]) Y trivial) VN
theorem V5:∀ x,j8 tP KO 35 (aS f66) IQ HC pR tB x=mQ x:=by
 rintro⟨v0,v20,v21,v22,⟨⟩⟩
 kernel_rfl
theorem Y0:eT tP 35 HC ⟨pR,tB,vO⟩:=fI FR.callee bT.mixed _ (aT (l:=[]) Y trivial) V5
abbrev aF0:Ent:=⟨66,_,_,lK⟩
theorem tK:Ent.OK tP aF0:=aD2 bT FR func66 (c:=KE) Y (cD:=aS f66) (lt:=IQ) (aT (l:=[HW,HC]) Y ⟨fG (i:=2) Y rfl YE,fG (i:=9) Y rfl Y0,trivial⟩) (by rintro⟨v0,⟨⟩⟩; kernel_rfl)
def j4(x:aK [.agg TyG]):oK [.agg TyH]:=match x with
 | (v0,()) =>
  some (((v0.1.length:Int),v0.2.1),())
abbrev SG:Ent:=⟨69,_,_,j4⟩
theorem xN:Ent.OK tP SG:=oI (aQ oW) func69 Y (by rintro⟨v0,⟨⟩⟩; kernel_rfl)
def PQ(x:aK [.agg TyG,.agg TyG]):oK [.bool,.int .i64]:=match x with
 | (v0,v1,()) =>
  aB (j4 (v0,())) λy1 =>
  aB (j4 (v1,())) λy2 =>
  aB (Y4 (y1.1,y2.1,())) λy3 =>
  some (y3.1,y3.2.1,())
abbrev aCE:Ent:=⟨70,_,_,PQ⟩
theorem YV:Ent.OK tP aCE:=oI (aQ (oV aEE (oV xN oW))) func70 Y (by rintro⟨v0,v1,⟨⟩⟩; kernel_rfl)
def AD(x:aK [.agg TyG,.agg TyG]):oK [.bool,.int .i64]:=match x with
 | (v0,v1,()) =>
  aB (lK ([v0,v1],())) λy1 =>
  bif !(eqI y1.1 0) then
   some (false,y1.1,())
  else aB (PQ (v0,v1,())) λy2 =>
  some (y2.1,y2.2.1,())
abbrev PY:Ent:=⟨18,_,_,AD⟩
theorem KG:Ent.OK tP PY:=oI (aQ (oV tK (oV YV oW))) func18 Y (by rintro⟨v0,v1,⟨⟩⟩; kernel_rfl)
def PS(x:aK [.agg TyG,.agg TyG]):oK [.int .i64]:=match x with
 | (v0,v1,()) =>
  aB (AD (v0,v1,())) λy1 =>
  bif !(eqI y1.2.1 0) then
   some (y1.2.1,())
  else bif y1.1 then
   some (0,())
  else some (6,())
abbrev aCZ:Ent:=⟨82,_,_,PS⟩
theorem XC:Ent.OK tP aCZ:=oI (aQ (oV KG oW)) func82 Y (by rintro⟨v0,v1,⟨⟩⟩; kernel_rfl)
def KS(x:aK [.agg TyG,.agg TyG]):oK [.int .i64,.int .i64]:=match x with
 | (v0,v1,()) =>
  aB (PS (v0,v1,())) λy1 =>
  bif !(eqI y1.1 0) then
   some (0,y1.1,())
  else some ((aC .i64 ((v1.2.1.length:Int)-(v0.2.1.length:Int))),0,())
abbrev TW:Ent:=⟨27,_,_,KS⟩
theorem aBK:Ent.OK tP TW:=oI (aQ (oV XC oW)) func27 Y (by rintro⟨v0,v1,⟨⟩⟩; kernel_rfl)
end Go.PM
namespace Go.PM
open Go Go.RowKit Go.Proofs Tryz
set_option maxHeartbeats 4000000
def cS(x:aK [.nil0,.int .i64]):Option (List ByteArray):=match x with
 | (v0,v1,()) =>
  bif ltI v1 0 then none else bif ltI 0 (aC .i64 (v1-0)) then
   bif !(ltI (aC .i64 (v1-0)) 0) then bif !(ltI 1048576 (aC .i64 (v1-0))) then bif Nat.ble 0 0 then bif Nat.ble 0 ((List.replicate (aC .i64 (v1-0)).toNat (ByteArray.empty:Ty.den .str)).length) then bif Nat.blt 0 ((List.replicate (aC .i64 (v1-0)).toNat (ByteArray.empty:Ty.den .str)).length) then some ((List.replicate (aC .i64 (v1-0)).toNat (ByteArray.empty:Ty.den .str)).take (0-0)) else none else none else none else none else none
  else some []
def nW:Code:=eB f162
abbrev vW:Env:=K9 []
theorem FM:iK tP vW:=aQ trivial
def uX(id:Nat):Option eF:=none
theorem EI:bV nW=[]:=Y
theorem E9:∀ x,aWF tP vW f162 (aS f162) uX nW [.nil0,.int .i64] 4 110 .str x=cS x:=by
 rintro⟨v0,v1,⟨⟩⟩
 kernel_rfl
theorem HB:aPR tP 162 [.nil0,.int .i64] 110 .str cS:=aTN bT FM func162 (c:=nW) Y (cD:=aS f162) (lt:=uX) (t:=4) Y (aT EI trivial) E9
abbrev vU:Shr:=(162,a5O [.nil0,.int .i64] 110 .str cS)
theorem EV:xI tP vU:=aSI HB
abbrev cQ:List (Nat×Kd):=[(0,.list (.list .str)),(3,.int .i64),(9,.list (.list .str)),(10,.int .i64),(11,.int .i64)]
abbrev dR:List (Ex×List (Nat×Kd)):=[(.exit 0,[(0,.list (.list .str)),(3,.int .i64)])]
def cM(x:Shape.den cQ):oS cQ dR:=match x with
 | (v0,v3,v9,v10,v11,()) =>
  bif ltI v11 v10 then
   bif aF v11 v9.length then bif ltI (aC .i64 (v3+((v9.getD v11.toNat []).length:Int))) 0 then none else some (.inl (v0,(aC .i64 (v3+((v9.getD v11.toNat []).length:Int))),v9,v10,(aC .i64 (v11+1)),())) else none
  else some (.inr ((v0,v3,())))
def eU(x:Shape.den cQ):oX dR:=bH cM (2^64) x
abbrev cR:List (Nat×Kd):=[(6,.own 110 .str),(25,.list (.list .str)),(26,.int .i64),(27,.int .i64)]
abbrev dP:List (Ex×List (Nat×Kd)):=[(.exit 2,[(6,.own 110 .str)])]
def cN(x:Shape.den cR):oS cR dP:=match x with
 | (v6,v25,v26,v27,()) =>
  bif ltI v27 v26 then
   bif aF v27 v25.length then bif Nat.ble (v25.getD v27.toNat []).length 1048576 then bif Nat.ble v6.length 1048576 then some (.inl ((v6++(v25.getD v27.toNat [])),v25,v26,(aC .i64 (v27+1)),())) else none else none else none
  else some (.inr ((v6,())))
def eS(x:Shape.den cR):oX dP:=bH cN (2^64) x
def cL(x:aK [.list (.list .str)]):Option (List ByteArray):=match x with
 | (v0,()) =>
  aB (eU (v0,0,v0,(v0.length:Int),0,())) λz1 =>
  aB (cS ((),z1.2.1,())) λy2 =>
  aB (eS (y2,z1.1,(z1.1.length:Int),0,())) λz3 =>
  some z3.1
def eG:Code:=eB f118
abbrev gZ:Env:=OB [] [vU]
theorem kV:iK tP gZ:=o9 trivial ⟨EV,trivial⟩
def lN:Code:=iG eG 0
def lM:Code:=iG eG 1
def gK(id:Nat):Option eF:=bif Nat.beq id 3 then some ⟨cQ,dR,eU⟩ else bif Nat.beq id 11 then some ⟨cR,dP,eS⟩ else none
theorem BJ:∀ x,j8 tP gZ 36 (aS f118) gK lN cQ dR x=cM x:=by
 rintro⟨v0,v3,v9,v10,v11,⟨⟩⟩
 kernel_rfl
theorem CB:eT tP 36 lN ⟨cQ,dR,eU⟩:=fI kV.callee bT.mixed _ (aT (l:=[]) Y trivial) BJ
theorem BN:∀ x,j8 tP gZ 36 (aS f118) gK lM cR dP x=cN x:=by
 rintro⟨v6,v25,v26,v27,⟨⟩⟩
 kernel_rfl
theorem CC:eT tP 36 lM ⟨cR,dP,eS⟩:=fI kV.callee bT.mixed _ (aT (l:=[]) Y trivial) BN
theorem C2:bV eG=[lN,lM]:=Y
theorem DC:∀ x,aWF tP gZ f118 (aS f118) gK eG [.list (.list .str)] 2 110 .str x=cL x:=by
 rintro⟨v0,⟨⟩⟩
 kernel_rfl
theorem ET:aPR tP 118 [.list (.list .str)] 110 .str cL:=aTN bT kV func118 (c:=eG) Y (cD:=aS f118) (lt:=gK) (t:=2) Y (aT C2 ⟨fG (i:=3) Y rfl CB,fG (i:=11) Y rfl CC,trivial⟩) DC
abbrev uC:Shr:=(118,a5O [.list (.list .str)] 110 .str cL)
theorem DD:xI tP uC:=aSI ET
abbrev nM:List (Nat×Kd):=[(3,.ptr TyH),(4,.bag 98 TyE 53 TyD none),(7,.int .i64),(8,.own 148 (.hnd 1)),(23,.list TyD),(24,.int .i64),(25,.int .i64),(100000,.ar 110 .str)]
abbrev rY:List (Ex×List (Nat×Kd)):=[(.exit 0,[(3,.ptr TyH),(4,.bag 98 TyE 53 TyD none),(7,.int .i64),(8,.own 148 (.hnd 1)),(100000,.ar 110 .str)])]
def pJ(x:Shape.den nM):oS nM rY:=match x with
 | (v3,v4,v7,v8,v23,v24,v25,u00,()) =>
  bif ltI v25 v24 then
   bif aF v25 v23.length then aB (pQ ((v23.getD v25.toNat []),())) λy5 =>
   aB (pQ ((v23.getD v25.toNat []),())) λy6 =>
   aB (cL ([y5.1,y6.1],())) λy7 =>
   bif Nat.ble [(u00.length,0,y7.length)].length 1048576 then bif Nat.ble v8.length 1048576 then some (.inl (v3,(v4.1,(v4.2.1,())),v7,(v8++[(u00.length,0,y7.length)]),v23,v24,(aC .i64 (v25+1)),(u00++[y7]),())) else none else none else none
  else some (.inr ((v3,(v4.1,(v4.2.1,())),v7,v8,u00,())))
def uB(x:Shape.den nM):oX rY:=bH pJ (2^64) x
abbrev nK:List (Nat×Kd):=[(4,.bag 98 TyE 53 TyD none),(7,.int .i64),(8,.own 148 (.hnd 1)),(40,.list TyD),(41,.int .i64),(42,.int .i64),(100000,.ar 110 .str)]
abbrev rX:List (Ex×List (Nat×Kd)):=[(.exit 2,[(4,.bag 98 TyE 53 TyD none),(7,.int .i64),(8,.own 148 (.hnd 1)),(100000,.ar 110 .str)])]
def pT(x:Shape.den nK):oS nK rX:=match x with
 | (v4,v7,v8,v40,v41,v42,u00,()) =>
  bif ltI v42 v41 then
   bif aF v42 v40.length then aB (pQ ((v40.getD v42.toNat []),())) λy12 =>
   aB (nF () (v7,()) u00) λy13 =>
   aB (cL ([y12.1,y13.1],())) λy14 =>
   bif Nat.ble [(y13.2.length,0,y14.length)].length 1048576 then bif Nat.ble v8.length 1048576 then some (.inl ((v4.1,(v4.2.1,())),v7,(v8++[(y13.2.length,0,y14.length)]),v40,v41,(aC .i64 (v42+1)),(y13.2++[y14]),())) else none else none else none
  else some (.inr (((v4.1,(v4.2.1,())),v7,v8,u00,())))
def tY(x:Shape.den nK):oX rX:=bH pT (2^64) x
def mE(x:aK [.agg TyH,.agg TyH]):oK [.agg TyH,.int .i64]:=match x with
 | (v0,v1,()) =>
  aB (sG (v0,v1,())) λy1 =>
  bif !(eqI y1.1 0) then
   some ((0,[]),y1.1,())
  else aB (uB (v1,(0,([],())),v0.1,[],v0.2,(v0.2.length:Int),0,[],())) λz8 =>
  aB (tY ((z8.2.1.1,(z8.2.1.2.1,())),z8.2.2.1,z8.2.2.2.1,z8.1.2,(z8.1.2.length:Int),0,z8.2.2.2.2.1,())) λz15 =>
  aB (cI z15.2.2.1 ((aC .i64 (2*z15.2.1)),()) z15.2.2.2.1) λy16 =>
  aB (dB () (y16.1,z15.2.1,z15.2.1,()) y16.2) λy17 =>
  aB (cW y17.1 (z15.2.1,()) y17.2) λy18 =>
  some (y18.1.1,y18.1.2.1,())
def xJ:Code:=eB f68
abbrev CA:Env:=OB [IN,LP] [zA,lR,lO,KK,uC]
theorem DJ:iK tP CA:=o9 ⟨DG,PW,trivial⟩ ⟨ED,mH,mB,M7,DD,trivial⟩
def FT:Code:=inLoop (aUG xJ 0)
def EZ:Code:=inLoop (aUG xJ 1)
def AA(id:Nat):Option eF:=bif Nat.beq id 7 then some ⟨nM,rY,uB⟩ else bif Nat.beq id 12 then some ⟨nK,rX,tY⟩ else none
def AH(id:Nat):Option eF:=none
theorem VD:∀ x,aSQ tP CA 67 (aDB f68) AA AH false [] FT nM rY x=pJ x:=by
 rintro⟨v3,v4,v7,v8,v23,v24,v25,u00,⟨⟩⟩
 kernel_rfl
theorem WL:VW tP 67 false [] (.loop FT) ⟨nM,rY,uB⟩:=aM1 DJ.callee bT.mixed _ (XL (l:=[]) Y trivial) VD
theorem U2:∀ x,aSQ tP CA 67 (aDB f68) AA AH false [] EZ nK rX x=pT x:=by
 rintro⟨v4,v7,v8,v40,v41,v42,u00,⟨⟩⟩
 kernel_rfl
theorem WQ:VW tP 67 false [] (.loop EZ) ⟨nK,rX,tY⟩:=aM1 DJ.callee bT.mixed _ (XL (l:=[]) Y trivial) U2
theorem XA:jG xJ=[.loop FT,.loop EZ]:=Y
theorem ZR:∀ x,aYN tP CA f68 (aDB f68) AA AH xJ 110 .str _ _ x=mE x:=by
 rintro⟨v0,v1,⟨⟩⟩
 kernel_rfl
abbrev RB:Ent:=⟨68,_,_,mE⟩
theorem LK:Ent.OK tP RB:=bBR bT DJ func68 (c:=xJ) Y (cD:=aDB f68) (lt:=AA) (rt:=AH) (XL XA ⟨aL9 (i:=7) Y rfl WL,aL9 (i:=12) Y rfl WQ,trivial⟩) ZR
end Go.PM
namespace Go.PM
open Go Go.RowKit Go.Proofs Tryz
set_option maxHeartbeats 4000000
def W3(x:aK [.agg TyG,.agg TyG]):oK [.agg TyG,.int .i64]:=match x with
 | (v0,v1,()) =>
  aB (j4 (v0,())) λy1 =>
  aB (j4 (v1,())) λy2 =>
  aB (Y2 (y1.1,y2.1,())) λy3 =>
  bif !(eqI y3.2.1 0) then
   some (([],([],[])),y3.2.1,())
  else aB (aN (v0.1,y3.1.2,())) λy4 =>
  some (y4.1,y4.2.1,())
abbrev aIO:Ent:=⟨67,_,_,W3⟩
theorem aCV:Ent.OK tP aIO:=oI (aQ (oV aKE (oV xN (oV iZ oW)))) func67 Y (by rintro⟨v0,v1,⟨⟩⟩; kernel_rfl)
def LV(x:aK [.agg TyG,.agg TyG]):oK [.agg TyG,.int .i64]:=match x with
 | (v0,v1,()) =>
  aB (lK ([v0,v1],())) λy1 =>
  bif !(eqI y1.1 0) then
   some (([],([],[])),y1.1,())
  else aB (W3 (v0,v1,())) λy2 =>
  some (y2.1,y2.2.1,())
abbrev V7:Ent:=⟨16,_,_,LV⟩
theorem aCM:Ent.OK tP V7:=oI (aQ (oV tK (oV aCV oW))) func16 Y (by rintro⟨v0,v1,⟨⟩⟩; kernel_rfl)
def MD(x:aK [.agg TyG,.agg TyG]):oK [.agg TyG,.int .i64]:=match x with
 | (v0,v1,()) =>
  aB (lK ([v0,v1],())) λy1 =>
  bif !(eqI y1.1 0) then
   some (([],([],[])),y1.1,())
  else aB (j4 (v0,())) λy2 =>
  aB (j4 (v1,())) λy3 =>
  aB (mE (y2.1,y3.1,())) λy4 =>
  bif !(eqI y4.2.1 0) then
   some (([],([],[])),y4.2.1,())
  else aB (aN (v0.1,y4.1.2,())) λy5 =>
  some (y5.1,y5.2.1,())
abbrev W7:Ent:=⟨17,_,_,MD⟩
theorem aCU:Ent.OK tP W7:=oI (aQ (oV LK (oV tK (oV xN (oV iZ oW))))) func17 Y (by rintro⟨v0,v1,⟨⟩⟩; kernel_rfl)
end Go.PM
namespace Go.PM
open Go Go.RowKit Go.Proofs Tryz
set_option maxHeartbeats 4000000
def PT(hrefinement_Join:aK [.agg TyG,.agg TyG]->Option (aK [.agg TyG,.int .i64])) (hrefinement_Meet:aK [.agg TyG,.agg TyG]->Option (aK [.agg TyG,.int .i64])) (hrefinement_Refines:aK [.agg TyG,.agg TyG]->Option (aK [.bool,.int .i64])) (hrefinement_Steps:aK [.agg TyG,.agg TyG]->Option (aK [.int .i64,.int .i64])) (hslices_Equal_api_Row_int:aK [.list TyE,.list TyE]->Option (aK [.bool])) (htemperament_FromCommas:aK [.list TyE,.list TyD]->Option (aK [.agg TyG,.int .i64])) (x:aK []):Option (aK [.bool]):=match x with
 | (()) =>
  aB (htemperament_FromCommas ([2,3,5],[[(-4),4,(-1)]],())) λy1 =>
  aB (htemperament_FromCommas ([2,3,5],[[7,0,(-3)]],())) λy2 =>
  aB (hrefinement_Join (y1.1,y2.1,())) λy3 =>
  aB (hrefinement_Meet (y1.1,y2.1,())) λy4 =>
  aB (hrefinement_Steps (y1.1,y3.1,())) λy5 =>
  aB (hrefinement_Refines (y1.1,y2.1,())) λy6 =>
  bif eqI y1.2.1 0 then
   bif eqI y2.2.1 0 then
    bif eqI y3.2.1 0 then
     bif eqI y4.2.1 0 then
      bif eqI y5.2.1 0 then
       bif eqI y6.2.1 0 then
        bif eqI (y3.1.2.2.length:Int) 1 then
         bif aF 0 y3.1.2.2.length then aB (hslices_Equal_api_Row_int ((y3.1.2.2.getD 0 []),[12,19,28],())) λy7 =>
         bif y7.1 then
          bif eqI (y4.1.2.1.length:Int) 0 then
           bif eqI (y4.1.2.2.length:Int) 3 then
            bif eqI y5.1 1 then
             bif y6.1 then
              some (false,())
             else some (true,())
            else some (false,())
           else some (false,())
          else some (false,())
         else some (false,()) else none
        else some (false,())
       else some (false,())
      else some (false,())
     else some (false,())
    else some (false,())
   else some (false,())
  else some (false,())
def AI(x:aK []):Option (aK [.bool]):=PT LV MD AD KS dL aN x
def AF:Code:=eB f11
abbrev PO:Env:=K9 [V7,W7,PY,TW,GX,BF]
theorem XJ:iK tP PO:=aQ ⟨aCM,aCU,KG,aBK,uH,iZ,trivial⟩
def FU(id:Nat):Option eF:=none
theorem VT:bV AF=[]:=Y
theorem WG(hrefinement_Join:aK [.agg TyG,.agg TyG]->Option (aK [.agg TyG,.int .i64]))(hrefinement_Meet:aK [.agg TyG,.agg TyG]->Option (aK [.agg TyG,.int .i64]))(hrefinement_Refines:aK [.agg TyG,.agg TyG]->Option (aK [.bool,.int .i64]))(hrefinement_Steps:aK [.agg TyG,.agg TyG]->Option (aK [.int .i64,.int .i64]))(hslices_Equal_api_Row_int:aK [.list TyE,.list TyE]->Option (aK [.bool]))(htemperament_FromCommas:aK [.list TyE,.list TyD]->Option (aK [.agg TyG,.int .i64])):∀ x,aUL tP (K9 [⟨16,[.agg TyG,.agg TyG],[.agg TyG,.int .i64],hrefinement_Join⟩,⟨17,[.agg TyG,.agg TyG],[.agg TyG,.int .i64],hrefinement_Meet⟩,⟨18,[.agg TyG,.agg TyG],[.bool,.int .i64],hrefinement_Refines⟩,⟨27,[.agg TyG,.agg TyG],[.int .i64,.int .i64],hrefinement_Steps⟩,⟨62,[.list TyE,.list TyE],[.bool],hslices_Equal_api_Row_int⟩,⟨39,[.list TyE,.list TyD],[.agg TyG,.int .i64],htemperament_FromCommas⟩]) f11 (aS f11) FU AF [] [.bool] x=PT hrefinement_Join hrefinement_Meet hrefinement_Refines hrefinement_Steps hslices_Equal_api_Row_int htemperament_FromCommas x:=by
 rintro⟨⟩
 kernel_rfl
theorem X2:∀ x,aUL tP PO f11 (aS f11) FU AF _ _ x=AI x:=WG LV MD AD KS dL aN
theorem aAW:ZM tP 11 _ _ AI:=aD2 bT XJ func11 (c:=AF) Y (cD:=aS f11) (lt:=FU) (aT VT trivial) X2
def dH(x:aK []):oK [.bool]:=some (true,())
theorem YG:∀ x,AI x=dH x:=by
 rintro⟨⟩
 kernel_rfl
theorem aA6:ZM tP 11 _ _ dH:=by
 have h:AI=dH:=funext YG;rw[<- h];exact aAW
abbrev aCH:Ent:=⟨11,_,_,dH⟩
theorem YC:Ent.OK tP aCH:=aA6
def bJ(x:aK [.agg TyG]):oK [.bool]:=match x with
 | (v0,()) =>
  some (eqI (aC .i64 ((aC .i64 ((v0.1.length:Int)+(v0.2.1.length:Int)))+(v0.2.2.length:Int))) 0,())
abbrev aCI:Ent:=⟨21,_,_,bJ⟩
theorem X5:Ent.OK tP aCI:=oI (aQ oW) func21 Y (by rintro⟨v0,⟨⟩⟩; kernel_rfl)
end Go.PM
namespace Go.PM
open Go Go.RowKit Go.Proofs Tryz
set_option maxHeartbeats 4000000
abbrev vY:List (Nat×Kd):=[(0,.list (.int .i64)),(1,.list (.int .i64)),(5,.int .i64)]
abbrev FL:List (Ex×List (Nat×Kd)):=[(.ret,[(4,.bool)]),(.exit 0,[])]
def pB(x:Shape.den vY):Option (Shape.den vY⊕fQ FL):=match x with
 | (v0,v1,v5,()) =>
  bif ltI v5 (v0.length:Int) then
   bif aF v5 v0.length then bif aF v5 v1.length then bif !(eqI (v0.getD v5.toNat 0) (v1.getD v5.toNat 0)) then
    some (.inr (.inl (false,())))
   else some (.inl (v0,v1,(aC .i64 (v5+1)),())) else none else none
  else some (.inr (.inr ((()))))
def uI(x:Shape.den vY):Option (fQ FL):=bH pB (2^64) x
def pS(x:aK [.list (.int .i64),.list (.int .i64)]):Option (aK [.bool]):=match x with
 | (v0,v1,()) =>
  bif !(eqI (v0.length:Int) (v1.length:Int)) then
   some (false,())
  else aB (uI (v0,v1,0,())) λz1 =>
  l9 z1 (λa2=>some (a2.1,())) λb3 =>
  some (true,())
abbrev WZ:Ent:=⟨175,[.list (.int .i64),.list (.int .i64)],[.bool],pS⟩
theorem EU:Ent.OK Tryz.prog WZ:=oU (aQ oW) func175 4 (lp:=uI) rfl Y (by rintro⟨v0,v1,v5,⟨⟩⟩; kernel_rfl) (by rintro⟨v0,v1,⟨⟩⟩; kernel_rfl)
abbrev CP:List (Nat×Kd):=[(0,.list (.list (.int .i64))),(1,.list (.list (.int .i64))),(5,.int .i64)]
abbrev KJ:List (Ex×List (Nat×Kd)):=[(.ret,[(4,.bool)]),(.exit 0,[])]
def sS(x:Shape.den CP):Option (Shape.den CP⊕fQ KJ):=match x with
 | (v0,v1,v5,()) =>
  bif ltI v5 (v0.length:Int) then
   bif aF v5 v0.length then bif aF v5 v1.length then aB (pS ((v0.getD v5.toNat []),(v1.getD v5.toNat []),())) λy2 =>
   bif y2.1 then
    some (.inl (v0,v1,(aC .i64 (v5+1)),()))
   else some (.inr (.inl (false,()))) else none else none
  else some (.inr (.inr ((()))))
def zR(x:Shape.den CP):Option (fQ KJ):=bH sS (2^64) x
def uY(x:aK [.list (.list (.int .i64)),.list (.list (.int .i64))]):Option (aK [.bool]):=match x with
 | (v0,v1,()) =>
  bif !(eqI (v0.length:Int) (v1.length:Int)) then
   some (false,())
  else aB (zR (v0,v1,0,())) λz3 =>
  l9 z3 (λa4=>some (a4.1,())) λb5 =>
  some (true,())
abbrev aCC:Ent:=⟨176,[.list (.list (.int .i64)),.list (.list (.int .i64))],[.bool],uY⟩
theorem YU:Ent.OK Tryz.prog aCC:=oU (aQ (oV EU oW)) func176 4 (lp:=zR) rfl Y (by rintro⟨v0,v1,v5,⟨⟩⟩; kernel_rfl) (by rintro⟨v0,v1,⟨⟩⟩; kernel_rfl)
def IT(x:aK [.agg (.prod (.list (.int .i64)) (.prod (.list (.list (.int .i64))) (.list (.list (.int .i64))))),.agg (.prod (.list (.int .i64)) (.prod (.list (.list (.int .i64))) (.list (.list (.int .i64)))))]):Option (aK [.bool]):=match x with
 | (v0,v1,()) =>
  aB (pS (v0.1,v1.1,())) λy1 =>
  bif y1.1 then
   aB (uY (v0.2.1,v1.2.1,())) λy2 =>
   bif y2.1 then
    aB (uY (v0.2.2,v1.2.2,())) λy3 =>
    some (y3.1,())
   else some (false,())
  else some (false,())
abbrev aD1:Ent:=⟨127,[.agg (.prod (.list (.int .i64)) (.prod (.list (.list (.int .i64))) (.list (.list (.int .i64))))),.agg (.prod (.list (.int .i64)) (.prod (.list (.list (.int .i64))) (.list (.list (.int .i64)))))],[.bool],IT⟩
theorem ZF:Ent.OK Tryz.prog aD1:=oI (aQ (oV YU (oV EU oW))) func127 Y (by rintro⟨v0,v1,⟨⟩⟩; kernel_rfl)
def IU(x:aK [.agg (.prod (.list (.int .i64)) (.prod (.list (.list (.int .i64))) (.list (.list (.int .i64))))),.agg (.prod (.list (.int .i64)) (.prod (.list (.list (.int .i64))) (.list (.list (.int .i64)))))]):Option (aK [.bool]):=match x with
 | (v0,v1,()) =>
  aB (IT ((v0.1,(v0.2.1,v0.2.2)),(v1.1,(v1.2.1,v1.2.2)),())) λy1 =>
  some (y1.1,())
abbrev aEM:Ent:=⟨72,[.agg (.prod (.list (.int .i64)) (.prod (.list (.list (.int .i64))) (.list (.list (.int .i64))))),.agg (.prod (.list (.int .i64)) (.prod (.list (.list (.int .i64))) (.list (.list (.int .i64)))))],[.bool],IU⟩
theorem ZY:Ent.OK Tryz.prog aEM:=oI (aQ (oV ZF oW)) func72 Y (by rintro⟨v0,v1,⟨⟩⟩; kernel_rfl)
def aX(x:aK [.agg (.prod (.list (.int .i64)) (.prod (.list (.list (.int .i64))) (.list (.list (.int .i64))))),.agg (.prod (.list (.int .i64)) (.prod (.list (.list (.int .i64))) (.list (.list (.int .i64)))))]):Option (aK [.bool]):=match x with
 | (v0,v1,()) =>
  aB (IU ((v0.1,(v0.2.1,v0.2.2)),(v1.1,(v1.2.1,v1.2.2)),())) λy1 =>
  some (y1.1,())
abbrev aDW:Ent:=⟨23,[.agg (.prod (.list (.int .i64)) (.prod (.list (.list (.int .i64))) (.list (.list (.int .i64))))),.agg (.prod (.list (.int .i64)) (.prod (.list (.list (.int .i64))) (.list (.list (.int .i64)))))],[.bool],aX⟩
theorem ZX:Ent.OK Tryz.prog aDW:=oI (aQ (oV ZY oW)) func23 Y (by rintro⟨v0,v1,⟨⟩⟩; kernel_rfl)
end Go.PM
namespace Go.PM
open Go Go.RowKit Go.Proofs Tryz
set_option maxHeartbeats 4000000
def L9(x:aK [.list TyE,.list TyE]):oK [.int .i64]:=match x with
 | (v0,v1,()) =>
  aB (aU (v0,())) λy1 =>
  bif !(eqI y1.1 0) then
   some (y1.1,())
  else aB (aU (v1,())) λy2 =>
  some (y2.1,())
abbrev aXY:Ent:=⟨91,_,_,L9⟩
theorem aC3:Ent.OK tP aXY:=oI (aQ (oV uO oW)) func91 Y (by rintro⟨v0,v1,⟨⟩⟩; kernel_rfl)
end Go.PM
namespace Go.PM
open Go Go.RowKit Go.Proofs Tryz
set_option maxHeartbeats 4000000
abbrev rL:List (Nat×Kd):=[(0,.list (.int .i64)),(1,.int .i64),(7,.int .i64),(8,.int .i64)]
abbrev zV:List (Ex×List (Nat×Kd)):=[(.ret,[(4,.int .i64)]),(.exit 0,[])]
def fU(x:Shape.den rL):Option (Shape.den rL⊕fQ zV):=match x with
 | (v0,v1,v7,v8,()) =>
  bif ltI v8 v7 then
   bif aF v8 v0.length then bif eqI v1 (v0.getD v8.toNat 0) then
    some (.inr (.inl (v8,())))
   else some (.inl (v0,v1,v7,(aC .i64 (v8+1)),())) else none
  else some (.inr (.inr ((()))))
def qH(x:Shape.den rL):Option (fQ zV):=bH fU (2^64) x
def eO(x:aK [.list (.int .i64),.int .i64]):Option (aK [.int .i64]):=match x with
 | (v0,v1,()) =>
  aB (qH (v0,v1,(v0.length:Int),0,())) λz1 =>
  l9 z1 (λa2=>some (a2.1,())) λb3 =>
  some ((-1),())
abbrev PF:Ent:=⟨49,[.list (.int .i64),.int .i64],[.int .i64],eO⟩
theorem zU:Ent.OK Tryz.prog PF:=oU (aQ oW) func49 2 (lp:=qH) rfl Y (by rintro⟨v0,v1,v7,v8,⟨⟩⟩; kernel_rfl) (by rintro⟨v0,v1,⟨⟩⟩; kernel_rfl)
def CO(x:aK [.list (.int .i64),.int .i64]):Option (aK [.int .i64,.bool]):=match x with
 | (v0,v1,()) =>
  aB (eO (v0,v1,())) λy1 =>
  some ((if y1.1<0 then 0 else y1.1),!(ltI y1.1 0),())
abbrev aTZ:Ent:=⟨104,[.list (.int .i64),.int .i64],[.int .i64,.bool],CO⟩
theorem Y7:Ent.OK Tryz.prog aTZ:=oI (aQ (oV zU oW)) func104 Y (by rintro⟨v0,v1,⟨⟩⟩; kernel_rfl)
def cJ(x:aK [.list (.int .i64),.int .i64]):Option (aK [.bool]):=match x with
 | (v0,v1,()) =>
  aB (eO (v0,v1,())) λy1 =>
  some (!(ltI y1.1 0),())
abbrev rM:Ent:=⟨35,[.list (.int .i64),.int .i64],[.bool],cJ⟩
theorem fJ:Ent.OK Tryz.prog rM:=oI (aQ (oV zU oW)) func35 Y (by rintro⟨v0,v1,⟨⟩⟩; kernel_rfl)
def GK(x:aK [.int .i64,.ptr (.list (.int .i64))]):Option (aK [.bool]):=match x with
 | (v0,v1,()) =>
  aB (cJ (v1,v0,())) λy1 =>
  bif y1.1 then
   some (false,())
  else some (true,())
abbrev aHT:Ent:=⟨138,[.int .i64,.ptr (.list (.int .i64))],[.bool],GK⟩
theorem aCR:Ent.OK Tryz.prog aHT:=oI (aQ (oV fJ oW)) func138 Y (by rintro⟨v0,v1,⟨⟩⟩; kernel_rfl)
abbrev mX:List (Nat×Kd):=[(0,.list (.int .i64)),(1,.clo 138 [(.list (.int .i64))]),(7,.int .i64),(8,.int .i64)]
abbrev uT:List (Ex×List (Nat×Kd)):=[(.ret,[(4,.int .i64)]),(.exit 0,[])]
def eD(x:Shape.den mX):Option (Shape.den mX⊕fQ uT):=match x with
 | (v0,v1,v7,v8,()) =>
  bif ltI v8 v7 then
   bif aF v8 v0.length then aB (GK ((v0.getD v8.toNat 0),v1.1,())) λy2 =>
   bif y2.1 then
    some (.inr (.inl (v8,())))
   else some (.inl (v0,(v1.1,()),v7,(aC .i64 (v8+1)),())) else none
  else some (.inr (.inr ((()))))
def l8(x:Shape.den mX):Option (fQ uT):=bH eD (2^64) x
def kO(x:aK [.list (.int .i64),.clo 138 [(.list (.int .i64))]]):Option (aK [.int .i64]):=match x with
 | (v0,v1,()) =>
  aB (l8 (v0,(v1.1,()),(v0.length:Int),0,())) λz3 =>
  l9 z3 (λa4=>some (a4.1,())) λb5 =>
  some ((-1),())
abbrev JV:Ent:=⟨89,[.list (.int .i64),.clo 138 [(.list (.int .i64))]],[.int .i64],kO⟩
theorem HN:Ent.OK Tryz.prog JV:=oU (aQ (oV aCR oW)) func89 2 (lp:=l8) rfl Y (by rintro⟨v0,v1,v7,v8,⟨⟩⟩; kernel_rfl) (by rintro⟨v0,v1,⟨⟩⟩; kernel_rfl)
def eR(x:aK [.list (.int .i64),.clo 138 [(.list (.int .i64))]]):Option (aK [.bool]):=match x with
 | (v0,v1,()) =>
  aB (kO (v0,(v1.1,()),())) λy1 =>
  some (!(ltI y1.1 0),())
abbrev HQ:Ent:=⟨33,[.list (.int .i64),.clo 138 [(.list (.int .i64))]],[.bool],eR⟩
theorem EF:Ent.OK Tryz.prog HQ:=oI (aQ (oV HN oW)) func33 Y (by rintro⟨v0,v1,⟨⟩⟩; kernel_rfl)
def IG(x:aK [.list (.int .i64),.list (.int .i64)]):Option (aK [.bool,.int .i64]):=match x with
 | (v0,v1,()) =>
  aB (L9 (v0,v1,())) λy1 =>
  bif !(eqI y1.1 0) then
   some (false,y1.1,())
  else aB (eR (v0,(v1,()),())) λy2 =>
  bif y2.1 then
   some (false,0,())
  else some (true,0,())
abbrev aOA:Ent:=⟨85,[.list (.int .i64),.list (.int .i64)],[.bool,.int .i64],IG⟩
theorem WM:Ent.OK Tryz.prog aOA:=oI (aQ (oV aC3 (oV EF oW))) func85 Y (by rintro⟨v0,v1,⟨⟩⟩; kernel_rfl)
def uG(x:aK [.list (.int .i64),.list (.int .i64)]):Option (aK [.bool,.int .i64]):=match x with
 | (v0,v1,()) =>
  aB (IG (v1,v0,())) λy1 =>
  some (y1.1,y1.2.1,())
abbrev VV:Ent:=⟨84,[.list (.int .i64),.list (.int .i64)],[.bool,.int .i64],uG⟩
theorem SK:Ent.OK Tryz.prog VV:=oI (aQ (oV WM oW)) func84 Y (by rintro⟨v0,v1,⟨⟩⟩; kernel_rfl)
def rG(x:aK [.agg (.prod (.list (.int .i64)) (.prod (.list (.list (.int .i64))) (.list (.list (.int .i64))))),.list (.int .i64),.fn 85]):Option (aK [.int .i64]):=match x with
 | (v0,v1,v2,()) =>
  aB (lK ([(v0.1,(v0.2.1,v0.2.2))],())) λy1 =>
  bif !(eqI y1.1 0) then
   some (y1.1,())
  else aB (aU (v1,())) λy2 =>
  bif !(eqI y2.1 0) then
   some (y2.1,())
  else aB (IG (v0.1,v1,())) λy3 =>
  bif !(eqI y3.2.1 0) then
   some (y3.2.1,())
  else bif y3.1 then
   some (0,())
  else some (25,())
abbrev aC0:Ent:=⟨83,[.agg (.prod (.list (.int .i64)) (.prod (.list (.list (.int .i64))) (.list (.list (.int .i64))))),.list (.int .i64),.fn 85],[.int .i64],rG⟩
theorem X9:Ent.OK Tryz.prog aC0:=oI (aQ (oV uO (oV WM (oV tK oW)))) func83 Y (by rintro⟨v0,v1,v2,⟨⟩⟩; kernel_rfl)
def rF(x:aK [.agg (.prod (.list (.int .i64)) (.prod (.list (.list (.int .i64))) (.list (.list (.int .i64))))),.list (.int .i64),.fn 84]):Option (aK [.int .i64]):=match x with
 | (v0,v1,v2,()) =>
  aB (lK ([(v0.1,(v0.2.1,v0.2.2))],())) λy1 =>
  bif !(eqI y1.1 0) then
   some (y1.1,())
  else aB (aU (v1,())) λy2 =>
  bif !(eqI y2.1 0) then
   some (y2.1,())
  else aB (uG (v0.1,v1,())) λy3 =>
  bif !(eqI y3.2.1 0) then
   some (y3.2.1,())
  else bif y3.1 then
   some (0,())
  else some (25,())
abbrev PN:Ent:=⟨83,[.agg (.prod (.list (.int .i64)) (.prod (.list (.list (.int .i64))) (.list (.list (.int .i64))))),.list (.int .i64),.fn 84],[.int .i64],rF⟩
theorem XO:Ent.OK Tryz.prog PN:=oI (aQ (oV uO (oV SK (oV tK oW)))) func83 Y (by rintro⟨v0,v1,v2,⟨⟩⟩; kernel_rfl)
abbrev HH:List (Nat×Kd):=[(0,.list (.int .i64)),(1,.list (.int .i64)),(7,.own 3 (.int .i64)),(15,.list (.int .i64)),(16,.int .i64),(17,.int .i64)]
abbrev PK:List (Ex×List (Nat×Kd)):=[(.exit 0,[(7,.own 3 (.int .i64))])]
def iH(x:Shape.den HH):Option (Shape.den HH⊕fQ PK):=match x with
 | (v0,v1,v7,v15,v16,v17,()) =>
  bif ltI v17 v16 then
   bif aF v17 v15.length then bif aF v17 v0.length then aB (CO (v1,(v0.getD v17.toNat 0),())) λy2 =>
   bif y2.2.1 then
    bif aF y2.1 v7.length then bif Nat.blt y2.1.toNat v7.length then some (.inl (v0,v1,(v7.set y2.1.toNat (v15.getD v17.toNat 0)),v15,v16,(aC .i64 (v17+1)),())) else none else none
   else some (.inl (v0,v1,v7,v15,v16,(aC .i64 (v17+1)),())) else none else none
  else some (.inr ((v7,())))
def xP(x:Shape.den HH):Option (fQ PK):=bH iH (2^64) x
def sB(x:aK [.list (.int .i64),.list (.int .i64),.list (.int .i64)]):Option (aK [.list (.int .i64)]):=match x with
 | (v0,v1,v2,()) =>
  bif !(ltI (v1.length:Int) 0) then bif !(ltI (v1.length:Int) (v1.length:Int)) then bif !(ltI 1048576 (v1.length:Int)) then aB (xP (v0,v1,(List.replicate ((v1.length:Int).toNat) (0:Ty.den (.int .i64))),v2,(v2.length:Int),0,())) λz3 =>
  some (z3.1,()) else none else none else none
abbrev W4:Ent:=⟨87,[.list (.int .i64),.list (.int .i64),.list (.int .i64)],[.list (.int .i64)],sB⟩
theorem PU:Ent.OK Tryz.prog W4:=oU (aQ (oV Y7 oW)) func87 3 (lp:=xP) rfl Y (by rintro⟨v0,v1,v7,v15,v16,v17,⟨⟩⟩; kernel_rfl) (by rintro⟨v0,v1,v2,⟨⟩⟩; kernel_rfl)
abbrev DN:List (Nat×Kd):=[(1,.list (.int .i64)),(2,.box 35 (.prod (.list (.int .i64)) (.prod (.list (.list (.int .i64))) (.list (.list (.int .i64)))))),(4,.box 35 (.prod (.list (.int .i64)) (.prod (.list (.list (.int .i64))) (.list (.list (.int .i64)))))),(6,.own 53 (.list (.int .i64))),(10,.list (.list (.int .i64))),(11,.int .i64),(12,.int .i64)]
abbrev LL:List (Ex×List (Nat×Kd)):=[(.exit 0,[(1,.list (.int .i64)),(4,.box 35 (.prod (.list (.int .i64)) (.prod (.list (.list (.int .i64))) (.list (.list (.int .i64)))))),(6,.own 53 (.list (.int .i64)))])]
def tT(x:Shape.den DN):Option (Shape.den DN⊕fQ LL):=match x with
 | (v1,v2,v4,v6,v10,v11,v12,()) =>
  bif ltI v12 v11 then
   bif aF v12 v10.length then aB (sB (v2.1,v1,(v10.getD v12.toNat []),())) λy2 =>
   bif Nat.ble [y2.1].length 1048576 then bif Nat.ble v6.length 1048576 then some (.inl (v1,(v2.1,(v2.2.1,v2.2.2)),(v4.1,(v4.2.1,v4.2.2)),(v6++[y2.1]),v10,v11,(aC .i64 (v12+1)),())) else none else none else none
  else some (.inr ((v1,(v4.1,(v4.2.1,v4.2.2)),v6,())))
def A0(x:Shape.den DN):Option (fQ LL):=bH tT (2^64) x
def wD(x:aK [.agg (.prod (.list (.int .i64)) (.prod (.list (.list (.int .i64))) (.list (.list (.int .i64))))),.list (.int .i64)]):Option (aK [.agg (.prod (.list (.int .i64)) (.prod (.list (.list (.int .i64))) (.list (.list (.int .i64))))),.int .i64]):=match x with
 | (v0,v1,()) =>
  aB (A0 (v1,(v0.1,(v0.2.1,v0.2.2)),([],([],[])),[],v0.2.1,(v0.2.1.length:Int),0,())) λz3 =>
  aB (aN (z3.1,z3.2.2.1,())) λy4 =>
  some ((y4.1.1,(y4.1.2.1,y4.1.2.2)),y4.2.1,())
abbrev aEU:Ent:=⟨88,[.agg (.prod (.list (.int .i64)) (.prod (.list (.list (.int .i64))) (.list (.list (.int .i64))))),.list (.int .i64)],[.agg (.prod (.list (.int .i64)) (.prod (.list (.list (.int .i64))) (.list (.list (.int .i64))))),.int .i64],wD⟩
theorem ZO:Ent.OK Tryz.prog aEU:=oU (aQ (oV PU (oV iZ oW))) func88 3 (lp:=A0) rfl Y (by rintro⟨v1,v2,v4,v6,v10,v11,v12,⟨⟩⟩; kernel_rfl) (by rintro⟨v0,v1,⟨⟩⟩; kernel_rfl)
def dU(x:aK [.agg (.prod (.list (.int .i64)) (.prod (.list (.list (.int .i64))) (.list (.list (.int .i64))))),.list (.int .i64)]):Option (aK [.agg (.prod (.list (.int .i64)) (.prod (.list (.list (.int .i64))) (.list (.list (.int .i64))))),.int .i64]):=match x with
 | (v0,v1,()) =>
  aB (rG ((v0.1,(v0.2.1,v0.2.2)),v1,(),())) λy1 =>
  bif !(eqI y1.1 0) then
   some (([],([],[])),y1.1,())
  else aB (wD ((v0.1,(v0.2.1,v0.2.2)),v1,())) λy2 =>
  some ((y2.1.1,(y2.1.2.1,y2.1.2.2)),y2.2.1,())
abbrev aCX:Ent:=⟨31,[.agg (.prod (.list (.int .i64)) (.prod (.list (.list (.int .i64))) (.list (.list (.int .i64))))),.list (.int .i64)],[.agg (.prod (.list (.int .i64)) (.prod (.list (.list (.int .i64))) (.list (.list (.int .i64))))),.int .i64],dU⟩
theorem YY:Ent.OK Tryz.prog aCX:=oI (aQ (oV ZO (oV X9 oW))) func31 Y (by rintro⟨v0,v1,⟨⟩⟩; kernel_rfl)
abbrev kT:List (Nat×Kd):=[(1,.list (.int .i64)),(2,.box 35 (.prod (.list (.int .i64)) (.prod (.list (.list (.int .i64))) (.list (.list (.int .i64)))))),(4,.box 35 (.prod (.list (.int .i64)) (.prod (.list (.list (.int .i64))) (.list (.list (.int .i64)))))),(7,.own 53 (.list (.int .i64))),(25,.list (.int .i64)),(26,.int .i64),(27,.int .i64)]
abbrev n8:List (Ex×List (Nat×Kd)):=[(.exit 0,[(1,.list (.int .i64)),(2,.box 35 (.prod (.list (.int .i64)) (.prod (.list (.list (.int .i64))) (.list (.list (.int .i64)))))),(4,.box 35 (.prod (.list (.int .i64)) (.prod (.list (.list (.int .i64))) (.list (.list (.int .i64)))))),(7,.own 53 (.list (.int .i64)))])]
def iR(x:Shape.den kT):Option (Shape.den kT⊕fQ n8):=match x with
 | (v1,v2,v4,v7,v25,v26,v27,()) =>
  bif ltI v27 v26 then
   bif aF v27 v25.length then aB (cJ (v1,(v25.getD v27.toNat 0),())) λy3 =>
   bif y3.1 then
    bif !(ltI (v2.1.length:Int) 0) then bif !(ltI (v2.1.length:Int) (v2.1.length:Int)) then bif !(ltI 1048576 (v2.1.length:Int)) then bif aF v27 (List.replicate ((v2.1.length:Int).toNat) (0:Ty.den (.int .i64))).length then bif Nat.blt v27.toNat (List.replicate ((v2.1.length:Int).toNat) (0:Ty.den (.int .i64))).length then bif Nat.ble [((List.replicate ((v2.1.length:Int).toNat) (0:Ty.den (.int .i64))).set v27.toNat 1)].length 1048576 then bif Nat.ble v7.length 1048576 then some (.inl (v1,(v2.1,(v2.2.1,v2.2.2)),(v4.1,(v4.2.1,v4.2.2)),(v7++[((List.replicate ((v2.1.length:Int).toNat) (0:Ty.den (.int .i64))).set v27.toNat 1)]),v25,v26,(aC .i64 (v27+1)),())) else none else none else none else none else none else none else none
   else some (.inl (v1,(v2.1,(v2.2.1,v2.2.2)),(v4.1,(v4.2.1,v4.2.2)),v7,v25,v26,(aC .i64 (v27+1)),())) else none
  else some (.inr ((v1,(v2.1,(v2.2.1,v2.2.2)),(v4.1,(v4.2.1,v4.2.2)),v7,())))
def qV(x:Shape.den kT):Option (fQ n8):=bH iR (2^64) x
abbrev kS:List (Nat×Kd):=[(1,.list (.int .i64)),(2,.box 35 (.prod (.list (.int .i64)) (.prod (.list (.list (.int .i64))) (.list (.list (.int .i64)))))),(4,.box 35 (.prod (.list (.int .i64)) (.prod (.list (.list (.int .i64))) (.list (.list (.int .i64)))))),(14,.own 53 (.list (.int .i64))),(71,.list (.list (.int .i64))),(72,.int .i64),(73,.int .i64)]
abbrev nX:List (Ex×List (Nat×Kd)):=[(.exit 2,[(1,.list (.int .i64)),(4,.box 35 (.prod (.list (.int .i64)) (.prod (.list (.list (.int .i64))) (.list (.list (.int .i64)))))),(14,.own 53 (.list (.int .i64)))])]
def lZ(x:Shape.den kS):Option (Shape.den kS⊕fQ nX):=match x with
 | (v1,v2,v4,v14,v71,v72,v73,()) =>
  bif ltI v73 v72 then
   bif aF v73 v71.length then aB (sB (v2.1,v1,(v71.getD v73.toNat []),())) λy9 =>
   bif Nat.ble [y9.1].length 1048576 then bif Nat.ble v14.length 1048576 then some (.inl (v1,(v2.1,(v2.2.1,v2.2.2)),(v4.1,(v4.2.1,v4.2.2)),(v14++[y9.1]),v71,v72,(aC .i64 (v73+1)),())) else none else none else none
  else some (.inr ((v1,(v4.1,(v4.2.1,v4.2.2)),v14,())))
def qR(x:Shape.den kS):Option (fQ nX):=bH lZ (2^64) x
def eI(x:aK [.agg (.prod (.list (.int .i64)) (.prod (.list (.list (.int .i64))) (.list (.list (.int .i64))))),.list (.int .i64)]):Option (aK [.agg (.prod (.list (.int .i64)) (.prod (.list (.list (.int .i64))) (.list (.list (.int .i64))))),.int .i64]):=match x with
 | (v0,v1,()) =>
  aB (rF ((v0.1,(v0.2.1,v0.2.2)),v1,(),())) λy1 =>
  bif !(eqI y1.1 0) then
   some (([],([],[])),y1.1,())
  else aB (qV (v1,(v0.1,(v0.2.1,v0.2.2)),([],([],[])),[],v0.1,(v0.1.length:Int),0,())) λz4 =>
  aB (tO ((z4.2.1.1.length:Int),z4.2.2.2.1,())) λy5 =>
  bif !(eqI y5.2.1 0) then
   some (([],([],[])),y5.2.1,())
  else aB (j4 ((z4.2.1.1,(z4.2.1.2.1,z4.2.1.2.2)),())) λy6 =>
  aB (mE ((y6.1.1,y6.1.2),(y5.1.1,y5.1.2),())) λy7 =>
  bif !(eqI y7.2.1 0) then
   some (([],([],[])),y7.2.1,())
  else aB (qR (z4.1,(z4.2.1.1,(z4.2.1.2.1,z4.2.1.2.2)),(z4.2.2.1.1,(z4.2.2.1.2.1,z4.2.2.1.2.2)),[],y7.1.2,(y7.1.2.length:Int),0,())) λz10 =>
  aB (aN (z10.1,z10.2.2.1,())) λy11 =>
  some ((y11.1.1,(y11.1.2.1,y11.1.2.2)),y11.2.1,())
def D1:Code:=eB f30
abbrev DV:Env:=K9 [RB,aJD,SG,PN,W4,rM,BF]
theorem zL:iK Tryz.prog DV:=aQ ⟨LK,SH,xN,XO,PU,fJ,iZ,trivial⟩
def AL:Code:=iG D1 0
def A5:Code:=iG D1 1
def CK(id:Nat):Option eF:=bif Nat.beq id 6 then some ⟨kT,n8,qV⟩ else bif Nat.beq id 21 then some ⟨kS,nX,qR⟩ else none
theorem QM:∀ x,j8 Tryz.prog DV 91 (aS f30) CK AL kT n8 x=iR x:=by
 rintro⟨v1,v2,v4,v7,v25,v26,v27,⟨⟩⟩
 kernel_rfl
theorem S2:eT Tryz.prog 91 AL ⟨kT,n8,qV⟩:=fI zL.callee bT.mixed _ (aT (l:=[]) Y trivial) QM
theorem QA:∀ x,j8 Tryz.prog DV 91 (aS f30) CK A5 kS nX x=lZ x:=by
 rintro⟨v1,v2,v4,v14,v71,v72,v73,⟨⟩⟩
 kernel_rfl
theorem RL:eT Tryz.prog 91 A5 ⟨kS,nX,qR⟩:=fI zL.callee bT.mixed _ (aT (l:=[]) Y trivial) QA
abbrev ZN:Ent:=⟨30,[.agg (.prod (.list (.int .i64)) (.prod (.list (.list (.int .i64))) (.list (.list (.int .i64))))),.list (.int .i64)],[.agg (.prod (.list (.int .i64)) (.prod (.list (.list (.int .i64))) (.list (.list (.int .i64))))),.int .i64],eI⟩
theorem UL:Ent.OK Tryz.prog ZN:=aD2 bT zL func30 (c:=D1) Y (cD:=aS f30) (lt:=CK) (aT (l:=[AL,A5]) Y ⟨fG (i:=6) Y rfl S2,fG (i:=21) Y rfl RL,trivial⟩) (by rintro⟨v0,v1,⟨⟩⟩; kernel_rfl)
abbrev gC:List (Nat×Kd):=[(1,.list (.int .i64)),(2,.box 35 (.prod (.list (.int .i64)) (.prod (.list (.list (.int .i64))) (.list (.list (.int .i64)))))),(4,.box 35 (.prod (.list (.int .i64)) (.prod (.list (.list (.int .i64))) (.list (.list (.int .i64)))))),(6,.own 53 (.list (.int .i64))),(8,.list (.int .i64)),(9,.own 3 (.int .i64)),(15,.list (.list (.int .i64))),(16,.int .i64),(17,.int .i64),(22,.list (.int .i64)),(23,.int .i64),(24,.int .i64)]
abbrev kC:List (Ex×List (Nat×Kd)):=[(.exit 2,[(1,.list (.int .i64)),(2,.box 35 (.prod (.list (.int .i64)) (.prod (.list (.list (.int .i64))) (.list (.list (.int .i64)))))),(4,.box 35 (.prod (.list (.int .i64)) (.prod (.list (.list (.int .i64))) (.list (.list (.int .i64)))))),(6,.own 53 (.list (.int .i64))),(9,.own 3 (.int .i64)),(15,.list (.list (.int .i64))),(16,.int .i64),(17,.int .i64)])]
def fD(x:Shape.den gC):Option (Shape.den gC⊕fQ kC):=match x with
 | (v1,v2,v4,v6,v8,v9,v15,v16,v17,v22,v23,v24,()) =>
  bif ltI v24 v23 then
   bif aF v24 v22.length then aB (cJ (v1,(v22.getD v24.toNat 0),())) λy2 =>
   bif y2.1 then
    bif aF v24 v8.length then bif Nat.ble [(v8.getD v24.toNat 0)].length 1048576 then bif Nat.ble v9.length 1048576 then some (.inl (v1,(v2.1,(v2.2.1,v2.2.2)),(v4.1,(v4.2.1,v4.2.2)),v6,v8,(v9++[(v8.getD v24.toNat 0)]),v15,v16,v17,v22,v23,(aC .i64 (v24+1)),())) else none else none else none
   else some (.inl (v1,(v2.1,(v2.2.1,v2.2.2)),(v4.1,(v4.2.1,v4.2.2)),v6,v8,v9,v15,v16,v17,v22,v23,(aC .i64 (v24+1)),())) else none
  else some (.inr ((v1,(v2.1,(v2.2.1,v2.2.2)),(v4.1,(v4.2.1,v4.2.2)),v6,v9,v15,v16,v17,())))
def mN(x:Shape.den gC):Option (fQ kC):=bH fD (2^64) x
abbrev gA:List (Nat×Kd):=[(1,.list (.int .i64)),(2,.box 35 (.prod (.list (.int .i64)) (.prod (.list (.list (.int .i64))) (.list (.list (.int .i64)))))),(4,.box 35 (.prod (.list (.int .i64)) (.prod (.list (.list (.int .i64))) (.list (.list (.int .i64)))))),(6,.own 53 (.list (.int .i64))),(15,.list (.list (.int .i64))),(16,.int .i64),(17,.int .i64)]
abbrev kD:List (Ex×List (Nat×Kd)):=[(.exit 0,[(1,.list (.int .i64)),(4,.box 35 (.prod (.list (.int .i64)) (.prod (.list (.list (.int .i64))) (.list (.list (.int .i64)))))),(6,.own 53 (.list (.int .i64)))])]
def jD(x:Shape.den gA):Option (Shape.den gA⊕fQ kD):=match x with
 | (v1,v2,v4,v6,v15,v16,v17,()) =>
  bif ltI v17 v16 then
   bif aF v17 v15.length then aB (mN (v1,(v2.1,(v2.2.1,v2.2.2)),(v4.1,(v4.2.1,v4.2.2)),v6,(v15.getD v17.toNat []),[],v15,v16,v17,v2.1,(v2.1.length:Int),0,())) λz4 =>
   bif Nat.ble [z4.2.2.2.2.1].length 1048576 then bif Nat.ble z4.2.2.2.1.length 1048576 then some (.inl (z4.1,(z4.2.1.1,(z4.2.1.2.1,z4.2.1.2.2)),(z4.2.2.1.1,(z4.2.2.1.2.1,z4.2.2.1.2.2)),(z4.2.2.2.1++[z4.2.2.2.2.1]),z4.2.2.2.2.2.1,z4.2.2.2.2.2.2.1,(aC .i64 (z4.2.2.2.2.2.2.2.1+1)),())) else none else none else none
  else some (.inr ((v1,(v4.1,(v4.2.1,v4.2.2)),v6,())))
def mJ(x:Shape.den gA):Option (fQ kD):=bH jD (2^64) x
def dN(x:aK [.agg (.prod (.list (.int .i64)) (.prod (.list (.list (.int .i64))) (.list (.list (.int .i64))))),.list (.int .i64)]):Option (aK [.agg (.prod (.list (.int .i64)) (.prod (.list (.list (.int .i64))) (.list (.list (.int .i64))))),.bool]):=match x with
 | (v0,v1,()) =>
  aB (mJ (v1,(v0.1,(v0.2.1,v0.2.2)),([],([],[])),[],v0.2.2,(v0.2.2.length:Int),0,())) λz5 =>
  aB (nQ (z5.1,z5.2.2.1,())) λy6 =>
  some ((y6.1.1,(y6.1.2.1,y6.1.2.2)),eqI y6.2.1 0,())
def HA:Code:=eB f37
abbrev xV:Env:=K9 [rM,H9]
theorem uK:iK Tryz.prog xV:=aQ ⟨fJ,QG,trivial⟩
def lC:Code:=iG HA 0
def vI:Code:=iG lC 0
def wN(id:Nat):Option eF:=bif Nat.beq id 7 then some ⟨gC,kC,mN⟩ else bif Nat.beq id 3 then some ⟨gA,kD,mJ⟩ else none
theorem K4:∀ x,j8 Tryz.prog xV 54 (aS f37) wN vI gC kC x=fD x:=by
 rintro⟨v1,v2,v4,v6,v8,v9,v15,v16,v17,v22,v23,v24,⟨⟩⟩
 kernel_rfl
theorem MM:eT Tryz.prog 54 vI ⟨gC,kC,mN⟩:=fI uK.callee bT.mixed _ (aT (l:=[]) Y trivial) K4
theorem K3:∀ x,j8 Tryz.prog xV 54 (aS f37) wN lC gA kD x=jD x:=by
 rintro⟨v1,v2,v4,v6,v15,v16,v17,⟨⟩⟩
 kernel_rfl
theorem OQ:bV lC=[vI]:=Y
theorem ME:eT Tryz.prog 54 lC ⟨gA,kD,mJ⟩:=fI uK.callee bT.mixed _ (aT OQ ⟨fG (i:=7) Y rfl MM,trivial⟩) K3
abbrev TN:Ent:=⟨37,[.agg (.prod (.list (.int .i64)) (.prod (.list (.list (.int .i64))) (.list (.list (.int .i64))))),.list (.int .i64)],[.agg (.prod (.list (.int .i64)) (.prod (.list (.list (.int .i64))) (.list (.list (.int .i64))))),.bool],dN⟩
theorem O0:Ent.OK Tryz.prog TN:=aD2 bT uK func37 (c:=HA) Y (cD:=aS f37) (lt:=wN) (aT (l:=[lC]) Y ⟨fG (i:=3) Y rfl ME,trivial⟩) (by rintro⟨v0,v1,⟨⟩⟩; kernel_rfl)
abbrev EM:List (Nat×Kd):=[(0,.list (.int .i64)),(1,.int .u8),(5,.own 3 (.int .i64)),(8,.list (.int .i64)),(9,.int .i64),(10,.int .i64)]
abbrev NH:List (Ex×List (Nat×Kd)):=[(.exit 0,[(0,.list (.int .i64)),(5,.own 3 (.int .i64))])]
def vG(x:Shape.den EM):Option (Shape.den EM⊕fQ NH):=match x with
 | (v0,v1,v5,v8,v9,v10,()) =>
  bif ltI v10 v9 then
   bif aF v10 v8.length then bif ltI v10 0 then none else bif eqI (IntKind.wrap .u8 (((BitVec.ofInt (IntKind.bits .u8) (Int.fdiv v1 (2^(min v10.toNat (IntKind.bits .u8))))) &&& (BitVec.ofInt (IntKind.bits .u8) 1)).toNat:Int)) 1 then
    bif Nat.ble [(v8.getD v10.toNat 0)].length 1048576 then bif Nat.ble v5.length 1048576 then some (.inl (v0,v1,(v5++[(v8.getD v10.toNat 0)]),v8,v9,(aC .i64 (v10+1)),())) else none else none
   else some (.inl (v0,v1,v5,v8,v9,(aC .i64 (v10+1)),())) else none
  else some (.inr ((v0,v5,())))
def B8(x:Shape.den EM):Option (fQ NH):=bH vG (2^64) x
def uA(x:aK [.list (.int .i64),.int .u8]):Option (aK [.list (.int .i64)]):=match x with
 | (v0,v1,()) =>
  aB (B8 (v0,v1,[],v0,(v0.length:Int),0,())) λz1 =>
  bif eqI (z1.2.1.length:Int) 0 then
   bif aF 0 z1.1.length then some ([(z1.1.getD 0 0)],()) else none
  else some (z1.2.1,())
abbrev aGW:Ent:=⟨29,[.list (.int .i64),.int .u8],[.list (.int .i64)],uA⟩
theorem aAM:Ent.OK Tryz.prog aGW:=oU (aQ oW) func29 3 (lp:=B8) rfl Y (by rintro⟨v0,v1,v5,v8,v9,v10,⟨⟩⟩; kernel_rfl) (by rintro⟨v0,v1,⟨⟩⟩; kernel_rfl)
def KD(x:aK [.int .i64]):Option (aK [.bool]):=match x with
 | (v0,()) =>
  bif ltI 1000 v0 then
   some (true,())
  else some (ltI v0 (-1000),())
abbrev aTT:Ent:=⟨186,[.int .i64],[.bool],KD⟩
theorem aJ5:Ent.OK Tryz.prog aTT:=oI (aQ oW) func186 Y (by rintro⟨v0,⟨⟩⟩; kernel_rfl)
abbrev qJ:List (Nat×Kd):=[(0,.list (.int .i64)),(1,.fn 186),(7,.int .i64),(8,.int .i64)]
abbrev xR:List (Ex×List (Nat×Kd)):=[(.ret,[(4,.int .i64)]),(.exit 0,[])]
def dK(x:Shape.den qJ):Option (Shape.den qJ⊕fQ xR):=match x with
 | (v0,v1,v7,v8,()) =>
  bif ltI v8 v7 then
   bif aF v8 v0.length then aB (KD ((v0.getD v8.toNat 0),())) λy2 =>
   bif y2.1 then
    some (.inr (.inl (v8,())))
   else some (.inl (v0,(),v7,(aC .i64 (v8+1)),())) else none
  else some (.inr (.inr ((()))))
def nU(x:Shape.den qJ):Option (fQ xR):=bH dK (2^64) x
def mP(x:aK [.list (.int .i64),.fn 186]):Option (aK [.int .i64]):=match x with
 | (v0,v1,()) =>
  aB (nU (v0,(),(v0.length:Int),0,())) λz3 =>
  l9 z3 (λa4=>some (a4.1,())) λb5 =>
  some ((-1),())
abbrev MB:Ent:=⟨197,[.list (.int .i64),.fn 186],[.int .i64],mP⟩
theorem JQ:Ent.OK Tryz.prog MB:=oU (aQ (oV aJ5 oW)) func197 2 (lp:=nU) rfl Y (by rintro⟨v0,v1,v7,v8,⟨⟩⟩; kernel_rfl) (by rintro⟨v0,v1,⟨⟩⟩; kernel_rfl)
def kM(x:aK [.list (.int .i64),.fn 186]):Option (aK [.bool]):=match x with
 | (v0,v1,()) =>
  aB (mP (v0,(),())) λy1 =>
  some (!(ltI y1.1 0),())
abbrev JU:Ent:=⟨144,[.list (.int .i64),.fn 186],[.bool],kM⟩
theorem HL:Ent.OK Tryz.prog JU:=oI (aQ (oV JQ oW)) func144 Y (by rintro⟨v0,v1,⟨⟩⟩; kernel_rfl)
def X4(x:aK [.list (.int .i64)]):Option (aK [.bool]):=match x with
 | (v0,()) =>
  aB (kM (v0,(),())) λy1 =>
  some (y1.1,())
abbrev aYS:Ent:=⟨139,[.list (.int .i64)],[.bool],X4⟩
theorem aOU:Ent.OK Tryz.prog aYS:=oI (aQ (oV HL oW)) func139 Y (by rintro⟨v0,⟨⟩⟩; kernel_rfl)
def NG(x:aK [.list (.int .i64),.list (.int .i64)]):Option (aK [.int .i64]):=match x with
 | (v0,v1,()) =>
  bif !(eqI (v1.length:Int) (v0.length:Int)) then
   some (5,())
  else aB (X4 (v1,())) λy1 =>
  bif y1.1 then
   some (4,())
  else some (0,())
abbrev aWS:Ent:=⟨92,[.list (.int .i64),.list (.int .i64)],[.int .i64],NG⟩
theorem aMU:Ent.OK Tryz.prog aWS:=oI (aQ (oV aOU oW)) func92 Y (by rintro⟨v0,v1,⟨⟩⟩; kernel_rfl)
abbrev RK:List (Nat×Kd):=[(0,.list (.int .i64)),(1,.list (.int .i64)),(6,.own 3 (.int .i64)),(7,.bool),(15,.list (.int .i64)),(16,.int .i64),(17,.int .i64)]
abbrev aAY:List (Ex×List (Nat×Kd)):=[(.exit 0,[(6,.own 3 (.int .i64)),(7,.bool)])]
def FZ(x:Shape.den RK):Option (Shape.den RK⊕fQ aAY):=match x with
 | (v0,v1,v6,v7,v15,v16,v17,()) =>
  bif ltI v17 v16 then
   bif aF v17 v15.length then bif aF v17 v0.length then aB (CO (v1,(v0.getD v17.toNat 0),())) λy2 =>
   bif y2.2.1 then
    bif aF y2.1 v6.length then bif Nat.blt y2.1.toNat v6.length then some (.inl (v0,v1,(v6.set y2.1.toNat (v15.getD v17.toNat 0)),v7,v15,v16,(aC .i64 (v17+1)),())) else none else none
   else bif v7 then
    some (.inl (v0,v1,v6,true,v15,v16,(aC .i64 (v17+1)),()))
   else some (.inl (v0,v1,v6,!(eqI (v15.getD v17.toNat 0) 0),v15,v16,(aC .i64 (v17+1)),())) else none else none
  else some (.inr ((v6,v7,())))
def L4(x:Shape.den RK):Option (fQ aAY):=bH FZ (2^64) x
def T1(x:aK [.list (.int .i64),.list (.int .i64),.list (.int .i64)]):Option (aK [.list (.int .i64),.bool]):=match x with
 | (v0,v1,v2,()) =>
  bif !(ltI (v1.length:Int) 0) then bif !(ltI (v1.length:Int) (v1.length:Int)) then bif !(ltI 1048576 (v1.length:Int)) then aB (L4 (v0,v1,(List.replicate ((v1.length:Int).toNat) (0:Ty.den (.int .i64))),false,v2,(v2.length:Int),0,())) λz3 =>
  some (z3.1,z3.2.1,()) else none else none else none
abbrev aU5:Ent:=⟨93,[.list (.int .i64),.list (.int .i64),.list (.int .i64)],[.list (.int .i64),.bool],T1⟩
theorem aNM:Ent.OK Tryz.prog aU5:=oU (aQ (oV Y7 oW)) func93 3 (lp:=L4) rfl Y (by rintro⟨v0,v1,v6,v7,v15,v16,v17,⟨⟩⟩; kernel_rfl) (by rintro⟨v0,v1,v2,⟨⟩⟩; kernel_rfl)
def GP(x:aK [.list (.int .i64),.list (.int .i64),.list (.int .i64)]):Option (aK [.list (.int .i64),.int .i64]):=match x with
 | (v0,v1,v2,()) =>
  aB (L9 (v0,v1,())) λy1 =>
  bif !(eqI y1.1 0) then
   some ([],y1.1,())
  else aB (NG (v0,v2,())) λy2 =>
  bif !(eqI y2.1 0) then
   some ([],y2.1,())
  else aB (T1 (v0,v1,v2,())) λy3 =>
  bif y3.2.1 then
   some ([],25,())
  else some (y3.1,0,())
abbrev aSS:Ent:=⟨38,[.list (.int .i64),.list (.int .i64),.list (.int .i64)],[.list (.int .i64),.int .i64],GP⟩
theorem aJ8:Ent.OK Tryz.prog aSS:=oI (aQ (oV aMU (oV aNM (oV aC3 oW)))) func38 Y (by rintro⟨v0,v1,v2,⟨⟩⟩; kernel_rfl)
def iL(x:aK [.int .i64,.ptr (.prod (.list (.int .i64)) (.prod (.list (.list (.int .i64))) (.list (.list (.int .i64)))))]):Option (aK [.bool]):=match x with
 | (v0,v1,()) =>
  aB (cJ (v1.1,v0,())) λy1 =>
  bif y1.1 then
   some (false,())
  else some (true,())
abbrev HS:Ent:=⟨34,[.int .i64,.ptr (.prod (.list (.int .i64)) (.prod (.list (.list (.int .i64))) (.list (.list (.int .i64)))))],[.bool],iL⟩
theorem EJ:Ent.OK Tryz.prog HS:=oI (aQ (oV fJ oW)) func34 Y (by rintro⟨v0,v1,⟨⟩⟩; kernel_rfl)
abbrev nA:List (Nat×Kd):=[(0,.list (.int .i64)),(1,.clo 34 [(.prod (.list (.int .i64)) (.prod (.list (.list (.int .i64))) (.list (.list (.int .i64)))))]),(7,.int .i64),(8,.int .i64)]
abbrev uU:List (Ex×List (Nat×Kd)):=[(.ret,[(4,.int .i64)]),(.exit 0,[])]
def eC(x:Shape.den nA):Option (Shape.den nA⊕fQ uU):=match x with
 | (v0,v1,v7,v8,()) =>
  bif ltI v8 v7 then
   bif aF v8 v0.length then aB (iL ((v0.getD v8.toNat 0),(v1.1.1,(v1.1.2.1,v1.1.2.2)),())) λy2 =>
   bif y2.1 then
    some (.inr (.inl (v8,())))
   else some (.inl (v0,((v1.1.1,(v1.1.2.1,v1.1.2.2)),()),v7,(aC .i64 (v8+1)),())) else none
  else some (.inr (.inr ((()))))
def lV(x:Shape.den nA):Option (fQ uU):=bH eC (2^64) x
def kI(x:aK [.list (.int .i64),.clo 34 [(.prod (.list (.int .i64)) (.prod (.list (.list (.int .i64))) (.list (.list (.int .i64)))))]]):Option (aK [.int .i64]):=match x with
 | (v0,v1,()) =>
  aB (lV (v0,((v1.1.1,(v1.1.2.1,v1.1.2.2)),()),(v0.length:Int),0,())) λz3 =>
  l9 z3 (λa4=>some (a4.1,())) λb5 =>
  some ((-1),())
abbrev JW:Ent:=⟨89,[.list (.int .i64),.clo 34 [(.prod (.list (.int .i64)) (.prod (.list (.list (.int .i64))) (.list (.list (.int .i64)))))]],[.int .i64],kI⟩
theorem HP:Ent.OK Tryz.prog JW:=oU (aQ (oV EJ oW)) func89 2 (lp:=lV) rfl Y (by rintro⟨v0,v1,v7,v8,⟨⟩⟩; kernel_rfl) (by rintro⟨v0,v1,⟨⟩⟩; kernel_rfl)
def cP(x:aK [.list (.int .i64),.clo 34 [(.prod (.list (.int .i64)) (.prod (.list (.list (.int .i64))) (.list (.list (.int .i64)))))]]):Option (aK [.bool]):=match x with
 | (v0,v1,()) =>
  aB (kI (v0,((v1.1.1,(v1.1.2.1,v1.1.2.2)),()),())) λy1 =>
  some (!(ltI y1.1 0),())
abbrev HK:Ent:=⟨33,[.list (.int .i64),.clo 34 [(.prod (.list (.int .i64)) (.prod (.list (.list (.int .i64))) (.list (.list (.int .i64)))))]],[.bool],cP⟩
theorem EL:Ent.OK Tryz.prog HK:=oI (aQ (oV HP oW)) func33 Y (by rintro⟨v0,v1,⟨⟩⟩; kernel_rfl)
def iM(x:aK [.int .i64,.ptr (.list (.int .i64))]):Option (aK [.bool]):=match x with
 | (v0,v1,()) =>
  aB (cJ (v1,v0,())) λy1 =>
  bif y1.1 then
   some (false,())
  else some (true,())
abbrev HV:Ent:=⟨36,[.int .i64,.ptr (.list (.int .i64))],[.bool],iM⟩
theorem EG:Ent.OK Tryz.prog HV:=oI (aQ (oV fJ oW)) func36 Y (by rintro⟨v0,v1,⟨⟩⟩; kernel_rfl)
abbrev mY:List (Nat×Kd):=[(0,.list (.int .i64)),(1,.clo 36 [(.list (.int .i64))]),(7,.int .i64),(8,.int .i64)]
abbrev uP:List (Ex×List (Nat×Kd)):=[(.ret,[(4,.int .i64)]),(.exit 0,[])]
def eA(x:Shape.den mY):Option (Shape.den mY⊕fQ uP):=match x with
 | (v0,v1,v7,v8,()) =>
  bif ltI v8 v7 then
   bif aF v8 v0.length then aB (iM ((v0.getD v8.toNat 0),v1.1,())) λy2 =>
   bif y2.1 then
    some (.inr (.inl (v8,())))
   else some (.inl (v0,(v1.1,()),v7,(aC .i64 (v8+1)),())) else none
  else some (.inr (.inr ((()))))
def l4(x:Shape.den mY):Option (fQ uP):=bH eA (2^64) x
def kK(x:aK [.list (.int .i64),.clo 36 [(.list (.int .i64))]]):Option (aK [.int .i64]):=match x with
 | (v0,v1,()) =>
  aB (l4 (v0,(v1.1,()),(v0.length:Int),0,())) λz3 =>
  l9 z3 (λa4=>some (a4.1,())) λb5 =>
  some ((-1),())
abbrev JN:Ent:=⟨89,[.list (.int .i64),.clo 36 [(.list (.int .i64))]],[.int .i64],kK⟩
theorem HT:Ent.OK Tryz.prog JN:=oU (aQ (oV EG oW)) func89 2 (lp:=l4) rfl Y (by rintro⟨v0,v1,v7,v8,⟨⟩⟩; kernel_rfl) (by rintro⟨v0,v1,⟨⟩⟩; kernel_rfl)
def bG(x:aK [.list (.int .i64),.clo 36 [(.list (.int .i64))]]):Option (aK [.bool]):=match x with
 | (v0,v1,()) =>
  aB (kK (v0,(v1.1,()),())) λy1 =>
  some (!(ltI y1.1 0),())
abbrev HI:Ent:=⟨33,[.list (.int .i64),.clo 36 [(.list (.int .i64))]],[.bool],bG⟩
theorem EK:Ent.OK Tryz.prog HI:=oI (aQ (oV HT oW)) func33 Y (by rintro⟨v0,v1,⟨⟩⟩; kernel_rfl)
end Go.PM
namespace Go.PM
open Go Go.RowKit Go.Proofs
def Dn(u:Nat):ByteArray:=⟨(Lib.decDigits u).toArray⟩
def Zn(n:Int):ByteArray:=⟨(Lib.itoa n).toArray⟩
theorem CM u:(Dn u).data.toList=Lib.decDigits u:=by rfl
theorem a73 n:(Zn n).data.toList=Lib.itoa n:=by rfl
theorem aSA(u:Nat):Zn u=Dn u:=by rfl
theorem aWI {n}(h:n.natAbs<10^20):aV3 n=Zn n:=aLK h
theorem XX {n}(h:n<0):(Zn n).data.toList=45::Lib.decDigits n.natAbs:=by rw[a73,Lib.itoa,if_pos h]
theorem UW {n}(h:0<=n):Zn n=Dn n.natAbs:=by
 obtain⟨u,rfl⟩:∃ u:Nat,n=u:=⟨n.natAbs,by omega⟩;rfl
theorem R5 {a b:ByteArray}(h:a.data.toList=b.data.toList):a=b:=by cases a; simp_all
theorem aCA(a:ByteArray):a.size=a.data.toList.length:=by rfl
theorem aMK(l m:List UInt8):∀ (acc:Nat),Lib.decFrom acc (l++m)=(Lib.decFrom acc l).bind λa=>Lib.decFrom a m:=by
 induction l with
 | nil=>intro acc; rfl
 | cons b l ih =>
  intro acc;rw[List.cons_append,Lib.decFrom,Lib.decFrom];split
  ·grind
  ·rfl
theorem aPL {d}(h:d<10):Lib.digitVal (UInt8.ofNat (48+d))=some d:=by
 have h1:(UInt8.ofNat (48+d)).toNat=48+d:=by
  rw[UInt8.toNat_ofNat'];omega
 unfold Lib.digitVal;grind
theorem qT u:Lib.decFrom 0 (Lib.decDigits u)=some u:=by
 induction u using Nat.strongRecOn with
 | _ u ih =>
  rw[Lib.decDigits];split
  next h=>rw[Lib.decFrom,aPL h];simp[Lib.decFrom]
  ·rw[aMK,ih (u/10) Z];simp only[Option.bind_some];rw[Lib.decFrom,aPL (Nat.mod_lt _ R)];simp only[Lib.decFrom];grind
theorem K1 u:Lib.decDigits u≠[]:=by
 rw[Lib.decDigits];split <;> simp
theorem MX u:∀ b∈Lib.decDigits u,48<=b.toNat/\b.toNat<=57:=by
 induction u using Nat.strongRecOn with
 | _ u ih =>
  intro b hb;rw[Lib.decDigits]at hb;have key:∀ d,d<10->48<=(UInt8.ofNat (48+d)).toNat/\(UInt8.ofNat (48+d)).toNat<=57:=λd h=>by rw[UInt8.toNat_ofNat']; omega
  grind
theorem a4H {a b}(h:Dn a=Dn b):a=b:=by
 have h1:=oZ (λx:ByteArray=>Lib.decFrom 0 x.data.toList) h;simp only[CM,qT]at h1;grind
theorem aIS {n}(h:n<0) m:Zn n≠Dn m:=by
 intro e;have h1:=oZ (λx:ByteArray=>x.data.toList) e;simp only[XX h,CM]at h1;have:=MX m 45 W;grind
theorem bA3 {a b}(h:Zn a=Zn b):a=b:=by
 rcases(by omega:a<0\/0<=a)with ha|ha
 ·rcases(by omega:b<0\/0<=b)with hb|hb
  ·have h1:=oZ (λx:ByteArray=>x.data.toList) h;simp only[XX ha,XX hb,List.cons.injEq,true_and]at h1;have h2:=oZ (Lib.decFrom 0) h1;rw[qT,qT]at h2;grind
  ·rw[UW hb]at h;exact absurd h (aIS ha _)
 ·rcases(by omega:b<0\/0<=b)with hb|hb
  ·rw[UW ha]at h;exact absurd h.symm (aIS hb _)
  ·rw[UW ha,UW hb]at h;have:=a4H h;omega
theorem a3E a b:eqS a b=decide (a=b):=by
 unfold eqS
 by_cases h:a=b
 ·grind
 ·have:¬ a.data=b.data:=λe=>h (R5 W)
  simp_all
theorem bBE:ByteArray.mk #[48]=Dn 0:=R5 (by rw[CM,Lib.decDigits]; rfl)
theorem bDF:ByteArray.mk #[49]=Dn 1:=R5 (by rw[CM,Lib.decDigits]; rfl)
theorem TV n:eqS (Zn n) (ByteArray.mk #[48])=decide (n=0):=by
 rw[a3E,bBE,((aSA 0).symm)]
 by_cases h:n=0
 ·grind
 ·have :=λe=>h (bA3 e)
  grind
theorem aKW n:eqS (Dn n) (ByteArray.mk #[48])=decide (n=0):=by
 rw[<- aSA,TV];simp
theorem F9 u:(Dn u).size=Lib.nDigits u:=by rw[aCA,CM,Lib.decDigits_length]
theorem I7 {n}(h:n<0):(Zn n).size=Lib.nDigits n.natAbs+1:=by rw[aCA,XX h,List.length_cons,Lib.decDigits_length]
theorem ES {u k}:u<10^(k+1)->Lib.nDigits u<=k+1:=by
 induction k generalizing u with
 | zero=>intro h; rw[Lib.nDigits_small W]; simp
 | succ k ih =>
  by_cases h1:u<10
  ·grind
  ·rw[Lib.nDigits_big h1];grind
theorem jJ u:u<10^Lib.nDigits u:=by
 have:=Lib.decFrom_lt _ _ _ (qT u);rw[Lib.decDigits_length]at this;grind
theorem nDigits_pos u:1<=Lib.nDigits u:=by rw[Lib.nDigits]; grind
theorem a9O n:Lib.atoi (Zn n).data.toList=some n:=by
 rcases(by omega:n<0\/0<=n)with h|h
 ·rw[XX h];have hne:(Lib.decDigits n.natAbs).isEmpty=false:=by
   cases e:Lib.decDigits n.natAbs with
   | nil=>exact absurd e (K1 _)
   | cons _ _=>rfl
  simp only[Lib.atoi,Lib.decNat,qT];grind
 ·rw[UW h,CM];have h1:=qT n.natAbs;have h2:=MX n.natAbs;cases e:Lib.decDigits n.natAbs with
  | nil=>exact absurd e (K1 _)
  | cons b r =>
   rw[e]at h1 h2;have hb:=h2 b R;have n45:(b==45)=false:=by
    rw[beq_eq_false_iff_ne]; rintro rfl;grind
   have n43:(b==43)=false:=by
    rw[beq_eq_false_iff_ne]; rintro rfl;grind
   simp only[Lib.atoi,n45,Lib.decNat,h1];grind
theorem aQC u:Lib.decNat (Dn u).data.toList=some u:=by
 have hne:(Lib.decDigits u).isEmpty=false:=by
  cases e:Lib.decDigits u with
  | nil=>exact absurd e (K1 _)
  | cons _ _=>rfl
 simp only[CM,Lib.decNat,hne,qT];rfl
theorem aEJ:∀ (l:List UInt8) (acc n:Nat),Lib.decFrom acc l=some n->acc*10^l.length<=n
 | [],acc,n,h=>by
  obtain rfl:=oB h;simp
 | b::l,acc,n,h=>by
  rw[Lib.decFrom]at h;split at h
  next d hd=>have:=aEJ l _ n h;rw[List.length_cons,Nat.pow_succ];grind
  ·cases h
theorem V6:∀ l m acc x y,l.length=m.length->Lib.decFrom acc l=some x->Lib.decFrom acc m=some y->Op.bytesLess l m=decide (x<y)
 | [],[],acc,x,y,_,h1,h2=>by
  obtain rfl:=oB h1;obtain rfl:=oB h2;simp[Op.bytesLess]
 | [],_::_,_,_,_,h,_,_=>by simp at h
 | _::_,[],_,_,_,h,_,_=>by simp at h
 | c::l,d::m,acc,x,y,h,h1,h2=>by
  have hl:l.length=m.length:=by simpa using h
  have digit:∀ (b:UInt8) (e:Nat),Lib.digitVal b=some e->b.toNat=48+e/\e<10:=by
   intro b e he;unfold Lib.digitVal at he;grind
  rw[Lib.decFrom]at h1 h2;split at h1
  next e1 he1=>
   split at h2
   ·rename_i e2 he2;obtain⟨c1,c2⟩:=digit c e1 he1;obtain⟨d1,d2⟩:=digit d e2 he2;have x1:=Lib.decFrom_lt l _ x h1;have x2:=aEJ l _ x h1;have y1:=Lib.decFrom_lt m _ y h2;have y2:=aEJ m _ y h2;rw[hl]at x1 x2;rw[Op.bytesLess];rcases Nat.lt_trichotomy e1 e2 with g|g|g
    ·have lt:c<d:=by rw[UInt8.lt_iff_toNat_lt]; omega
     have:(acc*10+e1+1)*10^m.length<=(acc*10+e2)*10^m.length:=Nat.mul_le_mul_right _ Z;grind
    ·subst g;have e:c=d:=UInt8.toNat_inj.1 Z;subst e;have lt:¬ c<c:=by rw[UInt8.lt_iff_toNat_lt]; omega
     simp[lt,V6 l m _ x y hl h1 h2]
    ·have lt:¬ c<d:=by rw[UInt8.lt_iff_toNat_lt]; omega
     have ne:¬ c=d:=by rintro rfl; omega
     have:(acc*10+e2+1)*10^m.length<=(acc*10+e1)*10^m.length:=Nat.mul_le_mul_right _ Z;grind
   ·cases h2
  ·cases h1
theorem bA6 {a b}(h:Lib.nDigits a=Lib.nDigits b):ltS (Dn a) (Dn b)=decide (a<b):=by
 unfold ltS;rw[CM,CM];exact V6 _ _ 0 a b (by rw[Lib.decDigits_length,Lib.decDigits_length,h]) (qT a) (qT b)
theorem yX {a b}(h:a<=b):Lib.nDigits a<=Lib.nDigits b:=by
 obtain⟨k,hk⟩:∃ k,Lib.nDigits b=k+1:=⟨Lib.nDigits b-1,by have:=nDigits_pos b; omega⟩;rw[hk];refine ES (Nat.lt_of_le_of_lt h ?_);rw[<- hk];exact jJ b
theorem bBQ a b:eqS (Dn a) (Dn b)=decide (a=b):=by
 rw[a3E]
 by_cases h:a=b
 ·grind
 ·have :=λe=>h (a4H e)
  grind
def aCL(a b:Nat):Int:=if a<b then -1 else if b<a then 1 else 0
theorem yH a b (ha:Lib.nDigits a<2^32)(hb:Lib.nDigits b<2^32):gB (Dn a,Dn b,())=some (aCL a b,()):=by
 unfold gB;dsimp only;rw[F9,F9]
 by_cases h:Lib.nDigits a=Lib.nDigits b
 ·have h1:eqI (Lib.nDigits a:Int) (Lib.nDigits b:Int)=true:=by rw[dW]; simp[h]
  rw[h1,bA6 h,bBQ];unfold aCL;grind
 ·have h1:eqI (Lib.nDigits a:Int) (Lib.nDigits b:Int)=false:=by rw[dW]; simp; omega
  rw[h1];rw[wrap64 Z Z];unfold aCL
  by_cases h2:a<b
  ·have:=yX (Nat.le_of_lt h2);grind
  ·have h3:b<a:=by
    grind
   have:=yX (Nat.le_of_lt h3);grind
theorem AY(n:Int) (h1 : -9223372036854775808<=n) (h2:n<9223372036854775808):pL (n,())=some (Zn n,()):=by
 unfold pL ID;have e1:ltI n (-9223372036854775808)=false:=by rw[aE]; grind
 have e2:ltI 9223372036854775807 n=false:=by rw[aE]; simp; omega
 simp only[e1,e2,Bool.not_false,Bool.and_self,oC,aD,aWI (n:=n) Z]
theorem ML(u:Nat)(h:u<18446744073709551616):vV ((u:Int),())=some (Dn u,()):=by
 unfold vV uR;have e1:ltI u 0=false:=by rfl
 have e2:ltI u 18446744073709551616=true:=by rw[aE]; grind
 have e3:eqI 10 10=true:=by rfl
 simp only[e1,e2,e3,Bool.not_false,Bool.and_self,oC,aD,aWI (n:=u) W,aSA]
theorem aC8 u (h:Lib.nDigits u<=18):FQ (Dn u,())=some ((u:Int),true,()):=by
 unfold FQ wV;have e1:Nat.ble (Dn u).size 1000000000=true:=by rw[dM,F9]; grind
 have e2:eqI 10 10=true:=by rfl
 have e3:eqI 64 64=true:=by rfl
 have e4:Lib.parseUintB 64 (Dn u).data.toList=.ok u:=by
  rw[Lib.parseUintB_64,Lib.parseMag_short _ (by rw[CM,Lib.decDigits_length]; omega),aQC];rfl
 simp only[e1,e2,e3,Bool.and_self,oC,aD,e4]
theorem QF a b (ha:Lib.nDigits a<=18)(hb:Lib.nDigits b<=18):sV (Dn a,Dn b,())=some ((a:Int),(b:Int),true,()):=by
 unfold sV;have e1:ltI 18 ((Dn a).size)=false:=by rw[aE,F9]; simp; omega
 have e2:ltI 18 ((Dn b).size)=false:=by rw[aE,F9]; grind
 simp only[e1,e2,oD,aC8 a ha,aC8 b hb,aD]
theorem aBV {s c l}(h:s.data.toList=c::l):aN1 s 0=c.toNat:=by
 have h1:s[0]?=some c:=by
  have h3:s.data[0]?=some c:=by rw[<- Array.getElem?_toList,h]; rfl
  have h4:s[0]?=s.data[0]?:=by rfl
  grind
 unfold aN1;grind
theorem aZ5 u:∃ c l,(Dn u).data.toList=c::l/\c.toNat≠45:=by
 have h:=MX u;rw[CM];cases e:Lib.decDigits u with
 | nil=>exact absurd e (K1 _)
 | cons c l =>
  grind
theorem aQ5 {s:ByteArray}{c l}(h:s.data.toList=c::l):s.extract 1 s.size=⟨l.toArray⟩:=by
 refine R5 ?_;have h1:(s.extract 1 s.size).data=s.data.extract 1 s.data.size:=ByteArray.data_extract;rw[h1,Array.toList_extract,List.extract_eq_take_drop,h];have h2:s.data.size=l.length+1:=by rw[<- Array.length_toList,h]; rfl
 grind
theorem vR n:cU (Zn n,())=some (decide (n<0),Dn n.natAbs,()):=by
 unfold cU
 by_cases h:n<0
 ·have hz:=XX h;have e1:ltI 0 ((Zn n).size:Int)=true:=by rw[aE,I7 h]; simp <;> omega
  have e2:aF 0 (Zn n).size=true:=by rw[aL,I7 h]; simp <;> omega
  have e3:aN1 (Zn n) 0=45:=by rw[aBV hz]; rfl
  have e4:Nat.ble 1 (Zn n).size=true:=by rw[dM,I7 h]; simp
  have e5:Nat.ble (Zn n).size (Zn n).size=true:=R
  have e6:eqI 45 45=true:=O
  simp only[e1,e2,e3,e4,e5,e6,oC,aQ5 hz,h,decide_true,Dn]
 ·rw[UW Z];obtain⟨c,l,h1,h2⟩:=aZ5 n.natAbs;have hs:(Dn n.natAbs).size=l.length+1:=by rw[aCA,h1]; rfl
  have e2:aF 0 (Dn n.natAbs).size=true:=by rw[aL,hs]; simp <;> omega
  have e3:eqI (aN1 (Dn n.natAbs) 0) 45=false:=by rw[aBV h1,dW]; simp <;> omega
  grind
theorem aLB(b:Bool) m (hm:Lib.nDigits m<2^32):aA (b,Dn m,())=some (Zn (if b then -m else m),()):=by
 unfold aA;cases b with
 | false=>rfl
 | true =>
  have e2:Nat.ble ((ByteArray.mk #[45]).size+(Dn m).size) 9223372036854775807=true:=by
   rw[dM,F9];have:(ByteArray.mk #[45]).size=1:=rfl;grind
  simp only[aKW,e2]
  by_cases h:m=0
  ·subst h;rfl
  ·simp only[h,decide_false,Bool.not_false,oC];simp only[if_true]
   congr 2
   refine R5 ?_;rw[XX Z,Joins.data_append,CM];grind
theorem pK m (hm:Lib.nDigits m<2^32):aA (true,Dn m,())=some (Zn (-m),()):=(aLB true m hm).trans (by rfl)
theorem s9 m (hm:Lib.nDigits m<2^32):aA (false,Dn m,())=some (Zn m,()):=(aLB false m hm).trans (by rfl)
theorem GJ(n k:Int)(hk:k<=18):sP (Zn n,k,())=if ((Zn n).size)<=k then some (n,true,()) else some (0,false,()):=by
 unfold sP
 by_cases h:((Zn n).size)<=k
 ·have e1:ltI k ((Zn n).size:Int)=false:=by rw[aE]; grind
  have e2:Nat.ble (Zn n).size 18=true:=by simp <;> omega
  rw[if_pos h];simp only[e1,oD,IF,e2,oC,a9O,aD]
 ·have e1:ltI k ((Zn n).size)=true:=by rw[aE]; grind
  grind
theorem W8 n:BW (Zn n,())=some (n.sign,()):=by
 unfold BW;simp only[TV]
 by_cases h0:n=0
 ·grind
 ·by_cases h:n<0
  ·have hz:=XX h;have e2:aF 0 (Zn n).size=true:=by rw[aL,I7 h]; simp <;> omega
   have e3:aN1 (Zn n) 0=45:=by rw[aBV hz]; rfl
   have e6:eqI 45 45=true:=O
   grind
  ·rw[UW Z];obtain⟨c,l,h1,h2⟩:=aZ5 n.natAbs;have hs:(Dn n.natAbs).size=l.length+1:=by rw[aCA,h1]; rfl
   have e2:aF 0 (Dn n.natAbs).size=true:=by rw[aL,hs]; simp
   have e3:eqI (aN1 (Dn n.natAbs) 0) 45=false:=by rw[aBV h1,dW]; simp <;> omega
   grind
theorem aO6 n (h:Lib.nDigits n.natAbs<2^32):RR (Zn n,())=some (Zn (-n),()):=by
 unfold RR;simp only[vR n]
 by_cases h0:n<0
 ·simp only[s9 _ h,aD];grind
 ·simp only[pK _ h,aD];grind
theorem aQH n:S4 (Zn n,())=some (Zn n.natAbs,()):=by
 unfold S4;simp only[vR n,aD,aSA]
theorem aN7(a b:Nat) (ha:Lib.nDigits a<2^32) (hb:Lib.nDigits b<2^32):JY (Zn (a:Int),Zn (b:Int),())=some (aCL a b,()):=by
 unfold JY;have sg:∀ n:Nat,(n:Int).sign=if n=0 then 0 else 1:=λn=>W
 simp only[W8 (a:Int),W8 (b:Int),vR (a:Int),vR (b:Int),aD,sg];have e0:∀ n:Nat,decide ((n:Int)<0)=false:=λn=>R
 by_cases h1:a=0
 ·by_cases h2:b=0
  ·have e:eqI 0 0=true:=O
   simp only[h1,h2,if_true,e,Bool.not_true,oD,e0,Int.natAbs_natCast];have:=yH a b ha hb;rw[h1,h2]at this;simp only[this,aD]
  ·have:eqI 0 1=false:=O
   have e:ltI 0 1=true:=O
   simp only[h1,h2,if_true,if_false,this,e,Bool.not_false,oC];unfold aCL;grind
 ·by_cases h2:b=0
  ·have:eqI 1 0=false:=O
   have e:ltI 1 0=false:=O
   simp only[h1,h2,if_true,if_false,this,e,Bool.not_false,oC,oD];unfold aCL;grind
  ·have e:eqI 1 1=true:=O
   simp only[h1,h2,if_false,e,Bool.not_true,oD,e0,Int.natAbs_natCast,yH a b ha hb,aD]
theorem aI5 {u}(h:Lib.nDigits u<=18):u<1000000000000000000:=by
 have h1:=jJ u;have h2:10^Lib.nDigits u<=10^18:=Nat.pow_le_pow_right R h;omega
theorem sL {x}(h1:0<=x)(h2:x<18446744073709551616):aC .u64 x=x:=by
 rw[aMZ,IntKind.wrap_u64];omega
theorem aUQ a b (ha:Lib.nDigits a<=18)(hb:Lib.nDigits b<=18):fM (Dn a,Dn b,())=some (Dn (a+b),()):=by
 have h1:=aI5 ha;have h2:=aI5 hb;unfold fM;simp only[QF a b ha hb,aD];rw[sL Z Z];have:a+b=((a+b:Nat):Int):=by rfl
 rw[this,ML _ Z];rfl
theorem aWY a b (ha:Lib.nDigits a<=18)(hb:Lib.nDigits b<=18)(h:b<=a):cY (Dn a,Dn b,())=some (Dn (a-b),0,()):=by
 have h1:=aI5 ha;unfold cY;have e:ltI (aCL a b) 0=false:=by
  rw[aE]; unfold aCL;grind
 simp only[yH a b Z Z,QF a b ha hb,aD,e];rw[sL Z Z];have:a-b=((a-b:Nat):Int):=Z
 rw[this,ML _ Z];rfl
theorem aUW a b (h:Lib.nDigits a+Lib.nDigits b<=18):fN (Dn a,Dn b,())=some (Dn (a*b),()):=by
 have h3:a*b<1000000000000000000:=by
  have h1:=jJ a;have h2:=jJ b;have h4 :=Nat.mul_lt_mul'' h1 h2;rw[<- Nat.pow_add]at h4;have h5:10^(Lib.nDigits a+Lib.nDigits b)<=10^18:=Nat.pow_le_pow_right O h;omega
 unfold fN;have e:ltI 18 (aC .i64 (((Dn a).size:Int)+((Dn b).size:Int)))=false:=by
  rw[F9,F9,wrap64 Z Z,aE];grind
 simp only[e,QF a b Z Z,aD];have e2:(a:Int)*(b:Int)=((a*b:Nat):Int):=by rfl
 rw[e2,sL Z Z,ML _ Z];rfl
theorem aLG a b (ha:Lib.nDigits a<=18)(hb:Lib.nDigits b<=18)(h:b≠0):o8 (Dn a,Dn b,())=some (Dn (a/b),Dn (a%b),0,()):=by
 have h1:=aI5 ha;unfold o8;have e1:eqI (b:Int) 0=false:=by rw[dW]; simp; omega
 have q1:(a:Int).tdiv (b:Int)=((a/b:Nat):Int):=rfl;have q2:(a:Int).tmod (b:Int)=((a%b:Nat):Int):=rfl;have l1:a/b<=a:=Nat.div_le_self _ _;have l2:a%b<=a:=Nat.mod_le _ _;simp only[aKW,h,QF a b ha hb,aD,e1,q1,q2];generalize a/b=q at *;rw[sL Z Z,ML _ Z,aD,ML _ Z];rfl
theorem L7 {n}{k:Nat}(h:((Zn n).size:Int)<=k):Lib.nDigits n.natAbs<=k:=by
 rcases(by omega:n<0\/0<=n)with g|g
 ·rw[I7 g]at h; omega
 ·rw[UW g,F9]at h; omega
theorem qU {x y f g:Int} (h:x=y*f+g) (hp:0<y->0<=g/\g<y) (hn:y<0->y<g/\g<=0) (h0:y≠0):x.fdiv y=f/\x.fmod y=g:=by
 have key:∀ x y f g:Int,x=y*f+g->0<y->0<=g->g<y->x.fdiv y=f/\x.fmod y=g:=by
  intro x y f g h hy h1 h2;have e1:=Int.fmod_def x y;have e2:=Int.fmod_nonneg_of_pos x hy;have e3:=Int.fmod_lt_of_pos x hy;have e4:y*(x.fdiv y-f)=g-x.fmod y:=by rw[Int.mul_sub]; omega
  have e5:x.fdiv y-f=0:=by
   rcases Int.lt_trichotomy (x.fdiv y-f) 0 with g1|g1|g1
   ·have:y*(x.fdiv y-f)<=y*(-1):=Int.mul_le_mul_of_nonneg_left Z Z;omega
   ·exact g1
   ·have:y*1<=y*(x.fdiv y-f):=Int.mul_le_mul_of_nonneg_left Z Z;omega
  rw[e5]at e4;omega
 rcases Int.lt_or_gt_of_ne h0 with g1|g1
 ·obtain⟨h1,h2⟩:=hn g1;have:=key (-x) (-y) f (-g) (by rw[h]; grind) Z Z Z;rw[Int.neg_fdiv_neg,Int.neg_fmod_neg]at this;omega
 ·obtain⟨h1,h2⟩:=hp g1;exact key x y f g h g1 h1 h2
end Go.PM
namespace Go.De
abbrev pw(i:Nat):Int:=(1000000000:Int)^i
theorem aQ7:pw 0=1:=rfl
theorem KA i:pw (i+1)=1000000000*pw i:=W
theorem PE i:0<pw i:=Int.pow_pos R
theorem aDQ i j:pw (i+j)=pw i*pw j:=W
theorem aSY {i j}(h:i<=j):pw i<=pw j:=by
 obtain⟨k,rfl⟩:=Nat.exists_eq_add_of_le h;rw[aDQ];have h1:=PE i;have h2:=PE k;have:pw i*1<=pw i*pw k:=Int.mul_le_mul_of_nonneg_left Z Z;omega
def vl:List Int->Int
 | []=>0
 | x::l=>x+1000000000*vl l
def Pc(l:List Int):Prop:=∀ x∈l,0<=x/\x<1000000000
theorem Pc.nil:Pc []:=λ_ h=>by cases h
theorem Pc.cons {x l}(h:0<=x/\x<1000000000)(hl:Pc l):Pc (x::l):=λy hy=>by
 rcases List.mem_cons.1 hy with rfl|hy
 ·omega
 ·exact hl y hy
theorem Pc.head {x l}(h:Pc (x::l)):0<=x/\x<1000000000:=h x R
theorem Pc.tail {x l}(h:Pc (x::l)):Pc l:=λy hy=>h y W
theorem Pc.append {a b}(ha:Pc a)(hb:Pc b):Pc (a++b):=λx hx=>(List.mem_append.1 hx).elim (ha x) (hb x)
theorem Pc.left {a b}(h:Pc (a++b)):Pc a:=λx hx=>h x (List.mem_append_left _ hx)
theorem Pc.set {l}(h:Pc l){x}(hx:0<=x/\x<1000000000) i:Pc (l.set i x):=λy hy=>by
 rcases List.mem_or_eq_of_mem_set hy with h1|rfl
 ·exact h y h1
 grind
theorem a6Y {l:List Int}{i}(h:i<l.length):l.getD i 0∈l:=W
theorem Pc.get {l}(h:Pc l) i:0<=l.getD i 0/\l.getD i 0<1000000000:=by
 rcases Nat.lt_or_ge i l.length with h1|h1
 ·exact h _ (a6Y h1)
 grind
theorem Pc.rep n:Pc (List.replicate n 0):=λx hx=>W
theorem JC:∀ a b,vl (a++b)=vl a+pw a.length*vl b
 | [],b=>by simp[vl]
 | x::a,b=>by
  rw[List.cons_append,vl,vl,JC a b,List.length_cons,KA];grind
theorem YS:∀ n,vl (List.replicate n 0)=0
 | 0=>rfl
 | n+1=>by rw[List.replicate_succ,vl,YS n]; rfl
theorem aE1:∀ l i x,i<l.length->vl (l.set i x)=vl l+(x-l.getD i 0)*pw i
 | [],i,x,h=>absurd h (Nat.not_lt_zero _)
 | y::l,0,x,h=>by simp[vl]; omega
 | y::l,i+1,x,h=>by
  rw[List.set_cons_succ,vl,vl,aE1 l i x W,KA,List.getD_cons_succ];grind
theorem sC:∀ {l},Pc l->0<=vl l
 | [],_=>Int.le_refl _
 | x::l,h=>by
  have h1:=sC h.tail;have h2:=h.head;rw[vl]; omega
theorem OJ:∀ {l},Pc l->vl l<pw l.length
 | [],_=>O
 | x::l,h=>by
  have h1:=OJ h.tail;have h2:=h.head;rw[vl,List.length_cons,KA];omega
theorem GL:∀ (l:List Int) k,k<l.length->vl (l.take (k+1))=vl (l.take k)+l.getD k 0*pw k:=λl k h=>by
 rw[List.take_succ_eq_append_getElem h,JC,List.length_take,Nat.min_eq_left Z,List.getD_eq_getElem?_getD,List.getElem?_eq_getElem h];simp[vl,Int.mul_comm]
theorem S0 l k (h:k<=l.length):vl l=vl (l.take k)+pw k*vl (l.drop k):=by
 have e:=JC (l.take k) (l.drop k)
 simp_all
theorem Pc.aC4 {l}(h:Pc l) k:Pc (l.take k):=λx hx=>h x (List.mem_of_mem_take hx)
theorem Pc.bB5 {l}(h:Pc l) k:Pc (l.drop k):=λx hx=>h x (List.mem_of_mem_drop hx)
theorem a0A {l:List Int} (h:Pc l) {k:Nat} (hz:∀ j,k<=j->l.getD j 0=0):vl l<pw k:=by
 rcases Nat.lt_or_ge k l.length with h1|h1
 ·rw[S0 l k Z];have:vl (l.drop k)=0:=by
   have:l.drop k=List.replicate (l.drop k).length 0:=by
    rw[List.eq_replicate_iff];refine⟨rfl,λx hx=>?_⟩;obtain⟨i,hi,rfl⟩:=List.getElem_of_mem hx;have:=hz (k+i) Z;grind
   rw[this,YS]
  have h2:=OJ (h.aC4 k);grind
 ·exact Int.lt_of_lt_of_le (OJ h) (aSY h1)
theorem I6 {l}(h:Pc l){k}(hv:vl l<pw k){j}(hj:k<=j):l.getD j 0=0:=by
 rcases Nat.lt_or_ge j l.length with h1|h1
 ·have e2:=GL l j h1;have e3:=S0 l (j+1) Z;have n1:=sC (h.aC4 j);have n2:=sC (h.bB5 (j+1));have n3:0<=pw (j+1)*vl (l.drop (j+1)):=Int.mul_nonneg (Int.le_of_lt (PE _)) n2;have g:=h.get j;have m:=aSY hj;have p:=PE j;have :=λh1=>by
   have:1*pw j<=l.getD j 0*pw j:=Int.mul_le_mul_of_nonneg_right h1 Z;omega
  omega
 grind
def Tr(l:List Int):Prop:=∀ x,l.getLast?=some x->x≠0
theorem Tr.nil:Tr []:=λ_ h=>nomatch h
theorem Tr.tail {x l}(h:Tr (x::l)):Tr l:=λy hy=>h y (by
 grind)
theorem aXD:∀ {l},Pc l->Tr l->l≠[]->0<vl l
 | [],_,_,h=>absurd rfl h
 | [x],h,t,_=>by
  have:=h.head;have:=t x rfl;simp only[vl]; omega
 | x::y::l,h,t,_=>by
  have h1:=aXD h.tail t.tail R;have:=h.head;rw[vl]; omega
theorem a0F:∀ {a b},Pc a->Pc b->Tr a->Tr b->vl a=vl b->a=b
 | [],[],_,_,_,_,_=>rfl
 | [],y::b,_,hb,_,tb,e=>by
  have h1:=aXD hb tb R;have h2:vl ([]:List Int)=0:=rfl;omega
 | x::a,[],ha,_,ta,_,e=>by
  have h1:=aXD ha ta R;have h2:vl ([])=0:=rfl;omega
 | x::a,y::b,ha,hb,ta,tb,e=>by
  have h1:=ha.head;have h2:=hb.head;rw[vl,vl]at e;have e1:x=y:=Z
  have e2:vl a=vl b:=Z
  rw[e1,a0F ha.tail hb.tail ta.tail tb.tail e2]
def BU(l:List Int):List Int:=(l.reverse.dropWhile (λx=>decide (x=0))).reverse
theorem Y5 l:BU (l++[0])=BU l:=by simp[BU]
theorem aEQ l {x}(h:x≠0):BU (l++[x])=l++[x]:=by simp[BU,h]
theorem aYL l:Pc l->Pc (BU l)/\Tr (BU l)/\vl (BU l)=vl l/\(BU l).length<=l.length:=by
 suffices H:∀ n (l:List Int),l.length=n->Pc l->Pc (BU l)/\Tr (BU l)/\vl (BU l)=vl l/\(BU l).length<=l.length from H _ l rfl
 intro n
 induction n with
 | zero =>
  intro l hl h;have:l=[]:=List.eq_nil_of_length_eq_zero hl;subst this;exact⟨Pc.nil,Tr.nil,rfl,Nat.le_refl _⟩
 | succ n ih =>
  intro l hl h;rcases List.eq_nil_or_concat l with rfl|⟨a,x,rfl⟩
  ·grind
  ·rw[List.concat_eq_append]at hl h ⊢;rw[List.length_append,List.length_singleton]at hl
   by_cases hx:x=0
   ·subst hx;rw[Y5];obtain⟨h1,h2,h3,h4⟩:=ih a Z h.left;refine⟨h1,h2,?_,by grind⟩;rw[JC,h3]; simp[vl]
   ·rw[aEQ a hx];refine⟨h,λy hy=>?_,rfl,Nat.le_refl _⟩;grind
def pcs(n:Nat):List Int:=if h:n=0 then [] else ((n%1000000000:Nat):Int)::pcs (n/1000000000)
termination_by n
decreasing_by omega
theorem Z3:pcs 0=[]:=by rw[pcs]; rfl
theorem aFX {n}(h:n≠0):pcs n=((n%1000000000:Nat):Int)::pcs (n/1000000000):=by rw[pcs,dif_neg h]
theorem iY n:Pc (pcs n)/\Tr (pcs n)/\vl (pcs n)=n:=by
 induction n using Nat.strongRecOn with
 | _ n ih =>
  by_cases h:n=0
  ·subst h; rw[Z3]; exact⟨Pc.nil,Tr.nil,rfl⟩
  ·obtain⟨h1,h2,h3⟩:=ih (n/1000000000) Z;rw[aFX h];refine⟨Pc.cons Z h1,λy hy=>?_,by rw[vl,h3]; omega⟩;cases hp:pcs (n/1000000000)with
   | nil =>
    rw[hp]at hy h3;have h3:0=((n/1000000000):Int):=h3;grind
   | cons z l =>
    rw[hp]at hy h2;exact h2 y hy
theorem bAU {l}{n:Nat}(h1:Pc l)(h2:Tr l)(h3:vl l=n):l=pcs n :=
 a0F h1 (iY n).1 h2 (iY n).2.1 (h3.trans (iY n).2.2.symm)
theorem JH {l}{n:Nat}(h1:Pc l)(h3:vl l=n):BU l=pcs n:=by
 obtain⟨a,b,c,d⟩:=aYL l h1;exact bAU a b (c.trans h3)
theorem XB {n k}(h:n<1000000000^k):(pcs n).length<=k:=by
 rcases Nat.lt_or_ge k (pcs n).length with h1|h1
 ·obtain⟨a,b,c⟩:=iY n;have hlt:vl (pcs n)<pw k:=W
  have hz:=I6 a hlt (j:=(pcs n).length-1) Z;have hne:pcs n≠[]:=λh=>W
  have:=b _ (List.getLast?_eq_some_getLast hne);grind
 omega
theorem bA5 {n k}(h:k<(pcs n).length):1000000000^k<=n:=by
 rcases Nat.lt_or_ge n (1000000000^k)with h1|h1
 ·have:=XB h1; omega
 omega
end Go.De
namespace Go.De
def tkS(q:List Int) (n:Int) (at':Nat) (p:List Int):Nat->List Int×Int×Int
 | 0=>(p,0,0)
 | k+1 =>
  let s:=tkS q n at' p k
  let c:=if k<q.length then s.2.2+n*q.getD k 0 else s.2.2
  let d:=s.1.getD (at'+k) 0-c%1000000000-s.2.1
  (s.1.set (at'+k) (if d<0 then d+1000000000 else d),if d<0 then 1 else 0,c/1000000000)
theorem getD_set_ne(l:List Int){i j} x (h:i≠j):(l.set i x).getD j 0=l.getD j 0:=W
structure TkI (q:List Int) (n:Int) (at':Nat) (p:List Int) (k:Nat) (s:List Int×Int×Int):Prop where
 pc:Pc s.1
 len:s.1.length=p.length
 bo:s.2.1=0\/s.2.1=1
 ca:0<=s.2.2/\s.2.2<1000000000
 hi:∀ j,at'+k<=j->s.1.getD j 0=p.getD j 0
 val:vl s.1=vl p-n*pw at'*vl (q.take k)+(s.2.1+s.2.2)*pw (at'+k)
 fin:q.length<k->s.2.2=0
theorem N2 {n x:Int}(hn:0<=n/\n<1000000000)(hx:0<=x/\x<1000000000):0<=n*x/\n*x<=999999998000000001:=by
 have h1 :=Int.mul_nonneg hn.1 hx.1;have h2:n*x<=999999999*999999999:=Int.mul_le_mul Z Z hx.1 R;omega
theorem tkI {q n at' p}(hp:Pc p)(hq:Pc q)(hn:0<=n/\n<1000000000)(hl:at'+q.length<p.length):∀ k,k<=q.length+1->TkI q n at' p k (tkS q n at' p k)
 | 0,_=>⟨hp,rfl,.inl rfl,⟨Int.le_refl _,by show (0:Int)<1000000000; decide⟩,λ_ _=>rfl,by simp[tkS,vl],λh=>absurd h (Nat.not_lt_zero _)⟩
 | k+1,hk=>by
  have ih:=tkI hp hq hn hl k Z;rw[tkS];generalize tkS q n at' p k=s at ih;obtain⟨l,bo,ca⟩:=s;obtain⟨h1,h2,h3,h4,h5,h6,h7⟩:=ih;dsimp only at h1 h2 h3 h4 h5 h6 h7 ⊢;have hlen:at'+k<l.length:=Z
  have hx:=h1.get (at'+k);have hqk:=hq.get k;have hm:=N2 hn hqk;have hc:∃ c,(if k<q.length then ca+n*q.getD k 0 else ca)=c/\0<=c/\c<1000000000*1000000000/\n*pw at'*vl (q.take (k+1))=n*pw at'*vl (q.take k)+(c-ca)*pw (at'+k)/\(q.length<=k->c=ca):=by
   by_cases h:k<q.length
   ·refine⟨_,if_pos h,by omega,by omega,?_,λh'=>by omega⟩;rw[GL q k h,aDQ];grind
   ·grind
  obtain⟨c,e,c0,c1,c2,c3⟩:=hc;rw[e];have hd0:0<=c/1000000000:=Z
  have hd1:c/1000000000<1000000000:=Z
  have hpw:pw (at'+(k+1))=1000000000*pw (at'+k):=KA (at'+k);generalize hq':c/1000000000=cq at *;generalize hr':c%1000000000=cr at *;have hr0:0<=cr/\cr<1000000000:=Z
  have hd:∃ d b,(if l.getD (at'+k) 0-cr-bo<0 then l.getD (at'+k) 0-cr-bo+1000000000 else l.getD (at'+k) 0-cr-bo)=d/\(if l.getD (at'+k) 0-cr-bo<0 then (1:Int) else 0)=b/\(0<=d/\d<1000000000)/\(b=0\/b=1)/\d=l.getD (at'+k) 0-cr-bo+1000000000*b:=by
   by_cases h:l.getD (at'+k) 0-cr-bo<0
   ·exact⟨_,_,if_pos h,if_pos h,by omega,.inr rfl,by omega⟩
   ·exact⟨_,_,if_neg h,if_neg h,by omega,.inl rfl,by omega⟩
  obtain⟨d,b,e1,e2,d0,b0,e3⟩:=hd;rw[e1,e2];refine⟨h1.set d0 _,by rw[List.length_set]; exact h2,b0,⟨hd0,hd1⟩,λj hj=>?_,?_,λh=>?_⟩
  ·show (l.set (at'+k) d).getD j 0=_;rw[getD_set_ne _ _ Z];exact h5 j Z
  ·show vl (l.set (at'+k) d)=_+(b+cq)*_;rw[aE1 l _ _ hlen,h6,c2,hpw,e3];generalize l.getD (at'+k) 0=x;grind
  ·show cq=0;have:=c3 Z;have hk':k=q.length\/q.length<k:=Z
   omega
def bkS(q:List Int) (at':Nat) (p:List Int):Nat->List Int×Int
 | 0=>(p,0)
 | k+1 =>
  let s:=bkS q at' p k
  let c:=if k<q.length then s.2+s.1.getD (at'+k) 0+q.getD k 0 else s.2+s.1.getD (at'+k) 0
  (s.1.set (at'+k) (c%1000000000),c/1000000000)
structure BkI (q:List Int) (at':Nat) (p:List Int) (k:Nat) (s:List Int×Int):Prop where
 pc:Pc s.1
 len:s.1.length=p.length
 ca:s.2=0\/s.2=1
 hi:∀ j,at'+k<=j->s.1.getD j 0=p.getD j 0
 val:vl s.1=vl p+pw at'*vl (q.take k)-s.2*pw (at'+k)
theorem bkI {q at' p}(hp:Pc p)(hq:Pc q)(hl:at'+q.length<p.length):∀ k,k<=q.length+1->BkI q at' p k (bkS q at' p k)
 | 0,_=>⟨hp,rfl,.inl rfl,λ_ _=>rfl,by simp[bkS,vl]⟩
 | k+1,hk=>by
  have ih:=bkI hp hq hl k Z;rw[bkS];generalize bkS q at' p k=s at ih;obtain⟨l,ca⟩:=s;obtain⟨h1,h2,h3,h5,h6⟩:=ih;dsimp only at h1 h2 h3 h5 h6 ⊢;have hlen:at'+k<l.length:=Z
  have hx:=h1.get (at'+k);have hqk:=hq.get k;have hc:∃ c,(if k<q.length then ca+l.getD (at'+k) 0+q.getD k 0 else ca+l.getD (at'+k) 0)=c/\0<=c/\c<2*1000000000/\pw at'*vl (q.take (k+1))=pw at'*vl (q.take k)+(c-ca-l.getD (at'+k) 0)*pw (at'+k):=by
   by_cases h:k<q.length
   ·refine⟨_,if_pos h,by omega,by omega,?_⟩;rw[GL q k h,aDQ];grind
   ·grind
  obtain⟨c,e,c0,c1,c2⟩:=hc;rw[e];have hdm:=Int.emod_add_mul_ediv c 1000000000;have hpw:pw (at'+(k+1))=1000000000*pw (at'+k):=KA (at'+k);have hd0:c/1000000000=0\/c/1000000000=1:=Z
  have hr0:0<=c%1000000000/\c%1000000000<1000000000:=Z
  generalize c/1000000000=cq at *;generalize c%1000000000=cr at *;refine⟨h1.set hr0 _,by rw[List.length_set]; exact h2,hd0,λj hj=>?_,?_⟩
  ·grind
  ·show vl (l.set (at'+k) cr)=_-cq*_;rw[aE1 l _ _ hlen,h6,c2,hpw];generalize l.getD (at'+k) 0=x at *;grind
def tmI(q:List Int) (a:Int) (i:Nat) (o:List Int):Nat->List Int×Int
 | 0=>(o,0)
 | k+1 =>
  let s:=tmI q a i o k
  let c:=s.2+(s.1.getD (i+k) 0+a*q.getD k 0)
  (s.1.set (i+k) (c%1000000000),c/1000000000)
structure TmI (q:List Int) (a:Int) (i:Nat) (o:List Int) (k:Nat) (s:List Int×Int):Prop where
 pc:Pc s.1
 len:s.1.length=o.length
 ca:0<=s.2/\s.2<1000000000
 hi:∀ j,i+k<=j->s.1.getD j 0=o.getD j 0
 val:vl s.1+s.2*pw (i+k)=vl o+a*pw i*vl (q.take k)
theorem aSO {q o a i}(ho:Pc o)(hq:Pc q)(ha:0<=a/\a<1000000000)(hl:i+q.length<=o.length):∀ k,k<=q.length->TmI q a i o k (tmI q a i o k)
 | 0,_=>⟨ho,rfl,⟨Int.le_refl _,by show (0:Int)<1000000000; decide⟩,λ_ _=>rfl,by simp[tmI,vl]⟩
 | k+1,hk=>by
  have ih:=aSO ho hq ha hl k Z;rw[tmI];generalize tmI q a i o k=s at ih;obtain⟨l,ca⟩:=s;obtain⟨h1,h2,h3,h5,h6⟩:=ih;dsimp only at h1 h2 h3 h5 h6 ⊢;have hlen:i+k<l.length:=Z
  have hx:=h1.get (i+k);have hm:=N2 ha (hq.get k);have e2:a*pw i*vl (q.take (k+1))=a*pw i*vl (q.take k)+(a*q.getD k 0)*pw (i+k):=by
   rw[GL q k Z,aDQ];grind
  have hpw:pw (i+(k+1))=1000000000*pw (i+k):=KA (i+k);generalize a*q.getD k 0=m at *;have hdm:=Int.emod_add_mul_ediv (ca+(l.getD (i+k) 0+m)) 1000000000;have hq0:0<=(ca+(l.getD (i+k) 0+m))/1000000000/\(ca+(l.getD (i+k) 0+m))/1000000000<1000000000:=Z
  have hr0:0<=(ca+(l.getD (i+k) 0+m))%1000000000/\(ca+(l.getD (i+k) 0+m))%1000000000<1000000000:=Z
  generalize (ca+(l.getD (i+k) 0+m))/1000000000=cq at *;generalize (ca+(l.getD (i+k) 0+m))%1000000000=cr at *;refine⟨h1.set hr0 _,by rw[List.length_set]; exact h2,hq0,λj hj=>?_,?_⟩
  ·grind
  ·show vl (l.set (i+k) cr)+cq*_=_;rw[aE1 l _ _ hlen,e2,hpw];grind
def tmO(p q o:List Int):Nat->List Int
 | 0=>o
 | i+1 =>
  let s:=tmI q (p.getD i 0) i (tmO p q o i) q.length
  s.1.set (i+q.length) s.2
theorem aQW {p q}(hp:Pc p)(hq:Pc q):∀ i,i<=p.length->Pc (tmO p q (List.replicate (p.length+q.length) 0) i)/\(tmO p q (List.replicate (p.length+q.length) 0) i).length=p.length+q.length/\vl (tmO p q (List.replicate (p.length+q.length) 0) i)=vl (p.take i)*vl q/\∀ j,i+q.length<=j->(tmO p q (List.replicate (p.length+q.length) 0) i).getD j 0=0
 | 0,_=>⟨Pc.rep _,by simp[tmO],by simp[tmO,YS,vl],λj _=>by simp[tmO,List.getD_eq_getElem?_getD,List.getElem?_replicate]; split <;> rfl⟩
 | i+1,hi=>by
  obtain⟨h1,h2,h3,h4⟩:=aQW hp hq i Z;rw[tmO];have k:=aSO h1 hq (hp.get i) (i:=i) Z q.length (Nat.le_refl _);obtain⟨g1,g2,g3,g4,g5⟩:=k;refine⟨g1.set g3 _,by rw[List.length_set,g2,h2],?_,λj hj=>?_⟩
  ·rw[aE1 _ _ _ Z,g4 _ (Nat.le_refl _),h4 _ (Nat.le_refl _),GL p i Z];grind
  ·rw[getD_set_ne _ _ Z,g4 j Z];grind
theorem a1O a b:BU (tmO (pcs a) (pcs b) (List.replicate ((pcs a).length+(pcs b).length) 0) (pcs a).length)=pcs (a*b):=by
 obtain⟨a1,a2,a3⟩:=iY a;obtain⟨b1,b2,b3⟩:=iY b;obtain⟨h1,h2,h3,h4⟩:=aQW a1 b1 _ (Nat.le_refl _);refine JH h1 ?_;grind
def smS(p:List Int) (n:Int):Nat->List Int×Int
 | 0=>(List.replicate p.length 0,0)
 | t+1 =>
  let s:=smS p n t
  let r:=s.2*1000000000+p.getD (p.length-1-t) 0
  (s.1.set (p.length-1-t) (r/n),r%n)
structure SmI (p:List Int) (n:Int) (t:Nat) (s:List Int×Int):Prop where
 pc:Pc s.1
 len:s.1.length=p.length
 re:0<=s.2/\s.2<n
 lo:∀ j,j<p.length-t->s.1.getD j 0=0
 val:vl (p.drop (p.length-t))*pw (p.length-t)=n*vl s.1+s.2*pw (p.length-t)
theorem smI {p n}(hp:Pc p)(hn:0<n/\n<1000000000):∀ t,t<=p.length->SmI p n t (smS p n t)
 | 0,_=>⟨Pc.rep _,by simp[smS],⟨Int.le_refl _,hn.1⟩,λj _=>by simp[smS,List.getD_eq_getElem?_getD,List.getElem?_replicate]; split <;> rfl,by simp[smS,vl,YS]⟩
 | t+1,ht=>by
  have ih:=smI hp hn t Z;rw[smS];generalize smS p n t=s at ih;obtain⟨l,r⟩:=s;obtain⟨h1,h2,h3,h4,h5⟩:=ih;dsimp only at h1 h2 h3 h4 h5 ⊢;obtain⟨i,hi⟩:∃ i,p.length-1-t=i:=⟨_,rfl⟩;have ei:p.length-t=i+1:=Z
  have ei':p.length-(t+1)=i:=Z
  rw[hi];rw[ei]at h4 h5;have hx:=hp.get i;have hz:l.getD i 0=0:=h4 i Z;have hdr:p.drop i=p.getD i 0::p.drop (i+1):=by rw[List.drop_eq_getElem_cons Z,List.getD_eq_getElem?_getD,List.getElem?_eq_getElem Z]; rfl
  generalize p.getD i 0=x at *;have hdm:=Int.emod_add_mul_ediv (r*1000000000+x) n;have hr0:0<=(r*1000000000+x)%n/\(r*1000000000+x)%n<n:=⟨Int.emod_nonneg _ Z,Int.emod_lt_of_pos _ hn.1⟩;have hq0:0<=(r*1000000000+x)/n:=Int.ediv_nonneg Z Z;have hq1:(r*1000000000+x)/n<1000000000:=by
   refine Int.ediv_lt_of_lt_mul hn.1 ?_;omega
  generalize (r*1000000000+x)/n=cq at *;generalize (r*1000000000+x)%n=cr at *;refine⟨h1.set ⟨hq0,hq1⟩ _,by rw[List.length_set]; exact h2,hr0,λj hj=>?_,?_⟩
  ·show (l.set i cq).getD j 0=0;rw[getD_set_ne _ _ Z];grind
  ·show _=n*vl (l.set i cq)+cr*_;rw[ei',aE1 l _ _ Z,hdr,vl,hz];grind
theorem a1Z a {n:Nat}(hn:0<n/\n<1000000000):BU (smS (pcs a) n (pcs a).length).1=pcs (a/n)/\(smS (pcs a) n (pcs a).length).2=((a%n:Nat)):=by
 obtain⟨a1,a2,a3⟩:=iY a;have k:=smI a1 (n:=n) Z _ (Nat.le_refl _);generalize smS (pcs a) n (pcs a).length=s at k;obtain⟨h1,h2,h3,h4,h5⟩:=k;have hv0:=sC h1;obtain⟨v,hv⟩:∃ v:Nat,vl s.1=v:=⟨(vl s.1).toNat,by omega⟩;obtain⟨r,hr⟩:∃ r:Nat,s.2=r:=⟨s.2.toNat,by omega⟩;have e:a=n*v+r:=W
 have e1:a/n=v:=by rw[e,Nat.mul_add_div hn.1,Nat.div_eq_of_lt Z,Nat.add_zero]
 have e2:a%n=r:=by rw[e,Nat.mul_add_mod,Nat.mod_eq_of_lt Z]
 rw[e1,e2];exact⟨JH h1 hv,hr⟩
end Go.De
namespace Go.De
theorem a7B {a:List Int} (h:Pc a) {k:Nat} (hz:∀ j,k<j->a.getD j 0=0) (hk:k<a.length):a.getD k 0*pw k<=vl a/\vl a<(a.getD k 0+1)*pw k:=by
 have e:=S0 a (k+1) Z;have e2:=GL a k hk;have n1:=sC (h.aC4 k);have n2:=OJ (h.aC4 k);rw[List.length_take,Nat.min_eq_left Z]at n2;have:vl (a.drop (k+1))=0:=by
  have:a.drop (k+1)=List.replicate (a.drop (k+1)).length 0:=by
   rw[List.eq_replicate_iff];refine⟨rfl,λx hx=>?_⟩;obtain⟨i,hi,rfl⟩:=List.getElem_of_mem hx;have:=hz (k+1+i) Z;grind
  rw[this,YS]
 grind
theorem aZ0 {a}(h:Pc a){k}(hz:∀ j,k+1<j->a.getD j 0=0)(hk:k+1<a.length):(a.getD (k+1) 0*1000000000+a.getD k 0)*pw k<=vl a/\vl a<(a.getD (k+1) 0*1000000000+a.getD k 0+1)*pw k:=by
 have e:=S0 a (k+2) Z;have e2:=GL a (k+1) hk;have e3:=GL a k Z;have n1:=sC (h.aC4 k);have n2:=OJ (h.aC4 k);have:vl (a.drop (k+2))=0:=by
  have:a.drop (k+2)=List.replicate (a.drop (k+2)).length 0:=by
   rw[List.eq_replicate_iff];refine⟨rfl,λx hx=>?_⟩;obtain⟨i,hi,rfl⟩:=List.getElem_of_mem hx;have:=hz (k+2+i) Z;grind
  rw[this,YS]
 rw[this,Int.mul_zero,Int.add_zero,e2,e3,KA]at e;grind
theorem a8F {a}(h:Pc a){k}(hz:∀ j,k+2<j->a.getD j 0=0)(hk:k+2<a.length):((a.getD (k+2) 0*1000000000+a.getD (k+1) 0)*1000000000+a.getD k 0)*pw k<=vl a/\vl a<((a.getD (k+2) 0*1000000000+a.getD (k+1) 0)*1000000000+a.getD k 0+1)*pw k:=by
 have e:=S0 a (k+3) Z;have e1:=GL a (k+2) hk;have e2:=GL a (k+1) Z;have e3:=GL a k Z;have n1:=sC (h.aC4 k);have n2:=OJ (h.aC4 k);rw[List.length_take,Nat.min_eq_left Z]at n2;have:vl (a.drop (k+3))=0:=by
  have:a.drop (k+3)=List.replicate (a.drop (k+3)).length 0:=by
   rw[List.eq_replicate_iff];refine⟨rfl,λx hx=>?_⟩;obtain⟨i,hi,rfl⟩:=List.getElem_of_mem hx;have:=hz (k+3+i) Z;grind
  rw[this,YS]
 have p1:pw (k+1)=1000000000*pw k:=KA k;have p2:pw (k+2)=1000000000*(1000000000*pw k):=by rw[KA (k+1),p1]
 rw[this,Int.mul_zero,Int.add_zero,e1,e2,e3,p1,p2]at e;grind
def SW(bt b2 a2 g r:Int):Prop:=1000000000<=g\/(r<1000000000/\r*1000000000+a2<g*b2)
instance (bt b2 a2 g r:Int):Decidable (SW bt b2 a2 g r):=by unfold SW; infer_instance
structure Gs (A V P K a2 high bt b2:Int):Prop where
 P0:0<P
 K0:0<K
 A2:(high*1000000000+a2)*(K*P)<=A
 A3:A<(high*1000000000+a2+1)*(K*P)
 a20:0<=a2/\a2<1000000000
 V2:(bt*1000000000+b2)*K<=V
 V3:V<(bt*1000000000+b2+1)*K
 b20:0<=b2/\b2<1000000000
 bt0:0<bt
 h0:0<=high
theorem aMY {a b:Int}(ha:0<a)(hb:0<b):0<a*b:=Int.mul_pos ha hb
theorem aBC {a b c:Int}(h:a<=b)(hc:0<=c):a*c<=b*c:=Int.mul_le_mul_of_nonneg_right h hc
theorem Gs.start {A V P K a2 high bt b2 qh:Int} (h:Gs A V P K a2 high bt b2) (hq0:0<=qh) (hq:qh*(V*P)<=A):qh<=high/bt:=by
 rw[Int.le_ediv_iff_mul_le h.bt0];have hKP:=aMY h.K0 h.P0;have h1:qh*((bt*1000000000)*K*P)<=qh*(V*P):=by
  refine Int.mul_le_mul_of_nonneg_left ?_ hq0;refine aBC ?_ (Int.le_of_lt h.P0);refine Int.le_trans ?_ h.V2;exact aBC (by have:=h.b20; omega) (Int.le_of_lt h.K0)
 have h2:A<((high+1)*1000000000)*(K*P):=by
  refine Int.lt_of_lt_of_le h.A3 (aBC ?_ (Int.le_of_lt hKP));have:=h.a20; omega
 have h3:(qh*bt*1000000000)*(K*P)<((high+1)*1000000000)*(K*P):=W
 have h4:=Int.lt_of_mul_lt_mul_right h3 (Int.le_of_lt hKP);omega
theorem Gs.down {A V P K a2 high bt b2 qh g r}(h:Gs A V P K a2 high bt b2)(hq0:0<=qh)(hq:qh*(V*P)<=A)(hqB:qh<1000000000)(hg:qh<=g)(hr:r=high-g*bt)(hc:SW bt b2 a2 g r):qh<=g-1:=by
 rcases hc with hc|⟨_,hc⟩
 ·omega
 ·have:¬ g=qh:=λe=>by
   subst e;have hKP:=aMY h.K0 h.P0;have h1 :=Int.mul_le_mul_of_nonneg_left (aBC h.V2 (Int.le_of_lt h.P0)) hq0;have h2:high*1000000000+a2+1<=g*(bt*1000000000+b2):=W
   have h3:=aBC h2 (Int.le_of_lt hKP);have h4:g*(bt*1000000000+b2)*(K*P)=g*((bt*1000000000+b2)*K*P):=W
   have:=h.A3;omega
  omega
theorem Gs.stop {A V P K a2 high bt b2 g r}(h:Gs A V P K a2 high bt b2)(hg:0<=g)(hr:r=high-g*bt)(hc:¬ SW bt b2 a2 g r):(g-1)*(V*P)<=A:=by
 unfold SW at hc;have hKP:=aMY h.K0 h.P0;have hVP:1000000000*(K*P)<=V*P:=by
  have h1:1000000000*K<=V:=Int.le_trans (aBC (by have:=h.b20; have:=h.bt0; omega) (Int.le_of_lt h.K0)) h.V2;have:=aBC h1 (Int.le_of_lt h.P0);grind
 have hV3:g*(V*P)<=g*((bt*1000000000+b2+1)*K*P):=Int.mul_le_mul_of_nonneg_left (aBC (Int.le_of_lt h.V3) (Int.le_of_lt h.P0)) hg;have e0:g*((bt*1000000000+b2+1)*K*P)=(g*bt*1000000000+g*b2+g)*(K*P):=W
 have e1:(g-1)*(V*P)=g*(V*P)-V*P:=W
 by_cases hrr:1000000000<=r
 ·-- g*(bt+1) <= high
  have h2:g*bt*1000000000+g*b2+g<=high*1000000000+a2+1000000000:=by
   have:=h.a20;have:=h.b20;have:g*b2<=g*999999999:=Int.mul_le_mul_of_nonneg_left Z hg;omega
  have h3:=aBC h2 (Int.le_of_lt hKP);have e3:(high*1000000000+a2+1000000000)*(K*P)=(high*1000000000+a2)*(K*P)+1000000000*(K*P):=W
  have:=h.A2;omega
 ·have h2:g*bt*1000000000+g*b2+g<=high*1000000000+a2+1000000000:=by
   grind
  have h3:=aBC h2 (Int.le_of_lt hKP);have e3:(high*1000000000+a2+1000000000)*(K*P)=(high*1000000000+a2)*(K*P)+1000000000*(K*P):=W
  have:=h.A2;omega
theorem aQL {C:Nat->Prop} [DecidablePred C]:∀ n,¬ C n->∃ m,m<=n/\¬ C m/\∀ t,t<m->C t
 | 0,h=>⟨0,Nat.le_refl _,h,λt ht=>absurd ht (Nat.not_lt_zero _)⟩
 | n+1,h=>by
  by_cases hall:∃ t,t<=n/\¬ C t
  ·obtain⟨t,ht,hc⟩:=hall;obtain⟨m,h1,h2,h3⟩:=aQL t hc;grind
  ·grind
theorem Gs.bAL {A V P K a2 high bt b2 qh}(h:Gs A V P K a2 high bt b2)(hq0:0<=qh)(hq:qh*(V*P)<=A)(hq1:A<(qh+1)*(V*P))(hqB:qh<1000000000) :
  ∃ m:Nat,m<=high/bt/\(∀ t ,t<m->SW bt b2 a2 (high/bt-t) (high%bt+t*bt))/\¬ SW bt b2 a2 (high/bt-m) (high%bt+m*bt)/\qh<=high/bt-m/\high/bt-m<=qh+1:=by
 have h0:=h.start hq0 hq;have hr:∀ t:Nat,high%bt+t*bt=high-(high/bt-t)*bt:=λt=>by
  have:=Int.emod_add_mul_ediv high bt;grind
 have hge:∀ m:Nat,(∀ t:Nat,t<m->SW bt b2 a2 (high/bt-t) (high%bt+t*bt))->qh<=high/bt-m:=by
  intro m
  induction m with
  | zero=>intro _; simpa using h0
  | succ m ih =>
   intro hc;have h1:=ih λt ht=>hc t Z
   have h2:=h.down hq0 hq hqB h1 (hr m) (hc m Z);omega
 obtain⟨n,hn⟩:∃ n:Nat,high/bt=n:=⟨(high/bt).toNat,by omega⟩;have hlast:¬ SW bt b2 a2 (high/bt-((n:Nat):Int)) (high%bt+(n:Nat)*bt):=λhc=>by
  by_cases hall:∀ t:Nat,t<n->SW bt b2 a2 (high/bt-t) (high%bt+t*bt)
  ·have h1:=hge n hall;have h2:=h.down hq0 hq hqB h1 (hr n) hc;omega
  ·-- a false test below would have stopped: monotone in t
   unfold SW at hc;rw[hn,Int.sub_self,Int.zero_mul]at hc;have hre:=Int.emod_nonneg high (show bt≠0 by have:=h.bt0; omega);have hnb:0<=(n:Int)*bt:=Int.mul_nonneg Z (Int.le_of_lt h.bt0);have:=h.a20;omega
 obtain⟨m,h1,h2,h3⟩:=aQL (C:=λt:Nat=>SW bt b2 a2 (high/bt-t) (high%bt+t*bt)) n hlast;have h4:=hge m h3;refine⟨m,by omega,h3,h2,h4,?_⟩;have h5:=h.stop (g:=high/bt-m) Z (hr m) h2;have:¬ qh+1<high/bt-m:=λhlt=>by
  have hVP:0<V*P:=aMY (by
   have:=h.V2;have:0<(bt*1000000000+b2)*K:=aMY (by have:=h.b20; have:=h.bt0; omega) h.K0;omega) h.P0
  have:=aBC (show qh+1<=high/bt-m-1 by omega) (Int.le_of_lt hVP);omega
 omega
theorem aYD {a b:List Int} {i n:Nat} {g qh:Int} (ha:Pc a) (hb:Pc b) (hbl:b.length=n) (hl:i+n<a.length) (hz:vl a<pw (i+n+1)) (hg:0<=g/\g<1000000000) (hq0:qh*(vl b*pw i)<=vl a) (hq1:vl a<(qh+1)*(vl b*pw i)) (g0:qh<=g) (g1:g<=qh+1) :
  ((tkS b g i a (n+1)).2.1=0/\g=qh/\Pc (tkS b g i a (n+1)).1/\(tkS b g i a (n+1)).1.length=a.length/\vl (tkS b g i a (n+1)).1=vl a-qh*(vl b*pw i)) \/
  ((tkS b g i a (n+1)).2.1=1/\g=qh+1/\Pc (tkS b g i a (n+1)).1/\(tkS b g i a (n+1)).1.length=a.length/\Pc (bkS b i (tkS b g i a (n+1)).1 (n+1)).1/\(bkS b i (tkS b g i a (n+1)).1 (n+1)).1.length=a.length/\vl (bkS b i (tkS b g i a (n+1)).1 (n+1)).1=vl a-qh*(vl b*pw i)):=by
 subst hbl;have k:=tkI ha hb hg hl (b.length+1) (Nat.le_refl _);generalize tkS b g i a (b.length+1)=s at k;obtain⟨h1,h2,h3,h4,h5,h6,h7⟩:=k;have hca:=h7 Z;have hz1:=a0A h1 (k:=i+b.length+1) λj hj=>by
  rw[h5 j Z];exact I6 ha hz hj
 rw[List.take_of_length_le (show b.length<=b.length+1 by omega),hca,Int.add_zero]at h6;have hn:=sC h1;have e1:g*pw i*vl b=g*(vl b*pw i):=W
 have p1:pw (i+(b.length+1))=pw (i+b.length+1):=rfl;rcases h3 with hb0|hb1
 ·refine .inl ⟨hb0,?_,h1,h2,?_⟩
  ·have:¬ g=qh+1:=λe=>by
    grind
   omega
  ·have:g=qh:=by
    have:¬ g=qh+1:=λe=>W
    omega
   grind
 ·have eg:g=qh+1:=by
   have:¬ g=qh:=λe=>by
    subst e;rw[hb1,Int.one_mul]at h6;omega
   omega
  refine .inr ⟨hb1,eg,h1,h2,?_⟩;have kb:=bkI h1 hb (at':=i) Z (b.length+1) (Nat.le_refl _);have hz2:∀ j,i+b.length+1<=j->(bkS b i s.1 (b.length+1)).1.getD j 0=0:=λj hj=>by
   rw[kb.hi j Z,h5 j Z];exact I6 ha hz hj
  generalize bkS b i s.1 (b.length+1)=u at kb hz2;obtain⟨u1,u2,u3,u5,u6⟩:=kb;have hz3:=a0A u1 hz2;have hn2:=sC u1;rw[List.take_of_length_le (show b.length<=b.length+1 by omega),p1]at u6;rw[hb1,Int.one_mul]at h6;have e2:(qh+1)*(vl b*pw i)=qh*(vl b*pw i)+vl b*pw i:=W
  have e3:pw i*vl b=vl b*pw i:=Int.mul_comm _ _;subst eg;refine⟨u1,u2.trans h2,?_⟩;rcases u3 with hc|hc
  ·rw[hc,Int.zero_mul]at u6;omega
  ·rw[hc,Int.one_mul]at u6;omega
theorem bCP {a b:List Int} {i n:Nat} (ha:Pc a) (hb:Pc b) (hbl:b.length=n+2) (htop:0<b.getD (n+1) 0) (hl:i+n+2<a.length) (hz:vl a<pw (i+n+3)) :
  Gs (vl a) (vl b) (pw i) (pw n) (a.getD (i+n) 0) (a.getD (i+n+2) 0*1000000000+a.getD (i+n+1) 0) (b.getD (n+1) 0) (b.getD n 0):=by
 have h1:=a8F ha (k:=i+n) (λj hj=>I6 ha hz Z) Z;have h2:=aZ0 hb (k:=n) (λj hj=>I6 hb (k:=n+2) (by have:=OJ hb; rw[hbl]at this; exact this) Z) Z;have e:pw n*pw i=pw (i+n):=by rw[aDQ,Int.mul_comm]
 exact⟨PE i,PE n,by rw[e]; exact h1.1,by rw[e]; exact h1.2,ha.get _,h2.1,h2.2,hb.get _,htop,by have:=ha.get (i+n+2); have:=ha.get (i+n+1); omega⟩
end Go.De
namespace Go.PM
open Go Go.RowKit Go.Proofs Go.De
theorem a6J {x}(h1:0<=x)(h2:x<256):aC .u8 x=x:=by
 show x%256=x;grind
theorem aYP {x}(h1:0<=x)(h2:x<18446744073709551616):IntKind.wrap .u64 x=x:=sL h1 h2
theorem a0L {x}(h1:0<=x)(h2:x<256):IntKind.wrap .u8 x=x:=a6J h1 h2
theorem aL5(a:Nat):Nat.beq a a=true:=R
theorem S5(l:List Int) i:dC [l] 0 i 0=l.getD i 0:=rfl
theorem RV l i (x:Int):xX [l] 0 i x=[l.set i x]:=rfl
theorem SX(l:List Int):cT [l] 0=l.length:=rfl
theorem bCJ {σ τ:Type} {step:σ->Option (σ⊕τ)} {N:Nat} {Z:τ->Prop} (I:Nat->σ->Prop) (m:Nat) (x:σ) (hN:m<N) (h0:I 0 x)
  (h:∀ i y,i<m->I i y->∃ y',step y=some (.inl y')/\I (i+1) y') (he:∀ y,I m y->∃ z,step y=some (.inr z)/\Z z):∃ z,bH step N x=some z/\Z z:=by
 suffices H:∀ k i y,i+k=m->I i y->∃ z,bH step (k+1+(N-m-1)) y=some z/\Z z by
  have:=H m 0 x (Nat.zero_add m) h0;grind
 intro k
 induction k with
 | zero =>
  intro i y hi hy;have hi:i=m:=za
  subst hi;obtain⟨z,e1,e2⟩:=he y hy;rw[show 0+1+(N-i-1)=(N-i-1)+1 by omega,cZ,e1];grind
 | succ k ih =>
  intro i y hi hy;obtain⟨y',e1,e2⟩:=h i y za hy;rw[show k+1+1+(N-m-1)=(k+1+(N-m-1))+1 by omega,cZ,e1];grind
theorem a10 {l:List Int} (hl:l.length<9223372036854775807) (A:List (List Int)):∀ n,l.length<=n->∀ k,bH jO (n+1+k) (l,A,())=some (BU l,A,()):=by
 intro n
 induction n generalizing l with
 | zero =>
  intro h k;have:l=[]:=List.eq_nil_of_length_eq_zero Z;subst this;rw[show 0+1+k=k+1 by omega,cZ];rfl
 | succ n ih =>
  intro h k;rw[show n+1+1+k=(n+1+k)+1 by omega,cZ];rcases List.eq_nil_or_concat l with rfl|⟨a,x,rfl⟩
  ·rfl
  ·rw[List.concat_eq_append]at hl h ⊢;have hlen:(a++[x]).length=a.length+1:=R
   have e1:ltI 0 ((a.length+1:Nat):Int)=true:=by rw[aE]; exact oT Z
   have e2:aC .i64 (((a.length+1:Nat):Int)-1)=(a.length:Int):=by rw[wrap64 Z Z]; omega
   have e3:aF (a.length:Int) (a.length+1)=true:=by rw[aL]; exact oT Z
   have e4:Nat.blt a.length (a.length+1)=true:=by rw[cA]; exact oT Z
   have e5:(a++[x]).getD a.length 0=x:=by simp[oQ]
   have e6:ltI (a.length:Int) 0=false:=by rw[aE]; exact oF Z
   have e7:Nat.ble 0 a.length=true:=rfl;have e8:Nat.ble a.length (a.length+1)=true:=by rw[dM]; exact oT Z
   have e9:Nat.blt 0 (a.length+1)=true:=by rw[cA]; exact oT Z
   have e10:(a++[x]).take a.length=a:=R
   simp only[jO,hlen,e1,e2,oN,e3,e4,e5,e6,e7,e8,e9,oC,Nat.sub_zero,e10,dW,Bool.not_false]
   by_cases hx:x=0
   ·subst hx;rw[Y5];grind
   ·simp only[hx,decide_false,oD];rw[aEQ a hx]
theorem XW {l}(hl:l.length<=4000000) A:bN l () A=some (BU l,A):=by
 have h:=a10 Z A l.length (oM _) (2^64-l.length-1);rw[show l.length+1+(2^64-l.length-1)=2^64 by omega]at h;show (aB (bH jO (2^64) (l,A,())) _)=_;rw[h,aD]
theorem a2X {n:Int}:xO ([n],())=some (BU [n],()):=by
 have h1:wZ ([n],())=if n=0 then some (.inl ([],())) else some (.inr ([n],())):=by
  show (bif eqI n 0 then _ else _)=_;rw[dW,aG4];rfl
 show (aB (bH wZ (2^64) ([n],())) _)=_;rw[show 2^64=18446744073709551614+1+1 by rfl,cZ,h1]
 by_cases h:n=0
 ·subst h;rfl
 ·rw[if_neg h];have:=aEQ [] h;show some ([n],())=some (BU [n],());grind
theorem a01 {x:Int} (h:0<=x):x.tmod 1000000000=x%1000000000:=Int.tmod_eq_emod_of_nonneg h
theorem a05 {x:Int}(h:0<=x):x.tdiv 1000000000=x/1000000000:=Int.tdiv_eq_ediv_of_nonneg h
theorem a1A {p q}{n:Int}{at'}(hp:Pc p)(hq:Pc q)(hn:0<=n/\n<1000000000)(hl:at'+q.length<p.length)(hpl:p.length<=4000000) :
  aC1 (t:=.int .u64) eW p (q,n,(at':Int),())=some ((decide (0<(tkS q n at' p (q.length+1)).2.1),()),(tkS q n at' p (q.length+1)).1):=by
 have key:=aY (step:=eX) (N:=2^64) (λt=>((0,0,p.length),q,n,(at':Int),(tkS q n at' p t).2.1,(tkS q n at' p t).2.2,(t:Int),[(tkS q n at' p t).1],())) (q.length+1)
  ((tkS q n at' p (q.length+1)).2.1,[(tkS q n at' p (q.length+1)).1],()) Z (λt ht=>?_) ?_
 ·have key:bH eX (2^64) ((0,0,p.length),q,n,(at':Int),0,0,0,[p],())=_:=key;have hlen:=(tkI hp hq hn hl (q.length+1) (oM _)).len;unfold aC1 eW;simp only[qA,key,aD,hlen,aL5,oC,aE]
 ·have hI:=tkI hp hq hn hl t Z;rw[tkS];generalize tkS q n at' p t=s at hI;obtain⟨l,bo,ca⟩:=s;obtain⟨h1,h2,h3,h4,h5,h6,h7⟩:=hI;dsimp only at h1 h2 h3 h4 h5 h6 h7 ⊢;have hx:=h1.get (at'+t);have hqt:=hq.get t;have hm:=N2 hn hqt;have e1:ltI (q.length:Int) (t:Int)=false:=by rw[aE]; exact oF Z
  have e2:aC .i64 ((at':Int)+(t:Int))=((at'+t:Nat):Int):=by rw[wrap64 Z Z]; omega
  have e3:aF ((at'+t:Nat):Int) p.length=true:=by rw[aL]; exact oT Z
  have e4:Nat.blt (at'+t) l.length=true:=by rw[cA]; exact oT Z
  have e5:(0+(at'+t))*1=at'+t:=Z
  have e6:=bO t Z;have main:∀ c:Int,0<=c->c<1000000000000000000 ->
    (bif ltI (aC .i64 (aC .i64 (IntKind.wrap .i64 (l.getD (at'+t) 0)-IntKind.wrap .i64 (c.tmod 1000000000))-bo)) 0 then
     (some (Sum.inl ((0,0,p.length),q,n,(at':Int),1,aC .u64 (c.tdiv 1000000000),((t+1:Nat):Int),[l.set (at'+t) (IntKind.wrap .u64 (aC .i64 (aC .i64 (aC .i64 (IntKind.wrap .i64 (l.getD (at'+t) 0)-IntKind.wrap .i64 (c.tmod 1000000000))-bo)+1000000000)))],())):Option (Shape.den fY⊕fQ jX))
    else some (Sum.inl ((0,0,p.length),q,n,(at':Int),0,aC .u64 (c.tdiv 1000000000),((t+1:Nat):Int),[l.set (at'+t) (IntKind.wrap .u64 (aC .i64 (aC .i64 (IntKind.wrap .i64 (l.getD (at'+t) 0)-IntKind.wrap .i64 (c.tmod 1000000000))-bo)))],()))) =
    some (Sum.inl ((0,0,p.length),q,n,(at':Int),(if l.getD (at'+t) 0-c%1000000000-bo<0 then 1 else 0),c/1000000000,((t+1:Nat):Int),[l.set (at'+t) (if l.getD (at'+t) 0-c%1000000000-bo<0 then l.getD (at'+t) 0-c%1000000000-bo+1000000000 else l.getD (at'+t) 0-c%1000000000-bo)],())):=by
   intro c c0 c1;have hd1:0<=c%1000000000/\c%1000000000<1000000000:=Z
   have hd2:0<=c/1000000000/\c/1000000000<1000000000:=Z
   rw[a01 c0,a05 c0];generalize c%1000000000=cr at *;generalize c/1000000000=cq at *;rw[XQ (x:=l.getD (at'+t) 0) Z Z,XQ (x:=cr) Z Z,wrap64 (x:=l.getD (at'+t) 0-cr) Z Z,wrap64 (x:=l.getD (at'+t) 0-cr-bo) Z Z,sL (x:=cq) Z Z,aE,aG4]
   by_cases h:l.getD (at'+t) 0-cr-bo<0
   ·rw[if_pos h,if_pos h,if_pos h,wrap64 Z Z,aYP Z Z]
   ·rw[if_neg h,if_neg h,if_neg h,aYP Z Z]
  by_cases hqt':t<q.length
  ·have e7:ltI (t:Int) (q.length:Int)=true:=by rw[aE]; exact oT Z
   have e8:aF (t:Int) q.length=true:=by rw[aL]; exact oT Z
   have e9:aC .u64 (ca+aC .u64 (n*q.getD t 0))=ca+n*q.getD t 0:=by rw[sL (x:=n*q.getD t 0) Z Z,sL Z Z]
   rw[if_pos hqt',<- main (ca+n*q.getD t 0) Z Z];simp only[eX,e1,e2,e3,e4,e5,e6,e7,e8,e9,oC,Bool.not_false,oN,S5,RV,SX]
  ·have e7:ltI (t:Int) (q.length:Int)=false:=by rw[aE]; exact oF Z
   rw[if_neg hqt',<- main ca Z Z];simp only[eX,e1,e2,e3,e4,e5,e6,e7,oC,oD,Bool.not_false,oN,S5,RV,SX]
 ·have e1:ltI (q.length:Int) ((q.length+1:Nat):Int)=true:=by rw[aE]; exact oT Z
  simp only[eX,e1,Bool.not_true,oD]
theorem back_eq {p q at'} (hp:Pc p) (hq:Pc q) (hl:at'+q.length<p.length) (hpl:p.length<=4000000) :
  X8 (t:=.int .u64) dG p (q,(at':Int),())=some (bkS q at' p (q.length+1)).1:=by
 have key:=aY (step:=eV) (N:=2^64) (λt=>((0,0,p.length),q,(at':Int),(bkS q at' p t).2,(t:Int),[(bkS q at' p t).1],())) (q.length+1)
  ([(bkS q at' p (q.length+1)).1],()) Z (λt ht=>?_) ?_
 ·have key:bH eV (2^64) ((0,0,p.length),q,(at':Int),0,0,[p],())=_:=key;have hlen:=(bkI hp hq hl (q.length+1) (oM _)).len;unfold X8 dG;simp only[p8,key,aD,hlen,aL5,oC]
 ·have hI:=bkI hp hq hl t Z;rw[bkS];generalize bkS q at' p t=s at hI;obtain⟨l,ca⟩:=s;obtain⟨h1,h2,h3,h5,h6⟩:=hI;dsimp only at h1 h2 h3 h5 h6 ⊢;have hx:=h1.get (at'+t);have hqt:=hq.get t;have e1:ltI (q.length:Int) (t:Int)=false:=by rw[aE]; exact oF Z
  have e2:aC .i64 ((at':Int)+(t:Int))=((at'+t:Nat):Int):=by rw[wrap64 Z Z]; omega
  have e3:aF ((at'+t:Nat):Int) p.length=true:=by rw[aL]; exact oT Z
  have e4:Nat.blt (at'+t) l.length=true:=by rw[cA]; exact oT Z
  have e5:(0+(at'+t))*1=at'+t:=Z
  have e6:=bO t Z;have e10:aC .u64 (ca+l.getD (at'+t) 0)=ca+l.getD (at'+t) 0:=sL Z Z
  by_cases hqt':t<q.length
  ·have e7:ltI (t:Int) (q.length:Int)=true:=by rw[aE]; exact oT Z
   have e8:aF (t:Int) q.length=true:=by rw[aL]; exact oT Z
   have e9:aC .u64 (ca+l.getD (at'+t) 0+q.getD t 0)=ca+l.getD (at'+t) 0+q.getD t 0:=sL Z Z;have e11:aC .u64 ((ca+l.getD (at'+t) 0+q.getD t 0)/1000000000)=(ca+l.getD (at'+t) 0+q.getD t 0)/1000000000:=sL Z Z;rw[if_pos hqt'];simp only[eV,e1,e2,e3,e4,e5,e6,e7,e8,e9,e10,oC,Bool.not_false,oN,S5,RV,SX,a05 (show 0<=ca+l.getD (at'+t) 0+q.getD t 0 by omega),a01 (show 0<=ca+l.getD (at'+t) 0+q.getD t 0 by omega),e11]
  ·have e7:ltI (t:Int) (q.length:Int)=false:=by rw[aE]; exact oF Z
   have e11:aC .u64 ((ca+l.getD (at'+t) 0)/1000000000)=(ca+l.getD (at'+t) 0)/1000000000:=sL Z Z;rw[if_neg hqt'];simp only[eV,e1,e2,e3,e4,e5,e6,e7,e10,oC,oD,Bool.not_false,oN,S5,RV,SX,a05 (show 0<=ca+l.getD (at'+t) 0 by omega),a01 (show 0<=ca+l.getD (at'+t) 0 by omega),e11]
 ·have e1:ltI (q.length:Int) ((q.length+1:Nat):Int)=true:=by rw[aE]; exact oT Z
  simp only[eV,e1,Bool.not_true,oD]
theorem a5E {q o}{a:Int}{i}(ho:Pc o)(hq:Pc q)(ha:0<=a/\a<1000000000)(hl:i+q.length<=o.length)(hol:o.length<=4000000)(v17:List Int)(v18 v19:Int)(A:List (List Int)) :
  nJ (q,o,(i:Int),a,0,v17,v18,v19,q,(q.length:Int),0,A,())=some (q,(tmI q a i o q.length).1,(i:Int),(tmI q a i o q.length).2,v17,v18,v19,A,()):=by
 refine aY (step:=jK) (N:=2^64) (λt=>(q,(tmI q a i o t).1,(i:Int),a,(tmI q a i o t).2,v17,v18,v19,q,(q.length:Int),(t:Int),A,())) q.length _ Z (λt ht=>?_) ?_
 ·have hI:=aSO ho hq ha hl t Z;rw[tmI];generalize tmI q a i o t=s at hI;obtain⟨l,ca⟩:=s;obtain⟨h1,h2,h3,h5,h6⟩:=hI;dsimp only at h1 h2 h3 h5 h6 ⊢;have hx:=h1.get (i+t);have hm:=N2 ha (hq.get t);have e1:ltI (t:Int) (q.length:Int)=true:=by rw[aE]; exact oT Z
  have e2:aC .i64 ((i:Int)+(t:Int))=((i+t:Nat):Int):=by rw[wrap64 Z Z]; omega
  have e3:aF ((i+t:Nat):Int) l.length=true:=by rw[aL]; exact oT Z
  have e4:Nat.blt (i+t) l.length=true:=by rw[cA]; exact oT Z
  have e5:aF (t:Int) q.length=true:=by rw[aL]; exact oT Z
  have e6:=bO t Z;have e7:aC .u64 (a*q.getD t 0)=a*q.getD t 0:=sL Z Z;have e8:aC .u64 (l.getD (i+t) 0+a*q.getD t 0)=l.getD (i+t) 0+a*q.getD t 0:=sL Z Z;have e9:aC .u64 (ca+(l.getD (i+t) 0+a*q.getD t 0))=ca+(l.getD (i+t) 0+a*q.getD t 0):=sL Z Z;have e10:aC .u64 ((ca+(l.getD (i+t) 0+a*q.getD t 0))/1000000000)=(ca+(l.getD (i+t) 0+a*q.getD t 0))/1000000000:=sL Z Z
  simp only[jK,e1,e2,e3,e4,e5,e6,e7,e8,e9,oC,oN,a05 (show 0<=ca+(l.getD (i+t) 0+a*q.getD t 0)by omega),a01 (show 0<=ca+(l.getD (i+t) 0+a*q.getD t 0)by omega),e10]
 ·have e1:ltI (q.length:Int) (q.length:Int)=false:=by rw[aE]; exact oF Z
  simp only[jK,e1,oD]
theorem aUN a b (hl:(pcs a).length+(pcs b).length<=1048576) A:fB () (pcs a,pcs b,()) A=some (pcs (a*b),A):=by
 obtain⟨a1,a2,a3⟩:=iY a;obtain⟨b1,b2,b3⟩:=iY b;have htm:=a1O a b;generalize pcs a=p at *;generalize pcs b=q at *;have key:=aY (step:=jQ) (N:=2^64) (λt=>(q,tmO p q (List.replicate (p.length+q.length) 0) t,p,(p.length:Int),(t:Int),A,())) p.length
  (tmO p q (List.replicate (p.length+q.length) 0) p.length,A,()) Z (λt ht=>?_) ?_
 ·have key:nH (q,List.replicate (p.length+q.length) 0,p,(p.length:Int),0,A,())=_:=key;have e2:aC .i64 ((p.length:Int)+(q.length:Int))=((p.length+q.length:Nat):Int):=by rw[wrap64 Z Z]; omega
  have e3:ltI ((p.length+q.length:Nat):Int) 0=false:=by rw[aE]; exact oF Z
  have e4:ltI ((p.length+q.length:Nat):Int) ((p.length+q.length:Nat):Int)=false:=by rw[aE]; exact oF Z
  have e5:ltI 1048576 ((p.length+q.length:Nat):Int)=false:=by rw[aE]; exact oF Z
  have hlen:=(aQW a1 b1 p.length (oM _)).2.1;unfold fB;simp only[e2,e3,e4,e5,Bool.not_false,oC,oN,key,aD,XW (show (tmO p q (List.replicate (p.length+q.length) 0) p.length).length<=4000000 by omega),htm]
 ·obtain⟨h1,h2,h3,h4⟩:=aQW a1 b1 t Z;have hi:=a5E (q:=q) (o:=tmO p q (List.replicate (p.length+q.length) 0) t) (a:=p.getD t 0) (i:=t) h1 b1 (a1.get t) Z Z p (p.length:Int) (t:Int) A;have hI:=(aSO h1 b1 (a1.get t) (i:=t) Z q.length (oM _)).len;rw[tmO];generalize tmO p q (List.replicate (p.length+q.length) 0) t=o at *;have e1:ltI (t:Int) (p.length:Int)=true:=by rw[aE]; exact oT Z
  have e2:aF (t:Int) p.length=true:=by rw[aL]; exact oT Z
  have e3:aC .i64 ((t:Int)+(q.length:Int))=((t+q.length:Nat):Int):=by rw[wrap64 Z Z]; omega
  have e4:aF ((t+q.length:Nat):Int) (tmI q (p.getD t 0) t o q.length).1.length=true:=by rw[aL]; exact oT Z
  have e5:Nat.blt (t+q.length) (tmI q (p.getD t 0) t o q.length).1.length=true:=by rw[cA]; exact oT Z
  have e6:=bO t Z;simp only[jQ,e1,e2,oC,oN,hi,aD,e3,e4,e5,e6]
 ·have e1:ltI (p.length:Int) (p.length:Int)=false:=by rw[aE]; exact oF Z
  simp only[jQ,e1,oD]
theorem aUS {n:Nat}(h:n<1000000000):BU [n]=pcs n:=JH (λx hx=>by grind) (by rfl)
theorem a1T {n}(h:n<1000000000):(pcs n).length<=1:=XB Z
theorem aO3 a {n:Nat}(hn:n<1000000000)(hl:(pcs a).length+1<=1048576) A:fW () (pcs a,(n:Int),()) A=some (pcs (a*n),A):=by
 have:=a1T hn;show (aB (xO ([n],())) _)=_;rw[a2X,aD,aUS hn];rw[aUN a n Z,aD]
theorem aVM a {n:Nat}(hn:0<n/\n<1000000000)(hl:(pcs a).length<=1048576) A:fP () (pcs a,(n:Int),()) A=some ((pcs (a/n),((a%n:Nat):Int),()),A):=by
 obtain⟨a1,a2,a3⟩:=iY a;obtain⟨s1,s2⟩:=a1Z a hn;generalize pcs a=p at *;have hn':0<(n:Int)/\(n:Int)<1000000000:=Z
 have key:=aY (step:=kA) (N:=2^64) (λt=>(p,(n:Int),(smS p n t).1,(smS p n t).2,(p.length:Int)-1-(t:Int),A,())) p.length
  ((smS p n p.length).1,(smS p n p.length).2,A,()) Z (λt ht=>?_) ?_
 ·rw[show (p.length:Int)-1-((0:Nat):Int)=(p.length:Int)-1 by omega]at key;have key:pA (p,(n:Int),List.replicate p.length 0,0,(p.length:Int)-1,A,())=_:=key;have e2:aC .i64 ((p.length:Int)-1)=(p.length:Int)-1:=wrap64 Z Z;have e3:ltI (p.length:Int) 0=false:=by rw[aE]; exact oF Z
  have e4:ltI (p.length:Int) (p.length:Int)=false:=by rw[aE]; exact oF Z
  have e5:ltI 1048576 (p.length:Int)=false:=by rw[aE]; exact oF Z
  have hlen:=(smI a1 hn' p.length (oM _)).len;unfold fP;simp only[e2,e3,e4,e5,Bool.not_false,oC,oN,key,aD,XW (show (smS p n p.length).1.length<=4000000 by omega),s1,s2]
 ·have hI:=smI a1 hn' t Z;rw[smS];generalize smS p n t=s at hI;obtain⟨l,r⟩:=s;obtain⟨h1,h2,h3,h4,h5⟩:=hI;dsimp only at h1 h2 h3 h4 h5 ⊢;obtain⟨i,hi⟩:∃ i,p.length-1-t=i:=⟨_,rfl⟩;have ei:(p.length:Int)-1-(t:Int)=(i:Int):=Z
  have ei':(p.length:Int)-1-((t+1:Nat):Int)=(i:Int)-1:=Z
  rw[hi,ei,ei'];have hx:=a1.get i;have e1:ltI (i:Int) 0=false:=by rw[aE]; exact oF Z
  have e2:aF (i:Int) p.length=true:=by rw[aL]; exact oT Z
  have e3:eqI (n:Int) 0=false:=by rw[dW]; exact oF Z
  have e4:aF (i:Int) l.length=true:=by rw[aL]; exact oT Z
  have e5:Nat.blt i l.length=true:=by rw[cA]; exact oT Z
  have e6:aC .i64 ((i:Int)-1)=(i:Int)-1:=wrap64 Z Z;have e7:aC .u64 (r*1000000000)=r*1000000000:=sL Z Z;have e8:aC .u64 (r*1000000000+p.getD i 0)=r*1000000000+p.getD i 0:=sL Z Z;have e9:(r*1000000000+p.getD i 0).tdiv n=(r*1000000000+p.getD i 0)/n:=Int.tdiv_eq_ediv_of_nonneg Z;have e10:(r*1000000000+p.getD i 0).tmod n=(r*1000000000+p.getD i 0)%n:=Int.tmod_eq_emod_of_nonneg Z
  have q0:0<=(r*1000000000+p.getD i 0)/n:=Int.ediv_nonneg Z Z;have q1:(r*1000000000+p.getD i 0)/n<=r*1000000000+p.getD i 0:=Int.ediv_le_self _ Z;have e11:aC .u64 ((r*1000000000+p.getD i 0)/n)=(r*1000000000+p.getD i 0)/n:=sL q0 Z;simp only[kA,e1,e2,e3,e4,e5,e6,e7,e8,e9,e10,e11,oC,oD,Bool.not_false,oN]
 ·have e1:ltI ((p.length:Int)-1-(p.length:Int)) 0=true:=by rw[aE]; exact oT Z
  simp only[kA,e1,Bool.not_true,oD]
theorem aWZ {p q} (hp:Pc p) (hq:Pc q) {i} (hl:p.length=q.length) (hi:i<p.length) (he:p.drop (i+1)=q.drop (i+1)) (hlt:p.getD i 0<q.getD i 0):vl p<vl q:=by
 have e1:=S0 p (i+1) Z;have e2:=S0 q (i+1) Z;have e3:=GL p i hi;have e4:=GL q i Z;have n1:=OJ (hp.aC4 i);have n2:=sC (hq.aC4 i);rw[List.length_take,Nat.min_eq_left Z]at n1;have hm:(p.getD i 0+1)*pw i<=q.getD i 0*pw i:=Int.mul_le_mul_of_nonneg_right Z (Int.le_of_lt (PE i));grind
theorem a4L {p q}(hp:Pc p)(hq:Pc q)(hl:p.length=q.length)(hpl:p.length<=4000000):∀ n,n<=p.length->p.drop n=q.drop n->∀ k,
  bH o6 (n+1+k) (p,q,(n:Int)-1,())=some (if vl p<vl q then .inl (-1,()) else if vl q<vl p then .inl (1,()) else .inr ()):=by
 intro n
 induction n with
 | zero =>
  intro _ he k;have hpq:p=q:=he;subst hpq;rw[show 0+1+k=k+1 by omega,cZ,if_neg (Int.lt_irrefl _),if_neg (Int.lt_irrefl _)];rfl
 | succ n ih =>
  intro h he k;rw[show n+1+1+k=(n+1+k)+1 by omega,cZ];have e0:((n+1:Nat):Int)-1=(n:Int):=Z
  rw[e0];have e1:ltI (n:Int) 0=false:=by rw[aE]; exact oF Z
  have e2:aF (n:Int) p.length=true:=by rw[aL]; exact oT Z
  have e3:aF (n:Int) q.length=true:=by rw[aL]; exact oT Z
  have e4:aC .i64 ((n:Int)-1)=(n:Int)-1:=wrap64 Z Z;simp only[o6,e1,e2,e3,e4,oC,Bool.not_false,oN,aE,aG4]
  by_cases h1:p.getD n 0<q.getD n 0
  ·have:=aWZ hp hq hl Z he h1;rw[if_pos h1,if_pos this]
  ·rw[if_neg h1]
   by_cases h2:q.getD n 0<p.getD n 0
   ·have:=aWZ hq hp hl.symm Z he.symm h2;rw[if_pos h2,if_neg Z,if_pos this]
   ·rw[if_neg h2];refine ih Z ?_ k;have hg:p.getD n 0=q.getD n 0:=Z
    rw[oQ,List.getElem?_eq_getElem (show n<p.length by omega),oQ,List.getElem?_eq_getElem (show n<q.length by omega)]at hg;rw[List.drop_eq_getElem_cons (show n<p.length by omega),List.drop_eq_getElem_cons (show n<q.length by omega),he];have hg:p[n]=q[n]:=hg;rw[hg]
theorem aY6 a b (ha:(pcs a).length<=1048576)(hb:(pcs b).length<=1048576):tW (pcs a,pcs b,())=some (if a<b then -1 else if b<a then 1 else 0,()):=by
 obtain⟨a1,a2,a3⟩:=iY a;obtain⟨b1,b2,b3⟩:=iY b;have len:∀ {x y:Nat},(pcs x).length<(pcs y).length->x<y:=λ{x y} h=>by
  rcases oG x y with h1|h1
  ·exact h1
  ·have h2:(pcs y).length<=(pcs x).length:=by
    obtain⟨x1,x2,x3⟩:=iY x;have:=OJ x1;rw[x3]at this;refine XB (k:=(pcs x).length) ?_;have e:((1000000000^(pcs x).length:Nat):Int)=pw (pcs x).length:=by unfold pw; rw[Int.natCast_pow]; rfl
    omega
   omega
 unfold tW;dsimp only;rw[dW]
 by_cases hl:((pcs a).length:Int)=(pcs b).length
 ·have hl':(pcs a).length=(pcs b).length:=Z
  have h:=a4L a1 b1 hl' Z (pcs a).length (oM _) (by rw[List.drop_of_length_le (oM _),List.drop_of_length_le Z]) (2^64-(pcs a).length-1);rw[show (pcs a).length+1+(2^64-(pcs a).length-1)=2^64 by omega,a3,b3]at h;have e2:aC .i64 (((pcs a).length:Int)-1)=((pcs a).length:Int)-1:=wrap64 Z Z;rw[oT hl,e2];show (aB (bH o6 (2^64) (pcs a,pcs b,((pcs a).length:Int)-1,())) _)=_
  rw[h,aD]
  by_cases h1:a<b
  ·rw[if_pos (show ((a:Nat):Int)<b by omega),if_pos h1]; rfl
  ·rw[if_neg (show ¬ ((a:Nat):Int)<b by omega),if_neg h1]
   by_cases h2:b<a
   ·rw[if_pos (show ((b:Nat):Int)<a by omega),if_pos h2]; rfl
   ·rw[if_neg (show ¬ ((b:Nat):Int)<a by omega),if_neg h2]; rfl
 ·have e2:aC .i64 (((pcs a).length:Int)-((pcs b).length:Int))=((pcs a).length:Int)-((pcs b).length:Int):=wrap64 Z Z;rw[oF hl,e2];rcases Nat.lt_or_gt_of_ne (show (pcs a).length≠(pcs b).length by omega)with h|h
  ·have:=len h;rw[if_pos this];show some ((if (if (-1:Int)<((pcs a).length:Int)-((pcs b).length:Int) then ((pcs a).length:Int)-((pcs b).length:Int) else -1)<1 then (if (-1:Int)<((pcs a).length:Int)-((pcs b).length:Int) then ((pcs a).length:Int)-((pcs b).length:Int) else -1) else 1),())=_;rw[if_neg (show ¬ (-1:Int)<((pcs a).length:Int)-((pcs b).length:Int)by omega),if_pos O]
  ·have:=len h;have e3:(if a<b then (-1:Int) else if b<a then 1 else 0)=1:=by rw[if_neg Z,if_pos this]
   rw[e3];show some ((if (if (-1:Int)<((pcs a).length:Int)-((pcs b).length:Int) then ((pcs a).length:Int)-((pcs b).length:Int) else -1)<1 then (if (-1:Int)<((pcs a).length:Int)-((pcs b).length:Int) then ((pcs a).length:Int)-((pcs b).length:Int) else -1) else 1),())=_;rw[if_pos (show (-1:Int)<((pcs a).length:Int)-((pcs b).length:Int)by omega),if_neg Z]
theorem a6L u m j:10*(u/10^(m+1)%10^j)+u/10^m%10=u/10^m%10^(j+1):=by
 have e:u/10^(m+1)=u/10^m/10:=by rw[Nat.pow_succ,Nat.div_div_eq_div_mul]
 rw[e,Nat.pow_succ,Nat.mul_comm (10^j) 10,Nat.mod_mul];omega
theorem bBB u t:((Lib.dg u t).toNat)=48+((u/10^t%10:Nat):Int):=by
 unfold Lib.dg;rw[UInt8.toNat_ofNat'];omega
theorem a2G u lo hi (h1:lo<=hi)(h2:hi<=Lib.nDigits u):U5 ((Dn u).extract lo hi)=(List.range (hi-lo)).map λj=>48+((u/10^(Lib.nDigits u-1-(lo+j))%10:Nat):Int):=by
 have e:((Dn u).extract lo hi).data.toList=((Lib.decDigits u).drop lo).take (hi-lo):=by rw[ByteArray.data_extract,Array.toList_extract,List.extract_eq_take_drop,CM]
 unfold U5;rw[e,Lib.decDigits_eq];refine List.ext_getElem W λi h3 h4=>?_
 simp only[List.getElem_map,List.getElem_take,List.getElem_drop,List.getElem_range];exact bBB u _
theorem a18 u {lo hi}(h1:lo<=hi)(h2:hi<=Lib.nDigits u)(h9:hi-lo<=9)(v0:ByteArray)(v3:List Int)(v4:Int)(A:List (List Int)) :
  yO (v0,v3,v4,0,U5 ((Dn u).extract lo hi),((U5 ((Dn u).extract lo hi)).length:Int),0,A,())=some (v0,v3,v4,((u/10^(Lib.nDigits u-hi)%10^(hi-lo):Nat):Int),A,()):=by
 rw[a2G u lo hi h1 h2];have hlen:((List.range (hi-lo)).map λj=>48+((u/10^(Lib.nDigits u-1-(lo+j))%10:Nat):Int)).length=hi-lo:=R
 rw[hlen];have key:=aY (step:=tD) (N:=2^64) (λt=>(v0,v3,v4,((u/10^(Lib.nDigits u-lo-t)%10^t:Nat):Int),((List.range (hi-lo)).map λj=>48+((u/10^(Lib.nDigits u-1-(lo+j))%10:Nat):Int)),((hi-lo:Nat):Int),(t:Int),A,())) (hi-lo)
  (v0,v3,v4,((u/10^(Lib.nDigits u-hi)%10^(hi-lo):Nat):Int),A,()) Z (λt ht=>?_) ?_
 ·have e0:((u/10^(Lib.nDigits u-lo-0)%10^0:Nat):Int)=0:=by simp[Nat.mod_one]
  rw[e0]at key;exact key
 ·have e1:ltI (t:Int) ((hi-lo:Nat):Int)=true:=by rw[aE]; exact oT Z
  have e2:aF (t:Int) (hi-lo)=true:=by rw[aL]; exact oT Z
  have e3:((List.range (hi-lo)).map λj=>48+((u/10^(Lib.nDigits u-1-(lo+j))%10:Nat):Int)).getD t 0=48+((u/10^(Lib.nDigits u-1-(lo+t))%10:Nat):Int):=W
  obtain⟨m,hm⟩:∃ m,Lib.nDigits u-1-(lo+t)=m:=⟨_,rfl⟩;have hm1:Lib.nDigits u-lo-t=m+1:=Z
  have hm2:Lib.nDigits u-lo-(t+1)=m:=Z
  rw[hm]at e3;rw[hm1,hm2,<- a6L u m t];have hd:u/10^m%10<10:=Nat.mod_lt _ O;have ha:u/10^(m+1)%10^t<10^9:=by
   have h4:10^t<=10^9:=Nat.pow_le_pow_right O Z;omega
  have h109:(10:Nat)^9=1000000000:=O
  generalize u/10^m%10=d at *;generalize u/10^(m+1)%10^t=a at *;have e4:aC .u8 (48+(d:Int)-48)=(d:Int):=by rw[a6J Z Z]; omega
  have e5:IntKind.wrap .u64 (d:Int)=(d:Int):=aYP Z Z;have e6:aC .u64 (10*(a:Int))=10*(a:Int):=sL Z Z;have e7:aC .u64 (10*(a:Int)+(d:Int))=((10*a+d:Nat):Int):=by rw[sL Z Z]; omega
  have e8:=bO t Z;simp only[tD,e1,e2,e3,e4,e5,e6,e7,e8,hlen,oC,oN]
 ·have e1:ltI ((hi-lo:Nat):Int) ((hi-lo:Nat):Int)=false:=by rw[aE]; exact oF Z
  have e2:Lib.nDigits u-lo-(hi-lo)=Lib.nDigits u-hi:=Z
  simp only[tD,e1,e2,oD]
theorem a8M t:10^(9*t)=1000000000^t:=by rw[Nat.pow_mul]
theorem aQP u:∀ t,vl ((List.range t).map λj=>((u/1000000000^j%1000000000:Nat)))=((u%1000000000^t:Nat))
 | 0=>by simp[vl,Nat.mod_one]
 | t+1=>by
  rw[List.range_succ,List.map_append,JC,aQP u t,List.length_map,List.length_range,Nat.pow_succ,Nat.mod_mul];have e:pw t=((1000000000^t:Nat):Int):=by unfold pw; rw[Int.natCast_pow]; rfl
  rw[e];simp only[List.map_cons,List.map_nil,vl,Int.mul_zero,Int.add_zero];rw[Int.natCast_add,Int.natCast_mul]
theorem aBN u (hu:Lib.nDigits u<=1000000) A:eK () (Dn u,()) A=some (pcs u,A):=by
 have hsz:=F9 u;generalize hnd:Lib.nDigits u=nd at *;obtain⟨T,hT⟩:∃ T,T=(nd+8)/9:=⟨_,rfl⟩;have key:=aY (step:=tR) (N:=2^64) (λt=>(Dn u,((List.range t).map λj=>((u/1000000000^j%1000000000:Nat):Int)),(nd:Int)-9*(t:Int),A,())) T
  ((List.range T).map λj=>((u/1000000000^j%1000000000:Nat):Int),A,()) Z (λt ht=>?_) ?_
 ·have key:yT (Dn u,List.replicate 0 0,(nd:Int),A,())=some ((List.range T).map (λj=>((u/1000000000^j%1000000000:Nat):Int)),A,()):=by
   exact key
  have e1:((nd:Nat):Int).tdiv 9=((nd/9:Nat):Int):=rfl;have e2:aC .i64 ((nd/9:Nat):Int)=((nd/9:Nat):Int):=wrap64 Z Z;have e3:=bO (nd/9) Z;have e4:ltI ((nd/9+1:Nat):Int) 0=false:=by rw[aE]; exact oF Z
  have e5:ltI 1048576 ((nd/9+1:Nat):Int)=false:=by rw[aE]; exact oF Z
  have ht:BU ((List.range T).map λj=>((u/1000000000^j%1000000000:Nat):Int))=pcs u:=by
   refine JH (λx hx=>?_) ?_
   ·grind
   ·rw[aQP,Nat.mod_eq_of_lt];have h1:=Lib.lt_pow_nDigits u;have h2:(10:Nat)^nd<=10^(9*T):=Nat.pow_le_pow_right O Z;rw[a8M]at h2;grind
  unfold eK;simp only[hsz,e1,e2,e3,e4,e5,Bool.not_false,oC,key,aD,XW (show ((List.range T).map λj=>((u/1000000000^j%1000000000:Nat):Int)).length<=4000000 by simp; omega),ht]
 ·obtain⟨hi,hhi⟩:∃ hi:Nat,hi=nd-9*t:=⟨_,rfl⟩;obtain⟨lo,hlo⟩:∃ lo:Nat,lo=hi-9:=⟨_,rfl⟩;have ehi:(nd:Int)-9*(t:Int)=(hi:Int):=Z
  have ehi':(nd:Int)-9*((t+1:Nat):Int)=(hi:Int)-9:=Z
  rw[ehi,ehi'];have e1:ltI 0 (hi:Int)=true:=by rw[aE]; exact oT Z
  have e2:aC .i64 ((hi:Int)-9)=(hi:Int)-9:=wrap64 Z Z;have e3:(if 0<(hi:Int)-9 then (hi:Int)-9 else 0)=(lo:Int):=by
   by_cases h:0<(hi:Int)-9
   ·rw[if_pos h]; omega
   ·rw[if_neg h]; omega
  have e4:ltI (lo:Int) 0=false:=by rw[aE]; exact oF Z
  have e5:ltI (hi:Int) 0=false:=by rw[aE]; exact oF Z
  have e6:Nat.ble lo hi=true:=by rw[dM]; exact oT Z
  have e7:Nat.ble hi nd=true:=by rw[dM]; exact oT Z
  have hin:=a18 u (lo:=lo) (hi:=hi) Z Z Z (Dn u) ((List.range t).map λj=>((u/1000000000^j%1000000000:Nat):Int)) (hi:Int) A;have hval:u/10^(Lib.nDigits u-hi)%10^(hi-lo)=u/1000000000^t%1000000000:=by
   rw[hnd,show nd-hi=9*t by omega,a8M]
   by_cases h:9<=hi
   ·rw[show hi-lo=9 by omega]
   ·have h1:=Lib.lt_pow_nDigits u;rw[hnd]at h1;have h2:u/1000000000^t<10^hi:=by
     rw[Nat.div_lt_iff_lt_mul (Nat.pow_pos O),<- a8M,<- Nat.pow_add,show hi+9*t=nd by omega];exact h1
    have h3:(10:Nat)^hi<=10^9:=Nat.pow_le_pow_right O Z;have h4:(10:Nat)^9=1000000000:=O
    rw[show hi-lo=hi by omega,Nat.mod_eq_of_lt h2,Nat.mod_eq_of_lt Z]
  rw[hval]at hin;have e8:Nat.ble [((u/1000000000^t%1000000000:Nat):Int)].length 1048576=true:=rfl;have e9:Nat.ble ((List.range t).map λj=>((u/1000000000^j%1000000000:Nat):Int)).length 1048576=true:=by rw[dM]; simp; omega
  simp only[tR,hsz,e1,e2,e3,e4,e5,e6,e7,e8,e9,oC,Bool.not_false,oN,hin,aD];rw[List.range_succ,List.map_append];rfl
 ·have e1:ltI 0 ((nd:Int)-9*(T:Int))=false:=by rw[aE]; exact oF Z
  simp only[tR,e1,oD]
def aCN(u:Nat):List Int:=(Lib.decDigits u).reverse.map λb=>(b.toNat:Int)
theorem aYJ {u}(h:u<10):aCN u=[48+(u:Int)]:=by
 unfold aCN;rw[Lib.decDigits,dif_pos h];simp;omega
theorem aU4 {u}(h:¬ u<10):aCN u=(48+((u%10:Nat):Int))::aCN (u/10):=by
 unfold aCN;rw[Lib.decDigits,dif_neg h];simp only[List.reverse_append,List.reverse_cons,List.reverse_nil,List.nil_append,List.cons_append,List.map_cons,List.cons.injEq,and_true];rw[UInt8.toNat_ofNat'];omega
theorem aAA u:(aCN u).length=Lib.nDigits u:=by simp[aCN,Lib.decDigits_length]
def UQ(x:Nat):Nat->List Int
 | 0=>[]
 | k+1=>UQ x k++[48+((x/10^k%10:Nat):Int)]
theorem aI9 x:∀ k,(UQ x k).length=k
 | 0=>rfl
 | k+1=>by rw[UQ,oH,aI9 x k]; rfl
theorem aP2 x:∀ k,UQ x (k+1)=(48+((x%10:Nat):Int))::UQ (x/10) k
 | 0=>by simp[UQ]
 | k+1=>by rw[UQ,aP2 x k,UQ,List.cons_append,Nat.pow_succ,Nat.mul_comm,<- Nat.div_div_eq_div_mul]
theorem aW3:∀ k u,10^k<=u->aCN u=UQ u k++aCN (u/10^k)
 | 0,u,_=>by simp[UQ]
 | k+1,u,h=>by
  have h1:10^k<=u/10:=W
  have hp:1<=10^k:=Nat.one_le_pow _ _ R;rw[aU4 Z,aP2,aW3 k (u/10) h1,List.cons_append,Nat.pow_succ,Nat.mul_comm,<- Nat.div_div_eq_div_mul]
theorem aUC x y:∀ k,k<=9->x%1000000000=y%1000000000->UQ x k=UQ y k
 | 0,_,_=>rfl
 | k+1,hk,h=>by
  rw[UQ,UQ,aUC x y k Z h];have key:∀ z ,z/10^k%10=z%1000000000/10^k%10:=λz=>by
   have e:1000000000=10^k*(10*10^(8-k)):=by rw[<- Nat.mul_assoc,<- Nat.pow_succ,<- Nat.pow_add,show k.succ+(8-k)=9 by omega]
   rw[e,Nat.mod_mul_right_div_self,Nat.mod_mul_right_mod]
  simp_all
theorem a17(p:List Int) (v3:List Int) {i x:Nat} (hi:i+1<p.length) (hp:p.length<=4000000) (hx:x<1000000000) (hv:v3.length<=1000100) (v14:List Int) (v15 v16:Int) :
  mT (p,v3,(i:Int),(x:Int),0,v14,v15,v16,())=some (p,v3++UQ x 9,v14,v15,v16,()):=by
 have key:=aY (step:=eP) (N:=2^64) (λt=>(p,v3++UQ x t,(i:Int),((x/10^t:Nat):Int),(t:Int),v14,v15,v16,())) 9
  (p,v3++UQ x 9,v14,v15,v16,()) Z (λt ht=>?_) ?_
 ·have hp0:UQ x 0=[]:=rfl;rw[hp0,List.append_nil,Nat.pow_zero,Nat.div_one]at key;exact key
 ·have e1:ltI (t:Int) 9=true:=by rw[aE]; exact oT Z
  have e2:=bO i Z;have e3:ltI ((i+1:Nat):Int) (p.length:Int)=true:=by rw[aE]; exact oT Z
  have hy:x/10^t<=x:=Nat.div_le_self _ _;have e9:x/10^(t+1)=x/10^t/10:=by rw[Nat.pow_succ,Nat.div_div_eq_div_mul]
  rw[e9,UQ,<- List.append_assoc];generalize x/10^t=y at *;have e4:((y:Nat):Int).tmod 10=((y%10:Nat):Int):=rfl;have e5:((y:Nat):Int).tdiv 10=((y/10:Nat):Int):=rfl;have e6:IntKind.wrap .u8 (aC .u64 (48+((y%10:Nat):Int)))=48+((y%10:Nat):Int):=by rw[sL Z Z,a0L Z Z]
  have e7:aC .u64 ((y/10:Nat):Int)=((y/10:Nat):Int):=sL Z Z;have e8:=bO t Z;have e10:Nat.ble [48+((y%10:Nat):Int)].length 1048576=true:=rfl;have e11:Nat.ble (v3++UQ x t).length 1048576=true:=by rw[dM,oH,aI9]; exact oT Z
  simp only[eP,e1,e2,e3,e4,e5,e6,e7,e8,e10,e11,oC]
 ·rfl
theorem aPO(p:List Int){i}(hi:p.length=i+1)(hp:p.length<=4000000)(v14:List Int)(v15 v16:Int):∀ (k x:Nat) (v3:List Int),0<x->x<10^k->k<=9->v3.length+k<=1000100->∀ N,
  bH eP (k+1+N) (p,v3,(i:Int),(x:Int),((9-k:Nat):Int),v14,v15,v16,())=some (p,v3++aCN x,v14,v15,v16,())
 | 0,x,v3,h0,h1,_,_,N=>W
 | k+1,x,v3,h0,h1,h9,hv,N=>by
  rw[show k+1+1+N=(k+1+N)+1 by omega,cZ];have e1:ltI ((9-(k+1):Nat):Int) 9=true:=by rw[aE]; exact oT Z
  have e2:=bO i Z;have e3:ltI ((i+1:Nat):Int) (p.length:Int)=false:=by rw[aE]; exact oF Z
  have e0:ltI 0 (x:Int)=true:=by rw[aE]; exact oT Z
  have hxB:x<10^9:=Nat.lt_of_lt_of_le h1 (Nat.pow_le_pow_right O h9);have e4:((x:Nat):Int).tmod 10=((x%10:Nat):Int):=rfl;have e5:((x:Nat):Int).tdiv 10=((x/10:Nat):Int):=rfl;have e6:IntKind.wrap .u8 (aC .u64 (48+((x%10:Nat):Int)))=48+((x%10:Nat):Int):=by rw[sL Z Z,a0L Z Z]
  have e7:aC .u64 ((x/10:Nat):Int)=((x/10:Nat):Int):=sL Z Z;have e8:aC .i64 (((9-(k+1):Nat):Int)+1)=((9-k:Nat):Int):=by rw[wrap64 Z Z]; omega
  have e10:Nat.ble [48+((x%10:Nat):Int)].length 1048576=true:=rfl;have e11:Nat.ble v3.length 1048576=true:=by rw[dM]; exact oT Z
  simp only[eP,e1,e2,e3,e0,e4,e5,e6,e7,e8,e10,e11,oC,oD]
  by_cases hx:x<10
  ·have hz:x/10=0:=Z
   have hm:x%10=x:=Nat.mod_eq_of_lt hx;rw[hz,hm,aYJ hx,show k+1+N=(k+N)+1 by omega,cZ];have e12:ltI 0 ((0:Nat):Int)=false:=rfl;cases hk:ltI ((9-k:Nat):Int) 9 with
   | true=>simp only[eP,hk,e2,e3,e12,oC,oD]
   | false=>simp only[eP,hk,oD]
  ·rw[aU4 hx,aPO p hi hp v14 v15 v16 k (x/10) (v3++[48+((x%10:Nat):Int)]) Z (by rw[Nat.pow_succ]at h1; omega) Z (by rw[oH,List.length_singleton]; omega) N,List.append_assoc];rfl
theorem aNU u i:(pcs u).getD i 0=((u/1000000000^i%1000000000:Nat)):=by
 induction i generalizing u with
 | zero =>
  by_cases h:u=0
  ·subst h; rw[Z3]; rfl
  ·rw[aFX h]; simp
 | succ i ih =>
  by_cases h:u=0
  ·subst h; rw[Z3]; simp
  ·rw[aFX h,List.getD_cons_succ,ih,Nat.pow_succ,Nat.mul_comm,<- Nat.div_div_eq_div_mul]
theorem aJO {u i}(h:i<(pcs u).length):0<u/1000000000^i:=by
 have:=bA5 h;exact Nat.div_pos this (Nat.pow_pos R)
theorem aR8 {u i}(h:(pcs u).length<=i):u/1000000000^i=0:=by
 refine Nat.div_eq_of_lt ?_;obtain⟨a,b,c⟩:=iY u;have h1:=OJ a;have h2:=aSY h;grind
def aF9(u:Nat):Nat->List Int
 | 0=>[]
 | i+1=>if i+1<(pcs u).length then aF9 u i++UQ (u/1000000000^i%1000000000) 9 else aF9 u i++aCN (u/1000000000^i)
theorem aLO u:∀ i,i<(pcs u).length->aF9 u i++aCN (u/1000000000^i)=aCN u
 | 0,_=>by simp[aF9]
 | i+1,h=>by
  have ih:=aLO u i Z;have hp:=aJO h;have e:u/1000000000^(i+1)=u/1000000000^i/1000000000:=by rw[Nat.pow_succ,Nat.div_div_eq_div_mul]
  have h109:(10:Nat)^9=1000000000:=O
  have hr:=aW3 9 (u/1000000000^i) Z;rw[h109,<- e,<- aUC (u/1000000000^i%1000000000) (u/1000000000^i) 9 O (by rw[Nat.mod_mod])]at hr;rw[aF9,if_pos h,List.append_assoc,<- hr];exact ih
theorem a5G {u}(h:0<(pcs u).length):aF9 u (pcs u).length=aCN u:=by
 obtain⟨k,hk⟩:∃ k,(pcs u).length=k+1:=⟨(pcs u).length-1,by omega⟩;rw[hk,aF9,if_neg Z];exact aLO u k Z
theorem a5K u {i}(h:i<(pcs u).length):(aF9 u i).length<=Lib.nDigits u:=by
 have:=oZ List.length (aLO u i h);rw[oH,aAA,aAA]at this;omega
theorem aEN {u}(hu:Lib.nDigits u<=1000000):(pcs u).length*9<=1000008:=by
 have h1:=Lib.lt_pow_nDigits u;have h2:10^Lib.nDigits u<=10^(9*((Lib.nDigits u+8)/9)):=Nat.pow_le_pow_right R Z;rw[a8M]at h2;have:=XB (n:=u) (k:=(Lib.nDigits u+8)/9) Z;omega
theorem a1L u (hu:Lib.nDigits u<=1000000)(h0:0<(pcs u).length):rO (pcs u,List.replicate 0 0,pcs u,((pcs u).length:Int),0,())=some (aCN u,()):=by
 have hlen:=aEN hu;have key:=aY (step:=jZ) (N:=2^64) (λt=>(pcs u,aF9 u t,pcs u,((pcs u).length:Int),(t:Int),())) (pcs u).length (aF9 u (pcs u).length,()) Z (λt ht=>?_) ?_
 ·rw[a5G h0]at key;exact key
 ·have e1:ltI (t:Int) ((pcs u).length:Int)=true:=by rw[aE]; exact oT Z
  have e2:aF (t:Int) (pcs u).length=true:=by rw[aL]; exact oT Z
  have e3:=bO t Z;have hol:=a5K u ht;have hx:u/1000000000^t%1000000000<1000000000:=Nat.mod_lt _ O;rw[aF9]
  by_cases h:t+1<(pcs u).length
  ·have hi:=a17 (pcs u) (aF9 u t) (i:=t) (x:=u/1000000000^t%1000000000) h Z hx Z (pcs u) ((pcs u).length:Int) (t:Int);rw[if_pos h];simp only[jZ,e1,e2,e3,oC,oN,aNU,hi,aD]
  ·have hz:u/1000000000^(t+1)=0:=aR8 Z;have hp:=aJO ht;have hm:u/1000000000^t%1000000000=u/1000000000^t:=by
    rw[Nat.pow_succ,<- Nat.div_div_eq_div_mul]at hz;grind
   rw[hm]at hx;have h109:(10:Nat)^9=1000000000:=O
   have hi:=aPO (pcs u) (i:=t) Z Z (pcs u) ((pcs u).length:Int) (t:Int) 9 (u/1000000000^t) (aF9 u t) hp (by rw[h109]; exact hx) (oM _) Z (2^64-10);have hi:mT (pcs u,aF9 u t,(t:Int),((u/1000000000^t:Nat):Int),0,pcs u,((pcs u).length:Int),(t:Int),())=_:=hi;rw[if_neg h];simp only[jZ,e1,e2,e3,oC,oN,aNU,hm,hi,aD]
 ·have e1:ltI ((pcs u).length:Int) ((pcs u).length:Int)=false:=by rw[aE]; exact oF Z
  simp only[jZ,e1,oD]
def aSL(l:List Int):Nat->List Int
 | 0=>l
 | t+1=>((aSL l t).set t (l.getD (l.length-1-t) 0)).set (l.length-1-t) (l.getD t 0)
theorem aHL l:∀ t,2*t<=l.length->(aSL l t).length=l.length/\∀ x,x<l.length->(aSL l t).getD x 0=if x<t\/l.length-1-t<x then l.getD (l.length-1-x) 0 else l.getD x 0
 | 0,_=>⟨rfl,λx hx=>by rw[if_neg Z]; rfl⟩
 | t+1,h=>by
  obtain⟨h1,h2⟩:=aHL l t Z;refine⟨by rw[aSL,List.length_set,List.length_set,h1],λx hx=>?_⟩;rw[aSL];grind
theorem a4Y l:aSL l (l.length/2)=l.reverse:=by
 obtain⟨h1,h2⟩:=aHL l (l.length/2) Z;refine List.ext_getElem W λx hx hy=>?_
 grind
theorem aX9 {l:List Int}(hl:l.length<=4000000):X8 (t:=.int .u8) eY l ()=some l.reverse:=by
 have key:=aY (step:=gJ) (N:=2^64) (λt=>((0,0,l.length),(t:Int),(l.length:Int)-1-(t:Int),[aSL l t],())) (l.length/2) ([l.reverse],()) Z (λt ht=>?_) ?_
 ·have key:lA ((0,0,l.length),0,(l.length:Int)-1,[l],())=some ([l.reverse],()):=by
   rw[show (l.length:Int)-1-((0:Nat):Int)=(l.length:Int)-1 by omega]at key;exact key
  have e2:aC .i64 (((l.length:Nat):Int)-1)=(l.length:Int)-1:=wrap64 Z Z;unfold X8 eY;simp only[e2,key,aD,List.length_reverse,aL5,oC]
 ·obtain⟨h1,h2⟩:=aHL l t Z;obtain⟨j,hj⟩:∃ j:Nat,l.length-1-t=j:=⟨_,rfl⟩;have ej:(l.length:Int)-1-(t:Int)=(j:Int):=Z
  have ej':(l.length:Int)-1-((t+1:Nat):Int)=(j:Int)-1:=Z
  have g1:=h2 t Z;have g2:=h2 j Z;rw[if_neg Z]at g1 g2;rw[aSL,ej,ej',hj];generalize aSL l t=r at *;have e1:ltI (t:Int) (j:Int)=true:=by rw[aE]; exact oT Z
  have e2:aF (t:Int) l.length=true:=by rw[aL]; exact oT Z
  have e3:aF (j:Int) l.length=true:=by rw[aL]; exact oT Z
  have e4:Nat.blt t r.length=true:=by rw[cA]; exact oT Z
  have e5:Nat.blt j r.length=true:=by rw[cA]; exact oT Z
  have e6:(0+t)*1=t:=Z
  have e7:(0+j)*1=j:=Z
  have e8:=bO t Z;have e9:aC .i64 ((j:Int)-1)=(j:Int)-1:=wrap64 Z Z;simp only[gJ,e1,e2,e3,e4,e5,e6,e7,e8,e9,oC,oN,S5,RV,SX,List.length_set,g1,g2]
 ·have e1:ltI ((l.length/2:Nat):Int) ((l.length:Int)-1-((l.length/2:Nat):Int))=false:=by rw[aE]; exact oF Z
  simp only[gJ,e1,oD,a4Y]
theorem aXL(L:List UInt8):aLL (L.map λb=>b.toNat)=⟨L.toArray⟩:=by
 have key:∀ (L:List UInt8) (r:ByteArray),(L.map λb=>(b.toNat:Int)).foldl (λr n=>r.push (UInt8.ofNat n.toNat)) r=⟨r.data++L.toArray⟩:=by
  intro L
  induction L with
  | nil=>simp
  | cons b L ih =>
   simp_all
 unfold aLL
 simp_all
theorem aGC u (hu:Lib.nDigits u<=1000000):cX (pcs u,())=some (Dn u,()):=by
 have hlen:=aEN hu;unfold cX;dsimp only;rw[dW]
 by_cases h0:u=0
 ·subst h0;rw[Z3,oT (by rfl),oC,bBE]
 ·have hp:0<(pcs u).length:=by rw[aFX h0]; simp
  have e1:aC .i64 (9*((pcs u).length:Int))=((9*(pcs u).length:Nat):Int):=by rw[wrap64 Z Z]; omega
  have e2:ltI ((9*(pcs u).length:Nat):Int) 0=false:=by rfl
  have e3:ltI 1048576 ((9*(pcs u).length:Nat):Int)=false:=by rw[aE]; grind
  rw[oF Z,oD,e1,e2,e3];rw[a1L u hu hp,aD];rw[aX9 (by rw[aAA]; omega),aD];unfold aCN;rw[<- List.map_reverse,List.reverse_reverse,aXL];rfl
theorem a3N k:pw k=((1000000000^k:Nat)):=by rfl
theorem aM3 u:u<1000000000^(pcs u).length:=by
 obtain⟨a,b,c⟩:=iY u;have:=OJ a;grind
theorem WH {x y}(h:x<=y):(pcs x).length<=(pcs y).length:=XB (Nat.lt_of_le_of_lt h (aM3 y))
theorem a0H {u k}(h:(pcs u).length=k+1):0<(pcs u).getD k 0:=by
 obtain⟨a,b,c⟩:=iY u;have hne:pcs u≠[]:=λh0=>W
 have h1:=b _ (List.getLast?_eq_some_getLast hne);have h2:=a.get k;grind
theorem aW8 {acur b1 out:List Int} {f n i2:Int} {i m:Nat} (A:List (List Int)) (ha:Pc acur) (hb:Pc b1) (hbl:b1.length=m+2) (hn:n=((m+2:Nat):Int)) (hi2:i2=(i:Int)) (hl:i+m+2<acur.length) (hal:acur.length<=4000000)
  {g0 r0 bt:Int} (hbt:bt=b1.getD (m+1) 0) (hbt0:0<bt) {high:Int} (h0:0<=high/\high<1000000000000000000) (hg0:g0=high/bt) (hr0:r0=high%bt) {mm:Nat} (hmm:(mm:Int)<=g0)
  (hc:∀ t:Nat,t<mm->SW bt (b1.getD m 0) (acur.getD (i+m) 0) (g0-t) (r0+t*bt)) (hs:¬ SW bt (b1.getD m 0) (acur.getD (i+m) 0) (g0-mm) (r0+mm*bt)) :
  nC (f,acur,b1,n,out,i2,g0,r0,A,())=some (f,acur,b1,n,out,i2,g0-mm,A,()):=by
 subst hn; subst hi2;have hg2:g0<1000000000000000000:=by rw[hg0]; exact Int.lt_of_le_of_lt (Int.ediv_le_self _ h0.1) h0.2
 have hr1:0<=r0:=by rw[hr0]; exact Int.emod_nonneg _ Z
 have hdm:r0+bt*g0=high:=by rw[hg0,hr0]; exact Int.emod_add_mul_ediv high bt
 have hrt:∀ t:Nat,(t:Int)<=g0->0<=r0+t*bt/\r0+t*bt<=high:=λt ht=>by
  have h1:0<=(t:Int)*bt:=Int.mul_nonneg Z Z;have h2:(t:Int)*bt<=g0*bt:=Int.mul_le_mul_of_nonneg_right ht Z;grind
 have e1:aC .i64 (((m+2:Nat):Int)-1)=((m+1:Nat):Int):=by rw[wrap64 Z Z]; omega
 have e2:aC .i64 (((m+2:Nat):Int)-2)=((m:Nat):Int):=by rw[wrap64 Z Z]; omega
 have e3:aF ((m+1:Nat):Int) b1.length=true:=by rw[aL]; exact oT Z
 have e4:aF ((m:Nat):Int) b1.length=true:=by rw[aL]; exact oT Z
 have e5:aC .i64 (aC .i64 ((i:Int)+((m+2:Nat):Int))-2)=((i+m:Nat):Int):=by rw[wrap64 (x:=(i:Int)+((m+2:Nat):Int)) Z Z,wrap64 Z Z]; omega
 have e6:aF ((i+m:Nat):Int) acur.length=true:=by rw[aL]; exact oT Z
 have e7:Nat.blt (i+m) acur.length=true:=by rw[cA]; exact oT Z
 have ha2:=ha.get (i+m);have hb2:=hb.get m;have stepE:∀ g r:Int,0<=g->g<=g0->0<=r->r<=high->jT (f,acur,b1,((m+2:Nat):Int),out,(i:Int),g,r,A,()) =
   if SW bt (b1.getD m 0) (acur.getD (i+m) 0) g r then some (.inl (f,acur,b1,((m+2:Nat):Int),out,(i:Int),aC .u64 (g-1),aC .u64 (r+bt),A,())) else some (.inr (f,acur,b1,((m+2:Nat):Int),out,(i:Int),g,A,())):=by
  intro g r g1 g2 r1 r2;simp only[jT,e1,e2,e3,e4,e5,e6,e7,oC,oN,aE,<- hbt,a8E,aG4]
  by_cases c1:1000000000<=g
  ·rw[if_pos (show ¬ g<1000000000 by omega),if_pos (.inl c1)]
  ·rw[if_neg (show ¬ ¬ g<1000000000 by omega)]
   by_cases c2:r<1000000000
   ·have hm:=N2 (n:=g) (x:=b1.getD m 0) Z hb2;have w1:aC .u64 (r*1000000000)=r*1000000000:=sL Z Z;have w2:aC .u64 (r*1000000000+acur.getD (i+m) 0)=r*1000000000+acur.getD (i+m) 0:=sL Z Z;have w3:aC .u64 (g*b1.getD m 0)=g*b1.getD m 0:=sL Z Z;rw[if_pos c2,w1,w2,w3]
    by_cases c3:r*1000000000+acur.getD (i+m) 0<g*b1.getD m 0
    ·rw[if_pos c3,if_pos (.inr ⟨c2,c3⟩)]
    ·rw[if_neg c3,if_neg (λh=>by rcases h with h|h; exact c1 h; exact c3 h.2)]
   ·rw[if_neg c2,if_neg (λh=>by rcases h with h|h; exact c1 h; exact c2 h.1)]
 have key:=aY (step:=jT) (N:=2^64) (λt=>(f,acur,b1,((m+2:Nat):Int),out,(i:Int),g0-(t:Int),r0+(t:Int)*bt,A,())) mm (f,acur,b1,((m+2:Nat):Int),out,(i:Int),g0-mm,A,()) Z (λt ht=>?_) ?_
 ·rw[show g0-((0:Nat):Int)=g0 by omega,show r0+((0:Nat):Int)*bt=r0 by simp]at key;exact key
 ·obtain⟨q1,q2⟩:=hrt t Z;obtain⟨q3,q4⟩:=hrt (t+1) Z;have e9:r0+((t+1:Nat):Int)*bt=r0+(t:Int)*bt+bt:=by rw[Int.natCast_add,Int.add_mul]; simp[Int.add_assoc]
  rw[stepE _ _ Z Z q1 q2,if_pos (hc t ht),e9];rw[e9]at q3 q4;rw[sL (x:=g0-(t:Int)-1) Z Z,sL (x:=r0+(t:Int)*bt+bt) q3 Z,show g0-(t:Int)-1=g0-((t+1:Nat):Int)by omega]
 ·obtain⟨q1,q2⟩:=hrt mm Z;rw[stepE _ _ Z Z q1 q2,if_neg hs]
theorem aR2 {acur b1 out:List Int} {f:Int} {i m L:Nat} (A:List (List Int)) (ha:Pc acur) (hb:Pc b1) (hbl:b1.length=m+2) (htop:0<b1.getD (m+1) 0) (hal:acur.length=L) (hl:i+m+2<L) (hL:L<=4000000)
  (hol:out.length=L-(m+2)) (hoi:out.getD i 0=0) (ho:Pc out) (hz:vl acur<pw (i+1)*vl b1) :
  ∃ acur' out',dZ (f,acur,b1,((m+2:Nat):Int),out,(i:Int),A,())=some (.inl (f,acur',b1,((m+2:Nat):Int),out',(i:Int)-1,A,())) /\
   Pc acur'/\acur'.length=L/\Pc out'/\out'.length=out.length/\vl acur'<pw i*vl b1/\vl out'*vl b1+vl acur'=vl out*vl b1+vl acur/\∀ j,j<i->out'.getD j 0=out.getD j 0:=by
 have hV0:=OJ hb;rw[hbl]at hV0;have pP:=PE i;have hV1:0<vl b1:=by
  have:=(aZ0 hb (k:=m) (λj hj=>I6 hb hV0 Z) Z).1;have h1:0<(b1.getD (m+1) 0*1000000000+b1.getD m 0)*pw m:=Int.mul_pos (by have:=hb.get m; omega) (PE m);omega
 have hzz:vl acur<pw (i+m+3):=by
  have h1:pw (i+1)*vl b1<=pw (i+1)*pw (m+2):=Int.mul_le_mul_of_nonneg_left (Int.le_of_lt hV0) (Int.le_of_lt (PE _));rw[<- aDQ,show i+1+(m+2)=i+m+3 by omega]at h1;omega
 have gs:=bCP ha hb hbl htop (i:=i) Z hzz;have hn:=sC ha;have hVP:0<vl b1*pw i:=Int.mul_pos hV1 pP;obtain⟨qh,hqh⟩:∃ qh,qh=vl acur/(vl b1*pw i):=⟨_,rfl⟩;have q0:0<=qh:=by rw[hqh]; exact Int.ediv_nonneg hn (Int.le_of_lt hVP)
 have q1:qh*(vl b1*pw i)<=vl acur:=by rw[hqh]; exact Int.ediv_mul_le _ Z
 have q2:vl acur<(qh+1)*(vl b1*pw i):=by rw[hqh]; exact Int.lt_ediv_add_one_mul_self _ hVP
 have qB:qh<1000000000:=by
  rw[hqh];refine Int.ediv_lt_of_lt_mul hVP ?_;rw[KA]at hz;have:1000000000*pw i*vl b1=1000000000*(vl b1*pw i):=W
  omega
 have hx1:=ha.get (i+m+2);have hx2:=ha.get (i+m+1);obtain⟨high,hhigh⟩:∃ high,high=acur.getD (i+m+2) 0*1000000000+acur.getD (i+m+1) 0:=⟨_,rfl⟩;rw[<- hhigh]at gs;have hb0:0<=high/\high<1000000000000000000:=Z
 obtain⟨mm,m1,m2,m3,m4,m5⟩:=gs.bAL q0 q1 q2 qB;have gl:=aW8 (f:=f) (n:=((m+2:Nat):Int)) (i2:=(i:Int)) (out:=out) A ha hb hbl rfl rfl Z Z rfl htop hb0 rfl rfl m1 m2 m3;have hg:0<=high/b1.getD (m+1) 0-(mm:Int)/\high/b1.getD (m+1) 0-(mm:Int)<1000000000:=⟨by omega,by
  rcases Int.lt_or_le (high/b1.getD (m+1) 0-(mm:Int)) 1000000000 with h|h
  ·exact h
  ·exact absurd (.inl h) m3⟩
 obtain⟨g,hgd⟩:∃ g,g=high/b1.getD (m+1) 0-(mm:Int):=⟨_,rfl⟩;rw[<- hgd]at gl m4 m5 hg;have tr:=aYD (i:=i) (n:=m+2) ha hb hbl Z (by rw[show i+(m+2)+1=i+m+3 by omega]; exact hzz) hg q1 q2 m4 m5;have te:=a1A (n:=g) (at':=i) ha hb hg Z Z;rw[hbl]at te
 -- the operations
 have e1:ltI (i:Int) 0=false:=by rw[aE]; exact oF Z
 have e2:aC .i64 ((i:Int)+((m+2:Nat):Int))=((i+m+2:Nat):Int):=by rw[wrap64 Z Z]; omega
 have e3:aF ((i+m+2:Nat):Int) acur.length=true:=by rw[aL]; exact oT Z
 have e4:Nat.blt (i+m+2) acur.length=true:=by rw[cA]; exact oT Z
 have e5:aC .i64 (((i+m+2:Nat):Int)-1)=((i+m+1:Nat):Int):=by rw[wrap64 Z Z]; omega
 have e6:aF ((i+m+1:Nat):Int) acur.length=true:=by rw[aL]; exact oT Z
 have e7:Nat.blt (i+m+1) acur.length=true:=by rw[cA]; exact oT Z
 have e8:aC .i64 (((m+2:Nat):Int)-1)=((m+1:Nat):Int):=by rw[wrap64 Z Z]; omega
 have e9:aF ((m+1:Nat):Int) b1.length=true:=by rw[aL]; exact oT Z
 have e10:eqI (b1.getD (m+1) 0) 0=false:=by rw[dW]; exact oF Z
 have e11:aC .u64 (acur.getD (i+m+2) 0*1000000000)=acur.getD (i+m+2) 0*1000000000:=sL Z Z;have e12:aC .u64 (acur.getD (i+m+2) 0*1000000000+acur.getD (i+m+1) 0)=high:=by rw[sL Z Z,hhigh]
 have e13:high.tdiv (b1.getD (m+1) 0)=high/b1.getD (m+1) 0:=Int.tdiv_eq_ediv_of_nonneg hb0.1;have e14:high.tmod (b1.getD (m+1) 0)=high%b1.getD (m+1) 0:=Int.tmod_eq_emod_of_nonneg hb0.1;have hq0:0<=high/b1.getD (m+1) 0:=Int.ediv_nonneg hb0.1 Z;have hq1:high/b1.getD (m+1) 0<=high:=Int.ediv_le_self _ hb0.1;have e15:aC .u64 (high/b1.getD (m+1) 0)=high/b1.getD (m+1) 0:=sL hq0 Z;have e16:aF (i:Int) out.length=true:=by rw[aL]; exact oT Z
 have e17:Nat.blt i out.length=true:=by rw[cA]; exact oT Z
 have e18:aC .i64 ((i:Int)-1)=(i:Int)-1:=wrap64 Z Z;have hpwi:pw i*vl b1=vl b1*pw i:=Int.mul_comm _ _;have fin:∀ a':List Int,Pc a'->a'.length=acur.length->vl a'=vl acur-qh*(vl b1*pw i) ->
   Pc a'/\a'.length=L/\Pc (out.set i qh)/\(out.set i qh).length=out.length/\vl a'<pw i*vl b1/\vl (out.set i qh)*vl b1+vl a'=vl out*vl b1+vl acur/\∀ j,j<i->(out.set i qh).getD j 0=out.getD j 0:=by
  intro a' p1 p2 p3;refine⟨p1,p2.trans hal,ho.set ⟨q0,qB⟩ _,List.length_set,?_,?_,λj hj=>Go.De.getD_set_ne _ _ Z⟩
  ·rw[p3,hpwi];have:(qh+1)*(vl b1*pw i)=qh*(vl b1*pw i)+vl b1*pw i:=W
   omega
  ·rw[aE1 out i qh Z,hoi,p3];grind
 rcases tr with ⟨t1,t2,t3,t4,t5⟩|⟨t1,t2,t3,t4,t5,t6,t7⟩
 ·refine⟨(tkS b1 g i acur (m+2+1)).1,out.set i qh,?_,fin _ t3 t4 t5⟩;rw[t1]at te;have d0:decide ((0:Int)<0)=false:=rfl;rw[d0,t2]at te;rw[t2]at gl ⊢;simp only[dZ,e1,e2,e3,e4,e5,e6,e7,e8,e9,e10,e11,e12,e13,e14,e15,oC,oD,Bool.not_false,oN,gl,aD,te,e16,e17,e18]
 ·refine⟨(bkS b1 i (tkS b1 g i acur (m+2+1)).1 (m+2+1)).1,out.set i qh,?_,fin _ t5 t6 t7⟩;have be:=back_eq (at':=i) t3 hb Z Z;rw[hbl]at be;rw[t1]at te;have d0:decide ((0:Int)<1)=true:=rfl;rw[d0]at te;have e19:aC .u64 (g-1)=qh:=by rw[sL Z Z]; omega
  simp only[dZ,e1,e2,e3,e4,e5,e6,e7,e8,e9,e10,e11,e12,e13,e14,e15,oC,oD,Bool.not_false,oN,gl,aD,te,be,e16,e17,e18,e19]
theorem a1G(a b:Nat)(hb2:2<=(pcs b).length)(hab:b<=a)(hl:(pcs a).length<=500000)(A:List (List Int)):gO () (pcs a,pcs b,()) A=some ((pcs (a/b),pcs (a%b),()),A):=by
 obtain⟨m,hm⟩:∃ m,(pcs b).length=m+2:=⟨(pcs b).length-2,by omega⟩;have hba:=WH hab;have htop:=a0H (u:=b) (k:=m+1) hm;have hb0:0<b:=by
  rcases Nat.eq_zero_or_pos b with h|h
  ·subst h; rw[Z3]at hm; cases hm
  ·exact h
 have htB:=((iY b).1.get (m+1)).2;obtain⟨top,htop'⟩:∃ top:Nat,(pcs b).getD (m+1) 0=top:=⟨((pcs b).getD (m+1) 0).toNat,by omega⟩;rw[htop']at htop htB;obtain⟨f,hf⟩:∃ f:Nat,f=1000000000/(top+1):=⟨_,rfl⟩;have hf1:1<=f:=by rw[hf]; exact Nat.div_pos za za
 have hf2:(top+1)*f<=1000000000:=by rw[hf]; exact Nat.mul_div_le _ _
 have hfB:f<1000000000:=by
  have:2*f<=(top+1)*f:=Nat.mul_le_mul_right _ za;omega
 -- the divisor keeps its length
 have hbf:(pcs (b*f)).length=m+2:=by
  have h1:b<(top+1)*1000000000^(m+1):=by
   have:=(a7B (iY b).1 (k:=m+1) (λj hj=>I6 (iY b).1 (k:=m+2) (by have:=OJ (iY b).1; rw[hm]at this; exact this) za) za).2;rw[(iY b).2.2,htop',a3N]at this;have e:((top:Int)+1)*((1000000000^(m+1):Nat):Int)=(((top+1)*1000000000^(m+1):Nat):Int):=by rw[Int.natCast_mul]; rfl
   omega
  have h2:b*f<1000000000^(m+2):=by
   have h3:b*f<(top+1)*1000000000^(m+1)*f:=Nat.mul_lt_mul_of_pos_right h1 hf1;have h4:(top+1)*1000000000^(m+1)*f=(top+1)*f*1000000000^(m+1):=by rw[Nat.mul_right_comm]
   have h5:(top+1)*f*1000000000^(m+1)<=1000000000*1000000000^(m+1):=Nat.mul_le_mul_right _ hf2;have h6:1000000000^(m+2)=1000000000*1000000000^(m+1):=by rw[Nat.pow_succ,Nat.mul_comm]
   omega
  have h3:=XB h2;have h4:=WH (show b<=b*f from Nat.le_mul_of_pos_right b hf1);omega
 have haf:=WH (show a<=a*f from Nat.le_mul_of_pos_right a hf1);have habf:=WH (show b*f<=a*f from Nat.mul_le_mul_right f hab);have hafl:(pcs (a*f)).length<=(pcs a).length+1:=by
  refine XB ?_;rw[Nat.pow_succ];exact Nat.mul_lt_mul'' (aM3 a) hfB
 obtain⟨x1,x2,x3⟩:=iY (a*f);obtain⟨y1,y2,y3⟩:=iY (b*f);obtain⟨L,hL⟩:∃ L,L=(pcs (a*f)).length+1:=⟨_,rfl⟩;have ha1:Pc (pcs (a*f)++[0]):=x1.append (λx hx=>by rw[List.mem_singleton.1 hx]; decide);have ha2:(pcs (a*f)++[0]).length=L:=by simp[hL]
 have ha3:vl (pcs (a*f)++[0])=((a*f:Nat):Int):=by rw[JC,x3]; simp[vl]
 have hbtop:=a0H (u:=b*f) (k:=m+1) hbf;have hbfpos:0<vl (pcs (b*f)):=by rw[y3]; have:=Nat.mul_pos hb0 hf1; omega
 -- the rounds
 have rounds:=bCJ (step:=dZ) (N:=2^64)
  (Z:=λz=>∃ acur out,z=((f:Int),acur,out,A,())/\Pc acur/\acur.length=L/\Pc out/\out.length=L-(m+2)/\vl acur<vl (pcs (b*f))/\vl out*vl (pcs (b*f))+vl acur=((a*f:Nat):Int))
  (λt y=>∃ acur out,y=((f:Int),acur,pcs (b*f),((m+2:Nat):Int),out,((L-(m+2):Nat):Int)-1-(t:Int),A,())/\Pc acur/\acur.length=L/\Pc out/\out.length=L-(m+2)/\vl acur<pw (L-(m+2)-t)*vl (pcs (b*f))/\vl out*vl (pcs (b*f))+vl acur=((a*f:Nat):Int)/\∀ j,j<L-(m+2)-t->out.getD j 0=0)
  (L-(m+2)) ((f:Int),pcs (a*f)++[0],pcs (b*f),((m+2:Nat):Int),List.replicate (L-(m+2)) 0,((L-(m+2):Nat):Int)-1,A,()) za ?_ ?_ ?_
 ·obtain⟨z,z1,acur,out,rfl,c1,c2,c3,c4,c5,c6⟩:=rounds;have z1:nG ((f:Int),pcs (a*f)++[0],pcs (b*f),((m+2:Nat):Int),List.replicate (L-(m+2)) 0,((L-(m+2):Nat):Int)-1,A,())=_:=z1;obtain⟨r,hr⟩:∃ r:Nat,vl acur=r:=⟨(vl acur).toNat,by have:=sC c1; omega⟩;obtain⟨q,hq⟩:∃ q:Nat,vl out=q:=⟨(vl out).toNat,by have:=sC c3; omega⟩;rw[hr,hq,y3]at c6;rw[hr,y3]at c5;have e:q*(b*f)+r=a*f:=by
   have:((q*(b*f)+r:Nat):Int)=((a*f:Nat):Int):=by rw[Int.natCast_add,Int.natCast_mul]; exact c6
   exact Int.ofNat_inj.1 this
  have hrlt:r<b*f:=za
  have hbf0:0<b*f:=Nat.mul_pos hb0 hf1;have hq':q=a/b:=by
   have:a*f/(b*f)=q:=by rw[<- e,Nat.mul_comm q,Nat.mul_add_div hbf0,Nat.div_eq_of_lt hrlt,Nat.add_zero]
   rw[<- this,Nat.mul_div_mul_right _ _ hf1]
  have hr':r=a%b*f:=by
   have:a*f%(b*f)=r:=by rw[<- e,Nat.mul_comm q,Nat.mul_add_mod,Nat.mod_eq_of_lt hrlt]
   rw[<- this,Nat.mul_mod_mul_right]
  have t1:BU acur=pcs r:=JH c1 hr;have t2:BU out=pcs q:=JH c3 hq;have hrl:(pcs r).length<=1048576:=by
   have:=WH (show r<=a*f by omega);omega
  have sm:=aVM r (n:=f) ⟨hf1,hfB⟩ hrl A;have hrf:r/f=a%b:=by rw[hr',Nat.mul_div_cancel _ hf1]
  rw[hrf]at sm
  -- the first operations
  have w1:aC .i64 (((m+2:Nat):Int)-1)=((m+1:Nat):Int):=by rw[wrap64 za za]; omega
  have w2:aF ((m+1:Nat):Int) (m+2)=true:=by rw[aL]; exact oT za
  have w3:aC .u64 ((top:Int)+1)=((top+1:Nat):Int):=by rw[sL za za]; omega
  have w4:eqI ((top+1:Nat):Int) 0=false:=by rw[dW]; exact oF za
  have w5:(1000000000:Int).tdiv ((top+1:Nat):Int)=(f:Int):=by rw[hf]; rfl
  have w6:aC .u64 (f:Int)=(f:Int):=sL za za;have s1:=aO3 a (n:=f) hfB za A;have s2:=aO3 b (n:=f) hfB za A;have w7:Nat.ble [(0:Int)].length 1048576=true:=rfl;have w8:Nat.ble (pcs (a*f)).length 1048576=true:=by rw[dM]; exact oT za
  have w9:nE (pcs a,(f:Int),pcs (a*f)++[0],pcs (b*f),((m+2:Nat):Int),A,())=some ((f:Int),pcs (a*f)++[0],pcs (b*f),((m+2:Nat):Int),A,()):=by
   show bH nI (2^64) _=_;rw[show (2:Nat)^64=18446744073709551615+1 by rfl,cZ];have:ltI ((pcs a).length:Int) (L:Int)=true:=by rw[aE]; exact oT za
   simp only[nI,ha2,this,Bool.not_true,oD]
  have w10:aC .i64 ((L:Int)-((m+2:Nat):Int))=((L-(m+2):Nat):Int):=by rw[wrap64 za za]; omega
  have w11:ltI ((L-(m+2):Nat):Int) 0=false:=by rw[aE]; exact oF za
  have w12:ltI ((L-(m+2):Nat):Int) ((L-(m+2):Nat):Int)=false:=by rw[aE]; exact oF za
  have w13:ltI 1048576 ((L-(m+2):Nat):Int)=false:=by rw[aE]; exact oF za
  have w14:aC .i64 (((L-(m+2):Nat):Int)-1)=((L-(m+2):Nat):Int)-1:=wrap64 za za;unfold gO;simp only[hm,w1,w2,oN,htop',w3,w4,w5,w6,oC,oD,s1,aD,w7,w8,s2,hbf,w9,ha2,w10,w11,w12,w13,w14,Bool.not_false,z1,XW (show acur.length<=4000000 by omega),t1,sm,XW (show out.length<=4000000 by omega),t2,hq'];rfl
 ·refine⟨_,_,by rw[show ((L-(m+2):Nat):Int)-1-((0:Nat):Int)=((L-(m+2):Nat):Int)-1 by omega],ha1,ha2,Pc.rep _,by simp,?_,by rw[YS,ha3]; simp,λj hj=>by simp[oQ,List.getElem?_replicate]; split <;> rfl⟩;rw[ha3,<- x3,Nat.sub_zero];have h1:=OJ x1;have h2:=(a7B y1 (k:=m+1) (λj hj=>I6 y1 (k:=m+2) (by have:=OJ y1; rw[hbf]at this; exact this) za) za).1;have h3:pw (m+1)<=vl (pcs (b*f)):=by
   have:1*pw (m+1)<=(pcs (b*f)).getD (m+1) 0*pw (m+1):=Int.mul_le_mul_of_nonneg_right za (Int.le_of_lt (PE _));omega
  have h4:pw (L-(m+2))*pw (m+1)<=pw (L-(m+2))*vl (pcs (b*f)):=Int.mul_le_mul_of_nonneg_left h3 (Int.le_of_lt (PE _));rw[<- aDQ,show L-(m+2)+(m+1)=(pcs (a*f)).length by omega]at h4;omega
 ·rintro t y ht ⟨acur,out,rfl,c1,c2,c3,c4,c5,c6,c7⟩;obtain⟨i,hi⟩:∃ i,i=L-(m+2)-t-1:=⟨_,rfl⟩;have ei:((L-(m+2):Nat):Int)-1-(t:Int)=(i:Int):=za
  have ei':((L-(m+2):Nat):Int)-1-((t+1:Nat):Int)=(i:Int)-1:=za
  rw[show L-(m+2)-t=i+1 by omega]at c5 c7;obtain⟨acur',out',s,d1,d2,d3,d4,d5,d6,d7⟩:=aR2 (f:=(f:Int)) A c1 y1 hbf hbtop c2 (i:=i) za za c4 (c7 i za) c3 c5;rw[ei];refine⟨_,s,acur',out',by rw[ei'],d1,d2,d3,d4.trans c4,?_,d6.trans c6,λj hj=>?_⟩
  ·rw[show L-(m+2)-(t+1)=i by omega]; exact d5
  ·rw[d7 j za]; exact c7 j za
 ·rintro y ⟨acur,out,rfl,c1,c2,c3,c4,c5,c6,c7⟩;rw[Nat.sub_self,aQ7,Int.one_mul]at c5;have e1:ltI (((L-(m+2):Nat):Int)-1-((L-(m+2):Nat):Int)) 0=true:=by rw[aE]; exact oT za
  exact⟨_,by simp only[dZ,e1,Bool.not_true,oD],acur,out,rfl,c1,c2,c3,c4,c5,c6⟩
end Go.PM
