/- Texts of one proof, joined (7). -/
import Derived.Lib.AtoiTie
import Derived.Lib.ParseIntBTie
import Derived.Test.YtmghkhgpkefgeaaGreatDoorQP6
set_option linter.unusedSimpArgs false
set_option linter.unusedVariables false
set_option maxRecDepth 100000
noncomputable section
namespace Go.PM
open Go Go.RowKit Go.Proofs Tryz
set_option maxHeartbeats 4000000
abbrev tA:List (Nat×Kd):=[(0,.list TyE),(1,.list TyE),(12,.int .i64),(13,.int .i64)]
abbrev B1:List (Ex×List (Nat×Kd)):=[(.ret,[(4,.bool)]),(.exit 0,[])]
def eD(x:Shape.den tA):oS tA B1:=match x with
 | (v0,v1,v12,v13,()) =>
  bif ltI v13 v12 then
   bif aF v13 v0.length then bif aF v13 v1.length then bif !(eqI (v0.getD v13.toNat 0) (v1.getD v13.toNat 0)) then
    some (.inr (.inl (false,())))
   else some (.inl (v0,v1,v12,(aB .i64 (v13+1)),())) else none else none
  else some (.inr (.inr ((()))))
def lI(x:Shape.den tA):oX B1:=bF eD (2^64) x
def eU(x:aH [.list TyE,.list TyE]):oK [.bool]:=match x with
 | (v0,v1,()) =>
  bif !(eqI (v0.length:Int) (v1.length:Int)) then
   some (false,())
  else aC (lI (v0,v1,(v0.length:Int),0,())) λz1 =>
  xJ z1 (λa2=>some (a2.1,())) λb3 =>
  some (true,())
abbrev EV:Ent:=⟨20,_,_,eU⟩
theorem OD:Ent.OK tP EV:=oU (aO oW) func20 4 (lp:=lI) rfl Y (by rintro⟨v0,v1,v12,v13,⟨⟩⟩; kernel_rfl) (by rintro⟨v0,v1,⟨⟩⟩; kernel_rfl)
def KC(x:aH [.list TyE,.list TyE]):oK [.bool]:=match x with
 | (v0,v1,()) =>
  aC (dS (v0,v1,())) λy1 =>
  some (y1.1,())
abbrev aFQ:Ent:=⟨133,_,_,KC⟩
theorem aBI:Ent.OK tP aFQ:=oI (aO (oV wN oW)) func133 Y (by rintro⟨v0,v1,⟨⟩⟩; kernel_rfl)
abbrev dV:List (Nat×Kd):=[(1,.list TyD),(2,.fn 133),(15,.list TyD),(16,.int .i64),(17,.int .i64)]
abbrev iZ:List (Ex×List (Nat×Kd)):=[(.ret,[(6,.bool)]),(.exit 0,[])]
def aT(x:Shape.den dV):oS dV iZ:=match x with
 | (v1,v2,v15,v16,v17,()) =>
  bif ltI v17 v16 then
   bif aF v17 v15.length then bif aF v17 v1.length then aC (KC ((v15.getD v17.toNat []),(v1.getD v17.toNat []),())) λy2 =>
   bif y2.1 then
    some (.inl (v1,(),v15,v16,(aB .i64 (v17+1)),()))
   else some (.inr (.inl (false,()))) else none else none
  else some (.inr (.inr ((()))))
def cC(x:Shape.den dV):oX iZ:=bF aT (2^64) x
def bE(x:aH [.list TyD,.list TyD,.fn 133]):oK [.bool]:=match x with
 | (v0,v1,v2,()) =>
  bif !(eqI (v0.length:Int) (v1.length:Int)) then
   some (false,())
  else aC (cC (v1,(),v0,(v0.length:Int),0,())) λz3 =>
  xJ z3 (λa4=>some (a4.1,())) λb5 =>
  some (true,())
abbrev vH:Ent:=⟨131,_,_,bE⟩
theorem tI:Ent.OK tP vH:=oU (aO (oV aBI oW)) func131 4 (lp:=cC) rfl Y (by rintro⟨v1,v2,v15,v16,v17,⟨⟩⟩; kernel_rfl) (by rintro⟨v0,v1,v2,⟨⟩⟩; kernel_rfl)
def GJ(x:aH [.list TyD,.list TyD]):oK [.bool]:=match x with
 | (v0,v1,()) =>
  aC (bE (v0,v1,(),())) λy1 =>
  some (y1.1,())
abbrev aJQ:Ent:=⟨77,_,_,GJ⟩
theorem aD8:Ent.OK tP aJQ:=oI (aO (oV tI oW)) func77 Y (by rintro⟨v0,v1,⟨⟩⟩; kernel_rfl)
abbrev M8:List (Nat×Kd):=[(0,.int .i64),(3,.int .i64)]
abbrev XR:List (Ex×List (Nat×Kd)):=[(.ret,[(2,.bool)]),(.exit 0,[])]
def aFT(x:Shape.den M8):oS M8 XR:=match x with
 | (v0,v3,()) =>
  bif !(ltI v0 (aB .i64 (v3*v3))) then
   bif eqI v3 0 then none else bif eqI (v0.tmod v3) 0 then
    some (.inr (.inl (false,())))
   else some (.inl (v0,(aB .i64 (v3+1)),()))
  else some (.inr (.inr ((()))))
def S2(x:Shape.den M8):oX XR:=bF aFT (2^64) x
def zH(x:aH [.int .i64]):oK [.bool]:=match x with
 | (v0,()) =>
  bif ltI v0 2 then
   some (false,())
  else bif ltI 97 v0 then
   some (false,())
  else aC (S2 (v0,2,())) λz1 =>
  xJ z1 (λa2=>some (a2.1,())) λb3 =>
  some (true,())
abbrev aRH:Ent:=⟨48,_,_,zH⟩
theorem aI0:Ent.OK tP aRH:=oU (aO oW) func48 4 (lp:=S2) rfl Y (by rintro⟨v0,v3,⟨⟩⟩; kernel_rfl) (by rintro⟨v0,⟨⟩⟩; kernel_rfl)
abbrev SJ:List (Nat×Kd):=[(0,.list TyE),(13,.list TyE),(14,.int .i64),(15,.int .i64)]
abbrev aCA:List (Ex×List (Nat×Kd)):=[(.ret,[(2,.int .i64)]),(.exit 1,[])]
def sJ(x:Shape.den SJ):oS SJ aCA:=match x with
 | (v0,v13,v14,v15,()) =>
  bif ltI v15 v14 then
   bif aF v15 v13.length then aC (zH ((v13.getD v15.toNat 0),())) λy2 =>
   bif y2.1 then
    bif ltI 0 v15 then
     bif aF (aB .i64 (v15-1)) v0.length then bif !(ltI (v0.getD ((aB .i64 (v15-1)).toNat) 0) (v13.getD v15.toNat 0)) then
      some (.inr (.inl (6,())))
     else some (.inl (v0,v13,v14,(aB .i64 (v15+1)),())) else none
    else some (.inl (v0,v13,v14,(aB .i64 (v15+1)),()))
   else some (.inr (.inl (25,()))) else none
  else some (.inr (.inr ((()))))
def NP(x:Shape.den SJ):oX aCA:=bF sJ (2^64) x
def aS(x:aH [.list TyE]):oK [.int .i64]:=match x with
 | (v0,()) =>
  bif eqI (v0.length:Int) 0 then
   some (13,())
  else bif ltI 6 (v0.length:Int) then
   some (4,())
  else aC (NP (v0,v0,(v0.length:Int),0,())) λz3 =>
  xJ z3 (λa4=>some (a4.1,())) λb5 =>
  some (0,())
abbrev aXQ:Ent:=⟨32,_,_,aS⟩
theorem AS:Ent.OK tP aXQ:=oU (aO (oV aI0 oW)) func32 6 (lp:=NP) rfl Y (by rintro⟨v0,v13,v14,v15,⟨⟩⟩; kernel_rfl) (by rintro⟨v0,⟨⟩⟩; kernel_rfl)
def iH(x:aH [.agg TyG]):oK [.int .i64]:=match x with
 | (v0,()) =>
  aC (aS (v0.1,())) λy1 =>
  bif !(eqI y1.1 0) then
   some (y1.1,())
  else aC (pU (((v0.1.length:Int),v0.2.1),())) λy2 =>
  bif !(eqI y2.1 0) then
   some (y2.1,())
  else aC (lZ (((v0.1.length:Int),v0.2.1),())) λy3 =>
  bif !(eqI y3.2.1 0) then
   some (7,())
  else aC (H7 (y3.1,((v0.1.length:Int),v0.2.1),())) λy4 =>
  bif y4.1 then
   aC (gV (((v0.1.length:Int),v0.2.1),())) λy5 =>
   bif !(eqI y5.2.1 0) then
    some (14,())
   else aC (GJ (y5.1.2,v0.2.2,())) λy6 =>
   bif y6.1 then
    some (0,())
   else some (14,())
  else some (7,())
abbrev V6:Ent:=⟨24,_,_,iH⟩
theorem aCT:Ent.OK tP V6:=oI (aO (oV DF (oV GY (oV aKE (oV HY (oV AS (oV aD8 oW))))))) func24 Y (by rintro⟨v0,⟨⟩⟩; kernel_rfl)
def sN(x:aH [.list TyE,.list TyD]):oK [.list TyD,.list TyD,.int .i64]:=match x with
 | (v0,v1,()) =>
  aC (aS (v0,())) λy1 =>
  bif !(eqI y1.1 0) then
   some ([],[],y1.1,())
  else aC (vK ((v0.length:Int),v1,())) λy2 =>
  bif !(eqI y2.2.1 0) then
   some ([],[],y2.2.1,())
  else aC (lZ (y2.1,())) λy3 =>
  bif !(eqI y3.2.1 0) then
   some ([],[],y3.2.1,())
  else aC (gV (y2.1,())) λy4 =>
  some (y3.1.2,y4.1.2,y4.2.1,())
abbrev aJB:Ent:=⟨94,_,_,sN⟩
theorem aES:Ent.OK tP aJB:=oI (aO (oV DF (oV VN (oV HY (oV AS oW))))) func94 Y (by rintro⟨v0,v1,⟨⟩⟩; kernel_rfl)
def lD(x:aH [.list TyE]):oK [.list TyE]:=match x with
 | (v0,()) =>
  bif Nat.blt 0 v0.length then bif Nat.ble v0.length 1048576 then some (v0,()) else none else none
abbrev R5:Ent:=⟨95,_,_,lD⟩
theorem OM:Ent.OK tP R5:=oI (aO oW) func95 Y (by rintro⟨v0,⟨⟩⟩; kernel_rfl)
def cE(x:aH [.list TyE,.list TyD]):oK [.agg TyG,.int .i64]:=match x with
 | (v0,v1,()) =>
  aC (sN (v0,v1,())) λy1 =>
  bif !(eqI y1.2.2.1 0) then
   some (([],([],[])),y1.2.2.1,())
  else aC (lD (v0,())) λy2 =>
  some ((y2.1,(y1.1,y1.2.1)),0,())
abbrev DD:Ent:=⟨39,_,_,cE⟩
theorem nB:Ent.OK tP DD:=oI (aO (oV OM (oV aES oW))) func39 Y (by rintro⟨v0,v1,⟨⟩⟩; kernel_rfl)
def uL(x:aH [.list TyE,.list TyD]):oK [.agg TyG,.int .i64]:=match x with
 | (v0,v1,()) =>
  aC (sN (v0,v1,())) λy1 =>
  bif !(eqI y1.2.2.1 0) then
   some (([],([],[])),y1.2.2.1,())
  else aC (lD (v0,())) λy2 =>
  some ((y2.1,(y1.2.1,y1.1)),0,())
def HH(x:aH [.int .u8]):oK [.list TyE]:=match x with
 | (v0,()) =>
  bif eqI ([[2,3,5],[2,3,5,7],[2,3],[2,3,7],[2,5,7],[3,5,7],[2,3,5,11],[2],[2,3,7,13],[3,5,7,13]].length:Int) 0 then none else bif aF ((IntKind.wrap .i64 v0).tmod ([[2,3,5],[2,3,5,7],[2,3],[2,3,7],[2,5,7],[3,5,7],[2,3,5,11],[2],[2,3,7,13],[3,5,7,13]].length:Int)) [[2,3,5],[2,3,5,7],[2,3],[2,3,7],[2,5,7],[3,5,7],[2,3,5,11],[2],[2,3,7,13],[3,5,7,13]].length then some (([[2,3,5],[2,3,5,7],[2,3],[2,3,7],[2,5,7],[3,5,7],[2,3,5,11],[2],[2,3,7,13],[3,5,7,13]].getD (((IntKind.wrap .i64 v0).tmod ([[2,3,5],[2,3,5,7],[2,3],[2,3,7],[2,5,7],[3,5,7],[2,3,5,11],[2],[2,3,7,13],[3,5,7,13]].length:Int)).toNat) []),()) else none
abbrev aEF:Ent:=⟨63,_,_,HH⟩
theorem YT:Ent.OK tP aEF:=oI (aO oW) func63 Y (by rintro⟨v0,⟨⟩⟩; kernel_rfl)
abbrev AK:List (Nat×Kd):=[(0,.list TyE),(3,.box 52 TyI),(5,.own 3 TyE),(6,.int .i64)]
abbrev JX:List (Ex×List (Nat×Kd)):=[(.exit 0,[(5,.own 3 TyE)])]
def rM(x:Shape.den AK):oS AK JX:=match x with
 | (v0,v3,v5,v6,()) =>
  bif ltI v6 (v0.length:Int) then
   bif ltI v6 4 then
    bif eqI v6 0 then
     bif Nat.ble [((IntKind.wrap .i64 v3.1).tmod 10)].length 1048576 then bif Nat.ble v5.length 1048576 then some (.inl (v0,v3,(v5++[((IntKind.wrap .i64 v3.1).tmod 10)]),(aB .i64 (v6+1)),())) else none else none
    else bif eqI v6 1 then
     bif Nat.ble [((IntKind.wrap .i64 v3.2.1).tmod 10)].length 1048576 then bif Nat.ble v5.length 1048576 then some (.inl (v0,v3,(v5++[((IntKind.wrap .i64 v3.2.1).tmod 10)]),(aB .i64 (v6+1)),())) else none else none
    else bif eqI v6 2 then
     bif Nat.ble [((IntKind.wrap .i64 v3.2.2.1).tmod 10)].length 1048576 then bif Nat.ble v5.length 1048576 then some (.inl (v0,v3,(v5++[((IntKind.wrap .i64 v3.2.2.1).tmod 10)]),(aB .i64 (v6+1)),())) else none else none
    else bif eqI v6 3 then bif Nat.ble [((IntKind.wrap .i64 v3.2.2.2).tmod 10)].length 1048576 then bif Nat.ble v5.length 1048576 then some (.inl (v0,v3,(v5++[((IntKind.wrap .i64 v3.2.2.2).tmod 10)]),(aB .i64 (v6+1)),())) else none else none else none
   else some (.inr ((v5,())))
  else some (.inr ((v5,())))
def xY(x:Shape.den AK):oX JX:=bF rM (2^64) x
def xR(x:aH [.list TyE,.agg TyI]):oK [.list TyE]:=match x with
 | (v0,v1,()) =>
  aC (xY (v0,v1,[],0,())) λz1 =>
  some (z1.1,())
abbrev aAC:Ent:=⟨64,_,_,xR⟩
theorem WY:Ent.OK tP aAC:=oU (aO oW) func64 3 (lp:=xY) rfl Y (by rintro⟨v0,v3,v5,v6,⟨⟩⟩; kernel_rfl) (by rintro⟨v0,v1,⟨⟩⟩; kernel_rfl)
def sS(x:aH [.list TyE,.list TyD,.bool]):oK [.agg TyG,.int .i64]:=match x with
 | (v0,v1,v2,()) =>
  aC (aS (v0,())) λy1 =>
  bif !(eqI y1.1 0) then
   some (([],([],[])),y1.1,())
  else aC (vK ((v0.length:Int),v1,())) λy2 =>
  bif !(eqI y2.2.1 0) then
   some (([],([],[])),y2.2.1,())
  else aC (lZ (y2.1,())) λy3 =>
  aC (gV (y2.1,())) λy4 =>
  bif !(eqI y3.2.1 0) then
   some (([],([],[])),4,())
  else bif !(eqI y4.2.1 0) then
   some (([],([],[])),4,())
  else bif v2 then
   some ((v0,(y4.1.2,y3.1.2)),0,())
  else some ((v0,(y3.1.2,y4.1.2)),0,())
abbrev aFM:Ent:=⟨65,_,_,sS⟩
theorem aAT:Ent.OK tP aFM:=oI (aO (oV DF (oV VN (oV HY (oV AS oW))))) func65 Y (by rintro⟨v0,v1,v2,⟨⟩⟩; kernel_rfl)
abbrev F7:List (Nat×Kd):=[(1,.box 24 TyP),(2,.box 35 TyG),(3,.list TyE),(4,.own 53 TyD),(5,.int .i64)]
abbrev OT:List (Ex×List (Nat×Kd)):=[(.exit 0,[(1,.box 24 TyP),(2,.box 35 TyG),(3,.list TyE),(4,.own 53 TyD)])]
def vR(x:Shape.den F7):oS F7 OT:=match x with
 | (v1,v2,v3,v4,v5,()) =>
  bif ltI v5 (v1.2.1.length:Int) then
   bif ltI v5 3 then
    bif aF v5 v1.2.1.length then aC (xR (v3,((v1.2.1.getD v5.toNat (0,(0,(0,0)))).1,((v1.2.1.getD v5.toNat (0,(0,(0,0)))).2.1,((v1.2.1.getD v5.toNat (0,(0,(0,0)))).2.2.1,(v1.2.1.getD v5.toNat (0,(0,(0,0)))).2.2.2))),())) λy3 =>
    bif Nat.ble [y3.1].length 1048576 then bif Nat.ble v4.length 1048576 then some (.inl (v1,v2,v3,(v4++[y3.1]),(aB .i64 (v5+1)),())) else none else none else none
   else some (.inr ((v1,v2,v3,v4,())))
  else some (.inr ((v1,v2,v3,v4,())))
def C4(x:Shape.den F7):oX OT:=bF vR (2^64) x
def qR(x:aH [.agg TyP]):oK [.agg TyG]:=match x with
 | (v0,()) =>
  aC (HH (v0.1,())) λy1 =>
  aC (C4 (v0,([],([],[])),y1.1,[],0,())) λz4 =>
  aC (sS (z4.2.2.1,z4.2.2.2.1,z4.1.2.2,())) λy5 =>
  some (y5.1,())
abbrev aHE:Ent:=⟨15,_,_,qR⟩
theorem aCJ:Ent.OK tP aHE:=oU (aO (oV WY (oV YT (oV aAT oW)))) func15 4 (lp:=C4) rfl Y (by rintro⟨v1,v2,v3,v4,v5,⟨⟩⟩; kernel_rfl) (by rintro⟨v0,⟨⟩⟩; kernel_rfl)
def zG(x:aH [.agg TyP]):oK [.bool]:=match x with
 | (v0,()) =>
  some (!(ltI 3 (v0.2.1.length:Int)),())
abbrev aG6:Ent:=⟨13,_,_,zG⟩
theorem aCO:Ent.OK tP aG6:=oI (aO oW) func13 Y (by rintro⟨v0,⟨⟩⟩; kernel_rfl)
def EH(x:aH [.agg TyQ]):oK [.agg TyG,.agg TyG]:=match x with
 | (v0,()) =>
  bif v0.2.2 then
   aC (qR (v0.1,())) λy1 =>
   aC (qR ((v0.1.1,v0.2.1.2),())) λy2 =>
   some (y1.1,y2.1,())
  else aC (qR (v0.1,())) λy3 =>
  aC (qR (v0.2.1,())) λy4 =>
  some (y3.1,y4.1,())
abbrev aG9:Ent:=⟨14,_,_,EH⟩
theorem aCM:Ent.OK tP aG9:=oI (aO (oV aCJ oW)) func14 Y (by rintro⟨v0,⟨⟩⟩; kernel_rfl)
def ED(x:aH [.agg TyQ]):oK [.bool]:=match x with
 | (v0,()) =>
  aC (zG (v0.1,())) λy1 =>
  bif y1.1 then
   aC (zG (v0.2.1,())) λy2 =>
   some (y2.1,())
  else some (false,())
abbrev aH4:Ent:=⟨12,_,_,ED⟩
theorem aCZ:Ent.OK tP aH4:=oI (aO (oV aCO oW)) func12 Y (by rintro⟨v0,⟨⟩⟩; kernel_rfl)
abbrev q9:List (Nat×Kd):=[(0,.list TyG),(8,.list TyG),(9,.int .i64),(10,.int .i64)]
abbrev uT:List (Ex×List (Nat×Kd)):=[(.ret,[(2,.int .i64)]),(.exit 0,[(0,.list TyG)])]
def sP(x:Shape.den q9):oS q9 uT:=match x with
 | (v0,v8,v9,v10,()) =>
  bif ltI v10 v9 then
   bif aF v10 v8.length then aC (iH (((v8.getD v10.toNat ([],([],[]))).1,((v8.getD v10.toNat ([],([],[]))).2.1,(v8.getD v10.toNat ([],([],[]))).2.2)),())) λy2 =>
   bif !(eqI y2.1 0) then
    some (.inr (.inl (y2.1,())))
   else some (.inl (v0,v8,v9,(aB .i64 (v10+1)),())) else none
  else some (.inr (.inr ((v0,()))))
def xU(x:Shape.den q9):oX uT:=bF sP (2^64) x
abbrev rD:List (Nat×Kd):=[(0,.list TyG),(20,.list TyG),(21,.int .i64),(22,.int .i64)]
abbrev uW:List (Ex×List (Nat×Kd)):=[(.ret,[(2,.int .i64)]),(.exit 2,[])]
def nW(x:Shape.den rD):oS rD uW:=match x with
 | (v0,v20,v21,v22,()) =>
  bif ltI v22 v21 then
   bif aF v22 v20.length then bif aF 0 v0.length then aC (eU ((v20.getD v22.toNat ([],([],[]))).1,(v0.getD 0 ([],([],[]))).1,())) λy7 =>
   bif y7.1 then
    some (.inl (v0,v20,v21,(aB .i64 (v22+1)),()))
   else some (.inr (.inl (14,()))) else none else none
  else some (.inr (.inr ((()))))
def yD(x:Shape.den rD):oX uW:=bF nW (2^64) x
def eP(x:aH [.list TyG]):oK [.int .i64]:=match x with
 | (v0,()) =>
  aC (xU (v0,v0,(v0.length:Int),0,())) λz3 =>
  xJ z3 (λa4=>some (a4.1,())) λb5 =>
  aC (yD (b5.1,b5.1,(b5.1.length:Int),0,())) λz8 =>
  xJ z8 (λa9=>some (a9.1,())) λb10 =>
  some (0,())
def NJ:Code:=dJ f66
abbrev NZ:Env:=LY [EV,V6]
theorem IT:gD tP NZ:=aO ⟨OD,aCT,trivial⟩
def KR:Code:=iC NJ 0
def J7:Code:=iC NJ 1
def LI(id:Nat):Option dN:=bif Nat.beq id 2 then some ⟨q9,uT,xU⟩ else bif Nat.beq id 9 then some ⟨rD,uW,yD⟩ else none
theorem YU:∀ x,jW tP NZ 35 (aP f66) LI KR q9 uT x=sP x:=by
 rintro⟨v0,v8,v9,v10,⟨⟩⟩
 kernel_rfl
theorem aBC:eT tP 35 KR ⟨q9,uT,xU⟩:=eZ IT.callee aY.mixed _ (aQ (l:=[]) Y trivial) YU
theorem ZA:∀ x,jW tP NZ 35 (aP f66) LI J7 rD uW x=nW x:=by
 rintro⟨v0,v20,v21,v22,⟨⟩⟩
 kernel_rfl
theorem aB0:eT tP 35 J7 ⟨rD,uW,yD⟩:=eZ IT.callee aY.mixed _ (aQ (l:=[]) Y trivial) ZA
abbrev aJH:Ent:=⟨66,_,_,eP⟩
theorem rB:Ent.OK tP aJH:=aLA aY IT func66 (c:=NJ) Y (bZ:=aP f66) (lt:=LI) (aQ (l:=[KR,J7]) Y ⟨eY (i:=2) Y rfl aBC,eY (i:=9) Y rfl aB0,trivial⟩) (by rintro⟨v0,⟨⟩⟩; kernel_rfl)
def iG(x:aH [.agg TyG]):oK [.agg TyH]:=match x with
 | (v0,()) =>
  some (((v0.1.length:Int),v0.2.1),())
abbrev VM:Ent:=⟨69,_,_,iG⟩
theorem zR:Ent.OK tP VM:=oI (aO oW) func69 Y (by rintro⟨v0,⟨⟩⟩; kernel_rfl)
def S0(x:aH [.agg TyG,.agg TyG]):oK [.bool,.int .i64]:=match x with
 | (v0,v1,()) =>
  aC (iG (v0,())) λy1 =>
  aC (iG (v1,())) λy2 =>
  aC (aB3 (y1.1,y2.1,())) λy3 =>
  some (y3.1,y3.2.1,())
abbrev aFN:Ent:=⟨70,_,_,S0⟩
theorem aBU:Ent.OK tP aFN:=oI (aO (oV aHR (oV zR oW))) func70 Y (by rintro⟨v0,v1,⟨⟩⟩; kernel_rfl)
def B7(x:aH [.agg TyG,.agg TyG]):oK [.bool,.int .i64]:=match x with
 | (v0,v1,()) =>
  aC (eP ([v0,v1],())) λy1 =>
  bif !(eqI y1.1 0) then
   some (false,y1.1,())
  else aC (S0 (v0,v1,())) λy2 =>
  some (y2.1,y2.2.1,())
abbrev S8:Ent:=⟨18,_,_,B7⟩
theorem NM:Ent.OK tP S8:=oI (aO (oV rB (oV aBU oW))) func18 Y (by rintro⟨v0,v1,⟨⟩⟩; kernel_rfl)
def S3(x:aH [.agg TyG,.agg TyG]):oK [.int .i64]:=match x with
 | (v0,v1,()) =>
  aC (B7 (v0,v1,())) λy1 =>
  bif !(eqI y1.2.1 0) then
   some (y1.2.1,())
  else bif y1.1 then
   some (0,())
  else some (6,())
abbrev aF7:Ent:=⟨82,_,_,S3⟩
theorem aAB:Ent.OK tP aF7:=oI (aO (oV NM oW)) func82 Y (by rintro⟨v0,v1,⟨⟩⟩; kernel_rfl)
def N4(x:aH [.agg TyG,.agg TyG]):oK [.int .i64,.int .i64]:=match x with
 | (v0,v1,()) =>
  aC (S3 (v0,v1,())) λy1 =>
  bif !(eqI y1.1 0) then
   some (0,y1.1,())
  else some ((aB .i64 ((v1.2.1.length:Int)-(v0.2.1.length:Int))),0,())
abbrev W7:Ent:=⟨27,_,_,N4⟩
theorem aEQ:Ent.OK tP W7:=oI (aO (oV aAB oW)) func27 Y (by rintro⟨v0,v1,⟨⟩⟩; kernel_rfl)
def cR(x:aH [.nil0,.int .i64]):Option (List ByteArray):=match x with
 | (v0,v1,()) =>
  bif ltI v1 0 then none else bif ltI 0 (aB .i64 (v1-0)) then
   bif !(ltI (aB .i64 (v1-0)) 0) then bif !(ltI 1048576 (aB .i64 (v1-0))) then bif Nat.ble 0 0 then bif Nat.ble 0 ((List.replicate (aB .i64 (v1-0)).toNat (ByteArray.empty:Ty.den .str)).length) then bif Nat.blt 0 ((List.replicate (aB .i64 (v1-0)).toNat (ByteArray.empty:Ty.den .str)).length) then some ((List.replicate (aB .i64 (v1-0)).toNat (ByteArray.empty:Ty.den .str)).take (0-0)) else none else none else none else none else none
  else some []
def pV:Code:=dJ f162
abbrev yM:Env:=LY []
theorem IJ:gD tP yM:=aO trivial
def xK(id:Nat):Option dN:=none
theorem G8:bG pV=[]:=Y
theorem HZ:∀ x,aRG tP yM f162 (aP f162) xK pV [.nil0,.int .i64] 4 110 .str x=cR x:=by
 rintro⟨v0,v1,⟨⟩⟩
 kernel_rfl
theorem J6:aMQ tP 162 [.nil0,.int .i64] 110 .str cR:=aKB aY IJ func162 (c:=pV) Y (bZ:=aP f162) (lt:=xK) (t:=4) Y (aQ G8 trivial) HZ
abbrev yK:Shr:=(162,a2B [.nil0,.int .i64] 110 .str cR)
theorem HM:tQ tP yK:=aJK J6
abbrev cP:List (Nat×Kd):=[(0,.list (.list .str)),(3,.int .i64),(9,.list (.list .str)),(10,.int .i64),(11,.int .i64)]
abbrev dW:List (Ex×List (Nat×Kd)):=[(.exit 0,[(0,.list (.list .str)),(3,.int .i64)])]
def cL(x:Shape.den cP):oS cP dW:=match x with
 | (v0,v3,v9,v10,v11,()) =>
  bif ltI v11 v10 then
   bif aF v11 v9.length then bif ltI (aB .i64 (v3+((v9.getD v11.toNat []).length:Int))) 0 then none else some (.inl (v0,(aB .i64 (v3+((v9.getD v11.toNat []).length:Int))),v9,v10,(aB .i64 (v11+1)),())) else none
  else some (.inr ((v0,v3,())))
def fH(x:Shape.den cP):oX dW:=bF cL (2^64) x
abbrev cQ:List (Nat×Kd):=[(6,.own 110 .str),(25,.list (.list .str)),(26,.int .i64),(27,.int .i64)]
abbrev dU:List (Ex×List (Nat×Kd)):=[(.exit 2,[(6,.own 110 .str)])]
def cM(x:Shape.den cQ):oS cQ dU:=match x with
 | (v6,v25,v26,v27,()) =>
  bif ltI v27 v26 then
   bif aF v27 v25.length then bif Nat.ble (v25.getD v27.toNat []).length 1048576 then bif Nat.ble v6.length 1048576 then some (.inl ((v6++(v25.getD v27.toNat [])),v25,v26,(aB .i64 (v27+1)),())) else none else none else none
  else some (.inr ((v6,())))
def fG(x:Shape.den cQ):oX dU:=bF cM (2^64) x
def cJ(x:aH [.list (.list .str)]):Option (List ByteArray):=match x with
 | (v0,()) =>
  aC (fH (v0,0,v0,(v0.length:Int),0,())) λz1 =>
  aC (cR ((),z1.2.1,())) λy2 =>
  aC (fG (y2,z1.1,(z1.1.length:Int),0,())) λz3 =>
  some z3.1
def eJ:Code:=dJ f118
abbrev iO:Env:=MU [] [yK]
theorem lQ:gD tP iO:=l5 trivial ⟨HM,trivial⟩
def mH:Code:=iC eJ 0
def mE:Code:=iC eJ 1
def gZ(id:Nat):Option dN:=bif Nat.beq id 3 then some ⟨cP,dW,fH⟩ else bif Nat.beq id 11 then some ⟨cQ,dU,fG⟩ else none
theorem DH:∀ x,jW tP iO 36 (aP f118) gZ mH cP dW x=cL x:=by
 rintro⟨v0,v3,v9,v10,v11,⟨⟩⟩
 kernel_rfl
theorem EB:eT tP 36 mH ⟨cP,dW,fH⟩:=eZ lQ.callee aY.mixed _ (aQ (l:=[]) Y trivial) DH
theorem DL:∀ x,jW tP iO 36 (aP f118) gZ mE cQ dU x=cM x:=by
 rintro⟨v6,v25,v26,v27,⟨⟩⟩
 kernel_rfl
theorem EC:eT tP 36 mE ⟨cQ,dU,fG⟩:=eZ lQ.callee aY.mixed _ (aQ (l:=[]) Y trivial) DL
theorem E8:bG eJ=[mH,mE]:=Y
theorem FI:∀ x,aRG tP iO f118 (aP f118) gZ eJ [.list (.list .str)] 2 110 .str x=cJ x:=by
 rintro⟨v0,⟨⟩⟩
 kernel_rfl
theorem HJ:aMQ tP 118 [.list (.list .str)] 110 .str cJ:=aKB aY lQ func118 (c:=eJ) Y (bZ:=aP f118) (lt:=gZ) (t:=2) Y (aQ E8 ⟨eY (i:=3) Y rfl EB,eY (i:=11) Y rfl EC,trivial⟩) FI
abbrev vX:Shr:=(118,a2B [.list (.list .str)] 110 .str cJ)
theorem FJ:tQ tP vX:=aJK HJ
abbrev pN:List (Nat×Kd):=[(3,.ptr TyH),(4,.bag 98 TyE 53 TyD none),(7,.int .i64),(8,.own 148 (.hnd 1)),(23,.list TyD),(24,.int .i64),(25,.int .i64),(100000,.ar 110 .str)]
abbrev tL:List (Ex×List (Nat×Kd)):=[(.exit 0,[(3,.ptr TyH),(4,.bag 98 TyE 53 TyD none),(7,.int .i64),(8,.own 148 (.hnd 1)),(100000,.ar 110 .str)])]
def qW(x:Shape.den pN):oS pN tL:=match x with
 | (v3,v4,v7,v8,v23,v24,v25,u00,()) =>
  bif ltI v25 v24 then
   bif aF v25 v23.length then aC (rC ((v23.getD v25.toNat []),())) λy5 =>
   aC (rC ((v23.getD v25.toNat []),())) λy6 =>
   aC (cJ ([y5.1,y6.1],())) λy7 =>
   bif Nat.ble [(u00.length,0,y7.length)].length 1048576 then bif Nat.ble v8.length 1048576 then some (.inl (v3,(v4.1,(v4.2.1,())),v7,(v8++[(u00.length,0,y7.length)]),v23,v24,(aB .i64 (v25+1)),(u00++[y7]),())) else none else none else none
  else some (.inr ((v3,(v4.1,(v4.2.1,())),v7,v8,u00,())))
def vW(x:Shape.den pN):oX tL:=bF qW (2^64) x
abbrev pM:List (Nat×Kd):=[(4,.bag 98 TyE 53 TyD none),(7,.int .i64),(8,.own 148 (.hnd 1)),(40,.list TyD),(41,.int .i64),(42,.int .i64),(100000,.ar 110 .str)]
abbrev tK:List (Ex×List (Nat×Kd)):=[(.exit 2,[(4,.bag 98 TyE 53 TyD none),(7,.int .i64),(8,.own 148 (.hnd 1)),(100000,.ar 110 .str)])]
def rF(x:Shape.den pM):oS pM tK:=match x with
 | (v4,v7,v8,v40,v41,v42,u00,()) =>
  bif ltI v42 v41 then
   bif aF v42 v40.length then aC (rC ((v40.getD v42.toNat []),())) λy12 =>
   aC (pG () (v7,()) u00) λy13 =>
   aC (cJ ([y12.1,y13.1],())) λy14 =>
   bif Nat.ble [(y13.2.length,0,y14.length)].length 1048576 then bif Nat.ble v8.length 1048576 then some (.inl ((v4.1,(v4.2.1,())),v7,(v8++[(y13.2.length,0,y14.length)]),v40,v41,(aB .i64 (v42+1)),(y13.2++[y14]),())) else none else none else none
  else some (.inr (((v4.1,(v4.2.1,())),v7,v8,u00,())))
def vU(x:Shape.den pM):oX tK:=bF rF (2^64) x
def nG(x:aH [.agg TyH,.agg TyH]):oK [.agg TyH,.int .i64]:=match x with
 | (v0,v1,()) =>
  aC (tX (v0,v1,())) λy1 =>
  bif !(eqI y1.1 0) then
   some ((0,[]),y1.1,())
  else aC (vW (v1,(0,([],())),v0.1,[],v0.2,(v0.2.length:Int),0,[],())) λz8 =>
  aC (vU ((z8.2.1.1,(z8.2.1.2.1,())),z8.2.2.1,z8.2.2.2.1,z8.1.2,(z8.1.2.length:Int),0,z8.2.2.2.2.1,())) λz15 =>
  aC (cF z15.2.2.1 ((aB .i64 (2*z15.2.1)),()) z15.2.2.2.1) λy16 =>
  aC (dH () (y16.1,z15.2.1,z15.2.1,()) y16.2) λy17 =>
  aC (cW y17.1 (z15.2.1,()) y17.2) λy18 =>
  some (y18.1.1,y18.1.2.1,())
def zM:Code:=dJ f68
abbrev EA:Env:=MU [LH,O4] [BC,mL,mI,NR,vX]
theorem FP:gD tP EA:=l5 ⟨FM,S6,trivial⟩ ⟨GX,nJ,nC,QJ,FJ,trivial⟩
def IU:Code:=inLoop (aML zM 0)
def HQ:Code:=inLoop (aML zM 1)
def B5(id:Nat):Option dN:=bif Nat.beq id 7 then some ⟨pN,tL,vW⟩ else bif Nat.beq id 12 then some ⟨pM,tK,vU⟩ else none
def CB(id:Nat):Option dN:=none
theorem YL:∀ x,aL1 tP EA 67 (S1 f68) B5 CB false [] IU pN tL x=qW x:=by
 rintro⟨v3,v4,v7,v8,v23,v24,v25,u00,⟨⟩⟩
 kernel_rfl
theorem ZQ:UR tP 67 false [] (.loop IU) ⟨pN,tL,vW⟩:=aEA FP.callee aY.mixed _ (NB (l:=[]) Y trivial) YL
theorem YA:∀ x,aL1 tP EA 67 (S1 f68) B5 CB false [] HQ pM tK x=rF x:=by
 rintro⟨v4,v7,v8,v40,v41,v42,u00,⟨⟩⟩
 kernel_rfl
theorem ZU:UR tP 67 false [] (.loop HQ) ⟨pM,tK,vU⟩:=aEA FP.callee aY.mixed _ (NB (l:=[]) Y trivial) YA
theorem Z9:iB zM=[.loop IU,.loop HQ]:=Y
theorem aCQ:∀ x,a2I tP EA f68 (S1 f68) B5 CB zM 110 .str _ _ x=nG x:=by
 rintro⟨v0,v1,⟨⟩⟩
 kernel_rfl
abbrev UJ:Ent:=⟨68,_,_,nG⟩
theorem OY:Ent.OK tP UJ:=bFB aY FP func68 (c:=zM) Y (bZ:=S1 f68) (lt:=B5) (rt:=CB) (NB Z9 ⟨aDU (i:=7) Y rfl ZQ,aDU (i:=12) Y rfl ZU,trivial⟩) aCQ
def DA(x:aH [.agg TyG,.agg TyG]):oK [.agg TyG,.int .i64]:=match x with
 | (v0,v1,()) =>
  aC (iG (v0,())) λy1 =>
  aC (iG (v1,())) λy2 =>
  aC (ES (y1.1,y2.1,())) λy3 =>
  bif !(eqI y3.2.1 0) then
   some (([],([],[])),y3.2.1,())
  else aC (cE (v0.1,y3.1.2,())) λy4 =>
  some (y4.1,y4.2.1,())
abbrev aMI:Ent:=⟨67,_,_,DA⟩
theorem S9:Ent.OK tP aMI:=oI (aO (oV aOB (oV zR (oV nB oW)))) func67 Y (by rintro⟨v0,v1,⟨⟩⟩; kernel_rfl)
def yP(x:aH [.agg TyG,.agg TyG]):oK [.agg TyG,.int .i64]:=match x with
 | (v0,v1,()) =>
  aC (eP ([v0,v1],())) λy1 =>
  bif !(eqI y1.1 0) then
   some (([],([],[])),y1.1,())
  else aC (DA (v0,v1,())) λy2 =>
  some (y2.1,y2.2.1,())
abbrev ZC:Ent:=⟨16,_,_,yP⟩
theorem SZ:Ent.OK tP ZC:=oI (aO (oV rB (oV S9 oW))) func16 Y (by rintro⟨v0,v1,⟨⟩⟩; kernel_rfl)
def PQ(x:aH [.agg TyG,.agg TyG]):oK [.agg TyG,.int .i64]:=match x with
 | (v0,v1,()) =>
  aC (eP ([v0,v1],())) λy1 =>
  bif !(eqI y1.1 0) then
   some (([],([],[])),y1.1,())
  else aC (iG (v0,())) λy2 =>
  aC (iG (v1,())) λy3 =>
  aC (nG (y2.1,y3.1,())) λy4 =>
  bif !(eqI y4.2.1 0) then
   some (([],([],[])),y4.2.1,())
  else aC (cE (v0.1,y4.1.2,())) λy5 =>
  some (y5.1,y5.2.1,())
abbrev Z7:Ent:=⟨17,_,_,PQ⟩
theorem aF3:Ent.OK tP Z7:=oI (aO (oV OY (oV rB (oV zR (oV nB oW))))) func17 Y (by rintro⟨v0,v1,⟨⟩⟩; kernel_rfl)
def S4(hrefinement_Join:aH [.agg TyG,.agg TyG]->Option (aH [.agg TyG,.int .i64])) (hrefinement_Meet:aH [.agg TyG,.agg TyG]->Option (aH [.agg TyG,.int .i64])) (hrefinement_Refines:aH [.agg TyG,.agg TyG]->Option (aH [.bool,.int .i64])) (hrefinement_Steps:aH [.agg TyG,.agg TyG]->Option (aH [.int .i64,.int .i64])) (hslices_Equal_api_Row_int:aH [.list TyE,.list TyE]->Option (aH [.bool])) (htemperament_FromCommas:aH [.list TyE,.list TyD]->Option (aH [.agg TyG,.int .i64])) (x:aH []):Option (aH [.bool]):=match x with
 | (()) =>
  aC (htemperament_FromCommas ([2,3,5],[[(-4),4,(-1)]],())) λy1 =>
  aC (htemperament_FromCommas ([2,3,5],[[7,0,(-3)]],())) λy2 =>
  aC (hrefinement_Join (y1.1,y2.1,())) λy3 =>
  aC (hrefinement_Meet (y1.1,y2.1,())) λy4 =>
  aC (hrefinement_Steps (y1.1,y3.1,())) λy5 =>
  aC (hrefinement_Refines (y1.1,y2.1,())) λy6 =>
  bif eqI y1.2.1 0 then
   bif eqI y2.2.1 0 then
    bif eqI y3.2.1 0 then
     bif eqI y4.2.1 0 then
      bif eqI y5.2.1 0 then
       bif eqI y6.2.1 0 then
        bif eqI (y3.1.2.2.length:Int) 1 then
         bif aF 0 y3.1.2.2.length then aC (hslices_Equal_api_Row_int ((y3.1.2.2.getD 0 []),[12,19,28],())) λy7 =>
         bif y7.1 then
          bif eqI (y4.1.2.1.length:Int) 0 then
           bif eqI (y4.1.2.2.length:Int) 3 then
            bif eqI y5.1 1 then
             bif y6.1 then
              some (false,())
             else some (true,())
            else some (false,())
           else some (false,())
          else some (false,())
         else some (false,()) else none
        else some (false,())
       else some (false,())
      else some (false,())
     else some (false,())
    else some (false,())
   else some (false,())
  else some (false,())
def CC(x:aH []):Option (aH [.bool]):=S4 yP PQ B7 N4 dS cE x
def B9:Code:=dJ f11
abbrev SY:Env:=LY [ZC,Z7,S8,W7,JV,DD]
theorem aAJ:gD tP SY:=aO ⟨SZ,aF3,NM,aEQ,wN,nB,trivial⟩
def IV(id:Nat):Option dN:=none
theorem Y0:bG B9=[]:=Y
theorem ZL(hrefinement_Join:aH [.agg TyG,.agg TyG]->Option (aH [.agg TyG,.int .i64]))(hrefinement_Meet:aH [.agg TyG,.agg TyG]->Option (aH [.agg TyG,.int .i64]))(hrefinement_Refines:aH [.agg TyG,.agg TyG]->Option (aH [.bool,.int .i64]))(hrefinement_Steps:aH [.agg TyG,.agg TyG]->Option (aH [.int .i64,.int .i64]))(hslices_Equal_api_Row_int:aH [.list TyE,.list TyE]->Option (aH [.bool]))(htemperament_FromCommas:aH [.list TyE,.list TyD]->Option (aH [.agg TyG,.int .i64])):∀ x,aYC tP (LY [⟨16,[.agg TyG,.agg TyG],[.agg TyG,.int .i64],hrefinement_Join⟩,⟨17,[.agg TyG,.agg TyG],[.agg TyG,.int .i64],hrefinement_Meet⟩,⟨18,[.agg TyG,.agg TyG],[.bool,.int .i64],hrefinement_Refines⟩,⟨27,[.agg TyG,.agg TyG],[.int .i64,.int .i64],hrefinement_Steps⟩,⟨62,[.list TyE,.list TyE],[.bool],hslices_Equal_api_Row_int⟩,⟨39,[.list TyE,.list TyD],[.agg TyG,.int .i64],htemperament_FromCommas⟩]) f11 (aP f11) IV B9 [] [.bool] x=S4 hrefinement_Join hrefinement_Meet hrefinement_Refines hrefinement_Steps hslices_Equal_api_Row_int htemperament_FromCommas x:=by
 rintro⟨⟩
 kernel_rfl
theorem aA1:∀ x,aYC tP SY f11 (aP f11) IV B9 _ _ x=CC x:=ZL yP PQ B7 N4 dS cE
theorem aD0:aCL tP 11 _ _ CC:=aLA aY aAJ func11 (c:=B9) Y (bZ:=aP f11) (lt:=IV) (aQ Y0 trivial) aA1
def lO(x:aH []):oK [.bool]:=some (true,())
theorem aBF:∀ x,CC x=lO x:=by
 rintro⟨⟩
 kernel_rfl
theorem aEC:aCL tP 11 _ _ lO:=by
 have h:CC=lO:=funext aBF;rw[<- h];exact aD0
abbrev aFR:Ent:=⟨11,_,_,lO⟩
theorem aBA:Ent.OK tP aFR:=aEC
def KD(x:aH [.agg TyG]):oK [.bool]:=match x with
 | (v0,()) =>
  some (eqI (aB .i64 ((aB .i64 ((v0.1.length:Int)+(v0.2.1.length:Int)))+(v0.2.2.length:Int))) 0,())
abbrev aFS:Ent:=⟨21,_,_,KD⟩
theorem aA3:Ent.OK tP aFS:=oI (aO oW) func21 Y (by rintro⟨v0,⟨⟩⟩; kernel_rfl)
abbrev yQ:List (Nat×Kd):=[(0,.list (.int .i64)),(1,.list (.int .i64)),(5,.int .i64)]
abbrev II:List (Ex×List (Nat×Kd)):=[(.ret,[(4,.bool)]),(.exit 0,[])]
def qK(x:Shape.den yQ):Option (Shape.den yQ⊕eC II):=match x with
 | (v0,v1,v5,()) =>
  bif ltI v5 (v0.length:Int) then
   bif aF v5 v0.length then bif aF v5 v1.length then bif !(eqI (v0.getD v5.toNat 0) (v1.getD v5.toNat 0)) then
    some (.inr (.inl (false,())))
   else some (.inl (v0,v1,(aB .i64 (v5+1)),())) else none else none
  else some (.inr (.inr ((()))))
def wT(x:Shape.den yQ):Option (eC II):=bF qK (2^64) x
def rE(x:aH [.list (.int .i64),.list (.int .i64)]):Option (aH [.bool]):=match x with
 | (v0,v1,()) =>
  bif !(eqI (v0.length:Int) (v1.length:Int)) then
   some (false,())
  else aC (wT (v0,v1,0,())) λz1 =>
  xJ z1 (λa2=>some (a2.1,())) λb3 =>
  some (true,())
abbrev Z3:Ent:=⟨175,[.list (.int .i64),.list (.int .i64)],[.bool],rE⟩
theorem HL:Ent.OK Tryz.prog Z3:=oU (aO oW) func175 4 (lp:=wT) rfl Y (by rintro⟨v0,v1,v5,⟨⟩⟩; kernel_rfl) (by rintro⟨v0,v1,⟨⟩⟩; kernel_rfl)
abbrev EP:List (Nat×Kd):=[(0,.list (.list (.int .i64))),(1,.list (.list (.int .i64))),(5,.int .i64)]
abbrev NQ:List (Ex×List (Nat×Kd)):=[(.ret,[(4,.bool)]),(.exit 0,[])]
def uN(x:Shape.den EP):Option (Shape.den EP⊕eC NQ):=match x with
 | (v0,v1,v5,()) =>
  bif ltI v5 (v0.length:Int) then
   bif aF v5 v0.length then bif aF v5 v1.length then aC (rE ((v0.getD v5.toNat []),(v1.getD v5.toNat []),())) λy2 =>
   bif y2.1 then
    some (.inl (v0,v1,(aB .i64 (v5+1)),()))
   else some (.inr (.inl (false,()))) else none else none
  else some (.inr (.inr ((()))))
def BU(x:Shape.den EP):Option (eC NQ):=bF uN (2^64) x
def xM(x:aH [.list (.list (.int .i64)),.list (.list (.int .i64))]):Option (aH [.bool]):=match x with
 | (v0,v1,()) =>
  bif !(eqI (v0.length:Int) (v1.length:Int)) then
   some (false,())
  else aC (BU (v0,v1,0,())) λz3 =>
  xJ z3 (λa4=>some (a4.1,())) λb5 =>
  some (true,())
abbrev aFL:Ent:=⟨176,[.list (.list (.int .i64)),.list (.list (.int .i64))],[.bool],xM⟩
theorem aBT:Ent.OK Tryz.prog aFL:=oU (aO (oV HL oW)) func176 4 (lp:=BU) rfl Y (by rintro⟨v0,v1,v5,⟨⟩⟩; kernel_rfl) (by rintro⟨v0,v1,⟨⟩⟩; kernel_rfl)
def LK(x:aH [.agg (.prod (.list (.int .i64)) (.prod (.list (.list (.int .i64))) (.list (.list (.int .i64))))),.agg (.prod (.list (.int .i64)) (.prod (.list (.list (.int .i64))) (.list (.list (.int .i64)))))]):Option (aH [.bool]):=match x with
 | (v0,v1,()) =>
  aC (rE (v0.1,v1.1,())) λy1 =>
  bif y1.1 then
   aC (xM (v0.2.1,v1.2.1,())) λy2 =>
   bif y2.1 then
    aC (xM (v0.2.2,v1.2.2,())) λy3 =>
    some (y3.1,())
   else some (false,())
  else some (false,())
abbrev aHG:Ent:=⟨127,[.agg (.prod (.list (.int .i64)) (.prod (.list (.list (.int .i64))) (.list (.list (.int .i64))))),.agg (.prod (.list (.int .i64)) (.prod (.list (.list (.int .i64))) (.list (.list (.int .i64)))))],[.bool],LK⟩
theorem aCE:Ent.OK Tryz.prog aHG:=oI (aO (oV aBT (oV HL oW))) func127 Y (by rintro⟨v0,v1,⟨⟩⟩; kernel_rfl)
def LM(x:aH [.agg (.prod (.list (.int .i64)) (.prod (.list (.list (.int .i64))) (.list (.list (.int .i64))))),.agg (.prod (.list (.int .i64)) (.prod (.list (.list (.int .i64))) (.list (.list (.int .i64)))))]):Option (aH [.bool]):=match x with
 | (v0,v1,()) =>
  aC (LK ((v0.1,(v0.2.1,v0.2.2)),(v1.1,(v1.2.1,v1.2.2)),())) λy1 =>
  some (y1.1,())
abbrev aHZ:Ent:=⟨72,[.agg (.prod (.list (.int .i64)) (.prod (.list (.list (.int .i64))) (.list (.list (.int .i64))))),.agg (.prod (.list (.int .i64)) (.prod (.list (.list (.int .i64))) (.list (.list (.int .i64)))))],[.bool],LM⟩
theorem aCX:Ent.OK Tryz.prog aHZ:=oI (aO (oV aCE oW)) func72 Y (by rintro⟨v0,v1,⟨⟩⟩; kernel_rfl)
def yW(x:aH [.agg (.prod (.list (.int .i64)) (.prod (.list (.list (.int .i64))) (.list (.list (.int .i64))))),.agg (.prod (.list (.int .i64)) (.prod (.list (.list (.int .i64))) (.list (.list (.int .i64)))))]):Option (aH [.bool]):=match x with
 | (v0,v1,()) =>
  aC (LM ((v0.1,(v0.2.1,v0.2.2)),(v1.1,(v1.2.1,v1.2.2)),())) λy1 =>
  some (y1.1,())
abbrev aHB:Ent:=⟨23,[.agg (.prod (.list (.int .i64)) (.prod (.list (.list (.int .i64))) (.list (.list (.int .i64))))),.agg (.prod (.list (.int .i64)) (.prod (.list (.list (.int .i64))) (.list (.list (.int .i64)))))],[.bool],yW⟩
theorem aCW:Ent.OK Tryz.prog aHB:=oI (aO (oV aCX oW)) func23 Y (by rintro⟨v0,v1,⟨⟩⟩; kernel_rfl)
def aBD(x:aH [.list TyE,.list TyE]):oK [.int .i64]:=match x with
 | (v0,v1,()) =>
  aC (aS (v0,())) λy1 =>
  bif !(eqI y1.1 0) then
   some (y1.1,())
  else aC (aS (v1,())) λy2 =>
  some (y2.1,())
abbrev aPJ:Ent:=⟨91,_,_,aBD⟩
theorem aGC:Ent.OK tP aPJ:=oI (aO (oV AS oW)) func91 Y (by rintro⟨v0,v1,⟨⟩⟩; kernel_rfl)
abbrev s9:List (Nat×Kd):=[(0,.list (.int .i64)),(1,.int .i64),(7,.int .i64),(8,.int .i64)]
abbrev B0:List (Ex×List (Nat×Kd)):=[(.ret,[(4,.int .i64)]),(.exit 0,[])]
def gK(x:Shape.den s9):Option (Shape.den s9⊕eC B0):=match x with
 | (v0,v1,v7,v8,()) =>
  bif ltI v8 v7 then
   bif aF v8 v0.length then bif eqI v1 (v0.getD v8.toNat 0) then
    some (.inr (.inl (v8,())))
   else some (.inl (v0,v1,v7,(aB .i64 (v8+1)),())) else none
  else some (.inr (.inr ((()))))
def rV(x:Shape.den s9):Option (eC B0):=bF gK (2^64) x
def eV(x:aH [.list (.int .i64),.int .i64]):Option (aH [.int .i64]):=match x with
 | (v0,v1,()) =>
  aC (rV (v0,v1,(v0.length:Int),0,())) λz1 =>
  xJ z1 (λa2=>some (a2.1,())) λb3 =>
  some ((-1),())
abbrev SP:Ent:=⟨49,[.list (.int .i64),.int .i64],[.int .i64],eV⟩
theorem BZ:Ent.OK Tryz.prog SP:=oU (aO oW) func49 2 (lp:=rV) rfl Y (by rintro⟨v0,v1,v7,v8,⟨⟩⟩; kernel_rfl) (by rintro⟨v0,v1,⟨⟩⟩; kernel_rfl)
def JQ(x:aH [.list (.int .i64),.int .i64]):Option (aH [.int .i64,.bool]):=match x with
 | (v0,v1,()) =>
  aC (eV (v0,v1,())) λy1 =>
  some ((if y1.1<0 then 0 else y1.1),!(ltI y1.1 0),())
abbrev aXR:Ent:=⟨104,[.list (.int .i64),.int .i64],[.int .i64,.bool],JQ⟩
theorem aNZ:Ent.OK Tryz.prog aXR:=oI (aO (oV BZ oW)) func104 Y (by rintro⟨v0,v1,⟨⟩⟩; kernel_rfl)
def cG(x:aH [.list (.int .i64),.int .i64]):Option (aH [.bool]):=match x with
 | (v0,v1,()) =>
  aC (eV (v0,v1,())) λy1 =>
  some (!(ltI y1.1 0),())
abbrev B2:Ent:=⟨35,[.list (.int .i64),.int .i64],[.bool],cG⟩
theorem kV:Ent.OK Tryz.prog B2:=oI (aO (oV BZ oW)) func35 Y (by rintro⟨v0,v1,⟨⟩⟩; kernel_rfl)
def JJ(x:aH [.int .i64,.ptr (.list (.int .i64))]):Option (aH [.bool]):=match x with
 | (v0,v1,()) =>
  aC (cG (v1,v0,())) λy1 =>
  bif y1.1 then
   some (false,())
  else some (true,())
abbrev aLL:Ent:=⟨138,[.int .i64,.ptr (.list (.int .i64))],[.bool],JJ⟩
theorem aF0:Ent.OK Tryz.prog aLL:=oI (aO (oV kV oW)) func138 Y (by rintro⟨v0,v1,⟨⟩⟩; kernel_rfl)
abbrev o5:List (Nat×Kd):=[(0,.list (.int .i64)),(1,.clo 138 [(.list (.int .i64))]),(7,.int .i64),(8,.int .i64)]
abbrev xH:List (Ex×List (Nat×Kd)):=[(.ret,[(4,.int .i64)]),(.exit 0,[])]
def eI(x:Shape.den o5):Option (Shape.den o5⊕eC xH):=match x with
 | (v0,v1,v7,v8,()) =>
  bif ltI v8 v7 then
   bif aF v8 v0.length then aC (JJ ((v0.getD v8.toNat 0),v1.1,())) λy2 =>
   bif y2.1 then
    some (.inr (.inl (v8,())))
   else some (.inl (v0,(v1.1,()),v7,(aB .i64 (v8+1)),())) else none
  else some (.inr (.inr ((()))))
def nA(x:Shape.den o5):Option (eC xH):=bF eI (2^64) x
def lJ(x:aH [.list (.int .i64),.clo 138 [(.list (.int .i64))]]):Option (aH [.int .i64]):=match x with
 | (v0,v1,()) =>
  aC (nA (v0,(v1.1,()),(v0.length:Int),0,())) λz3 =>
  xJ z3 (λa4=>some (a4.1,())) λb5 =>
  some ((-1),())
abbrev MW:Ent:=⟨89,[.list (.int .i64),.clo 138 [(.list (.int .i64))]],[.int .i64],lJ⟩
theorem KM:Ent.OK Tryz.prog MW:=oU (aO (oV aF0 oW)) func89 2 (lp:=nA) rfl Y (by rintro⟨v0,v1,v7,v8,⟨⟩⟩; kernel_rfl) (by rintro⟨v0,v1,⟨⟩⟩; kernel_rfl)
def fD(x:aH [.list (.int .i64),.clo 138 [(.list (.int .i64))]]):Option (aH [.bool]):=match x with
 | (v0,v1,()) =>
  aC (lJ (v0,(v1.1,()),())) λy1 =>
  some (!(ltI y1.1 0),())
abbrev KO:Ent:=⟨33,[.list (.int .i64),.clo 138 [(.list (.int .i64))]],[.bool],fD⟩
theorem GZ:Ent.OK Tryz.prog KO:=oI (aO (oV KM oW)) func33 Y (by rintro⟨v0,v1,⟨⟩⟩; kernel_rfl)
def LA(x:aH [.list (.int .i64),.list (.int .i64)]):Option (aH [.bool,.int .i64]):=match x with
 | (v0,v1,()) =>
  aC (aBD (v0,v1,())) λy1 =>
  bif !(eqI y1.1 0) then
   some (false,y1.1,())
  else aC (fD (v0,(v1,()),())) λy2 =>
  bif y2.1 then
   some (false,0,())
  else some (true,0,())
abbrev aSC:Ent:=⟨85,[.list (.int .i64),.list (.int .i64)],[.bool,.int .i64],LA⟩
theorem ZR:Ent.OK Tryz.prog aSC:=oI (aO (oV aGC (oV GZ oW))) func85 Y (by rintro⟨v0,v1,⟨⟩⟩; kernel_rfl)
def wG(x:aH [.list (.int .i64),.list (.int .i64)]):Option (aH [.bool,.int .i64]):=match x with
 | (v0,v1,()) =>
  aC (LA (v1,v0,())) λy1 =>
  some (y1.1,y1.2.1,())
abbrev Y2:Ent:=⟨84,[.list (.int .i64),.list (.int .i64)],[.bool,.int .i64],wG⟩
theorem VQ:Ent.OK Tryz.prog Y2:=oI (aO (oV ZR oW)) func84 Y (by rintro⟨v0,v1,⟨⟩⟩; kernel_rfl)
def sU(x:aH [.agg (.prod (.list (.int .i64)) (.prod (.list (.list (.int .i64))) (.list (.list (.int .i64))))),.list (.int .i64),.fn 85]):Option (aH [.int .i64]):=match x with
 | (v0,v1,v2,()) =>
  aC (eP ([(v0.1,(v0.2.1,v0.2.2))],())) λy1 =>
  bif !(eqI y1.1 0) then
   some (y1.1,())
  else aC (aS (v1,())) λy2 =>
  bif !(eqI y2.1 0) then
   some (y2.1,())
  else aC (LA (v0.1,v1,())) λy3 =>
  bif !(eqI y3.2.1 0) then
   some (y3.2.1,())
  else bif y3.1 then
   some (0,())
  else some (25,())
abbrev aF8:Ent:=⟨83,[.agg (.prod (.list (.int .i64)) (.prod (.list (.list (.int .i64))) (.list (.list (.int .i64))))),.list (.int .i64),.fn 85],[.int .i64],sU⟩
theorem aA7:Ent.OK Tryz.prog aF8:=oI (aO (oV AS (oV ZR (oV rB oW)))) func83 Y (by rintro⟨v0,v1,v2,⟨⟩⟩; kernel_rfl)
def sT(x:aH [.agg (.prod (.list (.int .i64)) (.prod (.list (.list (.int .i64))) (.list (.list (.int .i64))))),.list (.int .i64),.fn 84]):Option (aH [.int .i64]):=match x with
 | (v0,v1,v2,()) =>
  aC (eP ([(v0.1,(v0.2.1,v0.2.2))],())) λy1 =>
  bif !(eqI y1.1 0) then
   some (y1.1,())
  else aC (aS (v1,())) λy2 =>
  bif !(eqI y2.1 0) then
   some (y2.1,())
  else aC (wG (v0.1,v1,())) λy3 =>
  bif !(eqI y3.2.1 0) then
   some (y3.2.1,())
  else bif y3.1 then
   some (0,())
  else some (25,())
abbrev SX:Ent:=⟨83,[.agg (.prod (.list (.int .i64)) (.prod (.list (.list (.int .i64))) (.list (.list (.int .i64))))),.list (.int .i64),.fn 84],[.int .i64],sT⟩
theorem aAN:Ent.OK Tryz.prog SX:=oI (aO (oV AS (oV VQ (oV rB oW)))) func83 Y (by rintro⟨v0,v1,v2,⟨⟩⟩; kernel_rfl)
abbrev KF:List (Nat×Kd):=[(0,.list (.int .i64)),(1,.list (.int .i64)),(7,.own 3 (.int .i64)),(15,.list (.int .i64)),(16,.int .i64),(17,.int .i64)]
abbrev SV:List (Ex×List (Nat×Kd)):=[(.exit 0,[(7,.own 3 (.int .i64))])]
def iY(x:Shape.den KF):Option (Shape.den KF⊕eC SV):=match x with
 | (v0,v1,v7,v15,v16,v17,()) =>
  bif ltI v17 v16 then
   bif aF v17 v15.length then bif aF v17 v0.length then aC (JQ (v1,(v0.getD v17.toNat 0),())) λy2 =>
   bif y2.2.1 then
    bif aF y2.1 v7.length then bif Nat.blt y2.1.toNat v7.length then some (.inl (v0,v1,(v7.set y2.1.toNat (v15.getD v17.toNat 0)),v15,v16,(aB .i64 (v17+1)),())) else none else none
   else some (.inl (v0,v1,v7,v15,v16,(aB .i64 (v17+1)),())) else none else none
  else some (.inr ((v7,())))
def zU(x:Shape.den KF):Option (eC SV):=bF iY (2^64) x
def tR(x:aH [.list (.int .i64),.list (.int .i64),.list (.int .i64)]):Option (aH [.list (.int .i64)]):=match x with
 | (v0,v1,v2,()) =>
  bif !(ltI (v1.length:Int) 0) then bif !(ltI (v1.length:Int) (v1.length:Int)) then bif !(ltI 1048576 (v1.length:Int)) then aC (zU (v0,v1,(List.replicate ((v1.length:Int).toNat) (0:Ty.den (.int .i64))),v2,(v2.length:Int),0,())) λz3 =>
  some (z3.1,()) else none else none else none
abbrev Z5:Ent:=⟨87,[.list (.int .i64),.list (.int .i64),.list (.int .i64)],[.list (.int .i64)],tR⟩
theorem S5:Ent.OK Tryz.prog Z5:=oU (aO (oV aNZ oW)) func87 3 (lp:=zU) rfl Y (by rintro⟨v0,v1,v7,v15,v16,v17,⟨⟩⟩; kernel_rfl) (by rintro⟨v0,v1,v2,⟨⟩⟩; kernel_rfl)
abbrev FW:List (Nat×Kd):=[(1,.list (.int .i64)),(2,.box 35 (.prod (.list (.int .i64)) (.prod (.list (.list (.int .i64))) (.list (.list (.int .i64)))))),(4,.box 35 (.prod (.list (.int .i64)) (.prod (.list (.list (.int .i64))) (.list (.list (.int .i64)))))),(6,.own 53 (.list (.int .i64))),(10,.list (.list (.int .i64))),(11,.int .i64),(12,.int .i64)]
abbrev OZ:List (Ex×List (Nat×Kd)):=[(.exit 0,[(1,.list (.int .i64)),(4,.box 35 (.prod (.list (.int .i64)) (.prod (.list (.list (.int .i64))) (.list (.list (.int .i64)))))),(6,.own 53 (.list (.int .i64)))])]
def vP(x:Shape.den FW):Option (Shape.den FW⊕eC OZ):=match x with
 | (v1,v2,v4,v6,v10,v11,v12,()) =>
  bif ltI v12 v11 then
   bif aF v12 v10.length then aC (tR (v2.1,v1,(v10.getD v12.toNat []),())) λy2 =>
   bif Nat.ble [y2.1].length 1048576 then bif Nat.ble v6.length 1048576 then some (.inl (v1,(v2.1,(v2.2.1,v2.2.2)),(v4.1,(v4.2.1,v4.2.2)),(v6++[y2.1]),v10,v11,(aB .i64 (v12+1)),())) else none else none else none
  else some (.inr ((v1,(v4.1,(v4.2.1,v4.2.2)),v6,())))
def CY(x:Shape.den FW):Option (eC OZ):=bF vP (2^64) x
def qM(x:aH [.agg (.prod (.list (.int .i64)) (.prod (.list (.list (.int .i64))) (.list (.list (.int .i64))))),.list (.int .i64)]):Option (aH [.agg (.prod (.list (.int .i64)) (.prod (.list (.list (.int .i64))) (.list (.list (.int .i64))))),.int .i64]):=match x with
 | (v0,v1,()) =>
  aC (CY (v1,(v0.1,(v0.2.1,v0.2.2)),([],([],[])),[],v0.2.1,(v0.2.1.length:Int),0,())) λz3 =>
  aC (cE (z3.1,z3.2.2.1,())) λy4 =>
  some ((y4.1.1,(y4.1.2.1,y4.1.2.2)),y4.2.1,())
abbrev aH9:Ent:=⟨88,[.agg (.prod (.list (.int .i64)) (.prod (.list (.list (.int .i64))) (.list (.list (.int .i64))))),.list (.int .i64)],[.agg (.prod (.list (.int .i64)) (.prod (.list (.list (.int .i64))) (.list (.list (.int .i64))))),.int .i64],qM⟩
theorem OP:Ent.OK Tryz.prog aH9:=oU (aO (oV S5 (oV nB oW))) func88 3 (lp:=CY) rfl Y (by rintro⟨v1,v2,v4,v6,v10,v11,v12,⟨⟩⟩; kernel_rfl) (by rintro⟨v0,v1,⟨⟩⟩; kernel_rfl)
def o6(x:aH [.agg (.prod (.list (.int .i64)) (.prod (.list (.list (.int .i64))) (.list (.list (.int .i64))))),.list (.int .i64)]):Option (aH [.agg (.prod (.list (.int .i64)) (.prod (.list (.list (.int .i64))) (.list (.list (.int .i64))))),.int .i64]):=match x with
 | (v0,v1,()) =>
  aC (sU ((v0.1,(v0.2.1,v0.2.2)),v1,(),())) λy1 =>
  bif !(eqI y1.1 0) then
   some (([],([],[])),y1.1,())
  else aC (qM ((v0.1,(v0.2.1,v0.2.2)),v1,())) λy2 =>
  some ((y2.1.1,(y2.1.2.1,y2.1.2.2)),y2.2.1,())
abbrev aF5:Ent:=⟨31,[.agg (.prod (.list (.int .i64)) (.prod (.list (.list (.int .i64))) (.list (.list (.int .i64))))),.list (.int .i64)],[.agg (.prod (.list (.int .i64)) (.prod (.list (.list (.int .i64))) (.list (.list (.int .i64))))),.int .i64],o6⟩
theorem aBY:Ent.OK Tryz.prog aF5:=oI (aO (oV OP (oV aA7 oW))) func31 Y (by rintro⟨v0,v1,⟨⟩⟩; kernel_rfl)
abbrev lN:List (Nat×Kd):=[(1,.list (.int .i64)),(2,.box 35 (.prod (.list (.int .i64)) (.prod (.list (.list (.int .i64))) (.list (.list (.int .i64)))))),(4,.box 35 (.prod (.list (.int .i64)) (.prod (.list (.list (.int .i64))) (.list (.list (.int .i64)))))),(7,.own 53 (.list (.int .i64))),(25,.list (.int .i64)),(26,.int .i64),(27,.int .i64)]
abbrev pZ:List (Ex×List (Nat×Kd)):=[(.exit 0,[(1,.list (.int .i64)),(2,.box 35 (.prod (.list (.int .i64)) (.prod (.list (.list (.int .i64))) (.list (.list (.int .i64)))))),(4,.box 35 (.prod (.list (.int .i64)) (.prod (.list (.list (.int .i64))) (.list (.list (.int .i64)))))),(7,.own 53 (.list (.int .i64)))])]
def jH(x:Shape.den lN):Option (Shape.den lN⊕eC pZ):=match x with
 | (v1,v2,v4,v7,v25,v26,v27,()) =>
  bif ltI v27 v26 then
   bif aF v27 v25.length then aC (cG (v1,(v25.getD v27.toNat 0),())) λy3 =>
   bif y3.1 then
    bif !(ltI (v2.1.length:Int) 0) then bif !(ltI (v2.1.length:Int) (v2.1.length:Int)) then bif !(ltI 1048576 (v2.1.length:Int)) then bif aF v27 (List.replicate ((v2.1.length:Int).toNat) (0:Ty.den (.int .i64))).length then bif Nat.blt v27.toNat (List.replicate ((v2.1.length:Int).toNat) (0:Ty.den (.int .i64))).length then bif Nat.ble [((List.replicate ((v2.1.length:Int).toNat) (0:Ty.den (.int .i64))).set v27.toNat 1)].length 1048576 then bif Nat.ble v7.length 1048576 then some (.inl (v1,(v2.1,(v2.2.1,v2.2.2)),(v4.1,(v4.2.1,v4.2.2)),(v7++[((List.replicate ((v2.1.length:Int).toNat) (0:Ty.den (.int .i64))).set v27.toNat 1)]),v25,v26,(aB .i64 (v27+1)),())) else none else none else none else none else none else none else none
   else some (.inl (v1,(v2.1,(v2.2.1,v2.2.2)),(v4.1,(v4.2.1,v4.2.2)),v7,v25,v26,(aB .i64 (v27+1)),())) else none
  else some (.inr ((v1,(v2.1,(v2.2.1,v2.2.2)),(v4.1,(v4.2.1,v4.2.2)),v7,())))
def sI(x:Shape.den lN):Option (eC pZ):=bF jH (2^64) x
abbrev lM:List (Nat×Kd):=[(1,.list (.int .i64)),(2,.box 35 (.prod (.list (.int .i64)) (.prod (.list (.list (.int .i64))) (.list (.list (.int .i64)))))),(4,.box 35 (.prod (.list (.int .i64)) (.prod (.list (.list (.int .i64))) (.list (.list (.int .i64)))))),(14,.own 53 (.list (.int .i64))),(71,.list (.list (.int .i64))),(72,.int .i64),(73,.int .i64)]
abbrev pW:List (Ex×List (Nat×Kd)):=[(.exit 2,[(1,.list (.int .i64)),(4,.box 35 (.prod (.list (.int .i64)) (.prod (.list (.list (.int .i64))) (.list (.list (.int .i64)))))),(14,.own 53 (.list (.int .i64)))])]
def mV(x:Shape.den lM):Option (Shape.den lM⊕eC pW):=match x with
 | (v1,v2,v4,v14,v71,v72,v73,()) =>
  bif ltI v73 v72 then
   bif aF v73 v71.length then aC (tR (v2.1,v1,(v71.getD v73.toNat []),())) λy9 =>
   bif Nat.ble [y9.1].length 1048576 then bif Nat.ble v14.length 1048576 then some (.inl (v1,(v2.1,(v2.2.1,v2.2.2)),(v4.1,(v4.2.1,v4.2.2)),(v14++[y9.1]),v71,v72,(aB .i64 (v73+1)),())) else none else none else none
  else some (.inr ((v1,(v4.1,(v4.2.1,v4.2.2)),v14,())))
def sE(x:Shape.den lM):Option (eC pW):=bF mV (2^64) x
def zQ(x:aH [.agg (.prod (.list (.int .i64)) (.prod (.list (.list (.int .i64))) (.list (.list (.int .i64))))),.list (.int .i64)]):Option (aH [.agg (.prod (.list (.int .i64)) (.prod (.list (.list (.int .i64))) (.list (.list (.int .i64))))),.int .i64]):=match x with
 | (v0,v1,()) =>
  aC (sT ((v0.1,(v0.2.1,v0.2.2)),v1,(),())) λy1 =>
  bif !(eqI y1.1 0) then
   some (([],([],[])),y1.1,())
  else aC (sI (v1,(v0.1,(v0.2.1,v0.2.2)),([],([],[])),[],v0.1,(v0.1.length:Int),0,())) λz4 =>
  aC (vK ((z4.2.1.1.length:Int),z4.2.2.2.1,())) λy5 =>
  bif !(eqI y5.2.1 0) then
   some (([],([],[])),y5.2.1,())
  else aC (iG ((z4.2.1.1,(z4.2.1.2.1,z4.2.1.2.2)),())) λy6 =>
  aC (nG ((y6.1.1,y6.1.2),(y5.1.1,y5.1.2),())) λy7 =>
  bif !(eqI y7.2.1 0) then
   some (([],([],[])),y7.2.1,())
  else aC (sE (z4.1,(z4.2.1.1,(z4.2.1.2.1,z4.2.1.2.2)),(z4.2.2.1.1,(z4.2.2.1.2.1,z4.2.2.1.2.2)),[],y7.1.2,(y7.1.2.length:Int),0,())) λz10 =>
  aC (cE (z10.1,z10.2.2.1,())) λy11 =>
  some ((y11.1.1,(y11.1.2.1,y11.1.2.2)),y11.2.1,())
def GI:Code:=dJ f30
abbrev GD:Env:=LY [UJ,aM9,VM,SX,Z5,B2,DD]
theorem BN:gD Tryz.prog GD:=aO ⟨OY,VN,zR,aAN,S5,kV,nB,trivial⟩
def CF:Code:=iC GI 0
def C1:Code:=iC GI 1
def EL(id:Nat):Option dN:=bif Nat.beq id 6 then some ⟨lN,pZ,sI⟩ else bif Nat.beq id 21 then some ⟨lM,pW,sE⟩ else none
theorem TU:∀ x,jW Tryz.prog GD 91 (aP f30) EL CF lN pZ x=jH x:=by
 rintro⟨v1,v2,v4,v7,v25,v26,v27,⟨⟩⟩
 kernel_rfl
theorem V9:eT Tryz.prog 91 CF ⟨lN,pZ,sI⟩:=eZ BN.callee aY.mixed _ (aQ (l:=[]) Y trivial) TU
theorem TJ:∀ x,jW Tryz.prog GD 91 (aP f30) EL C1 lM pW x=mV x:=by
 rintro⟨v1,v2,v4,v14,v71,v72,v73,⟨⟩⟩
 kernel_rfl
theorem US:eT Tryz.prog 91 C1 ⟨lM,pW,sE⟩:=eZ BN.callee aY.mixed _ (aQ (l:=[]) Y trivial) TJ
abbrev aCN:Ent:=⟨30,[.agg (.prod (.list (.int .i64)) (.prod (.list (.list (.int .i64))) (.list (.list (.int .i64))))),.list (.int .i64)],[.agg (.prod (.list (.int .i64)) (.prod (.list (.list (.int .i64))) (.list (.list (.int .i64))))),.int .i64],zQ⟩
theorem XU:Ent.OK Tryz.prog aCN:=aLA aY BN func30 (c:=GI) Y (bZ:=aP f30) (lt:=EL) (aQ (l:=[CF,C1]) Y ⟨eY (i:=6) Y rfl V9,eY (i:=21) Y rfl US,trivial⟩) (by rintro⟨v0,v1,⟨⟩⟩; kernel_rfl)
abbrev wV:List (Nat×Kd):=[(1,.list (.int .i64)),(2,.box 35 (.prod (.list (.int .i64)) (.prod (.list (.list (.int .i64))) (.list (.list (.int .i64)))))),(4,.box 35 (.prod (.list (.int .i64)) (.prod (.list (.list (.int .i64))) (.list (.list (.int .i64)))))),(6,.own 53 (.list (.int .i64))),(8,.list (.int .i64)),(9,.own 3 (.int .i64)),(15,.list (.list (.int .i64))),(16,.int .i64),(17,.int .i64),(22,.list (.int .i64)),(23,.int .i64),(24,.int .i64)]
abbrev EZ:List (Ex×List (Nat×Kd)):=[(.exit 2,[(1,.list (.int .i64)),(2,.box 35 (.prod (.list (.int .i64)) (.prod (.list (.list (.int .i64))) (.list (.list (.int .i64)))))),(4,.box 35 (.prod (.list (.int .i64)) (.prod (.list (.list (.int .i64))) (.list (.list (.int .i64)))))),(6,.own 53 (.list (.int .i64))),(9,.own 3 (.int .i64)),(15,.list (.list (.int .i64))),(16,.int .i64),(17,.int .i64)])]
def jO(x:Shape.den wV):Option (Shape.den wV⊕eC EZ):=match x with
 | (v1,v2,v4,v6,v8,v9,v15,v16,v17,v22,v23,v24,()) =>
  bif ltI v24 v23 then
   bif aF v24 v22.length then aC (cG (v1,(v22.getD v24.toNat 0),())) λy2 =>
   bif y2.1 then
    bif aF v24 v8.length then bif Nat.ble [(v8.getD v24.toNat 0)].length 1048576 then bif Nat.ble v9.length 1048576 then some (.inl (v1,(v2.1,(v2.2.1,v2.2.2)),(v4.1,(v4.2.1,v4.2.2)),v6,v8,(v9++[(v8.getD v24.toNat 0)]),v15,v16,v17,v22,v23,(aB .i64 (v24+1)),())) else none else none else none
   else some (.inl (v1,(v2.1,(v2.2.1,v2.2.2)),(v4.1,(v4.2.1,v4.2.2)),v6,v8,v9,v15,v16,v17,v22,v23,(aB .i64 (v24+1)),())) else none
  else some (.inr ((v1,(v2.1,(v2.2.1,v2.2.2)),(v4.1,(v4.2.1,v4.2.2)),v6,v9,v15,v16,v17,())))
def C2(x:Shape.den wV):Option (eC EZ):=bF jO (2^64) x
abbrev wO:List (Nat×Kd):=[(1,.list (.int .i64)),(2,.box 35 (.prod (.list (.int .i64)) (.prod (.list (.list (.int .i64))) (.list (.list (.int .i64)))))),(4,.box 35 (.prod (.list (.int .i64)) (.prod (.list (.list (.int .i64))) (.list (.list (.int .i64)))))),(6,.own 53 (.list (.int .i64))),(15,.list (.list (.int .i64))),(16,.int .i64),(17,.int .i64)]
abbrev E0:List (Ex×List (Nat×Kd)):=[(.exit 0,[(1,.list (.int .i64)),(4,.box 35 (.prod (.list (.int .i64)) (.prod (.list (.list (.int .i64))) (.list (.list (.int .i64)))))),(6,.own 53 (.list (.int .i64)))])]
def nR(x:Shape.den wO):Option (Shape.den wO⊕eC E0):=match x with
 | (v1,v2,v4,v6,v15,v16,v17,()) =>
  bif ltI v17 v16 then
   bif aF v17 v15.length then aC (C2 (v1,(v2.1,(v2.2.1,v2.2.2)),(v4.1,(v4.2.1,v4.2.2)),v6,(v15.getD v17.toNat []),[],v15,v16,v17,v2.1,(v2.1.length:Int),0,())) λz4 =>
   bif Nat.ble [z4.2.2.2.2.1].length 1048576 then bif Nat.ble z4.2.2.2.1.length 1048576 then some (.inl (z4.1,(z4.2.1.1,(z4.2.1.2.1,z4.2.1.2.2)),(z4.2.2.1.1,(z4.2.2.1.2.1,z4.2.2.1.2.2)),(z4.2.2.2.1++[z4.2.2.2.2.1]),z4.2.2.2.2.2.1,z4.2.2.2.2.2.2.1,(aB .i64 (z4.2.2.2.2.2.2.2.1+1)),())) else none else none else none
  else some (.inr ((v1,(v4.1,(v4.2.1,v4.2.2)),v6,())))
def CH(x:Shape.den wO):Option (eC E0):=bF nR (2^64) x
def J4(x:aH [.agg (.prod (.list (.int .i64)) (.prod (.list (.list (.int .i64))) (.list (.list (.int .i64))))),.list (.int .i64)]):Option (aH [.agg (.prod (.list (.int .i64)) (.prod (.list (.list (.int .i64))) (.list (.list (.int .i64))))),.bool]):=match x with
 | (v0,v1,()) =>
  aC (CH (v1,(v0.1,(v0.2.1,v0.2.2)),([],([],[])),[],v0.2.2,(v0.2.2.length:Int),0,())) λz5 =>
  aC (uL (z5.1,z5.2.2.1,())) λy6 =>
  some ((y6.1.1,(y6.1.2.1,y6.1.2.2)),eqI y6.2.1 0,())
abbrev HE:List (Nat×Kd):=[(0,.list (.int .i64)),(1,.int .u8),(5,.own 3 (.int .i64)),(8,.list (.int .i64)),(9,.int .i64),(10,.int .i64)]
abbrev QT:List (Ex×List (Nat×Kd)):=[(.exit 0,[(0,.list (.int .i64)),(5,.own 3 (.int .i64))])]
def aA5(x:Shape.den HE):Option (Shape.den HE⊕eC QT):=match x with
 | (v0,v1,v5,v8,v9,v10,()) =>
  bif ltI v10 v9 then
   bif aF v10 v8.length then bif ltI v10 0 then none else bif eqI (IntKind.wrap .u8 (((BitVec.ofInt (IntKind.bits .u8) (Int.fdiv v1 (2^(min v10.toNat (IntKind.bits .u8))))) &&& (BitVec.ofInt (IntKind.bits .u8) 1)).toNat:Int)) 1 then
    bif Nat.ble [(v8.getD v10.toNat 0)].length 1048576 then bif Nat.ble v5.length 1048576 then some (.inl (v0,v1,(v5++[(v8.getD v10.toNat 0)]),v8,v9,(aB .i64 (v10+1)),())) else none else none
   else some (.inl (v0,v1,v5,v8,v9,(aB .i64 (v10+1)),())) else none
  else some (.inr ((v0,v5,())))
def NH(x:Shape.den HE):Option (eC QT):=bF aA5 (2^64) x
def GP(x:aH [.list (.int .i64),.int .u8]):Option (aH [.list (.int .i64)]):=match x with
 | (v0,v1,()) =>
  aC (NH (v0,v1,[],v0,(v0.length:Int),0,())) λz1 =>
  bif eqI (z1.2.1.length:Int) 0 then
   bif aF 0 z1.1.length then some ([(z1.1.getD 0 0)],()) else none
  else some (z1.2.1,())
abbrev aKH:Ent:=⟨29,[.list (.int .i64),.int .u8],[.list (.int .i64)],GP⟩
theorem aDP:Ent.OK Tryz.prog aKH:=oU (aO oW) func29 3 (lp:=NH) rfl Y (by rintro⟨v0,v1,v5,v8,v9,v10,⟨⟩⟩; kernel_rfl) (by rintro⟨v0,v1,⟨⟩⟩; kernel_rfl)
abbrev KG:ByteArray:=ByteArray.mk #[0,1,2,2,3,3,3,3,4,4,4,4,4,4,4,4,5,5,5,5,5,5,5,5,5,5,5,5,5,5,5,5,6,6,6,6,6,6,6,6,6,6,6,6,6,6,6,6,6,6,6,6,6,6,6,6,6,6,6,6,6,6,6,6,7,7,7,7,7,7,7,7,7,7,7,7,7,7,7,7,7,7,7,7,7,7,7,7,7,7,7,7,7,7,7,7,7,7,7,7,7,7,7,7,7,7,7,7,7,7,7,7,7,7,7,7,7,7,7,7,7,7,7,7,7,7,7,7,8,8,8,8,8,8,8,8,8,8,8,8,8,8,8,8,8,8,8,8,8,8,8,8,8,8,8,8,8,8,8,8,8,8,8,8,8,8,8,8,8,8,8,8,8,8,8,8,8,8,8,8,8,8,8,8,8,8,8,8,8,8,8,8,8,8,8,8,8,8,8,8,8,8,8,8,8,8,8,8,8,8,8,8,8,8,8,8,8,8,8,8,8,8,8,8,8,8,8,8,8,8,8,8,8,8,8,8,8,8,8,8,8,8,8,8,8,8,8,8,8,8,8,8,8,8,8,8]
def ZZ(x:aH [.int .u64]):Option (aH [.int .i64]):=match x with
 | (v0,()) =>
  bif !(ltI v0 4294967296) then
   bif !(ltI (Int.fdiv v0 (2^(min 32 (IntKind.bits .u64)))) 65536) then
    bif !(ltI (Int.fdiv (Int.fdiv v0 (2^(min 32 (IntKind.bits .u64)))) (2^(min 16 (IntKind.bits .u64)))) 256) then
     bif aF (IntKind.wrap .u8 (Int.fdiv (Int.fdiv (Int.fdiv v0 (2^(min 32 (IntKind.bits .u64)))) (2^(min 16 (IntKind.bits .u64)))) (2^(min 8 (IntKind.bits .u64))))) KG.size then some ((aB .i64 (56+(IntKind.wrap .i64 (aCB KG ((IntKind.wrap .u8 (Int.fdiv (Int.fdiv (Int.fdiv v0 (2^(min 32 (IntKind.bits .u64)))) (2^(min 16 (IntKind.bits .u64)))) (2^(min 8 (IntKind.bits .u64))))).toNat))))),()) else none
    else bif aF (IntKind.wrap .u8 (Int.fdiv (Int.fdiv v0 (2^(min 32 (IntKind.bits .u64)))) (2^(min 16 (IntKind.bits .u64))))) KG.size then some ((aB .i64 (48+(IntKind.wrap .i64 (aCB KG ((IntKind.wrap .u8 (Int.fdiv (Int.fdiv v0 (2^(min 32 (IntKind.bits .u64)))) (2^(min 16 (IntKind.bits .u64))))).toNat))))),()) else none
   else bif !(ltI (Int.fdiv v0 (2^(min 32 (IntKind.bits .u64)))) 256) then
    bif aF (IntKind.wrap .u8 (Int.fdiv (Int.fdiv v0 (2^(min 32 (IntKind.bits .u64)))) (2^(min 8 (IntKind.bits .u64))))) KG.size then some ((aB .i64 (40+(IntKind.wrap .i64 (aCB KG ((IntKind.wrap .u8 (Int.fdiv (Int.fdiv v0 (2^(min 32 (IntKind.bits .u64)))) (2^(min 8 (IntKind.bits .u64))))).toNat))))),()) else none
   else bif aF (IntKind.wrap .u8 (Int.fdiv v0 (2^(min 32 (IntKind.bits .u64))))) KG.size then some ((aB .i64 (32+(IntKind.wrap .i64 (aCB KG ((IntKind.wrap .u8 (Int.fdiv v0 (2^(min 32 (IntKind.bits .u64))))).toNat))))),()) else none
  else bif !(ltI v0 65536) then
   bif !(ltI (Int.fdiv v0 (2^(min 16 (IntKind.bits .u64)))) 256) then
    bif aF (IntKind.wrap .u8 (Int.fdiv (Int.fdiv v0 (2^(min 16 (IntKind.bits .u64)))) (2^(min 8 (IntKind.bits .u64))))) KG.size then some ((aB .i64 (24+(IntKind.wrap .i64 (aCB KG ((IntKind.wrap .u8 (Int.fdiv (Int.fdiv v0 (2^(min 16 (IntKind.bits .u64)))) (2^(min 8 (IntKind.bits .u64))))).toNat))))),()) else none
   else bif aF (IntKind.wrap .u8 (Int.fdiv v0 (2^(min 16 (IntKind.bits .u64))))) KG.size then some ((aB .i64 (16+(IntKind.wrap .i64 (aCB KG ((IntKind.wrap .u8 (Int.fdiv v0 (2^(min 16 (IntKind.bits .u64))))).toNat))))),()) else none
  else bif !(ltI v0 256) then
   bif aF (IntKind.wrap .u8 (Int.fdiv v0 (2^(min 8 (IntKind.bits .u64))))) KG.size then some ((aB .i64 (8+(IntKind.wrap .i64 (aCB KG ((IntKind.wrap .u8 (Int.fdiv v0 (2^(min 8 (IntKind.bits .u64))))).toNat))))),()) else none
  else bif aF (IntKind.wrap .u8 v0) KG.size then some ((aB .i64 (0+(IntKind.wrap .i64 (aCB KG ((IntKind.wrap .u8 v0).toNat))))),()) else none
abbrev aK7:Ent:=⟨160,[.int .u64],[.int .i64],ZZ⟩
theorem aFO:Ent.OK Tryz.prog aK7:=oI (aO oW) func160 Y (by rintro⟨v0,⟨⟩⟩; kernel_rfl)
def aDJ(x:aH [.int .u64]):Option (aH [.int .i64]):=match x with
 | (v0,()) =>
  aC (ZZ (v0,())) λy1 =>
  some (y1.1,())
abbrev aC2:Ent:=⟨114,[.int .u64],[.int .i64],aDJ⟩
theorem aKO:Ent.OK Tryz.prog aC2:=oI (aO (oV aFO oW)) func114 Y (by rintro⟨v0,⟨⟩⟩; kernel_rfl)
def pF(x:aH [.nil0,.int .i64]):Option (List Int):=match x with
 | (v0,v1,()) =>
  bif ltI v1 0 then none else bif ltI 0 (aB .i64 (v1-0)) then
   bif !(ltI (aB .i64 (v1-0)) 0) then bif !(ltI 1048576 (aB .i64 (v1-0))) then bif Nat.ble 0 0 then bif Nat.ble 0 ((List.replicate (aB .i64 (v1-0)).toNat (0:Ty.den (.int .i64))).length) then bif Nat.blt 0 ((List.replicate (aB .i64 (v1-0)).toNat (0:Ty.den (.int .i64))).length) then some ((List.replicate (aB .i64 (v1-0)).toNat (0:Ty.den (.int .i64))).take (0-0)) else none else none else none else none else none
  else some []
def uS:Code:=dJ f140
abbrev DN:Env:=LY []
theorem NF:gD Tryz.prog DN:=aO trivial
def CK(id:Nat):Option dN:=none
theorem MV:bG uS=[]:=Y
theorem NY:∀ x,aRG Tryz.prog DN f140 (aP f140) CK uS [.nil0,.int .i64] 4 3 (.int .i64) x=pF x:=by
 rintro⟨v0,v1,⟨⟩⟩
 kernel_rfl
theorem O2:aMQ Tryz.prog 140 [.nil0,.int .i64] 3 (.int .i64) pF:=aKB aY NF func140 (c:=uS) Y (bZ:=aP f140) (lt:=CK) (t:=4) Y (aQ MV trivial) NY
abbrev DX:Shr:=(140,a2B [.nil0,.int .i64] 3 (.int .i64) pF)
theorem NG:tQ Tryz.prog DX:=aJK O2
abbrev dY:List (Nat×Kd):=[(0,.list (.list (.int .i64))),(3,.int .i64),(9,.list (.list (.int .i64))),(10,.int .i64),(11,.int .i64)]
abbrev fU:List (Ex×List (Nat×Kd)):=[(.exit 0,[(0,.list (.list (.int .i64))),(3,.int .i64)])]
def xF(x:Shape.den dY):Option (Shape.den dY⊕eC fU):=match x with
 | (v0,v3,v9,v10,v11,()) =>
  bif ltI v11 v10 then
   bif aF v11 v9.length then bif ltI (aB .i64 (v3+((v9.getD v11.toNat []).length:Int))) 0 then none else some (.inl (v0,(aB .i64 (v3+((v9.getD v11.toNat []).length:Int))),v9,v10,(aB .i64 (v11+1)),())) else none
  else some (.inr ((v0,v3,())))
def o7(x:Shape.den dY):Option (eC fU):=bF xF (2^64) x
abbrev dZ:List (Nat×Kd):=[(6,.own 3 (.int .i64)),(25,.list (.list (.int .i64))),(26,.int .i64),(27,.int .i64)]
abbrev fV:List (Ex×List (Nat×Kd)):=[(.exit 2,[(6,.own 3 (.int .i64))])]
def xN(x:Shape.den dZ):Option (Shape.den dZ⊕eC fV):=match x with
 | (v6,v25,v26,v27,()) =>
  bif ltI v27 v26 then
   bif aF v27 v25.length then bif Nat.ble (v25.getD v27.toNat []).length 1048576 then bif Nat.ble v6.length 1048576 then some (.inl ((v6++(v25.getD v27.toNat [])),v25,v26,(aB .i64 (v27+1)),())) else none else none else none
  else some (.inr ((v6,())))
def pB(x:Shape.den dZ):Option (eC fV):=bF xN (2^64) x
def mQ(x:aH [.list (.list (.int .i64))]):Option (List Int):=match x with
 | (v0,()) =>
  aC (o7 (v0,0,v0,(v0.length:Int),0,())) λz1 =>
  aC (pF ((),z1.2.1,())) λy2 =>
  aC (pB (y2,z1.1,(z1.1.length:Int),0,())) λz3 =>
  some z3.1
def iU:Code:=dJ f97
abbrev mP:Env:=MU [] [DX]
theorem qO:gD Tryz.prog mP:=l5 trivial ⟨NG,trivial⟩
def rS:Code:=iC iU 0
def rX:Code:=iC iU 1
def l8(id:Nat):Option dN:=bif Nat.beq id 3 then some ⟨dY,fU,o7⟩ else bif Nat.beq id 11 then some ⟨dZ,fV,pB⟩ else none
theorem JM:∀ x,jW Tryz.prog mP 36 (aP f97) l8 rS dY fU x=xF x:=by
 rintro⟨v0,v3,v9,v10,v11,⟨⟩⟩
 kernel_rfl
theorem J9:eT Tryz.prog 36 rS ⟨dY,fU,o7⟩:=eZ qO.callee aY.mixed _ (aQ (l:=[]) Y trivial) JM
theorem I2:∀ x,jW Tryz.prog mP 36 (aP f97) l8 rX dZ fV x=xN x:=by
 rintro⟨v6,v25,v26,v27,⟨⟩⟩
 kernel_rfl
theorem KJ:eT Tryz.prog 36 rX ⟨dZ,fV,pB⟩:=eZ qO.callee aY.mixed _ (aQ (l:=[]) Y trivial) I2
theorem KY:bG iU=[rS,rX]:=Y
theorem LJ:∀ x,aRG Tryz.prog mP f97 (aP f97) l8 iU [.list (.list (.int .i64))] 2 3 (.int .i64) x=mQ x:=by
 rintro⟨v0,⟨⟩⟩
 kernel_rfl
theorem NX:aMQ Tryz.prog 97 [.list (.list (.int .i64))] 3 (.int .i64) mQ:=aKB aY qO func97 (c:=iU) Y (bZ:=aP f97) (lt:=l8) (t:=2) Y (aQ KY ⟨eY (i:=3) Y rfl J9,eY (i:=11) Y rfl KJ,trivial⟩) LJ
abbrev BX:Shr:=(97,a2B [.list (.list (.int .i64))] 3 (.int .i64) mQ)
theorem LL:tQ Tryz.prog BX:=aJK NX
def VE(x:aH [.int .i64]):Option (aH [.bool]):=match x with
 | (v0,()) =>
  some (!(eqI v0 v0),())
abbrev aRD:Ent:=⟨161,[.int .i64],[.bool],VE⟩
theorem aKP:Ent.OK Tryz.prog aRD:=oI (aO oW) func161 Y (by rintro⟨v0,⟨⟩⟩; kernel_rfl)
def aGF(x:aH [.int .i64,.int .i64]):Option (aH [.bool]):=match x with
 | (v0,v1,()) =>
  aC (VE (v0,())) λy1 =>
  bif y1.1 then
   aC (VE (v1,())) λy2 =>
   bif y2.1 then
    some (ltI v0 v1,())
   else some (true,())
  else some (ltI v0 v1,())
abbrev aGD:Ent:=⟨193,[.int .i64,.int .i64],[.bool],aGF⟩
theorem aK4:Ent.OK Tryz.prog aGD:=oI (aO (oV aKP oW)) func193 Y (by rintro⟨v0,v1,⟨⟩⟩; kernel_rfl)
abbrev dD:List (Nat×Kd):=[(0,.hnd 1),(1,.int .i64),(2,.int .i64),(6,.int .i64),(7,.int .i64),(100000,.ar 3 (.int .i64))]
abbrev eN:List (Ex×List (Nat×Kd)):=[(.exit 2,[(0,.hnd 1),(1,.int .i64),(2,.int .i64),(6,.int .i64),(100000,.ar 3 (.int .i64))])]
def uF(x:Shape.den dD):Option (Shape.den dD⊕eC eN):=match x with
 | (v0,v1,v2,v6,v7,u00,()) =>
  bif ltI v1 v7 then
   bif aF v7 v0.2.2 then bif Nat.blt ((v0.2.1+v7.toNat)*1) (cI u00 v0.1) then bif aF (aB .i64 (v7-1)) v0.2.2 then bif Nat.blt ((v0.2.1+(aB .i64 (v7-1)).toNat)*1) (cI u00 v0.1) then aC (aGF ((cS u00 v0.1 ((v0.2.1+v7.toNat)*1) 0),(cS u00 v0.1 ((v0.2.1+(aB .i64 (v7-1)).toNat)*1) 0),())) λy2 =>
   bif y2.1 then
    bif aF (aB .i64 (v7-1)) v0.2.2 then bif Nat.blt ((v0.2.1+(aB .i64 (v7-1)).toNat)*1) (cI u00 v0.1) then bif aF v7 v0.2.2 then bif Nat.blt ((v0.2.1+v7.toNat)*1) (cI u00 v0.1) then bif aF v7 v0.2.2 then bif Nat.blt ((v0.2.1+v7.toNat)*1) (cI u00 v0.1) then bif aF (aB .i64 (v7-1)) v0.2.2 then bif Nat.blt ((v0.2.1+(aB .i64 (v7-1)).toNat)*1) (cI (wQ u00 v0.1 ((v0.2.1+v7.toNat)*1) (cS u00 v0.1 ((v0.2.1+(aB .i64 (v7-1)).toNat)*1) 0)) v0.1) then some (.inl ((v0.1,v0.2.1,v0.2.2),v1,v2,v6,(aB .i64 (v7-1)),(wQ (wQ u00 v0.1 ((v0.2.1+v7.toNat)*1) (cS u00 v0.1 ((v0.2.1+(aB .i64 (v7-1)).toNat)*1) 0)) v0.1 ((v0.2.1+(aB .i64 (v7-1)).toNat)*1) (cS u00 v0.1 ((v0.2.1+v7.toNat)*1) 0)),())) else none else none else none else none else none else none else none else none
   else some (.inr (((v0.1,v0.2.1,v0.2.2),v1,v2,v6,u00,()))) else none else none else none else none
  else some (.inr (((v0.1,v0.2.1,v0.2.2),v1,v2,v6,u00,())))
def mF(x:Shape.den dD):Option (eC eN):=bF uF (2^64) x
abbrev dE:List (Nat×Kd):=[(0,.hnd 1),(1,.int .i64),(2,.int .i64),(6,.int .i64),(100000,.ar 3 (.int .i64))]
abbrev eL:List (Ex×List (Nat×Kd)):=[(.exit 0,[(100000,.ar 3 (.int .i64))])]
def uC(x:Shape.den dE):Option (Shape.den dE⊕eC eL):=match x with
 | (v0,v1,v2,v6,u00,()) =>
  bif ltI v6 v2 then
   aC (mF ((v0.1,v0.2.1,v0.2.2),v1,v2,v6,v6,u00,())) λz4 =>
   some (.inl ((z4.1.1,z4.1.2.1,z4.1.2.2),z4.2.1,z4.2.2.1,(aB .i64 (z4.2.2.2.1+1)),z4.2.2.2.2.1,()))
  else some (.inr ((u00,())))
def mD(x:Shape.den dE):Option (eC eL):=bF uC (2^64) x
def fS(u0:Unit)(x:aH [.hnd 1,.int .i64,.int .i64])(A:List (List Int)):Option ((aH [])×List (List Int)):=match x with
 | (v0,v1,v2,()) =>
  aC (mD ((v0.1,v0.2.1,v0.2.2),v1,v2,(aB .i64 (v1+1)),A,())) λz5 =>
  some ((()),z5.1)
def kY:Code:=dJ f187
abbrev kT:Env:=LY [aGD]
theorem nV:gD Tryz.prog kT:=aO ⟨aK4,trivial⟩
def fA:Code:=iC kY 0
def o8:Code:=iC fA 0
def jX(id:Nat):Option dN:=bif Nat.beq id 4 then some ⟨dD,eN,mF⟩ else bif Nat.beq id 1 then some ⟨dE,eL,mD⟩ else none
theorem F8:∀ x,jW Tryz.prog kT 49 (aP f187) jX o8 dD eN x=uF x:=by
 rintro⟨v0,v1,v2,v6,v7,u00,⟨⟩⟩
 kernel_rfl
theorem HC:eT Tryz.prog 49 o8 ⟨dD,eN,mF⟩:=eZ nV.callee aY.mixed _ (aQ (l:=[]) Y trivial) F8
theorem FT:∀ x,jW Tryz.prog kT 49 (aP f187) jX fA dE eL x=uC x:=by
 rintro⟨v0,v1,v2,v6,u00,⟨⟩⟩
 kernel_rfl
theorem I6:bG fA=[o8]:=Y
theorem G9:eT Tryz.prog 49 fA ⟨dE,eL,mD⟩:=eZ nV.callee aY.mixed _ (aQ I6 ⟨eY (i:=4) Y rfl HC,trivial⟩) FT
theorem IX:bG kY=[fA]:=Y
theorem JP:∀ l x A,HR Tryz.prog kT f187 (aP f187) jX kY 3 (.int .i64) .none [.hnd 1,.int .i64,.int .i64] (.data []) l x A=fS l x A:=by
 rintro u0 ⟨v0,v1,v2,⟨⟩⟩ A
 kernel_rfl
theorem K3:MT Tryz.prog 187 3 (.int .i64) .none [.hnd 1,.int .i64,.int .i64] (.data []) fS:=zZ aY nV func187 (c:=kY) Y (bZ:=aP f187) (lt:=jX) (by rfl) (aQ IX ⟨eY (i:=1) Y rfl G9,trivial⟩) JP
abbrev yX:Shr:=(187,QL 0 (arH 3 (.int .i64) .none [.hnd 1,.int .i64,.int .i64] (.data []) fS))
theorem JH:tQ Tryz.prog yX:=qE (g:=187) (f:=arH 3 (.int .i64) .none [.hnd 1,.int .i64,.int .i64] (.data []) fS) (CJ K3)
abbrev fF:List (Nat×Kd):=[(0,.hnd 1),(1,.int .i64),(2,.int .i64),(3,.int .i64),(8,.bool),(9,.bool),(100000,.ar 3 (.int .i64))]
abbrev iX:List (Ex×List (Nat×Kd)):=[(.ret,[(100000,.ar 3 (.int .i64))])]
def zV(x:Shape.den fF):Option (Shape.den fF⊕eC iX):=match x with
 | (v0,v1,v2,v3,v8,v9,u00,()) =>
  bif !(ltI 12 (aB .i64 (v2-v1))) then
   aC (fS () ((v0.1,v0.2.1,v0.2.2),v1,v2,()) u00) λy2 =>
   some (.inr ((y2.2,())))
  else bif eqI v3 0 then none else bif v8 then none else none
def rR(x:Shape.den fF):Option (eC iX):=bF zV (2^64) x
def lC(u0:Unit)(x:aH [.hnd 1,.int .i64,.int .i64,.int .i64])(A:List (List Int)):Option ((aH [])×List (List Int)):=match x with
 | (v0,v1,v2,v3,()) =>
  aC (rR ((v0.1,v0.2.1,v0.2.2),v1,v2,v3,true,true,A,())) λz3 =>
  some ((()),z3.1)
def qD:Code:=dJ f141
abbrev wL:Env:=MU [] [yX]
theorem BW:gD Tryz.prog wL:=l5 trivial ⟨JH,trivial⟩
def tU:Code:=inLoop (aML qD 0)
def vL(id:Nat):Option dN:=bif Nat.beq id 2 then some ⟨fF,iX,rR⟩ else none
def vB(id:Nat):Option dN:=none
theorem LN:∀ x,aL1 Tryz.prog wL 134 (S1 f141) vL vB false [] tU fF iX x=zV x:=by
 rintro⟨v0,v1,v2,v3,v8,v9,u00,⟨⟩⟩
 kernel_rfl
theorem MR:UR Tryz.prog 134 false [] (.loop tU) ⟨fF,iX,rR⟩:=aEA BW.callee aY.mixed _ (NB (l:=[]) Y trivial) LN
theorem N2:iB qD=[.loop tU]:=Y
theorem OE:∀ l x A,aRJ Tryz.prog wL f141 (S1 f141) vL vB qD 3 (.int .i64) .none [.hnd 1,.int .i64,.int .i64,.int .i64] (.data []) l x A=lC l x A:=by
 rintro u0 ⟨v0,v1,v2,v3,⟨⟩⟩ A
 kernel_rfl
theorem Q4:MT Tryz.prog 141 3 (.int .i64) .none [.hnd 1,.int .i64,.int .i64,.int .i64] (.data []) lC:=aXH aY BW func141 (c:=qD) Y (bZ:=S1 f141) (lt:=vL) (rt:=vB) (by rfl) (NB N2 ⟨aDU (i:=2) Y rfl MR,trivial⟩) OE
abbrev EY:Shr:=(141,QL 0 (arH 3 (.int .i64) .none [.hnd 1,.int .i64,.int .i64,.int .i64] (.data []) lC))
theorem OH:tQ Tryz.prog EY:=qE (g:=141) (f:=arH 3 (.int .i64) .none [.hnd 1,.int .i64,.int .i64,.int .i64] (.data []) lC) (CJ Q4)
def kJ(u0:Unit) (x:aH [.hnd 1]) (A:List (List Int)):Option ((aH [])×List (List Int)):=match x with
 | (v0,()) =>
  aC (aDJ ((IntKind.wrap .u64 ((v0.2.2:Nat):Int)),())) λy1 =>
  aC (lC () ((v0.1,v0.2.1,v0.2.2),0,((v0.2.2:Nat):Int),y1.1,()) A) λy2 =>
  some ((()),y2.2)
def uZ:Code:=dJ f98
abbrev DS:Env:=MU [aC2] [EY]
theorem NK:gD Tryz.prog DS:=l5 ⟨aKO,trivial⟩ ⟨OH,trivial⟩
def CT(id:Nat):Option dN:=none
theorem MI:bG uZ=[]:=Y
theorem NT:∀ l x A,HR Tryz.prog DS f98 (aP f98) CT uZ 3 (.int .i64) .none [.hnd 1] (.data []) l x A=kJ l x A:=by
 rintro u0 ⟨v0,⟨⟩⟩ A
 kernel_rfl
theorem PO:MT Tryz.prog 98 3 (.int .i64) .none [.hnd 1] (.data []) kJ:=zZ aY NK func98 (c:=uZ) Y (bZ:=aP f98) (lt:=CT) (by rfl) (aQ MI trivial) NT
theorem OL:aT9 Tryz.prog 98 3 (.int .i64) [] (WT kJ):=aFD PO (by rfl) (by rfl)
abbrev CQ:Shr:=(98,QL 1 (a2O 3 (.int .i64) [] (WT kJ)))
theorem ML:tQ Tryz.prog CQ:=qE (aOI OL)
abbrev dF:List (Nat×Kd):=[(0,.own 3 (.int .i64)),(3,.int .i64),(100000,.ar 3 (.int .i64))]
abbrev eK:List (Ex×List (Nat×Kd)):=[(.exit 0,[(0,.own 3 (.int .i64)),(100000,.ar 3 (.int .i64))])]
def uD(x:Shape.den dF):Option (Shape.den dF⊕eC eK):=match x with
 | (v0,v3,u00,()) =>
  bif ltI v3 (v0.length:Int) then
   bif aF v3 v0.length then bif Nat.blt v3.toNat v0.length then bif aF (aB .i64 (v3-1)) v0.length then bif Nat.blt ((aB .i64 (v3-1)).toNat) v0.length then bif eqI (v0.getD v3.toNat 0) (v0.getD ((aB .i64 (v3-1)).toNat) 0) then
    bif !(ltI v3 0) then bif Nat.ble v3.toNat v0.length then bif Nat.ble v0.length v0.length then bif Nat.blt v3.toNat v0.length then none else none else none else none else none
   else some (.inl (v0,(aB .i64 (v3+1)),u00,())) else none else none else none else none
  else some (.inr ((v0,u00,())))
def mG(x:Shape.den dF):Option (eC eK):=bF uD (2^64) x
def fT(v0:List Int)(x:aH [])(A:List (List Int)):Option ((List Int)×List (List Int)):=match x with
 | (()) =>
  bif ltI (v0.length:Int) 2 then
   some (v0,A)
  else aC (mG (v0,1,A,())) λz1 =>
  some (z1.1,z1.2.1)
def kS:Code:=dJ f99
abbrev qS:Env:=LY []
theorem vQ:gD Tryz.prog qS:=aO trivial
def fE:Code:=inLoop (aML kS 0)
def nO:Code:=inLoop (aML fE 0)
def j7(id:Nat):Option dN:=bif Nat.beq id 4 then some ⟨dF,eK,mG⟩ else none
def j8(id:Nat):Option dN:=none
theorem E6:b8 nO=9:=Y
theorem HD {rd:Bool}{T:List Nat}:WB Tryz.prog 61 j7 j8 rd T (.loop nO):=by
 intro s hs;rw[E6]at hs;cases hs
theorem I1:iB fE=[.loop nO]:=Y
theorem FV:∀ x,aL1 Tryz.prog qS 61 (S1 f99) j7 j8 false [] fE dF eK x=uD x:=by
 rintro⟨v0,v3,u00,⟨⟩⟩
 kernel_rfl
theorem HB:UR Tryz.prog 61 false [] (.loop fE) ⟨dF,eK,mG⟩:=aEA vQ.callee aY.mixed _ (NB I1 ⟨HD,trivial⟩) FV
theorem IQ:iB kS=[.loop fE]:=Y
theorem I7:∀ l x A,aRJ Tryz.prog qS f99 (S1 f99) j7 j8 kS 3 (.int .i64) (.own 3 (.int .i64)) [] (.own 3 (.int .i64)) l x A=fT l x A:=by
 rintro u0 ⟨⟨⟩⟩ A
 kernel_rfl
theorem K6:MT Tryz.prog 99 3 (.int .i64) (.own 3 (.int .i64)) [] (.own 3 (.int .i64)) fT:=aXH aY vQ func99 (c:=kS) Y (bZ:=S1 f99) (lt:=j7) (rt:=j8) (by rfl) (NB IQ ⟨aDU (i:=4) Y rfl HB,trivial⟩) I7
abbrev yR:Shr:=(99,QL 1 (arH 3 (.int .i64) (.own 3 (.int .i64)) [] (.own 3 (.int .i64)) fT))
theorem I5:tQ Tryz.prog yR:=qE (g:=99) (f:=arH 3 (.int .i64) (.own 3 (.int .i64)) [] (.own 3 (.int .i64)) fT) (CJ K6)
def A4(x:aH [.list (.int .i64),.list (.int .i64)]):Option (aH [.list (.int .i64),.int .i64]):=match x with
 | (v0,v1,()) =>
  aC (aBD (v0,v1,())) λy1 =>
  bif !(eqI y1.1 0) then
   some ([],y1.1,())
  else aC (mQ ([v0,v1],())) λy2 =>
  aC (WT (t:=(.int .i64)) kJ y2 (())) λy3 =>
  aC (fT y3 (()) []) λy4 =>
  bif ltI 6 (y4.1.length:Int) then
   some ([],4,())
  else some (y4.1,0,())
def aD3:Code:=dJ f42
abbrev aNG:Env:=MU [aPJ] [yR,BX,CQ]
theorem aP4:gD Tryz.prog aNG:=l5 ⟨aGC,trivial⟩ ⟨I5,LL,ML,trivial⟩
def aI2(id:Nat):Option dN:=none
theorem aNS:bG aD3=[]:=Y
theorem aQ4:∀ x,aGE Tryz.prog aNG f42 (aP f42) aI2 aD3 3 (.int .i64) [.list (.int .i64),.list (.int .i64)] [.list (.int .i64),.int .i64] x=A4 x:=by
 rintro⟨v0,v1,⟨⟩⟩
 kernel_rfl
abbrev aZ5:Ent:=⟨42,[.list (.int .i64),.list (.int .i64)],[.list (.int .i64),.int .i64],A4⟩
theorem aD9:Ent.OK Tryz.prog aZ5:=aKC aY aP4 func42 (c:=aD3) Y (bZ:=aP f42) (lt:=aI2) (aQ aNS trivial) aQ4
def xT(x:aH [.int .i64,.ptr (.prod (.list (.int .i64)) (.prod (.list (.list (.int .i64))) (.list (.list (.int .i64)))))]):Option (aH [.bool]):=match x with
 | (v0,v1,()) =>
  aC (cG (v1.1,v0,())) λy1 =>
  some (y1.1,())
abbrev aAF:Ent:=⟨96,[.int .i64,.ptr (.prod (.list (.int .i64)) (.prod (.list (.list (.int .i64))) (.list (.list (.int .i64)))))],[.bool],xT⟩
theorem WZ:Ent.OK Tryz.prog aAF:=oI (aO (oV kV oW)) func96 Y (by rintro⟨v0,v1,⟨⟩⟩; kernel_rfl)
abbrev o9:List (Nat×Kd):=[(0,.list (.int .i64)),(1,.clo 96 [(.prod (.list (.int .i64)) (.prod (.list (.list (.int .i64))) (.list (.list (.int .i64)))))]),(7,.int .i64),(8,.int .i64)]
abbrev xG:List (Ex×List (Nat×Kd)):=[(.ret,[(4,.int .i64)]),(.exit 0,[])]
def eH(x:Shape.den o9):Option (Shape.den o9⊕eC xG):=match x with
 | (v0,v1,v7,v8,()) =>
  bif ltI v8 v7 then
   bif aF v8 v0.length then aC (xT ((v0.getD v8.toNat 0),(v1.1.1,(v1.1.2.1,v1.1.2.2)),())) λy2 =>
   bif y2.1 then
    some (.inr (.inl (v8,())))
   else some (.inl (v0,((v1.1.1,(v1.1.2.1,v1.1.2.2)),()),v7,(aB .i64 (v8+1)),())) else none
  else some (.inr (.inr ((()))))
def mR(x:Shape.den o9):Option (eC xG):=bF eH (2^64) x
def lF(x:aH [.list (.int .i64),.clo 96 [(.prod (.list (.int .i64)) (.prod (.list (.list (.int .i64))) (.list (.list (.int .i64)))))]]):Option (aH [.int .i64]):=match x with
 | (v0,v1,()) =>
  aC (mR (v0,((v1.1.1,(v1.1.2.1,v1.1.2.2)),()),(v0.length:Int),0,())) λz3 =>
  xJ z3 (λa4=>some (a4.1,())) λb5 =>
  some ((-1),())
abbrev MN:Ent:=⟨89,[.list (.int .i64),.clo 96 [(.prod (.list (.int .i64)) (.prod (.list (.list (.int .i64))) (.list (.list (.int .i64)))))]],[.int .i64],lF⟩
theorem KB:Ent.OK Tryz.prog MN:=oU (aO (oV WZ oW)) func89 2 (lp:=mR) rfl Y (by rintro⟨v0,v1,v7,v8,⟨⟩⟩; kernel_rfl) (by rintro⟨v0,v1,⟨⟩⟩; kernel_rfl)
def fC(x:aH [.list (.int .i64),.clo 96 [(.prod (.list (.int .i64)) (.prod (.list (.list (.int .i64))) (.list (.list (.int .i64)))))]]):Option (aH [.bool]):=match x with
 | (v0,v1,()) =>
  aC (lF (v0,((v1.1.1,(v1.1.2.1,v1.1.2.2)),()),())) λy1 =>
  some (!(ltI y1.1 0),())
abbrev KL:Ent:=⟨33,[.list (.int .i64),.clo 96 [(.prod (.list (.int .i64)) (.prod (.list (.list (.int .i64))) (.list (.list (.int .i64)))))]],[.bool],fC⟩
theorem G6:Ent.OK Tryz.prog KL:=oI (aO (oV KB oW)) func33 Y (by rintro⟨v0,v1,⟨⟩⟩; kernel_rfl)
abbrev CL:List (Nat×Kd):=[(2,.box 35 (.prod (.list (.int .i64)) (.prod (.list (.list (.int .i64))) (.list (.list (.int .i64)))))),(3,.box 35 (.prod (.list (.int .i64)) (.prod (.list (.list (.int .i64))) (.list (.list (.int .i64)))))),(4,.box 35 (.prod (.list (.int .i64)) (.prod (.list (.list (.int .i64))) (.list (.list (.int .i64)))))),(15,.list (.prod (.list (.int .i64)) (.prod (.list (.list (.int .i64))) (.list (.list (.int .i64)))))),(16,.int .i64),(17,.int .i64)]
abbrev L5:List (Ex×List (Nat×Kd)):=[(.ret,[(4,.box 35 (.prod (.list (.int .i64)) (.prod (.list (.list (.int .i64))) (.list (.list (.int .i64)))))),(5,.int .i64)]),(.exit 0,[(2,.box 35 (.prod (.list (.int .i64)) (.prod (.list (.list (.int .i64))) (.list (.list (.int .i64)))))),(3,.box 35 (.prod (.list (.int .i64)) (.prod (.list (.list (.int .i64))) (.list (.list (.int .i64)))))),(4,.box 35 (.prod (.list (.int .i64)) (.prod (.list (.list (.int .i64))) (.list (.list (.int .i64))))))])]
def n9(x:Shape.den CL):Option (Shape.den CL⊕eC L5):=match x with
 | (v2,v3,v4,v15,v16,v17,()) =>
  bif ltI v17 v16 then
   bif aF v17 v15.length then aC (eP ([((v15.getD v17.toNat ([],([],[]))).1,((v15.getD v17.toNat ([],([],[]))).2.1,(v15.getD v17.toNat ([],([],[]))).2.2))],())) λy2 =>
   bif !(eqI y2.1 0) then
    some (.inr (.inl (([],([],[])),y2.1,())))
   else some (.inl ((v2.1,(v2.2.1,v2.2.2)),(v3.1,(v3.2.1,v3.2.2)),(v4.1,(v4.2.1,v4.2.2)),v15,v16,(aB .i64 (v17+1)),())) else none
  else some (.inr (.inr (((v2.1,(v2.2.1,v2.2.2)),(v3.1,(v3.2.1,v3.2.2)),(v4.1,(v4.2.1,v4.2.2)),()))))
def kP(x:Shape.den CL):Option (eC L5):=bF n9 (2^64) x
def kH(x:aH [.agg (.prod (.list (.int .i64)) (.prod (.list (.list (.int .i64))) (.list (.list (.int .i64))))),.agg (.prod (.list (.int .i64)) (.prod (.list (.list (.int .i64))) (.list (.list (.int .i64)))))]):Option (aH [.agg (.prod (.list (.int .i64)) (.prod (.list (.list (.int .i64))) (.list (.list (.int .i64))))),.int .i64]):=match x with
 | (v0,v1,()) =>
  aC (kP ((v0.1,(v0.2.1,v0.2.2)),(v1.1,(v1.2.1,v1.2.2)),([],([],[])),[(v0.1,(v0.2.1,v0.2.2)),(v1.1,(v1.2.1,v1.2.2))],([(v0.1,(v0.2.1,v0.2.2)),(v1.1,(v1.2.1,v1.2.2))].length:Int),0,())) λz3 =>
  xJ z3 (λa4=>some ((a4.1.1,(a4.1.2.1,a4.1.2.2)),a4.2.1,())) λb5 =>
  aC (fC (b5.1.1,((b5.2.1.1,(b5.2.1.2.1,b5.2.1.2.2)),()),())) λy6 =>
  bif y6.1 then
   some (([],([],[])),14,())
  else aC (A4 (b5.1.1,b5.2.1.1,())) λy7 =>
  bif !(eqI y7.2.1 0) then
   some (([],([],[])),y7.2.1,())
  else aC (qM ((b5.1.1,(b5.1.2.1,b5.1.2.2)),y7.1,())) λy8 =>
  bif !(eqI y8.2.1 0) then
   some (([],([],[])),y8.2.1,())
  else aC (qM ((b5.2.1.1,(b5.2.1.2.1,b5.2.1.2.2)),y7.1,())) λy9 =>
  bif !(eqI y9.2.1 0) then
   some (([],([],[])),y9.2.1,())
  else aC (DA ((y8.1.1,(y8.1.2.1,y8.1.2.2)),(y9.1.1,(y9.1.2.1,y9.1.2.2)),())) λy10 =>
  some ((y10.1.1,(y10.1.2.1,y10.1.2.2)),y10.2.1,())
abbrev aDE:Ent:=⟨40,[.agg (.prod (.list (.int .i64)) (.prod (.list (.list (.int .i64))) (.list (.list (.int .i64))))),.agg (.prod (.list (.int .i64)) (.prod (.list (.list (.int .i64))) (.list (.list (.int .i64)))))],[.agg (.prod (.list (.int .i64)) (.prod (.list (.list (.int .i64))) (.list (.list (.int .i64))))),.int .i64],kH⟩
theorem YX:Ent.OK Tryz.prog aDE:=oU (aO (oV aD9 (oV rB (oV OP (oV S9 (oV G6 oW)))))) func40 2 (lp:=kP) rfl Y (by rintro⟨v2,v3,v4,v15,v16,v17,⟨⟩⟩; kernel_rfl) (by rintro⟨v0,v1,⟨⟩⟩; kernel_rfl)
def j6(x:aH [.int .i64,.ptr (.prod (.list (.int .i64)) (.prod (.list (.list (.int .i64))) (.list (.list (.int .i64)))))]):Option (aH [.bool]):=match x with
 | (v0,v1,()) =>
  aC (cG (v1.1,v0,())) λy1 =>
  some (y1.1,())
abbrev K7:Ent:=⟨41,[.int .i64,.ptr (.prod (.list (.int .i64)) (.prod (.list (.list (.int .i64))) (.list (.list (.int .i64)))))],[.bool],j6⟩
theorem ID:Ent.OK Tryz.prog K7:=oI (aO (oV kV oW)) func41 Y (by rintro⟨v0,v1,⟨⟩⟩; kernel_rfl)
abbrev pA:List (Nat×Kd):=[(0,.list (.int .i64)),(1,.clo 41 [(.prod (.list (.int .i64)) (.prod (.list (.list (.int .i64))) (.list (.list (.int .i64)))))]),(7,.int .i64),(8,.int .i64)]
abbrev xL:List (Ex×List (Nat×Kd)):=[(.ret,[(4,.int .i64)]),(.exit 0,[])]
def eE(x:Shape.den pA):Option (Shape.den pA⊕eC xL):=match x with
 | (v0,v1,v7,v8,()) =>
  bif ltI v8 v7 then
   bif aF v8 v0.length then aC (j6 ((v0.getD v8.toNat 0),(v1.1.1,(v1.1.2.1,v1.1.2.2)),())) λy2 =>
   bif y2.1 then
    some (.inr (.inl (v8,())))
   else some (.inl (v0,((v1.1.1,(v1.1.2.1,v1.1.2.2)),()),v7,(aB .i64 (v8+1)),())) else none
  else some (.inr (.inr ((()))))
def mY(x:Shape.den pA):Option (eC xL):=bF eE (2^64) x
def lH(x:aH [.list (.int .i64),.clo 41 [(.prod (.list (.int .i64)) (.prod (.list (.list (.int .i64))) (.list (.list (.int .i64)))))]]):Option (aH [.int .i64]):=match x with
 | (v0,v1,()) =>
  aC (mY (v0,((v1.1.1,(v1.1.2.1,v1.1.2.2)),()),(v0.length:Int),0,())) λz3 =>
  xJ z3 (λa4=>some (a4.1,())) λb5 =>
  some ((-1),())
abbrev MQ:Ent:=⟨89,[.list (.int .i64),.clo 41 [(.prod (.list (.int .i64)) (.prod (.list (.list (.int .i64))) (.list (.list (.int .i64)))))]],[.int .i64],lH⟩
theorem J5:Ent.OK Tryz.prog MQ:=oU (aO (oV ID oW)) func89 2 (lp:=mY) rfl Y (by rintro⟨v0,v1,v7,v8,⟨⟩⟩; kernel_rfl) (by rintro⟨v0,v1,⟨⟩⟩; kernel_rfl)
def fB(x:aH [.list (.int .i64),.clo 41 [(.prod (.list (.int .i64)) (.prod (.list (.list (.int .i64))) (.list (.list (.int .i64)))))]]):Option (aH [.bool]):=match x with
 | (v0,v1,()) =>
  aC (lH (v0,((v1.1.1,(v1.1.2.1,v1.1.2.2)),()),())) λy1 =>
  some (!(ltI y1.1 0),())
abbrev KI:Ent:=⟨33,[.list (.int .i64),.clo 41 [(.prod (.list (.int .i64)) (.prod (.list (.list (.int .i64))) (.list (.list (.int .i64)))))]],[.bool],fB⟩
theorem HA:Ent.OK Tryz.prog KI:=oI (aO (oV J5 oW)) func33 Y (by rintro⟨v0,v1,⟨⟩⟩; kernel_rfl)
abbrev p6:List (Nat×Kd):=[(3,.box 35 (.prod (.list (.int .i64)) (.prod (.list (.list (.int .i64))) (.list (.list (.int .i64)))))),(52,.list (.prod (.list (.int .i64)) (.prod (.list (.list (.int .i64))) (.list (.list (.int .i64)))))),(53,.int .i64),(54,.int .i64)]
abbrev yI:List (Ex×List (Nat×Kd)):=[(.ret,[(2,.bool)]),(.exit 0,[])]
def cK(x:Shape.den p6):Option (Shape.den p6⊕eC yI):=match x with
 | (v3,v52,v53,v54,()) =>
  bif ltI v54 v53 then
   bif aF v54 v52.length then aC (kH ((v3.1,(v3.2.1,v3.2.2)),((v52.getD v54.toNat ([],([],[]))).1,((v52.getD v54.toNat ([],([],[]))).2.1,(v52.getD v54.toNat ([],([],[]))).2.2)),())) λy14 =>
   aC (fB ((v52.getD v54.toNat ([],([],[]))).1,((v3.1,(v3.2.1,v3.2.2)),()),())) λy15 =>
   bif y15.1 then
    bif !(eqI y14.2.1 14) then
     some (.inr (.inl (false,())))
    else aC (KD ((y14.1.1,(y14.1.2.1,y14.1.2.2)),())) λy16 =>
    bif y16.1 then
     some (.inl ((v3.1,(v3.2.1,v3.2.2)),v52,v53,(aB .i64 (v54+1)),()))
    else some (.inr (.inl (false,())))
   else aC (A4 (v3.1,(v52.getD v54.toNat ([],([],[]))).1,())) λy17 =>
   bif !(eqI y17.2.1 0) then
    bif !(eqI y14.2.1 y17.2.1) then
     some (.inr (.inl (false,())))
    else some (.inl ((v3.1,(v3.2.1,v3.2.2)),v52,v53,(aB .i64 (v54+1)),()))
   else aC (o6 ((v3.1,(v3.2.1,v3.2.2)),y17.1,())) λy18 =>
   aC (o6 (((v52.getD v54.toNat ([],([],[]))).1,((v52.getD v54.toNat ([],([],[]))).2.1,(v52.getD v54.toNat ([],([],[]))).2.2)),y17.1,())) λy19 =>
   aC (yP ((y18.1.1,(y18.1.2.1,y18.1.2.2)),(y19.1.1,(y19.1.2.1,y19.1.2.2)),())) λy20 =>
   bif !(eqI y18.2.1 0) then
    some (.inr (.inl (false,())))
   else bif !(eqI y19.2.1 0) then
    some (.inr (.inl (false,())))
   else bif !(eqI y20.2.1 0) then
    some (.inr (.inl (false,())))
   else bif !(eqI y14.2.1 0) then
    some (.inr (.inl (false,())))
   else aC (yW ((y14.1.1,(y14.1.2.1,y14.1.2.2)),(y20.1.1,(y20.1.2.1,y20.1.2.2)),())) λy21 =>
   bif y21.1 then
    some (.inl ((v3.1,(v3.2.1,v3.2.2)),v52,v53,(aB .i64 (v54+1)),()))
   else some (.inr (.inl (false,()))) else none
  else some (.inr (.inr ((()))))
def nM(x:Shape.den p6):Option (eC yI):=bF cK (2^64) x
def hO(x:aH [.agg (.prod (.prod (.int .u8) (.prod (.list (.prod (.int .i8) (.prod (.int .i8) (.prod (.int .i8) (.int .i8))))) .bool)) (.prod (.prod (.int .u8) (.prod (.list (.prod (.int .i8) (.prod (.int .i8) (.prod (.int .i8) (.int .i8))))) .bool)) .bool))]):Option (aH [.bool]):=match x with
 | (v0,()) =>
  aC (lO (())) λy1 =>
  bif y1.1 then
   aC (ED (((v0.1.1,(v0.1.2.1,v0.1.2.2)),((v0.2.1.1,(v0.2.1.2.1,v0.2.1.2.2)),v0.2.2)),())) λy2 =>
   bif y2.1 then
    aC (EH (((v0.1.1,(v0.1.2.1,v0.1.2.2)),((v0.2.1.1,(v0.2.1.2.1,v0.2.1.2.2)),false)),())) λy3 =>
    bif ltI (aB .i64 ((y3.2.1.1.length:Int)-1)) 0 then none else aC (GP (y3.2.1.1,(IntKind.wrap .u8 (IntKind.wrap .i64 (((BitVec.ofInt (IntKind.bits .i64) 0) ||| (BitVec.ofInt (IntKind.bits .i64) (IntKind.wrap .i64 (1*(2^(min ((aB .i64 ((y3.2.1.1.length:Int)-1)).toNat) (IntKind.bits .i64))))))).toNat:Int))),())) λy4 =>
    aC (zQ ((y3.2.1.1,(y3.2.1.2.1,y3.2.1.2.2)),y4.1,())) λy5 =>
    aC (nM ((y3.1.1,(y3.1.2.1,y3.1.2.2)),[(y3.2.1.1,(y3.2.1.2.1,y3.2.1.2.2)),(y5.1.1,(y5.1.2.1,y5.1.2.2))],([(y3.2.1.1,(y3.2.1.2.1,y3.2.1.2.2)),(y5.1.1,(y5.1.2.1,y5.1.2.2))].length:Int),0,())) λz22 =>
    xJ z22 (λa23=>some (a23.1,())) λb24 =>
    some (true,())
   else aC (lO (())) λy25 =>
   some (y25.1,())
  else aC (lO (())) λy26 =>
  some (y26.1,())
theorem MS:aCL Tryz.prog 8 [.agg (.prod (.prod (.int .u8) (.prod (.list (.prod (.int .i8) (.prod (.int .i8) (.prod (.int .i8) (.int .i8))))) .bool)) (.prod (.prod (.int .u8) (.prod (.list (.prod (.int .i8) (.prod (.int .i8) (.prod (.int .i8) (.int .i8))))) .bool)) .bool))] [.bool] hO:=oU (aO (oV aD9 (oV aBY (oV SZ (oV YX (oV XU (oV aCM (oV aA3 (oV aCZ (oV aBA (oV aCW (oV aDP (oV HA oW))))))))))))) func8 8 (lp:=nM) rfl Y (by rintro⟨v3,v52,v53,v54,⟨⟩⟩; kernel_rfl) (by rintro⟨v0,⟨⟩⟩; kernel_rfl)
def Dn(u:Nat):ByteArray:=⟨(Lib.decDigits u).toArray⟩
def Zn(n:Int):ByteArray:=⟨(Lib.itoa n).toArray⟩
theorem EN u:(Dn u).data.toList=Lib.decDigits u:=by rfl
theorem bB2 n:(Zn n).data.toList=Lib.itoa n:=by rfl
theorem aWA(u:Nat):Zn u=Dn u:=by rfl
theorem a0B {n}(h:n.natAbs<10^20):aZW n=Zn n:=aPK h
theorem aAW {n}(h:n<0):(Zn n).data.toList=45::Lib.decDigits n.natAbs:=by rw[bB2,Lib.itoa,if_pos h]
theorem X4 {n}(h:0<=n):Zn n=Dn n.natAbs:=by
 obtain⟨u,rfl⟩:∃ u:Nat,n=u:=⟨n.natAbs,by omega⟩;rfl
theorem VA {a b:ByteArray}(h:a.data.toList=b.data.toList):a=b:=by cases a; simp_all
theorem aFI(a:ByteArray):a.size=a.data.toList.length:=by rfl
theorem aQI(l m:List UInt8):∀ (acc:Nat),Lib.decFrom acc (l++m)=(Lib.decFrom acc l).bind λa=>Lib.decFrom a m:=by
 induction l with
 | nil=>intro acc; rfl
 | cons b l ih =>
  intro acc;rw[List.cons_append,Lib.decFrom,Lib.decFrom];split
  ·grind
  ·rfl
theorem aTL {d}(h:d<10):Lib.digitVal (UInt8.ofNat (48+d))=some d:=by
 have h1:(UInt8.ofNat (48+d)).toNat=48+d:=by
  rw[UInt8.toNat_ofNat'];omega
 unfold Lib.digitVal;grind
theorem sG u:Lib.decFrom 0 (Lib.decDigits u)=some u:=by
 induction u using Nat.strongRecOn with
 | _ u ih =>
  rw[Lib.decDigits];split
  next h=>rw[Lib.decFrom,aTL h];simp[Lib.decFrom]
  ·rw[aQI,ih (u/10) Z];simp only[Option.bind_some];rw[Lib.decFrom,aTL (Nat.mod_lt _ R)];simp only[Lib.decFrom];grind
theorem OC u:Lib.decDigits u≠[]:=by
 rw[Lib.decDigits];split <;> simp
theorem QB u:∀ b∈Lib.decDigits u,48<=b.toNat/\b.toNat<=57:=by
 induction u using Nat.strongRecOn with
 | _ u ih =>
  intro b hb;rw[Lib.decDigits]at hb;have key:∀ d,d<10->48<=(UInt8.ofNat (48+d)).toNat/\(UInt8.ofNat (48+d)).toNat<=57:=λd h=>by rw[UInt8.toNat_ofNat']; omega
  grind
theorem a8P {a b}(h:Dn a=Dn b):a=b:=by
 have h1:=oZ (λx:ByteArray=>Lib.decFrom 0 x.data.toList) h;simp only[EN,sG]at h1;grind
theorem aMN {n}(h:n<0) m:Zn n≠Dn m:=by
 intro e;have h1:=oZ (λx:ByteArray=>x.data.toList) e;simp only[aAW h,EN]at h1;have:=QB m 45 W;grind
theorem bEQ {a b}(h:Zn a=Zn b):a=b:=by
 rcases(by omega:a<0\/0<=a)with ha|ha
 ·rcases(by omega:b<0\/0<=b)with hb|hb
  ·have h1:=oZ (λx:ByteArray=>x.data.toList) h;simp only[aAW ha,aAW hb,List.cons.injEq,true_and]at h1;have h2:=oZ (Lib.decFrom 0) h1;rw[sG,sG]at h2;grind
  ·rw[X4 hb]at h;exact absurd h (aMN ha _)
 ·rcases(by omega:b<0\/0<=b)with hb|hb
  ·rw[X4 ha]at h;exact absurd h.symm (aMN hb _)
  ·rw[X4 ha,X4 hb]at h;have:=a8P h;omega
theorem a7R a b:eqS a b=decide (a=b):=by
 unfold eqS
 by_cases h:a=b
 ·grind
 ·have:¬ a.data=b.data:=λe=>h (VA W)
  simp_all
theorem bE1:ByteArray.mk #[48]=Dn 0:=VA (by rw[EN,Lib.decDigits]; rfl)
theorem bG2:ByteArray.mk #[49]=Dn 1:=VA (by rw[EN,Lib.decDigits]; rfl)
theorem W6 n:eqS (Zn n) (ByteArray.mk #[48])=decide (n=0):=by
 rw[a7R,bE1,((aWA 0).symm)]
 by_cases h:n=0
 ·grind
 ·have :=λe=>h (bEQ e)
  grind
theorem aOW n:eqS (Dn n) (ByteArray.mk #[48])=decide (n=0):=by
 rw[<- aWA,W6];simp
theorem I9 u:(Dn u).size=Lib.nDigits u:=by rw[aFI,EN,Lib.decDigits_length]
theorem L2 {n}(h:n<0):(Zn n).size=Lib.nDigits n.natAbs+1:=by rw[aFI,aAW h,List.length_cons,Lib.decDigits_length]
theorem HI {u k}:u<10^(k+1)->Lib.nDigits u<=k+1:=by
 induction k generalizing u with
 | zero=>intro h; rw[Lib.nDigits_small W]; simp
 | succ k ih =>
  by_cases h1:u<10
  ·grind
  ·rw[Lib.nDigits_big h1];grind
theorem jZ u:u<10^Lib.nDigits u:=by
 have:=Lib.decFrom_lt _ _ _ (sG u);rw[Lib.decDigits_length]at this;grind
theorem nDigits_pos u:1<=Lib.nDigits u:=by rw[Lib.nDigits]; grind
theorem bDG n:Lib.atoi (Zn n).data.toList=some n:=by
 rcases(by omega:n<0\/0<=n)with h|h
 ·rw[aAW h];have hne:(Lib.decDigits n.natAbs).isEmpty=false:=by
   cases e:Lib.decDigits n.natAbs with
   | nil=>exact absurd e (OC _)
   | cons _ _=>rfl
  simp only[Lib.atoi,Lib.decNat,sG];grind
 ·rw[X4 h,EN];have h1:=sG n.natAbs;have h2:=QB n.natAbs;cases e:Lib.decDigits n.natAbs with
  | nil=>exact absurd e (OC _)
  | cons b r =>
   rw[e]at h1 h2;have hb:=h2 b R;have n45:(b==45)=false:=by
    rw[beq_eq_false_iff_ne]; rintro rfl;grind
   have n43:(b==43)=false:=by
    rw[beq_eq_false_iff_ne]; rintro rfl;grind
   simp only[Lib.atoi,n45,Lib.decNat,h1];grind
theorem aUD u:Lib.decNat (Dn u).data.toList=some u:=by
 have hne:(Lib.decDigits u).isEmpty=false:=by
  cases e:Lib.decDigits u with
  | nil=>exact absurd e (OC _)
  | cons _ _=>rfl
 simp only[EN,Lib.decNat,hne,sG];rfl
theorem aHX:∀ (l:List UInt8) (acc n:Nat),Lib.decFrom acc l=some n->acc*10^l.length<=n
 | [],acc,n,h=>by
  obtain rfl:=oB h;simp
 | b::l,acc,n,h=>by
  rw[Lib.decFrom]at h;split at h
  next d hd=>have:=aHX l _ n h;rw[List.length_cons,Nat.pow_succ];grind
  ·cases h
theorem ZB:∀ l m acc x y,l.length=m.length->Lib.decFrom acc l=some x->Lib.decFrom acc m=some y->Op.bytesLess l m=decide (x<y)
 | [],[],acc,x,y,_,h1,h2=>by
  obtain rfl:=oB h1;obtain rfl:=oB h2;simp[Op.bytesLess]
 | [],_::_,_,_,_,h,_,_=>by simp at h
 | _::_,[],_,_,_,h,_,_=>by simp at h
 | c::l,d::m,acc,x,y,h,h1,h2=>by
  have hl:l.length=m.length:=by simpa using h
  have digit:∀ (b:UInt8) (e:Nat),Lib.digitVal b=some e->b.toNat=48+e/\e<10:=by
   intro b e he;unfold Lib.digitVal at he;grind
  rw[Lib.decFrom]at h1 h2;split at h1
  next e1 he1=>
   split at h2
   ·rename_i e2 he2;obtain⟨c1,c2⟩:=digit c e1 he1;obtain⟨d1,d2⟩:=digit d e2 he2;have x1:=Lib.decFrom_lt l _ x h1;have x2:=aHX l _ x h1;have y1:=Lib.decFrom_lt m _ y h2;have y2:=aHX m _ y h2;rw[hl]at x1 x2;rw[Op.bytesLess];rcases Nat.lt_trichotomy e1 e2 with g|g|g
    ·have lt:c<d:=by rw[UInt8.lt_iff_toNat_lt]; omega
     have:(acc*10+e1+1)*10^m.length<=(acc*10+e2)*10^m.length:=Nat.mul_le_mul_right _ Z;grind
    ·subst g;have e:c=d:=UInt8.toNat_inj.1 Z;subst e;have lt:¬ c<c:=by rw[UInt8.lt_iff_toNat_lt]; omega
     simp[lt,ZB l m _ x y hl h1 h2]
    ·have lt:¬ c<d:=by rw[UInt8.lt_iff_toNat_lt]; omega
     have ne:¬ c=d:=by rintro rfl; omega
     have:(acc*10+e2+1)*10^m.length<=(acc*10+e1)*10^m.length:=Nat.mul_le_mul_right _ Z;grind
   ·cases h2
  ·cases h1
theorem bET {a b}(h:Lib.nDigits a=Lib.nDigits b):ltS (Dn a) (Dn b)=decide (a<b):=by
 unfold ltS;rw[EN,EN];exact ZB _ _ 0 a b (by rw[Lib.decDigits_length,Lib.decDigits_length,h]) (sG a) (sG b)
theorem A9 {a b}(h:a<=b):Lib.nDigits a<=Lib.nDigits b:=by
 obtain⟨k,hk⟩:∃ k,Lib.nDigits b=k+1:=⟨Lib.nDigits b-1,by have:=nDigits_pos b; omega⟩;rw[hk];refine HI (Nat.lt_of_le_of_lt h ?_);rw[<- hk];exact jZ b
theorem bFA a b:eqS (Dn a) (Dn b)=decide (a=b):=by
 rw[a7R]
 by_cases h:a=b
 ·grind
 ·have :=λe=>h (a8P e)
  grind
def aFV(a b:Nat):Int:=if a<b then -1 else if b<a then 1 else 0
theorem AM a b (ha:Lib.nDigits a<2^32)(hb:Lib.nDigits b<2^32):gO (Dn a,Dn b,())=some (aFV a b,()):=by
 unfold gO;dsimp only;rw[I9,I9]
 by_cases h:Lib.nDigits a=Lib.nDigits b
 ·have h1:eqI (Lib.nDigits a:Int) (Lib.nDigits b:Int)=true:=by rw[eG]; simp[h]
  rw[h1,bET h,bFA];unfold aFV;grind
 ·have h1:eqI (Lib.nDigits a:Int) (Lib.nDigits b:Int)=false:=by rw[eG]; simp; omega
  rw[h1];rw[wrap64 Z Z];unfold aFV
  by_cases h2:a<b
  ·have:=A9 (Nat.le_of_lt h2);grind
  ·have h3:b<a:=by
    grind
   have:=A9 (Nat.le_of_lt h3);grind
theorem CW(n:Int) (h1 : -9223372036854775808<=n) (h2:n<9223372036854775808):qY (n,())=some (Zn n,()):=by
 unfold qY K5;have e1:ltI n (-9223372036854775808)=false:=by rw[aE]; grind
 have e2:ltI 9223372036854775807 n=false:=by rw[aE]; simp; omega
 simp only[e1,e2,Bool.not_false,Bool.and_self,oC,aD,a0B (n:=n) Z]
theorem PY(u:Nat)(h:u<18446744073709551616):yL ((u:Int),())=some (Dn u,()):=by
 unfold yL xD;have e1:ltI u 0=false:=by rfl
 have e2:ltI u 18446744073709551616=true:=by rw[aE]; grind
 have e3:eqI 10 10=true:=by rfl
 simp only[e1,e2,e3,Bool.not_false,Bool.and_self,oC,aD,a0B (n:=u) W,aWA]
theorem aGK u (h:Lib.nDigits u<=18):IP (Dn u,())=some ((u:Int),true,()):=by
 unfold IP zC;have e1:Nat.ble (Dn u).size 1000000000=true:=by rw[dO,I9]; grind
 have e2:eqI 10 10=true:=by rfl
 have e3:eqI 64 64=true:=by rfl
 have e4:Lib.parseUintB 64 (Dn u).data.toList=.ok u:=by
  rw[Lib.parseUintB_64,Lib.parseMag_short _ (by rw[EN,Lib.decDigits_length]; omega),aUD];rfl
 simp only[e1,e2,e3,Bool.and_self,oC,aD,e4]
theorem TO a b (ha:Lib.nDigits a<=18)(hb:Lib.nDigits b<=18):uP (Dn a,Dn b,())=some ((a:Int),(b:Int),true,()):=by
 unfold uP;have e1:ltI 18 ((Dn a).size)=false:=by rw[aE,I9]; simp; omega
 have e2:ltI 18 ((Dn b).size)=false:=by rw[aE,I9]; grind
 simp only[e1,e2,oD,aGK a ha,aGK b hb,aD]
theorem aE2 {s c l}(h:s.data.toList=c::l):aCB s 0=c.toNat:=by
 have h1:s[0]?=some c:=by
  have h3:s.data[0]?=some c:=by rw[<- Array.getElem?_toList,h]; rfl
  have h4:s[0]?=s.data[0]?:=by rfl
  grind
 unfold aCB;grind
theorem a4A u:∃ c l,(Dn u).data.toList=c::l/\c.toNat≠45:=by
 have h:=QB u;rw[EN];cases e:Lib.decDigits u with
 | nil=>exact absurd e (OC _)
 | cons c l =>
  grind
theorem aU4 {s:ByteArray}{c l}(h:s.data.toList=c::l):s.extract 1 s.size=⟨l.toArray⟩:=by
 refine VA ?_;have h1:(s.extract 1 s.size).data=s.data.extract 1 s.data.size:=ByteArray.data_extract;rw[h1,Array.toList_extract,List.extract_eq_take_drop,h];have h2:s.data.size=l.length+1:=by rw[<- Array.length_toList,h]; rfl
 grind
theorem yG n:cT (Zn n,())=some (decide (n<0),Dn n.natAbs,()):=by
 unfold cT
 by_cases h:n<0
 ·have hz:=aAW h;have e1:ltI 0 ((Zn n).size:Int)=true:=by rw[aE,L2 h]; simp <;> omega
  have e2:aF 0 (Zn n).size=true:=by rw[aL,L2 h]; simp <;> omega
  have e3:aCB (Zn n) 0=45:=by rw[aE2 hz]; rfl
  have e4:Nat.ble 1 (Zn n).size=true:=by rw[dO,L2 h]; simp
  have e5:Nat.ble (Zn n).size (Zn n).size=true:=R
  have e6:eqI 45 45=true:=O
  simp only[e1,e2,e3,e4,e5,e6,oC,aU4 hz,h,decide_true,Dn]
 ·rw[X4 Z];obtain⟨c,l,h1,h2⟩:=a4A n.natAbs;have hs:(Dn n.natAbs).size=l.length+1:=by rw[aFI,h1]; rfl
  have e2:aF 0 (Dn n.natAbs).size=true:=by rw[aL,hs]; simp <;> omega
  have e3:eqI (aCB (Dn n.natAbs) 0) 45=false:=by rw[aE2 h1,eG]; simp <;> omega
  grind
theorem aPC(b:Bool) m (hm:Lib.nDigits m<2^32):aA (b,Dn m,())=some (Zn (if b then -m else m),()):=by
 unfold aA;cases b with
 | false=>rfl
 | true =>
  have e2:Nat.ble ((ByteArray.mk #[45]).size+(Dn m).size) 9223372036854775807=true:=by
   rw[dO,I9];have:(ByteArray.mk #[45]).size=1:=rfl;grind
  simp only[aOW,e2]
  by_cases h:m=0
  ·subst h;rfl
  ·simp only[h,decide_false,Bool.not_false,oC];simp only[if_true]
   congr 2
   refine VA ?_;rw[aAW Z,Joins.data_append,EN];grind
theorem qX m (hm:Lib.nDigits m<2^32):aA (true,Dn m,())=some (Zn (-m),()):=(aPC true m hm).trans (by rfl)
theorem uU m (hm:Lib.nDigits m<2^32):aA (false,Dn m,())=some (Zn m,()):=(aPC false m hm).trans (by rfl)
theorem JI(n k:Int)(hk:k<=18):uJ (Zn n,k,())=if ((Zn n).size)<=k then some (n,true,()) else some (0,false,()):=by
 unfold uJ
 by_cases h:((Zn n).size)<=k
 ·have e1:ltI k ((Zn n).size:Int)=false:=by rw[aE]; grind
  have e2:Nat.ble (Zn n).size 18=true:=by simp <;> omega
  rw[if_pos h];simp only[e1,oD,K9,e2,oC,bDG,aD]
 ·have e1:ltI k ((Zn n).size)=true:=by rw[aE]; grind
  grind
theorem Z8 n:DV (Zn n,())=some (n.sign,()):=by
 unfold DV;simp only[W6]
 by_cases h0:n=0
 ·grind
 ·by_cases h:n<0
  ·have hz:=aAW h;have e2:aF 0 (Zn n).size=true:=by rw[aL,L2 h]; simp <;> omega
   have e3:aCB (Zn n) 0=45:=by rw[aE2 hz]; rfl
   have e6:eqI 45 45=true:=O
   grind
  ·rw[X4 Z];obtain⟨c,l,h1,h2⟩:=a4A n.natAbs;have hs:(Dn n.natAbs).size=l.length+1:=by rw[aFI,h1]; rfl
   have e2:aF 0 (Dn n.natAbs).size=true:=by rw[aL,hs]; simp
   have e3:eqI (aCB (Dn n.natAbs) 0) 45=false:=by rw[aE2 h1,eG]; simp <;> omega
   grind
theorem aS7 n (h:Lib.nDigits n.natAbs<2^32):UY (Zn n,())=some (Zn (-n),()):=by
 unfold UY;simp only[yG n]
 by_cases h0:n<0
 ·simp only[uU _ h,aD];grind
 ·simp only[qX _ h,aD];grind
theorem aUI n:WC (Zn n,())=some (Zn n.natAbs,()):=by
 unfold WC;simp only[yG n,aD,aWA]
theorem aR9(a b:Nat) (ha:Lib.nDigits a<2^32) (hb:Lib.nDigits b<2^32):MY (Zn (a:Int),Zn (b:Int),())=some (aFV a b,()):=by
 unfold MY;have sg:∀ n:Nat,(n:Int).sign=if n=0 then 0 else 1:=λn=>W
 simp only[Z8 (a:Int),Z8 (b:Int),yG (a:Int),yG (b:Int),aD,sg];have e0:∀ n:Nat,decide ((n:Int)<0)=false:=λn=>R
 by_cases h1:a=0
 ·by_cases h2:b=0
  ·have e:eqI 0 0=true:=O
   simp only[h1,h2,if_true,e,Bool.not_true,oD,e0,Int.natAbs_natCast];have:=AM a b ha hb;rw[h1,h2]at this;simp only[this,aD]
  ·have:eqI 0 1=false:=O
   have e:ltI 0 1=true:=O
   simp only[h1,h2,if_true,if_false,this,e,Bool.not_false,oC];unfold aFV;grind
 ·by_cases h2:b=0
  ·have:eqI 1 0=false:=O
   have e:ltI 1 0=false:=O
   simp only[h1,h2,if_true,if_false,this,e,Bool.not_false,oC,oD];unfold aFV;grind
  ·have e:eqI 1 1=true:=O
   simp only[h1,h2,if_false,e,Bool.not_true,oD,e0,Int.natAbs_natCast,AM a b ha hb,aD]
theorem aM1 {u}(h:Lib.nDigits u<=18):u<1000000000000000000:=by
 have h1:=jZ u;have h2:10^Lib.nDigits u<=10^18:=Nat.pow_le_pow_right R h;omega
theorem uE {x}(h1:0<=x)(h2:x<18446744073709551616):aB .u64 x=x:=by
 rw[aQX,IntKind.wrap_u64];omega
theorem aYH a b (ha:Lib.nDigits a<=18)(hb:Lib.nDigits b<=18):fZ (Dn a,Dn b,())=some (Dn (a+b),()):=by
 have h1:=aM1 ha;have h2:=aM1 hb;unfold fZ;simp only[TO a b ha hb,aD];rw[uE Z Z];have:a+b=((a+b:Nat):Int):=by rfl
 rw[this,PY _ Z];rfl
theorem a0P a b (ha:Lib.nDigits a<=18)(hb:Lib.nDigits b<=18)(h:b<=a):cY (Dn a,Dn b,())=some (Dn (a-b),0,()):=by
 have h1:=aM1 ha;unfold cY;have e:ltI (aFV a b) 0=false:=by
  rw[aE]; unfold aFV;grind
 simp only[AM a b Z Z,TO a b ha hb,aD,e];rw[uE Z Z];have:a-b=((a-b:Nat):Int):=Z
 rw[this,PY _ Z];rfl
theorem aYN a b (h:Lib.nDigits a+Lib.nDigits b<=18):gA (Dn a,Dn b,())=some (Dn (a*b),()):=by
 have h3:a*b<1000000000000000000:=by
  have h1:=jZ a;have h2:=jZ b;have h4 :=Nat.mul_lt_mul'' h1 h2;rw[<- Nat.pow_add]at h4;have h5:10^(Lib.nDigits a+Lib.nDigits b)<=10^18:=Nat.pow_le_pow_right O h;omega
 unfold gA;have e:ltI 18 (aB .i64 (((Dn a).size:Int)+((Dn b).size:Int)))=false:=by
  rw[I9,I9,wrap64 Z Z,aE];grind
 simp only[e,TO a b Z Z,aD];have e2:(a:Int)*(b:Int)=((a*b:Nat):Int):=by rfl
 rw[e2,uE Z Z,PY _ Z];rfl
theorem aPH a b (ha:Lib.nDigits a<=18)(hb:Lib.nDigits b<=18)(h:b≠0):qI (Dn a,Dn b,())=some (Dn (a/b),Dn (a%b),0,()):=by
 have h1:=aM1 ha;unfold qI;have e1:eqI (b:Int) 0=false:=by rw[eG]; simp; omega
 have q1:(a:Int).tdiv (b:Int)=((a/b:Nat):Int):=rfl;have q2:(a:Int).tmod (b:Int)=((a%b:Nat):Int):=rfl;have l1:a/b<=a:=Nat.div_le_self _ _;have l2:a%b<=a:=Nat.mod_le _ _;simp only[aOW,h,TO a b ha hb,aD,e1,q1,q2];generalize a/b=q at *;rw[uE Z Z,PY _ Z,aD,PY _ Z];rfl
theorem PJ {n}{k:Nat}(h:((Zn n).size:Int)<=k):Lib.nDigits n.natAbs<=k:=by
 rcases(by omega:n<0\/0<=n)with g|g
 ·rw[L2 g]at h; omega
 ·rw[X4 g,I9]at h; omega
theorem sH {x y f g:Int} (h:x=y*f+g) (hp:0<y->0<=g/\g<y) (hn:y<0->y<g/\g<=0) (h0:y≠0):x.fdiv y=f/\x.fmod y=g:=by
 have key:∀ x y f g:Int,x=y*f+g->0<y->0<=g->g<y->x.fdiv y=f/\x.fmod y=g:=by
  intro x y f g h hy h1 h2;have e1:=Int.fmod_def x y;have e2:=Int.fmod_nonneg_of_pos x hy;have e3:=Int.fmod_lt_of_pos x hy;have e4:y*(x.fdiv y-f)=g-x.fmod y:=by rw[Int.mul_sub]; omega
  have e5:x.fdiv y-f=0:=by
   rcases Int.lt_trichotomy (x.fdiv y-f) 0 with g1|g1|g1
   ·have:y*(x.fdiv y-f)<=y*(-1):=Int.mul_le_mul_of_nonneg_left Z Z;omega
   ·exact g1
   ·have:y*1<=y*(x.fdiv y-f):=Int.mul_le_mul_of_nonneg_left Z Z;omega
  rw[e5]at e4;omega
 rcases Int.lt_or_gt_of_ne h0 with g1|g1
 ·obtain⟨h1,h2⟩:=hn g1;have:=key (-x) (-y) f (-g) (by rw[h]; grind) Z Z Z;rw[Int.neg_fdiv_neg,Int.neg_fmod_neg]at this;omega
 ·obtain⟨h1,h2⟩:=hp g1;exact key x y f g h g1 h1 h2
end Go.PM
namespace Go.De
abbrev pw(i:Nat):Int:=(1000000000:Int)^i
theorem aU6:pw 0=1:=rfl
theorem NC i:pw (i+1)=1000000000*pw i:=W
theorem SO i:0<pw i:=Int.pow_pos R
theorem aG3 i j:pw (i+j)=pw i*pw j:=W
theorem aWT {i j}(h:i<=j):pw i<=pw j:=by
 obtain⟨k,rfl⟩:=Nat.exists_eq_add_of_le h;rw[aG3];have h1:=SO i;have h2:=SO k;have:pw i*1<=pw i*pw k:=Int.mul_le_mul_of_nonneg_left Z Z;omega
def vl:List Int->Int
 | []=>0
 | x::l=>x+1000000000*vl l
def Pc(l:List Int):Prop:=∀ x∈l,0<=x/\x<1000000000
theorem Pc.nil:Pc []:=λ_ h=>by cases h
theorem Pc.cons {x l}(h:0<=x/\x<1000000000)(hl:Pc l):Pc (x::l):=λy hy=>by
 rcases List.mem_cons.1 hy with rfl|hy
 ·omega
 ·exact hl y hy
theorem Pc.head {x l}(h:Pc (x::l)):0<=x/\x<1000000000:=h x R
theorem Pc.tail {x l}(h:Pc (x::l)):Pc l:=λy hy=>h y W
theorem Pc.append {a b}(ha:Pc a)(hb:Pc b):Pc (a++b):=λx hx=>(List.mem_append.1 hx).elim (ha x) (hb x)
theorem Pc.left {a b}(h:Pc (a++b)):Pc a:=λx hx=>h x (List.mem_append_left _ hx)
theorem Pc.set {l}(h:Pc l){x}(hx:0<=x/\x<1000000000) i:Pc (l.set i x):=λy hy=>by
 rcases List.mem_or_eq_of_mem_set hy with h1|rfl
 ·exact h y h1
 grind
theorem bA2 {l:List Int}{i}(h:i<l.length):l.getD i 0∈l:=W
theorem Pc.get {l}(h:Pc l) i:0<=l.getD i 0/\l.getD i 0<1000000000:=by
 rcases Nat.lt_or_ge i l.length with h1|h1
 ·exact h _ (bA2 h1)
 grind
theorem Pc.rep n:Pc (List.replicate n 0):=λx hx=>W
theorem L7:∀ a b,vl (a++b)=vl a+pw a.length*vl b
 | [],b=>by simp[vl]
 | x::a,b=>by
  rw[List.cons_append,vl,vl,L7 a b,List.length_cons,NC];grind
theorem aBR:∀ n,vl (List.replicate n 0)=0
 | 0=>rfl
 | n+1=>by rw[List.replicate_succ,vl,aBR n]; rfl
theorem aIH:∀ l i x,i<l.length->vl (l.set i x)=vl l+(x-l.getD i 0)*pw i
 | [],i,x,h=>absurd h (Nat.not_lt_zero _)
 | y::l,0,x,h=>by simp[vl]; omega
 | y::l,i+1,x,h=>by
  rw[List.set_cons_succ,vl,vl,aIH l i x W,NC,List.getD_cons_succ];grind
theorem tS:∀ {l},Pc l->0<=vl l
 | [],_=>Int.le_refl _
 | x::l,h=>by
  have h1:=tS h.tail;have h2:=h.head;rw[vl]; omega
theorem RX:∀ {l},Pc l->vl l<pw l.length
 | [],_=>O
 | x::l,h=>by
  have h1:=RX h.tail;have h2:=h.head;rw[vl,List.length_cons,NC];omega
theorem JK:∀ (l:List Int) k,k<l.length->vl (l.take (k+1))=vl (l.take k)+l.getD k 0*pw k:=λl k h=>by
 rw[List.take_succ_eq_append_getElem h,L7,List.length_take,Nat.min_eq_left Z,List.getD_eq_getElem?_getD,List.getElem?_eq_getElem h];simp[vl,Int.mul_comm]
theorem V7 l k (h:k<=l.length):vl l=vl (l.take k)+pw k*vl (l.drop k):=by
 have e:=L7 (l.take k) (l.drop k)
 simp_all
theorem Pc.aGG {l}(h:Pc l) k:Pc (l.take k):=λx hx=>h x (List.mem_of_mem_take hx)
theorem Pc.bFP {l}(h:Pc l) k:Pc (l.drop k):=λx hx=>h x (List.mem_of_mem_drop hx)
theorem a4F {l:List Int} (h:Pc l) {k:Nat} (hz:∀ j,k<=j->l.getD j 0=0):vl l<pw k:=by
 rcases Nat.lt_or_ge k l.length with h1|h1
 ·rw[V7 l k Z];have:vl (l.drop k)=0:=by
   have:l.drop k=List.replicate (l.drop k).length 0:=by
    rw[List.eq_replicate_iff];refine⟨rfl,λx hx=>?_⟩;obtain⟨i,hi,rfl⟩:=List.getElem_of_mem hx;have:=hz (k+i) Z;grind
   rw[this,aBR]
  have h2:=RX (h.aGG k);grind
 ·exact Int.lt_of_lt_of_le (RX h) (aWT h1)
theorem L0 {l}(h:Pc l){k}(hv:vl l<pw k){j}(hj:k<=j):l.getD j 0=0:=by
 rcases Nat.lt_or_ge j l.length with h1|h1
 ·have e2:=JK l j h1;have e3:=V7 l (j+1) Z;have n1:=tS (h.aGG j);have n2:=tS (h.bFP (j+1));have n3:0<=pw (j+1)*vl (l.drop (j+1)):=Int.mul_nonneg (Int.le_of_lt (SO _)) n2;have g:=h.get j;have m:=aWT hj;have p:=SO j;have :=λh1=>by
   have:1*pw j<=l.getD j 0*pw j:=Int.mul_le_mul_of_nonneg_right h1 Z;omega
  omega
 grind
def Tr(l:List Int):Prop:=∀ x,l.getLast?=some x->x≠0
theorem Tr.nil:Tr []:=λ_ h=>nomatch h
theorem Tr.tail {x l}(h:Tr (x::l)):Tr l:=λy hy=>h y (by
 grind)
theorem a03:∀ {l},Pc l->Tr l->l≠[]->0<vl l
 | [],_,_,h=>absurd rfl h
 | [x],h,t,_=>by
  have:=h.head;have:=t x rfl;simp only[vl]; omega
 | x::y::l,h,t,_=>by
  have h1:=a03 h.tail t.tail R;have:=h.head;rw[vl]; omega
theorem a4L:∀ {a b},Pc a->Pc b->Tr a->Tr b->vl a=vl b->a=b
 | [],[],_,_,_,_,_=>rfl
 | [],y::b,_,hb,_,tb,e=>by
  have h1:=a03 hb tb R;have h2:vl ([]:List Int)=0:=rfl;omega
 | x::a,[],ha,_,ta,_,e=>by
  have h1:=a03 ha ta R;have h2:vl ([])=0:=rfl;omega
 | x::a,y::b,ha,hb,ta,tb,e=>by
  have h1:=ha.head;have h2:=hb.head;rw[vl,vl]at e;have e1:x=y:=Z
  have e2:vl a=vl b:=Z
  rw[e1,a4L ha.tail hb.tail ta.tail tb.tail e2]
def DT(l:List Int):List Int:=(l.reverse.dropWhile (λx=>decide (x=0))).reverse
theorem aB4 l:DT (l++[0])=DT l:=by simp[DT]
theorem aH3 l {x}(h:x≠0):DT (l++[x])=l++[x]:=by simp[DT,h]
theorem a2F l:Pc l->Pc (DT l)/\Tr (DT l)/\vl (DT l)=vl l/\(DT l).length<=l.length:=by
 suffices H:∀ n (l:List Int),l.length=n->Pc l->Pc (DT l)/\Tr (DT l)/\vl (DT l)=vl l/\(DT l).length<=l.length from H _ l rfl
 intro n
 induction n with
 | zero =>
  intro l hl h;have:l=[]:=List.eq_nil_of_length_eq_zero hl;subst this;exact⟨Pc.nil,Tr.nil,rfl,Nat.le_refl _⟩
 | succ n ih =>
  intro l hl h;rcases List.eq_nil_or_concat l with rfl|⟨a,x,rfl⟩
  ·grind
  ·rw[List.concat_eq_append]at hl h ⊢;rw[List.length_append,List.length_singleton]at hl
   by_cases hx:x=0
   ·subst hx;rw[aB4];obtain⟨h1,h2,h3,h4⟩:=ih a Z h.left;refine⟨h1,h2,?_,by grind⟩;rw[L7,h3]; simp[vl]
   ·rw[aH3 a hx];refine⟨h,λy hy=>?_,rfl,Nat.le_refl _⟩;grind
def pcs(n:Nat):List Int:=if h:n=0 then [] else ((n%1000000000:Nat):Int)::pcs (n/1000000000)
termination_by n
decreasing_by omega
theorem aC4:pcs 0=[]:=by rw[pcs]; rfl
theorem aJE {n}(h:n≠0):pcs n=((n%1000000000:Nat):Int)::pcs (n/1000000000):=by rw[pcs,dif_neg h]
theorem jQ n:Pc (pcs n)/\Tr (pcs n)/\vl (pcs n)=n:=by
 induction n using Nat.strongRecOn with
 | _ n ih =>
  by_cases h:n=0
  ·subst h; rw[aC4]; exact⟨Pc.nil,Tr.nil,rfl⟩
  ·obtain⟨h1,h2,h3⟩:=ih (n/1000000000) Z;rw[aJE h];refine⟨Pc.cons Z h1,λy hy=>?_,by rw[vl,h3]; omega⟩;cases hp:pcs (n/1000000000)with
   | nil =>
    rw[hp]at hy h3;have h3:0=((n/1000000000):Int):=h3;grind
   | cons z l =>
    rw[hp]at hy h2;exact h2 y hy
theorem bEI {l}{n:Nat}(h1:Pc l)(h2:Tr l)(h3:vl l=n):l=pcs n :=
 a4L h1 (jQ n).1 h2 (jQ n).2.1 (h3.trans (jQ n).2.2.symm)
theorem MC {l}{n:Nat}(h1:Pc l)(h3:vl l=n):DT l=pcs n:=by
 obtain⟨a,b,c,d⟩:=a2F l h1;exact bEI a b (c.trans h3)
theorem aAA {n k}(h:n<1000000000^k):(pcs n).length<=k:=by
 rcases Nat.lt_or_ge k (pcs n).length with h1|h1
 ·obtain⟨a,b,c⟩:=jQ n;have hlt:vl (pcs n)<pw k:=W
  have hz:=L0 a hlt (j:=(pcs n).length-1) Z;have hne:pcs n≠[]:=λh=>W
  have:=b _ (List.getLast?_eq_some_getLast hne);grind
 omega
theorem bES {n k}(h:k<(pcs n).length):1000000000^k<=n:=by
 rcases Nat.lt_or_ge n (1000000000^k)with h1|h1
 ·have:=aAA h1; omega
 omega
end Go.De
namespace Go.De
def tkS(q:List Int) (n:Int) (at':Nat) (p:List Int):Nat->List Int×Int×Int
 | 0=>(p,0,0)
 | k+1 =>
  let s:=tkS q n at' p k
  let c:=if k<q.length then s.2.2+n*q.getD k 0 else s.2.2
  let d:=s.1.getD (at'+k) 0-c%1000000000-s.2.1
  (s.1.set (at'+k) (if d<0 then d+1000000000 else d),if d<0 then 1 else 0,c/1000000000)
theorem getD_set_ne(l:List Int){i j} x (h:i≠j):(l.set i x).getD j 0=l.getD j 0:=W
structure TkI (q:List Int) (n:Int) (at':Nat) (p:List Int) (k:Nat) (s:List Int×Int×Int):Prop where
 pc:Pc s.1
 len:s.1.length=p.length
 bo:s.2.1=0\/s.2.1=1
 ca:0<=s.2.2/\s.2.2<1000000000
 hi:∀ j,at'+k<=j->s.1.getD j 0=p.getD j 0
 val:vl s.1=vl p-n*pw at'*vl (q.take k)+(s.2.1+s.2.2)*pw (at'+k)
 fin:q.length<k->s.2.2=0
theorem RH {n x:Int}(hn:0<=n/\n<1000000000)(hx:0<=x/\x<1000000000):0<=n*x/\n*x<=999999998000000001:=by
 have h1 :=Int.mul_nonneg hn.1 hx.1;have h2:n*x<=999999999*999999999:=Int.mul_le_mul Z Z hx.1 R;omega
theorem tkI {q n at' p}(hp:Pc p)(hq:Pc q)(hn:0<=n/\n<1000000000)(hl:at'+q.length<p.length):∀ k,k<=q.length+1->TkI q n at' p k (tkS q n at' p k)
 | 0,_=>⟨hp,rfl,.inl rfl,⟨Int.le_refl _,by show (0:Int)<1000000000; decide⟩,λ_ _=>rfl,by simp[tkS,vl],λh=>absurd h (Nat.not_lt_zero _)⟩
 | k+1,hk=>by
  have ih:=tkI hp hq hn hl k Z;rw[tkS];generalize tkS q n at' p k=s at ih;obtain⟨l,bo,ca⟩:=s;obtain⟨h1,h2,h3,h4,h5,h6,h7⟩:=ih;dsimp only at h1 h2 h3 h4 h5 h6 h7 ⊢;have hlen:at'+k<l.length:=Z
  have hx:=h1.get (at'+k);have hqk:=hq.get k;have hm:=RH hn hqk;have hc:∃ c,(if k<q.length then ca+n*q.getD k 0 else ca)=c/\0<=c/\c<1000000000*1000000000/\n*pw at'*vl (q.take (k+1))=n*pw at'*vl (q.take k)+(c-ca)*pw (at'+k)/\(q.length<=k->c=ca):=by
   by_cases h:k<q.length
   ·refine⟨_,if_pos h,by omega,by omega,?_,λh'=>by omega⟩;rw[JK q k h,aG3];grind
   ·grind
  obtain⟨c,e,c0,c1,c2,c3⟩:=hc;rw[e];have hd0:0<=c/1000000000:=Z
  have hd1:c/1000000000<1000000000:=Z
  have hpw:pw (at'+(k+1))=1000000000*pw (at'+k):=NC (at'+k);generalize hq':c/1000000000=cq at *;generalize hr':c%1000000000=cr at *;have hr0:0<=cr/\cr<1000000000:=Z
  have hd:∃ d b,(if l.getD (at'+k) 0-cr-bo<0 then l.getD (at'+k) 0-cr-bo+1000000000 else l.getD (at'+k) 0-cr-bo)=d/\(if l.getD (at'+k) 0-cr-bo<0 then (1:Int) else 0)=b/\(0<=d/\d<1000000000)/\(b=0\/b=1)/\d=l.getD (at'+k) 0-cr-bo+1000000000*b:=by
   by_cases h:l.getD (at'+k) 0-cr-bo<0
   ·exact⟨_,_,if_pos h,if_pos h,by omega,.inr rfl,by omega⟩
   ·exact⟨_,_,if_neg h,if_neg h,by omega,.inl rfl,by omega⟩
  obtain⟨d,b,e1,e2,d0,b0,e3⟩:=hd;rw[e1,e2];refine⟨h1.set d0 _,by rw[List.length_set]; exact h2,b0,⟨hd0,hd1⟩,λj hj=>?_,?_,λh=>?_⟩
  ·show (l.set (at'+k) d).getD j 0=_;rw[getD_set_ne _ _ Z];exact h5 j Z
  ·show vl (l.set (at'+k) d)=_+(b+cq)*_;rw[aIH l _ _ hlen,h6,c2,hpw,e3];generalize l.getD (at'+k) 0=x;grind
  ·show cq=0;have:=c3 Z;have hk':k=q.length\/q.length<k:=Z
   omega
def bkS(q:List Int) (at':Nat) (p:List Int):Nat->List Int×Int
 | 0=>(p,0)
 | k+1 =>
  let s:=bkS q at' p k
  let c:=if k<q.length then s.2+s.1.getD (at'+k) 0+q.getD k 0 else s.2+s.1.getD (at'+k) 0
  (s.1.set (at'+k) (c%1000000000),c/1000000000)
structure BkI (q:List Int) (at':Nat) (p:List Int) (k:Nat) (s:List Int×Int):Prop where
 pc:Pc s.1
 len:s.1.length=p.length
 ca:s.2=0\/s.2=1
 hi:∀ j,at'+k<=j->s.1.getD j 0=p.getD j 0
 val:vl s.1=vl p+pw at'*vl (q.take k)-s.2*pw (at'+k)
theorem bkI {q at' p}(hp:Pc p)(hq:Pc q)(hl:at'+q.length<p.length):∀ k,k<=q.length+1->BkI q at' p k (bkS q at' p k)
 | 0,_=>⟨hp,rfl,.inl rfl,λ_ _=>rfl,by simp[bkS,vl]⟩
 | k+1,hk=>by
  have ih:=bkI hp hq hl k Z;rw[bkS];generalize bkS q at' p k=s at ih;obtain⟨l,ca⟩:=s;obtain⟨h1,h2,h3,h5,h6⟩:=ih;dsimp only at h1 h2 h3 h5 h6 ⊢;have hlen:at'+k<l.length:=Z
  have hx:=h1.get (at'+k);have hqk:=hq.get k;have hc:∃ c,(if k<q.length then ca+l.getD (at'+k) 0+q.getD k 0 else ca+l.getD (at'+k) 0)=c/\0<=c/\c<2*1000000000/\pw at'*vl (q.take (k+1))=pw at'*vl (q.take k)+(c-ca-l.getD (at'+k) 0)*pw (at'+k):=by
   by_cases h:k<q.length
   ·refine⟨_,if_pos h,by omega,by omega,?_⟩;rw[JK q k h,aG3];grind
   ·grind
  obtain⟨c,e,c0,c1,c2⟩:=hc;rw[e];have hdm:=Int.emod_add_mul_ediv c 1000000000;have hpw:pw (at'+(k+1))=1000000000*pw (at'+k):=NC (at'+k);have hd0:c/1000000000=0\/c/1000000000=1:=Z
  have hr0:0<=c%1000000000/\c%1000000000<1000000000:=Z
  generalize c/1000000000=cq at *;generalize c%1000000000=cr at *;refine⟨h1.set hr0 _,by rw[List.length_set]; exact h2,hd0,λj hj=>?_,?_⟩
  ·grind
  ·show vl (l.set (at'+k) cr)=_-cq*_;rw[aIH l _ _ hlen,h6,c2,hpw];generalize l.getD (at'+k) 0=x at *;grind
def tmI(q:List Int) (a:Int) (i:Nat) (o:List Int):Nat->List Int×Int
 | 0=>(o,0)
 | k+1 =>
  let s:=tmI q a i o k
  let c:=s.2+(s.1.getD (i+k) 0+a*q.getD k 0)
  (s.1.set (i+k) (c%1000000000),c/1000000000)
structure TmI (q:List Int) (a:Int) (i:Nat) (o:List Int) (k:Nat) (s:List Int×Int):Prop where
 pc:Pc s.1
 len:s.1.length=o.length
 ca:0<=s.2/\s.2<1000000000
 hi:∀ j,i+k<=j->s.1.getD j 0=o.getD j 0
 val:vl s.1+s.2*pw (i+k)=vl o+a*pw i*vl (q.take k)
theorem aWO {q o a i}(ho:Pc o)(hq:Pc q)(ha:0<=a/\a<1000000000)(hl:i+q.length<=o.length):∀ k,k<=q.length->TmI q a i o k (tmI q a i o k)
 | 0,_=>⟨ho,rfl,⟨Int.le_refl _,by show (0:Int)<1000000000; decide⟩,λ_ _=>rfl,by simp[tmI,vl]⟩
 | k+1,hk=>by
  have ih:=aWO ho hq ha hl k Z;rw[tmI];generalize tmI q a i o k=s at ih;obtain⟨l,ca⟩:=s;obtain⟨h1,h2,h3,h5,h6⟩:=ih;dsimp only at h1 h2 h3 h5 h6 ⊢;have hlen:i+k<l.length:=Z
  have hx:=h1.get (i+k);have hm:=RH ha (hq.get k);have e2:a*pw i*vl (q.take (k+1))=a*pw i*vl (q.take k)+(a*q.getD k 0)*pw (i+k):=by
   rw[JK q k Z,aG3];grind
  have hpw:pw (i+(k+1))=1000000000*pw (i+k):=NC (i+k);generalize a*q.getD k 0=m at *;have hdm:=Int.emod_add_mul_ediv (ca+(l.getD (i+k) 0+m)) 1000000000;have hq0:0<=(ca+(l.getD (i+k) 0+m))/1000000000/\(ca+(l.getD (i+k) 0+m))/1000000000<1000000000:=Z
  have hr0:0<=(ca+(l.getD (i+k) 0+m))%1000000000/\(ca+(l.getD (i+k) 0+m))%1000000000<1000000000:=Z
  generalize (ca+(l.getD (i+k) 0+m))/1000000000=cq at *;generalize (ca+(l.getD (i+k) 0+m))%1000000000=cr at *;refine⟨h1.set hr0 _,by rw[List.length_set]; exact h2,hq0,λj hj=>?_,?_⟩
  ·grind
  ·show vl (l.set (i+k) cr)+cq*_=_;rw[aIH l _ _ hlen,e2,hpw];grind
def tmO(p q o:List Int):Nat->List Int
 | 0=>o
 | i+1 =>
  let s:=tmI q (p.getD i 0) i (tmO p q o i) q.length
  s.1.set (i+q.length) s.2
theorem aUW {p q}(hp:Pc p)(hq:Pc q):∀ i,i<=p.length->Pc (tmO p q (List.replicate (p.length+q.length) 0) i)/\(tmO p q (List.replicate (p.length+q.length) 0) i).length=p.length+q.length/\vl (tmO p q (List.replicate (p.length+q.length) 0) i)=vl (p.take i)*vl q/\∀ j,i+q.length<=j->(tmO p q (List.replicate (p.length+q.length) 0) i).getD j 0=0
 | 0,_=>⟨Pc.rep _,by simp[tmO],by simp[tmO,aBR,vl],λj _=>by simp[tmO,List.getD_eq_getElem?_getD,List.getElem?_replicate]; split <;> rfl⟩
 | i+1,hi=>by
  obtain⟨h1,h2,h3,h4⟩:=aUW hp hq i Z;rw[tmO];have k:=aWO h1 hq (hp.get i) (i:=i) Z q.length (Nat.le_refl _);obtain⟨g1,g2,g3,g4,g5⟩:=k;refine⟨g1.set g3 _,by rw[List.length_set,g2,h2],?_,λj hj=>?_⟩
  ·rw[aIH _ _ _ Z,g4 _ (Nat.le_refl _),h4 _ (Nat.le_refl _),JK p i Z];grind
  ·rw[getD_set_ne _ _ Z,g4 j Z];grind
theorem a5Z a b:DT (tmO (pcs a) (pcs b) (List.replicate ((pcs a).length+(pcs b).length) 0) (pcs a).length)=pcs (a*b):=by
 obtain⟨a1,a2,a3⟩:=jQ a;obtain⟨b1,b2,b3⟩:=jQ b;obtain⟨h1,h2,h3,h4⟩:=aUW a1 b1 _ (Nat.le_refl _);refine MC h1 ?_;grind
def smS(p:List Int) (n:Int):Nat->List Int×Int
 | 0=>(List.replicate p.length 0,0)
 | t+1 =>
  let s:=smS p n t
  let r:=s.2*1000000000+p.getD (p.length-1-t) 0
  (s.1.set (p.length-1-t) (r/n),r%n)
structure SmI (p:List Int) (n:Int) (t:Nat) (s:List Int×Int):Prop where
 pc:Pc s.1
 len:s.1.length=p.length
 re:0<=s.2/\s.2<n
 lo:∀ j,j<p.length-t->s.1.getD j 0=0
 val:vl (p.drop (p.length-t))*pw (p.length-t)=n*vl s.1+s.2*pw (p.length-t)
theorem smI {p n}(hp:Pc p)(hn:0<n/\n<1000000000):∀ t,t<=p.length->SmI p n t (smS p n t)
 | 0,_=>⟨Pc.rep _,by simp[smS],⟨Int.le_refl _,hn.1⟩,λj _=>by simp[smS,List.getD_eq_getElem?_getD,List.getElem?_replicate]; split <;> rfl,by simp[smS,vl,aBR]⟩
 | t+1,ht=>by
  have ih:=smI hp hn t Z;rw[smS];generalize smS p n t=s at ih;obtain⟨l,r⟩:=s;obtain⟨h1,h2,h3,h4,h5⟩:=ih;dsimp only at h1 h2 h3 h4 h5 ⊢;obtain⟨i,hi⟩:∃ i,p.length-1-t=i:=⟨_,rfl⟩;have ei:p.length-t=i+1:=Z
  have ei':p.length-(t+1)=i:=Z
  rw[hi];rw[ei]at h4 h5;have hx:=hp.get i;have hz:l.getD i 0=0:=h4 i Z;have hdr:p.drop i=p.getD i 0::p.drop (i+1):=by rw[List.drop_eq_getElem_cons Z,List.getD_eq_getElem?_getD,List.getElem?_eq_getElem Z]; rfl
  generalize p.getD i 0=x at *;have hdm:=Int.emod_add_mul_ediv (r*1000000000+x) n;have hr0:0<=(r*1000000000+x)%n/\(r*1000000000+x)%n<n:=⟨Int.emod_nonneg _ Z,Int.emod_lt_of_pos _ hn.1⟩;have hq0:0<=(r*1000000000+x)/n:=Int.ediv_nonneg Z Z;have hq1:(r*1000000000+x)/n<1000000000:=by
   refine Int.ediv_lt_of_lt_mul hn.1 ?_;omega
  generalize (r*1000000000+x)/n=cq at *;generalize (r*1000000000+x)%n=cr at *;refine⟨h1.set ⟨hq0,hq1⟩ _,by rw[List.length_set]; exact h2,hr0,λj hj=>?_,?_⟩
  ·show (l.set i cq).getD j 0=0;rw[getD_set_ne _ _ Z];grind
  ·show _=n*vl (l.set i cq)+cr*_;rw[ei',aIH l _ _ Z,hdr,vl,hz];grind
theorem a6F a {n:Nat}(hn:0<n/\n<1000000000):DT (smS (pcs a) n (pcs a).length).1=pcs (a/n)/\(smS (pcs a) n (pcs a).length).2=((a%n:Nat)):=by
 obtain⟨a1,a2,a3⟩:=jQ a;have k:=smI a1 (n:=n) Z _ (Nat.le_refl _);generalize smS (pcs a) n (pcs a).length=s at k;obtain⟨h1,h2,h3,h4,h5⟩:=k;have hv0:=tS h1;obtain⟨v,hv⟩:∃ v:Nat,vl s.1=v:=⟨(vl s.1).toNat,by omega⟩;obtain⟨r,hr⟩:∃ r:Nat,s.2=r:=⟨s.2.toNat,by omega⟩;have e:a=n*v+r:=W
 have e1:a/n=v:=by rw[e,Nat.mul_add_div hn.1,Nat.div_eq_of_lt Z,Nat.add_zero]
 have e2:a%n=r:=by rw[e,Nat.mul_add_mod,Nat.mod_eq_of_lt Z]
 rw[e1,e2];exact⟨MC h1 hv,hr⟩
end Go.De
namespace Go.De
theorem bBC {a:List Int} (h:Pc a) {k:Nat} (hz:∀ j,k<j->a.getD j 0=0) (hk:k<a.length):a.getD k 0*pw k<=vl a/\vl a<(a.getD k 0+1)*pw k:=by
 have e:=V7 a (k+1) Z;have e2:=JK a k hk;have n1:=tS (h.aGG k);have n2:=RX (h.aGG k);rw[List.length_take,Nat.min_eq_left Z]at n2;have:vl (a.drop (k+1))=0:=by
  have:a.drop (k+1)=List.replicate (a.drop (k+1)).length 0:=by
   rw[List.eq_replicate_iff];refine⟨rfl,λx hx=>?_⟩;obtain⟨i,hi,rfl⟩:=List.getElem_of_mem hx;have:=hz (k+1+i) Z;grind
  rw[this,aBR]
 grind
theorem a3Z {a}(h:Pc a){k}(hz:∀ j,k+1<j->a.getD j 0=0)(hk:k+1<a.length):(a.getD (k+1) 0*1000000000+a.getD k 0)*pw k<=vl a/\vl a<(a.getD (k+1) 0*1000000000+a.getD k 0+1)*pw k:=by
 have e:=V7 a (k+2) Z;have e2:=JK a (k+1) hk;have e3:=JK a k Z;have n1:=tS (h.aGG k);have n2:=RX (h.aGG k);have:vl (a.drop (k+2))=0:=by
  have:a.drop (k+2)=List.replicate (a.drop (k+2)).length 0:=by
   rw[List.eq_replicate_iff];refine⟨rfl,λx hx=>?_⟩;obtain⟨i,hi,rfl⟩:=List.getElem_of_mem hx;have:=hz (k+2+i) Z;grind
  rw[this,aBR]
 rw[this,Int.mul_zero,Int.add_zero,e2,e3,NC]at e;grind
theorem bCD {a}(h:Pc a){k}(hz:∀ j,k+2<j->a.getD j 0=0)(hk:k+2<a.length):((a.getD (k+2) 0*1000000000+a.getD (k+1) 0)*1000000000+a.getD k 0)*pw k<=vl a/\vl a<((a.getD (k+2) 0*1000000000+a.getD (k+1) 0)*1000000000+a.getD k 0+1)*pw k:=by
 have e:=V7 a (k+3) Z;have e1:=JK a (k+2) hk;have e2:=JK a (k+1) Z;have e3:=JK a k Z;have n1:=tS (h.aGG k);have n2:=RX (h.aGG k);rw[List.length_take,Nat.min_eq_left Z]at n2;have:vl (a.drop (k+3))=0:=by
  have:a.drop (k+3)=List.replicate (a.drop (k+3)).length 0:=by
   rw[List.eq_replicate_iff];refine⟨rfl,λx hx=>?_⟩;obtain⟨i,hi,rfl⟩:=List.getElem_of_mem hx;have:=hz (k+3+i) Z;grind
  rw[this,aBR]
 have p1:pw (k+1)=1000000000*pw k:=NC k;have p2:pw (k+2)=1000000000*(1000000000*pw k):=by rw[NC (k+1),p1]
 rw[this,Int.mul_zero,Int.add_zero,e1,e2,e3,p1,p2]at e;grind
def V1(bt b2 a2 g r:Int):Prop:=1000000000<=g\/(r<1000000000/\r*1000000000+a2<g*b2)
instance (bt b2 a2 g r:Int):Decidable (V1 bt b2 a2 g r):=by unfold V1; infer_instance
structure Gs (A V P K a2 high bt b2:Int):Prop where
 P0:0<P
 K0:0<K
 A2:(high*1000000000+a2)*(K*P)<=A
 A3:A<(high*1000000000+a2+1)*(K*P)
 a20:0<=a2/\a2<1000000000
 V2:(bt*1000000000+b2)*K<=V
 V3:V<(bt*1000000000+b2+1)*K
 b20:0<=b2/\b2<1000000000
 bt0:0<bt
 h0:0<=high
theorem aQW {a b:Int}(ha:0<a)(hb:0<b):0<a*b:=Int.mul_pos ha hb
theorem aEI {a b c:Int}(h:a<=b)(hc:0<=c):a*c<=b*c:=Int.mul_le_mul_of_nonneg_right h hc
theorem Gs.start {A V P K a2 high bt b2 qh:Int} (h:Gs A V P K a2 high bt b2) (hq0:0<=qh) (hq:qh*(V*P)<=A):qh<=high/bt:=by
 rw[Int.le_ediv_iff_mul_le h.bt0];have hKP:=aQW h.K0 h.P0;have h1:qh*((bt*1000000000)*K*P)<=qh*(V*P):=by
  refine Int.mul_le_mul_of_nonneg_left ?_ hq0;refine aEI ?_ (Int.le_of_lt h.P0);refine Int.le_trans ?_ h.V2;exact aEI (by have:=h.b20; omega) (Int.le_of_lt h.K0)
 have h2:A<((high+1)*1000000000)*(K*P):=by
  refine Int.lt_of_lt_of_le h.A3 (aEI ?_ (Int.le_of_lt hKP));have:=h.a20; omega
 have h3:(qh*bt*1000000000)*(K*P)<((high+1)*1000000000)*(K*P):=W
 have h4:=Int.lt_of_mul_lt_mul_right h3 (Int.le_of_lt hKP);omega
theorem Gs.down {A V P K a2 high bt b2 qh g r}(h:Gs A V P K a2 high bt b2)(hq0:0<=qh)(hq:qh*(V*P)<=A)(hqB:qh<1000000000)(hg:qh<=g)(hr:r=high-g*bt)(hc:V1 bt b2 a2 g r):qh<=g-1:=by
 rcases hc with hc|⟨_,hc⟩
 ·omega
 ·have:¬ g=qh:=λe=>by
   subst e;have hKP:=aQW h.K0 h.P0;have h1 :=Int.mul_le_mul_of_nonneg_left (aEI h.V2 (Int.le_of_lt h.P0)) hq0;have h2:high*1000000000+a2+1<=g*(bt*1000000000+b2):=W
   have h3:=aEI h2 (Int.le_of_lt hKP);have h4:g*(bt*1000000000+b2)*(K*P)=g*((bt*1000000000+b2)*K*P):=W
   have:=h.A3;omega
  omega
theorem Gs.stop {A V P K a2 high bt b2 g r}(h:Gs A V P K a2 high bt b2)(hg:0<=g)(hr:r=high-g*bt)(hc:¬ V1 bt b2 a2 g r):(g-1)*(V*P)<=A:=by
 unfold V1 at hc;have hKP:=aQW h.K0 h.P0;have hVP:1000000000*(K*P)<=V*P:=by
  have h1:1000000000*K<=V:=Int.le_trans (aEI (by have:=h.b20; have:=h.bt0; omega) (Int.le_of_lt h.K0)) h.V2;have:=aEI h1 (Int.le_of_lt h.P0);grind
 have hV3:g*(V*P)<=g*((bt*1000000000+b2+1)*K*P):=Int.mul_le_mul_of_nonneg_left (aEI (Int.le_of_lt h.V3) (Int.le_of_lt h.P0)) hg;have e0:g*((bt*1000000000+b2+1)*K*P)=(g*bt*1000000000+g*b2+g)*(K*P):=W
 have e1:(g-1)*(V*P)=g*(V*P)-V*P:=W
 by_cases hrr:1000000000<=r
 ·-- g*(bt+1) <= high
  have h2:g*bt*1000000000+g*b2+g<=high*1000000000+a2+1000000000:=by
   have:=h.a20;have:=h.b20;have:g*b2<=g*999999999:=Int.mul_le_mul_of_nonneg_left Z hg;omega
  have h3:=aEI h2 (Int.le_of_lt hKP);have e3:(high*1000000000+a2+1000000000)*(K*P)=(high*1000000000+a2)*(K*P)+1000000000*(K*P):=W
  have:=h.A2;omega
 ·have h2:g*bt*1000000000+g*b2+g<=high*1000000000+a2+1000000000:=by
   grind
  have h3:=aEI h2 (Int.le_of_lt hKP);have e3:(high*1000000000+a2+1000000000)*(K*P)=(high*1000000000+a2)*(K*P)+1000000000*(K*P):=W
  have:=h.A2;omega
theorem aUM {C:Nat->Prop} [DecidablePred C]:∀ n,¬ C n->∃ m,m<=n/\¬ C m/\∀ t,t<m->C t
 | 0,h=>⟨0,Nat.le_refl _,h,λt ht=>absurd ht (Nat.not_lt_zero _)⟩
 | n+1,h=>by
  by_cases hall:∃ t,t<=n/\¬ C t
  ·obtain⟨t,ht,hc⟩:=hall;obtain⟨m,h1,h2,h3⟩:=aUM t hc;grind
  ·grind
theorem Gs.bEA {A V P K a2 high bt b2 qh}(h:Gs A V P K a2 high bt b2)(hq0:0<=qh)(hq:qh*(V*P)<=A)(hq1:A<(qh+1)*(V*P))(hqB:qh<1000000000) :
  ∃ m:Nat,m<=high/bt/\(∀ t ,t<m->V1 bt b2 a2 (high/bt-t) (high%bt+t*bt))/\¬ V1 bt b2 a2 (high/bt-m) (high%bt+m*bt)/\qh<=high/bt-m/\high/bt-m<=qh+1:=by
 have h0:=h.start hq0 hq;have hr:∀ t:Nat,high%bt+t*bt=high-(high/bt-t)*bt:=λt=>by
  have:=Int.emod_add_mul_ediv high bt;grind
 have hge:∀ m:Nat,(∀ t:Nat,t<m->V1 bt b2 a2 (high/bt-t) (high%bt+t*bt))->qh<=high/bt-m:=by
  intro m
  induction m with
  | zero=>intro _; simpa using h0
  | succ m ih =>
   intro hc;have h1:=ih λt ht=>hc t Z
   have h2:=h.down hq0 hq hqB h1 (hr m) (hc m Z);omega
 obtain⟨n,hn⟩:∃ n:Nat,high/bt=n:=⟨(high/bt).toNat,by omega⟩;have hlast:¬ V1 bt b2 a2 (high/bt-((n:Nat):Int)) (high%bt+(n:Nat)*bt):=λhc=>by
  by_cases hall:∀ t:Nat,t<n->V1 bt b2 a2 (high/bt-t) (high%bt+t*bt)
  ·have h1:=hge n hall;have h2:=h.down hq0 hq hqB h1 (hr n) hc;omega
  ·-- a false test below would have stopped: monotone in t
   unfold V1 at hc;rw[hn,Int.sub_self,Int.zero_mul]at hc;have hre:=Int.emod_nonneg high (show bt≠0 by have:=h.bt0; omega);have hnb:0<=(n:Int)*bt:=Int.mul_nonneg Z (Int.le_of_lt h.bt0);have:=h.a20;omega
 obtain⟨m,h1,h2,h3⟩:=aUM (C:=λt:Nat=>V1 bt b2 a2 (high/bt-t) (high%bt+t*bt)) n hlast;have h4:=hge m h3;refine⟨m,by omega,h3,h2,h4,?_⟩;have h5:=h.stop (g:=high/bt-m) Z (hr m) h2;have:¬ qh+1<high/bt-m:=λhlt=>by
  have hVP:0<V*P:=aQW (by
   have:=h.V2;have:0<(bt*1000000000+b2)*K:=aQW (by have:=h.b20; have:=h.bt0; omega) h.K0;omega) h.P0
  have:=aEI (show qh+1<=high/bt-m-1 by omega) (Int.le_of_lt hVP);omega
 omega
theorem a14 {a b:List Int} {i n:Nat} {g qh:Int} (ha:Pc a) (hb:Pc b) (hbl:b.length=n) (hl:i+n<a.length) (hz:vl a<pw (i+n+1)) (hg:0<=g/\g<1000000000) (hq0:qh*(vl b*pw i)<=vl a) (hq1:vl a<(qh+1)*(vl b*pw i)) (g0:qh<=g) (g1:g<=qh+1) :
  ((tkS b g i a (n+1)).2.1=0/\g=qh/\Pc (tkS b g i a (n+1)).1/\(tkS b g i a (n+1)).1.length=a.length/\vl (tkS b g i a (n+1)).1=vl a-qh*(vl b*pw i)) \/
  ((tkS b g i a (n+1)).2.1=1/\g=qh+1/\Pc (tkS b g i a (n+1)).1/\(tkS b g i a (n+1)).1.length=a.length/\Pc (bkS b i (tkS b g i a (n+1)).1 (n+1)).1/\(bkS b i (tkS b g i a (n+1)).1 (n+1)).1.length=a.length/\vl (bkS b i (tkS b g i a (n+1)).1 (n+1)).1=vl a-qh*(vl b*pw i)):=by
 subst hbl;have k:=tkI ha hb hg hl (b.length+1) (Nat.le_refl _);generalize tkS b g i a (b.length+1)=s at k;obtain⟨h1,h2,h3,h4,h5,h6,h7⟩:=k;have hca:=h7 Z;have hz1:=a4F h1 (k:=i+b.length+1) λj hj=>by
  rw[h5 j Z];exact L0 ha hz hj
 rw[List.take_of_length_le (show b.length<=b.length+1 by omega),hca,Int.add_zero]at h6;have hn:=tS h1;have e1:g*pw i*vl b=g*(vl b*pw i):=W
 have p1:pw (i+(b.length+1))=pw (i+b.length+1):=rfl;rcases h3 with hb0|hb1
 ·refine .inl ⟨hb0,?_,h1,h2,?_⟩
  ·have:¬ g=qh+1:=λe=>by
    grind
   omega
  ·have:g=qh:=by
    have:¬ g=qh+1:=λe=>W
    omega
   grind
 ·have eg:g=qh+1:=by
   have:¬ g=qh:=λe=>by
    subst e;rw[hb1,Int.one_mul]at h6;omega
   omega
  refine .inr ⟨hb1,eg,h1,h2,?_⟩;have kb:=bkI h1 hb (at':=i) Z (b.length+1) (Nat.le_refl _);have hz2:∀ j,i+b.length+1<=j->(bkS b i s.1 (b.length+1)).1.getD j 0=0:=λj hj=>by
   rw[kb.hi j Z,h5 j Z];exact L0 ha hz hj
  generalize bkS b i s.1 (b.length+1)=u at kb hz2;obtain⟨u1,u2,u3,u5,u6⟩:=kb;have hz3:=a4F u1 hz2;have hn2:=tS u1;rw[List.take_of_length_le (show b.length<=b.length+1 by omega),p1]at u6;rw[hb1,Int.one_mul]at h6;have e2:(qh+1)*(vl b*pw i)=qh*(vl b*pw i)+vl b*pw i:=W
  have e3:pw i*vl b=vl b*pw i:=Int.mul_comm _ _;subst eg;refine⟨u1,u2.trans h2,?_⟩;rcases u3 with hc|hc
  ·rw[hc,Int.zero_mul]at u6;omega
  ·rw[hc,Int.one_mul]at u6;omega
theorem bF9 {a b:List Int} {i n:Nat} (ha:Pc a) (hb:Pc b) (hbl:b.length=n+2) (htop:0<b.getD (n+1) 0) (hl:i+n+2<a.length) (hz:vl a<pw (i+n+3)) :
  Gs (vl a) (vl b) (pw i) (pw n) (a.getD (i+n) 0) (a.getD (i+n+2) 0*1000000000+a.getD (i+n+1) 0) (b.getD (n+1) 0) (b.getD n 0):=by
 have h1:=bCD ha (k:=i+n) (λj hj=>L0 ha hz Z) Z;have h2:=a3Z hb (k:=n) (λj hj=>L0 hb (k:=n+2) (by have:=RX hb; rw[hbl]at this; exact this) Z) Z;have e:pw n*pw i=pw (i+n):=by rw[aG3,Int.mul_comm]
 exact⟨SO i,SO n,by rw[e]; exact h1.1,by rw[e]; exact h1.2,ha.get _,h2.1,h2.2,hb.get _,htop,by have:=ha.get (i+n+2); have:=ha.get (i+n+1); omega⟩
end Go.De
namespace Go.PM
open Go Go.RowKit Go.Proofs Go.De
theorem bAM {x}(h1:0<=x)(h2:x<256):aB .u8 x=x:=by
 show x%256=x;grind
theorem a2K {x}(h1:0<=x)(h2:x<18446744073709551616):IntKind.wrap .u64 x=x:=uE h1 h2
theorem a4Q {x}(h1:0<=x)(h2:x<256):IntKind.wrap .u8 x=x:=bAM h1 h2
theorem aP6(a:Nat):Nat.beq a a=true:=R
theorem WD(l:List Int) i:cS [l] 0 i 0=l.getD i 0:=rfl
theorem U0 l i (x:Int):wQ [l] 0 i x=[l.set i x]:=rfl
theorem V4(l:List Int):cI [l] 0=l.length:=rfl
theorem bF3 {σ τ:Type} {step:σ->Option (σ⊕τ)} {N:Nat} {Z:τ->Prop} (I:Nat->σ->Prop) (m:Nat) (x:σ) (hN:m<N) (h0:I 0 x)
  (h:∀ i y,i<m->I i y->∃ y',step y=some (.inl y')/\I (i+1) y') (he:∀ y,I m y->∃ z,step y=some (.inr z)/\Z z):∃ z,bF step N x=some z/\Z z:=by
 suffices H:∀ k i y,i+k=m->I i y->∃ z,bF step (k+1+(N-m-1)) y=some z/\Z z by
  have:=H m 0 x (Nat.zero_add m) h0;grind
 intro k
 induction k with
 | zero =>
  intro i y hi hy;have hi:i=m:=za
  subst hi;obtain⟨z,e1,e2⟩:=he y hy;rw[show 0+1+(N-i-1)=(N-i-1)+1 by omega,cZ,e1];grind
 | succ k ih =>
  intro i y hi hy;obtain⟨y',e1,e2⟩:=h i y za hy;rw[show k+1+1+(N-m-1)=(k+1+(N-m-1))+1 by omega,cZ,e1];grind
theorem a6G {l:List Int} (hl:l.length<9223372036854775807) (A:List (List Int)):∀ n,l.length<=n->∀ k,bF kD (n+1+k) (l,A,())=some (DT l,A,()):=by
 intro n
 induction n generalizing l with
 | zero =>
  intro h k;have:l=[]:=List.eq_nil_of_length_eq_zero Z;subst this;rw[show 0+1+k=k+1 by omega,cZ];rfl
 | succ n ih =>
  intro h k;rw[show n+1+1+k=(n+1+k)+1 by omega,cZ];rcases List.eq_nil_or_concat l with rfl|⟨a,x,rfl⟩
  ·rfl
  ·rw[List.concat_eq_append]at hl h ⊢;have hlen:(a++[x]).length=a.length+1:=R
   have e1:ltI 0 ((a.length+1:Nat):Int)=true:=by rw[aE]; exact oT Z
   have e2:aB .i64 (((a.length+1:Nat):Int)-1)=(a.length:Int):=by rw[wrap64 Z Z]; omega
   have e3:aF (a.length:Int) (a.length+1)=true:=by rw[aL]; exact oT Z
   have e4:Nat.blt a.length (a.length+1)=true:=by rw[b9]; exact oT Z
   have e5:(a++[x]).getD a.length 0=x:=by simp[oQ]
   have e6:ltI (a.length:Int) 0=false:=by rw[aE]; exact oF Z
   have e7:Nat.ble 0 a.length=true:=rfl;have e8:Nat.ble a.length (a.length+1)=true:=by rw[dO]; exact oT Z
   have e9:Nat.blt 0 (a.length+1)=true:=by rw[b9]; exact oT Z
   have e10:(a++[x]).take a.length=a:=R
   simp only[kD,hlen,e1,e2,oN,e3,e4,e5,e6,e7,e8,e9,oC,Nat.sub_zero,e10,eG,Bool.not_false]
   by_cases hx:x=0
   ·subst hx;rw[aB4];grind
   ·simp only[hx,decide_false,oD];rw[aH3 a hx]
theorem aAV {l}(hl:l.length<=4000000) A:bL l () A=some (DT l,A):=by
 have h:=a6G Z A l.length (oM _) (2^64-l.length-1);rw[show l.length+1+(2^64-l.length-1)=2^64 by omega]at h;show (aC (bF kD (2^64) (l,A,())) _)=_;rw[h,aD]
theorem a7F {n:Int}:zS ([n],())=some (DT [n],()):=by
 have h1:zE ([n],())=if n=0 then some (.inl ([],())) else some (.inr ([n],())):=by
  show (bif eqI n 0 then _ else _)=_;rw[eG,aKR];rfl
 show (aC (bF zE (2^64) ([n],())) _)=_;rw[show 2^64=18446744073709551614+1+1 by rfl,cZ,h1]
 by_cases h:n=0
 ·subst h;rfl
 ·rw[if_neg h];have:=aH3 [] h;show some ([n],())=some (DT [n],());grind
theorem a5C {x:Int} (h:0<=x):x.tmod 1000000000=x%1000000000:=Int.tmod_eq_emod_of_nonneg h
theorem a5G {x:Int}(h:0<=x):x.tdiv 1000000000=x/1000000000:=Int.tdiv_eq_ediv_of_nonneg h
theorem a5M {p q}{n:Int}{at'}(hp:Pc p)(hq:Pc q)(hn:0<=n/\n<1000000000)(hl:at'+q.length<p.length)(hpl:p.length<=4000000) :
  aF9 (t:=.int .u64) fJ p (q,n,(at':Int),())=some ((decide (0<(tkS q n at' p (q.length+1)).2.1),()),(tkS q n at' p (q.length+1)).1):=by
 have key:=aU (step:=fK) (N:=2^64) (λt=>((0,0,p.length),q,n,(at':Int),(tkS q n at' p t).2.1,(tkS q n at' p t).2.2,(t:Int),[(tkS q n at' p t).1],())) (q.length+1)
  ((tkS q n at' p (q.length+1)).2.1,[(tkS q n at' p (q.length+1)).1],()) Z (λt ht=>?_) ?_
 ·have key:bF fK (2^64) ((0,0,p.length),q,n,(at':Int),0,0,0,[p],())=_:=key;have hlen:=(tkI hp hq hn hl (q.length+1) (oM _)).len;unfold aF9 fJ;simp only[rO,key,aD,hlen,aP6,oC,aE]
 ·have hI:=tkI hp hq hn hl t Z;rw[tkS];generalize tkS q n at' p t=s at hI;obtain⟨l,bo,ca⟩:=s;obtain⟨h1,h2,h3,h4,h5,h6,h7⟩:=hI;dsimp only at h1 h2 h3 h4 h5 h6 h7 ⊢;have hx:=h1.get (at'+t);have hqt:=hq.get t;have hm:=RH hn hqt;have e1:ltI (q.length:Int) (t:Int)=false:=by rw[aE]; exact oF Z
  have e2:aB .i64 ((at':Int)+(t:Int))=((at'+t:Nat):Int):=by rw[wrap64 Z Z]; omega
  have e3:aF ((at'+t:Nat):Int) p.length=true:=by rw[aL]; exact oT Z
  have e4:Nat.blt (at'+t) l.length=true:=by rw[b9]; exact oT Z
  have e5:(0+(at'+t))*1=at'+t:=Z
  have e6:=bO t Z;have main:∀ c:Int,0<=c->c<1000000000000000000 ->
    (bif ltI (aB .i64 (aB .i64 (IntKind.wrap .i64 (l.getD (at'+t) 0)-IntKind.wrap .i64 (c.tmod 1000000000))-bo)) 0 then
     (some (Sum.inl ((0,0,p.length),q,n,(at':Int),1,aB .u64 (c.tdiv 1000000000),((t+1:Nat):Int),[l.set (at'+t) (IntKind.wrap .u64 (aB .i64 (aB .i64 (aB .i64 (IntKind.wrap .i64 (l.getD (at'+t) 0)-IntKind.wrap .i64 (c.tmod 1000000000))-bo)+1000000000)))],())):Option (Shape.den gN⊕eC kN))
    else some (Sum.inl ((0,0,p.length),q,n,(at':Int),0,aB .u64 (c.tdiv 1000000000),((t+1:Nat):Int),[l.set (at'+t) (IntKind.wrap .u64 (aB .i64 (aB .i64 (IntKind.wrap .i64 (l.getD (at'+t) 0)-IntKind.wrap .i64 (c.tmod 1000000000))-bo)))],()))) =
    some (Sum.inl ((0,0,p.length),q,n,(at':Int),(if l.getD (at'+t) 0-c%1000000000-bo<0 then 1 else 0),c/1000000000,((t+1:Nat):Int),[l.set (at'+t) (if l.getD (at'+t) 0-c%1000000000-bo<0 then l.getD (at'+t) 0-c%1000000000-bo+1000000000 else l.getD (at'+t) 0-c%1000000000-bo)],())):=by
   intro c c0 c1;have hd1:0<=c%1000000000/\c%1000000000<1000000000:=Z
   have hd2:0<=c/1000000000/\c/1000000000<1000000000:=Z
   rw[a5C c0,a5G c0];generalize c%1000000000=cr at *;generalize c/1000000000=cq at *;rw[aAP (x:=l.getD (at'+t) 0) Z Z,aAP (x:=cr) Z Z,wrap64 (x:=l.getD (at'+t) 0-cr) Z Z,wrap64 (x:=l.getD (at'+t) 0-cr-bo) Z Z,uE (x:=cq) Z Z,aE,aKR]
   by_cases h:l.getD (at'+t) 0-cr-bo<0
   ·rw[if_pos h,if_pos h,if_pos h,wrap64 Z Z,a2K Z Z]
   ·rw[if_neg h,if_neg h,if_neg h,a2K Z Z]
  by_cases hqt':t<q.length
  ·have e7:ltI (t:Int) (q.length:Int)=true:=by rw[aE]; exact oT Z
   have e8:aF (t:Int) q.length=true:=by rw[aL]; exact oT Z
   have e9:aB .u64 (ca+aB .u64 (n*q.getD t 0))=ca+n*q.getD t 0:=by rw[uE (x:=n*q.getD t 0) Z Z,uE Z Z]
   rw[if_pos hqt',<- main (ca+n*q.getD t 0) Z Z];simp only[fK,e1,e2,e3,e4,e5,e6,e7,e8,e9,oC,Bool.not_false,oN,WD,U0,V4]
  ·have e7:ltI (t:Int) (q.length:Int)=false:=by rw[aE]; exact oF Z
   rw[if_neg hqt',<- main ca Z Z];simp only[fK,e1,e2,e3,e4,e5,e6,e7,oC,oD,Bool.not_false,oN,WD,U0,V4]
 ·have e1:ltI (q.length:Int) ((q.length+1:Nat):Int)=true:=by rw[aE]; exact oT Z
  simp only[fK,e1,Bool.not_true,oD]
theorem back_eq {p q at'} (hp:Pc p) (hq:Pc q) (hl:at'+q.length<p.length) (hpl:p.length<=4000000) :
  WT (t:=.int .u64) dM p (q,(at':Int),())=some (bkS q at' p (q.length+1)).1:=by
 have key:=aU (step:=fI) (N:=2^64) (λt=>((0,0,p.length),q,(at':Int),(bkS q at' p t).2,(t:Int),[(bkS q at' p t).1],())) (q.length+1)
  ([(bkS q at' p (q.length+1)).1],()) Z (λt ht=>?_) ?_
 ·have key:bF fI (2^64) ((0,0,p.length),q,(at':Int),0,0,[p],())=_:=key;have hlen:=(bkI hp hq hl (q.length+1) (oM _)).len;unfold WT dM;simp only[rN,key,aD,hlen,aP6,oC]
 ·have hI:=bkI hp hq hl t Z;rw[bkS];generalize bkS q at' p t=s at hI;obtain⟨l,ca⟩:=s;obtain⟨h1,h2,h3,h5,h6⟩:=hI;dsimp only at h1 h2 h3 h5 h6 ⊢;have hx:=h1.get (at'+t);have hqt:=hq.get t;have e1:ltI (q.length:Int) (t:Int)=false:=by rw[aE]; exact oF Z
  have e2:aB .i64 ((at':Int)+(t:Int))=((at'+t:Nat):Int):=by rw[wrap64 Z Z]; omega
  have e3:aF ((at'+t:Nat):Int) p.length=true:=by rw[aL]; exact oT Z
  have e4:Nat.blt (at'+t) l.length=true:=by rw[b9]; exact oT Z
  have e5:(0+(at'+t))*1=at'+t:=Z
  have e6:=bO t Z;have e10:aB .u64 (ca+l.getD (at'+t) 0)=ca+l.getD (at'+t) 0:=uE Z Z
  by_cases hqt':t<q.length
  ·have e7:ltI (t:Int) (q.length:Int)=true:=by rw[aE]; exact oT Z
   have e8:aF (t:Int) q.length=true:=by rw[aL]; exact oT Z
   have e9:aB .u64 (ca+l.getD (at'+t) 0+q.getD t 0)=ca+l.getD (at'+t) 0+q.getD t 0:=uE Z Z;have e11:aB .u64 ((ca+l.getD (at'+t) 0+q.getD t 0)/1000000000)=(ca+l.getD (at'+t) 0+q.getD t 0)/1000000000:=uE Z Z;rw[if_pos hqt'];simp only[fI,e1,e2,e3,e4,e5,e6,e7,e8,e9,e10,oC,Bool.not_false,oN,WD,U0,V4,a5G (show 0<=ca+l.getD (at'+t) 0+q.getD t 0 by omega),a5C (show 0<=ca+l.getD (at'+t) 0+q.getD t 0 by omega),e11]
  ·have e7:ltI (t:Int) (q.length:Int)=false:=by rw[aE]; exact oF Z
   have e11:aB .u64 ((ca+l.getD (at'+t) 0)/1000000000)=(ca+l.getD (at'+t) 0)/1000000000:=uE Z Z;rw[if_neg hqt'];simp only[fI,e1,e2,e3,e4,e5,e6,e7,e10,oC,oD,Bool.not_false,oN,WD,U0,V4,a5G (show 0<=ca+l.getD (at'+t) 0 by omega),a5C (show 0<=ca+l.getD (at'+t) 0 by omega),e11]
 ·have e1:ltI (q.length:Int) ((q.length+1:Nat):Int)=true:=by rw[aE]; exact oT Z
  simp only[fI,e1,Bool.not_true,oD]
theorem a9K {q o}{a:Int}{i}(ho:Pc o)(hq:Pc q)(ha:0<=a/\a<1000000000)(hl:i+q.length<=o.length)(hol:o.length<=4000000)(v17:List Int)(v18 v19:Int)(A:List (List Int)) :
  pK (q,o,(i:Int),a,0,v17,v18,v19,q,(q.length:Int),0,A,())=some (q,(tmI q a i o q.length).1,(i:Int),(tmI q a i o q.length).2,v17,v18,v19,A,()):=by
 refine aU (step:=j9) (N:=2^64) (λt=>(q,(tmI q a i o t).1,(i:Int),a,(tmI q a i o t).2,v17,v18,v19,q,(q.length:Int),(t:Int),A,())) q.length _ Z (λt ht=>?_) ?_
 ·have hI:=aWO ho hq ha hl t Z;rw[tmI];generalize tmI q a i o t=s at hI;obtain⟨l,ca⟩:=s;obtain⟨h1,h2,h3,h5,h6⟩:=hI;dsimp only at h1 h2 h3 h5 h6 ⊢;have hx:=h1.get (i+t);have hm:=RH ha (hq.get t);have e1:ltI (t:Int) (q.length:Int)=true:=by rw[aE]; exact oT Z
  have e2:aB .i64 ((i:Int)+(t:Int))=((i+t:Nat):Int):=by rw[wrap64 Z Z]; omega
  have e3:aF ((i+t:Nat):Int) l.length=true:=by rw[aL]; exact oT Z
  have e4:Nat.blt (i+t) l.length=true:=by rw[b9]; exact oT Z
  have e5:aF (t:Int) q.length=true:=by rw[aL]; exact oT Z
  have e6:=bO t Z;have e7:aB .u64 (a*q.getD t 0)=a*q.getD t 0:=uE Z Z;have e8:aB .u64 (l.getD (i+t) 0+a*q.getD t 0)=l.getD (i+t) 0+a*q.getD t 0:=uE Z Z;have e9:aB .u64 (ca+(l.getD (i+t) 0+a*q.getD t 0))=ca+(l.getD (i+t) 0+a*q.getD t 0):=uE Z Z;have e10:aB .u64 ((ca+(l.getD (i+t) 0+a*q.getD t 0))/1000000000)=(ca+(l.getD (i+t) 0+a*q.getD t 0))/1000000000:=uE Z Z
  simp only[j9,e1,e2,e3,e4,e5,e6,e7,e8,e9,oC,oN,a5G (show 0<=ca+(l.getD (i+t) 0+a*q.getD t 0)by omega),a5C (show 0<=ca+(l.getD (i+t) 0+a*q.getD t 0)by omega),e10]
 ·have e1:ltI (q.length:Int) (q.length:Int)=false:=by rw[aE]; exact oF Z
  simp only[j9,e1,oD]
theorem aYE a b (hl:(pcs a).length+(pcs b).length<=1048576) A:fO () (pcs a,pcs b,()) A=some (pcs (a*b),A):=by
 obtain⟨a1,a2,a3⟩:=jQ a;obtain⟨b1,b2,b3⟩:=jQ b;have htm:=a5Z a b;generalize pcs a=p at *;generalize pcs b=q at *;have key:=aU (step:=kF) (N:=2^64) (λt=>(q,tmO p q (List.replicate (p.length+q.length) 0) t,p,(p.length:Int),(t:Int),A,())) p.length
  (tmO p q (List.replicate (p.length+q.length) 0) p.length,A,()) Z (λt ht=>?_) ?_
 ·have key:pI (q,List.replicate (p.length+q.length) 0,p,(p.length:Int),0,A,())=_:=key;have e2:aB .i64 ((p.length:Int)+(q.length:Int))=((p.length+q.length:Nat):Int):=by rw[wrap64 Z Z]; omega
  have e3:ltI ((p.length+q.length:Nat):Int) 0=false:=by rw[aE]; exact oF Z
  have e4:ltI ((p.length+q.length:Nat):Int) ((p.length+q.length:Nat):Int)=false:=by rw[aE]; exact oF Z
  have e5:ltI 1048576 ((p.length+q.length:Nat):Int)=false:=by rw[aE]; exact oF Z
  have hlen:=(aUW a1 b1 p.length (oM _)).2.1;unfold fO;simp only[e2,e3,e4,e5,Bool.not_false,oC,oN,key,aD,aAV (show (tmO p q (List.replicate (p.length+q.length) 0) p.length).length<=4000000 by omega),htm]
 ·obtain⟨h1,h2,h3,h4⟩:=aUW a1 b1 t Z;have hi:=a9K (q:=q) (o:=tmO p q (List.replicate (p.length+q.length) 0) t) (a:=p.getD t 0) (i:=t) h1 b1 (a1.get t) Z Z p (p.length:Int) (t:Int) A;have hI:=(aWO h1 b1 (a1.get t) (i:=t) Z q.length (oM _)).len;rw[tmO];generalize tmO p q (List.replicate (p.length+q.length) 0) t=o at *;have e1:ltI (t:Int) (p.length:Int)=true:=by rw[aE]; exact oT Z
  have e2:aF (t:Int) p.length=true:=by rw[aL]; exact oT Z
  have e3:aB .i64 ((t:Int)+(q.length:Int))=((t+q.length:Nat):Int):=by rw[wrap64 Z Z]; omega
  have e4:aF ((t+q.length:Nat):Int) (tmI q (p.getD t 0) t o q.length).1.length=true:=by rw[aL]; exact oT Z
  have e5:Nat.blt (t+q.length) (tmI q (p.getD t 0) t o q.length).1.length=true:=by rw[b9]; exact oT Z
  have e6:=bO t Z;simp only[kF,e1,e2,oC,oN,hi,aD,e3,e4,e5,e6]
 ·have e1:ltI (p.length:Int) (p.length:Int)=false:=by rw[aE]; exact oF Z
  simp only[kF,e1,oD]
theorem aYJ {n:Nat}(h:n<1000000000):DT [n]=pcs n:=MC (λx hx=>by grind) (by rfl)
theorem a58 {n}(h:n<1000000000):(pcs n).length<=1:=aAA Z
theorem aS4 a {n:Nat}(hn:n<1000000000)(hl:(pcs a).length+1<=1048576) A:gM () (pcs a,(n:Int),()) A=some (pcs (a*n),A):=by
 have:=a58 hn;show (aC (zS ([n],())) _)=_;rw[a7F,aD,aYJ hn];rw[aYE a n Z,aD]
theorem aZF a {n:Nat}(hn:0<n/\n<1000000000)(hl:(pcs a).length<=1048576) A:gF () (pcs a,(n:Int),()) A=some ((pcs (a/n),((a%n:Nat):Int),()),A):=by
 obtain⟨a1,a2,a3⟩:=jQ a;obtain⟨s1,s2⟩:=a6F a hn;generalize pcs a=p at *;have hn':0<(n:Int)/\(n:Int)<1000000000:=Z
 have key:=aU (step:=k9) (N:=2^64) (λt=>(p,(n:Int),(smS p n t).1,(smS p n t).2,(p.length:Int)-1-(t:Int),A,())) p.length
  ((smS p n p.length).1,(smS p n p.length).2,A,()) Z (λt ht=>?_) ?_
 ·rw[show (p.length:Int)-1-((0:Nat):Int)=(p.length:Int)-1 by omega]at key;have key:qJ (p,(n:Int),List.replicate p.length 0,0,(p.length:Int)-1,A,())=_:=key;have e2:aB .i64 ((p.length:Int)-1)=(p.length:Int)-1:=wrap64 Z Z;have e3:ltI (p.length:Int) 0=false:=by rw[aE]; exact oF Z
  have e4:ltI (p.length:Int) (p.length:Int)=false:=by rw[aE]; exact oF Z
  have e5:ltI 1048576 (p.length:Int)=false:=by rw[aE]; exact oF Z
  have hlen:=(smI a1 hn' p.length (oM _)).len;unfold gF;simp only[e2,e3,e4,e5,Bool.not_false,oC,oN,key,aD,aAV (show (smS p n p.length).1.length<=4000000 by omega),s1,s2]
 ·have hI:=smI a1 hn' t Z;rw[smS];generalize smS p n t=s at hI;obtain⟨l,r⟩:=s;obtain⟨h1,h2,h3,h4,h5⟩:=hI;dsimp only at h1 h2 h3 h4 h5 ⊢;obtain⟨i,hi⟩:∃ i,p.length-1-t=i:=⟨_,rfl⟩;have ei:(p.length:Int)-1-(t:Int)=(i:Int):=Z
  have ei':(p.length:Int)-1-((t+1:Nat):Int)=(i:Int)-1:=Z
  rw[hi,ei,ei'];have hx:=a1.get i;have e1:ltI (i:Int) 0=false:=by rw[aE]; exact oF Z
  have e2:aF (i:Int) p.length=true:=by rw[aL]; exact oT Z
  have e3:eqI (n:Int) 0=false:=by rw[eG]; exact oF Z
  have e4:aF (i:Int) l.length=true:=by rw[aL]; exact oT Z
  have e5:Nat.blt i l.length=true:=by rw[b9]; exact oT Z
  have e6:aB .i64 ((i:Int)-1)=(i:Int)-1:=wrap64 Z Z;have e7:aB .u64 (r*1000000000)=r*1000000000:=uE Z Z;have e8:aB .u64 (r*1000000000+p.getD i 0)=r*1000000000+p.getD i 0:=uE Z Z;have e9:(r*1000000000+p.getD i 0).tdiv n=(r*1000000000+p.getD i 0)/n:=Int.tdiv_eq_ediv_of_nonneg Z;have e10:(r*1000000000+p.getD i 0).tmod n=(r*1000000000+p.getD i 0)%n:=Int.tmod_eq_emod_of_nonneg Z
  have q0:0<=(r*1000000000+p.getD i 0)/n:=Int.ediv_nonneg Z Z;have q1:(r*1000000000+p.getD i 0)/n<=r*1000000000+p.getD i 0:=Int.ediv_le_self _ Z;have e11:aB .u64 ((r*1000000000+p.getD i 0)/n)=(r*1000000000+p.getD i 0)/n:=uE q0 Z;simp only[k9,e1,e2,e3,e4,e5,e6,e7,e8,e9,e10,e11,oC,oD,Bool.not_false,oN]
 ·have e1:ltI ((p.length:Int)-1-(p.length:Int)) 0=true:=by rw[aE]; exact oT Z
  simp only[k9,e1,Bool.not_true,oD]
theorem a0Q {p q} (hp:Pc p) (hq:Pc q) {i} (hl:p.length=q.length) (hi:i<p.length) (he:p.drop (i+1)=q.drop (i+1)) (hlt:p.getD i 0<q.getD i 0):vl p<vl q:=by
 have e1:=V7 p (i+1) Z;have e2:=V7 q (i+1) Z;have e3:=JK p i hi;have e4:=JK q i Z;have n1:=RX (hp.aGG i);have n2:=tS (hq.aGG i);rw[List.length_take,Nat.min_eq_left Z]at n1;have hm:(p.getD i 0+1)*pw i<=q.getD i 0*pw i:=Int.mul_le_mul_of_nonneg_right Z (Int.le_of_lt (SO i));grind
theorem a8U {p q}(hp:Pc p)(hq:Pc q)(hl:p.length=q.length)(hpl:p.length<=4000000):∀ n,n<=p.length->p.drop n=q.drop n->∀ k,
  bF qG (n+1+k) (p,q,(n:Int)-1,())=some (if vl p<vl q then .inl (-1,()) else if vl q<vl p then .inl (1,()) else .inr ()):=by
 intro n
 induction n with
 | zero =>
  intro _ he k;have hpq:p=q:=he;subst hpq;rw[show 0+1+k=k+1 by omega,cZ,if_neg (Int.lt_irrefl _),if_neg (Int.lt_irrefl _)];rfl
 | succ n ih =>
  intro h he k;rw[show n+1+1+k=(n+1+k)+1 by omega,cZ];have e0:((n+1:Nat):Int)-1=(n:Int):=Z
  rw[e0];have e1:ltI (n:Int) 0=false:=by rw[aE]; exact oF Z
  have e2:aF (n:Int) p.length=true:=by rw[aL]; exact oT Z
  have e3:aF (n:Int) q.length=true:=by rw[aL]; exact oT Z
  have e4:aB .i64 ((n:Int)-1)=(n:Int)-1:=wrap64 Z Z;simp only[qG,e1,e2,e3,e4,oC,Bool.not_false,oN,aE,aKR]
  by_cases h1:p.getD n 0<q.getD n 0
  ·have:=a0Q hp hq hl Z he h1;rw[if_pos h1,if_pos this]
  ·rw[if_neg h1]
   by_cases h2:q.getD n 0<p.getD n 0
   ·have:=a0Q hq hp hl.symm Z he.symm h2;rw[if_pos h2,if_neg Z,if_pos this]
   ·rw[if_neg h2];refine ih Z ?_ k;have hg:p.getD n 0=q.getD n 0:=Z
    rw[oQ,List.getElem?_eq_getElem (show n<p.length by omega),oQ,List.getElem?_eq_getElem (show n<q.length by omega)]at hg;rw[List.drop_eq_getElem_cons (show n<p.length by omega),List.drop_eq_getElem_cons (show n<q.length by omega),he];have hg:p[n]=q[n]:=hg;rw[hg]
theorem a27 a b (ha:(pcs a).length<=1048576)(hb:(pcs b).length<=1048576):vT (pcs a,pcs b,())=some (if a<b then -1 else if b<a then 1 else 0,()):=by
 obtain⟨a1,a2,a3⟩:=jQ a;obtain⟨b1,b2,b3⟩:=jQ b;have len:∀ {x y:Nat},(pcs x).length<(pcs y).length->x<y:=λ{x y} h=>by
  rcases oG x y with h1|h1
  ·exact h1
  ·have h2:(pcs y).length<=(pcs x).length:=by
    obtain⟨x1,x2,x3⟩:=jQ x;have:=RX x1;rw[x3]at this;refine aAA (k:=(pcs x).length) ?_;have e:((1000000000^(pcs x).length:Nat):Int)=pw (pcs x).length:=by unfold pw; rw[Int.natCast_pow]; rfl
    omega
   omega
 unfold vT;dsimp only;rw[eG]
 by_cases hl:((pcs a).length:Int)=(pcs b).length
 ·have hl':(pcs a).length=(pcs b).length:=Z
  have h:=a8U a1 b1 hl' Z (pcs a).length (oM _) (by rw[List.drop_of_length_le (oM _),List.drop_of_length_le Z]) (2^64-(pcs a).length-1);rw[show (pcs a).length+1+(2^64-(pcs a).length-1)=2^64 by omega,a3,b3]at h;have e2:aB .i64 (((pcs a).length:Int)-1)=((pcs a).length:Int)-1:=wrap64 Z Z;rw[oT hl,e2];show (aC (bF qG (2^64) (pcs a,pcs b,((pcs a).length:Int)-1,())) _)=_
  rw[h,aD]
  by_cases h1:a<b
  ·rw[if_pos (show ((a:Nat):Int)<b by omega),if_pos h1]; rfl
  ·rw[if_neg (show ¬ ((a:Nat):Int)<b by omega),if_neg h1]
   by_cases h2:b<a
   ·rw[if_pos (show ((b:Nat):Int)<a by omega),if_pos h2]; rfl
   ·rw[if_neg (show ¬ ((b:Nat):Int)<a by omega),if_neg h2]; rfl
 ·have e2:aB .i64 (((pcs a).length:Int)-((pcs b).length:Int))=((pcs a).length:Int)-((pcs b).length:Int):=wrap64 Z Z;rw[oF hl,e2];rcases Nat.lt_or_gt_of_ne (show (pcs a).length≠(pcs b).length by omega)with h|h
  ·have:=len h;rw[if_pos this];show some ((if (if (-1:Int)<((pcs a).length:Int)-((pcs b).length:Int) then ((pcs a).length:Int)-((pcs b).length:Int) else -1)<1 then (if (-1:Int)<((pcs a).length:Int)-((pcs b).length:Int) then ((pcs a).length:Int)-((pcs b).length:Int) else -1) else 1),())=_;rw[if_neg (show ¬ (-1:Int)<((pcs a).length:Int)-((pcs b).length:Int)by omega),if_pos O]
  ·have:=len h;have e3:(if a<b then (-1:Int) else if b<a then 1 else 0)=1:=by rw[if_neg Z,if_pos this]
   rw[e3];show some ((if (if (-1:Int)<((pcs a).length:Int)-((pcs b).length:Int) then ((pcs a).length:Int)-((pcs b).length:Int) else -1)<1 then (if (-1:Int)<((pcs a).length:Int)-((pcs b).length:Int) then ((pcs a).length:Int)-((pcs b).length:Int) else -1) else 1),())=_;rw[if_pos (show (-1:Int)<((pcs a).length:Int)-((pcs b).length:Int)by omega),if_neg Z]
end Go.PM
