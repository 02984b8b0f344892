/- Texts of one proof, joined (9). -/
import Derived.Shelf.SlSortCmp.Whole1
import Derived.Ground.SlsfProg
import Derived.Test.YtbjdceodppagoaaGreatDoorProg
import Derived.Shelf.Sort.Plain
import Derived.WalkKit
import Derived.Lib.Walk
import Derived.Lib.SliceRun
import Derived.Test.YtbjdceodppagoaaGreatDoorQJ8
set_option linter.unusedSimpArgs false
set_option linter.unusedVariables false
set_option maxRecDepth 100000
noncomputable section
namespace Go.PM
open Go Go.RowKit Go.Proofs Tryz
set_option maxHeartbeats 4000000
def EB(x:aM [.int .i64]):Option (aM [.bool]):=match x with
 | (v0,()) =>
  some (!(eqI v0 v0),())
abbrev aOV:Ent:=⟨148,[.int .i64],[.bool],EB⟩
theorem aH7:Ent.OK Tryz.prog aOV:=oI (aR oW) func148 Y (by rintro⟨v0,⟨⟩⟩; kernel_rfl)
def FE(x:aM [.int .i64,.int .i64]):Option (aM [.int .i64]):=match x with
 | (v0,v1,()) =>
  aC (EB (v0,())) λy1 =>
  aC (EB (v1,())) λy2 =>
  bif y1.1 then
   bif y2.1 then
    some (0,())
   else some ((-1),())
  else bif y2.1 then
   some (1,())
  else bif ltI v0 v1 then
   some ((-1),())
  else bif ltI v1 v0 then
   some (1,())
  else some (0,())
abbrev aJR:Ent:=⟨108,[.int .i64,.int .i64],[.int .i64],FE⟩
theorem aC9:Ent.OK Tryz.prog aJR:=oI (aR (oV aH7 oW)) func108 Y (by rintro⟨v0,v1,⟨⟩⟩; kernel_rfl)
abbrev rN:List (Nat×Kd):=[(0,.list (.int .i64)),(1,.list (.int .i64)),(9,.list (.int .i64)),(10,.int .i64),(11,.int .i64)]
abbrev AB:List (Ex×List (Nat×Kd)):=[(.ret,[(4,.int .i64)]),(.exit 0,[(0,.list (.int .i64)),(1,.list (.int .i64))])]
def kC(x:Shape.den rN):Option (Shape.den rN⊕cD AB):=match x with
 | (v0,v1,v9,v10,v11,()) =>
  bif ltI v11 v10 then
   bif aF v11 v9.length then bif !(ltI v11 (v1.length:Int)) then
    some (.inr (.inl (1,())))
   else bif aF v11 v1.length then aC (FE ((v9.getD v11.toNat 0),(v1.getD v11.toNat 0),())) λy2 =>
   bif !(eqI y2.1 0) then
    some (.inr (.inl (y2.1,())))
   else some (.inl (v0,v1,v9,v10,(aB .i64 (v11+1)),())) else none else none
  else some (.inr (.inr ((v0,v1,()))))
def p7(x:Shape.den rN):Option (cD AB):=aW kC (2^64) x
def pH(x:aM [.list (.int .i64),.list (.int .i64)]):Option (aM [.int .i64]):=match x with
 | (v0,v1,()) =>
  aC (p7 (v0,v1,v0,(v0.length:Int),0,())) λz3 =>
  mY z3 (λa4=>some (a4.1,())) λb5 =>
  bif ltI (b5.1.length:Int) (b5.2.1.length:Int) then
   some ((-1),())
  else some (0,())
abbrev QB:Ent:=⟨71,[.list (.int .i64),.list (.int .i64)],[.int .i64],pH⟩
theorem MN:Ent.OK Tryz.prog QB:=oU (aR (oV aC9 oW)) func71 2 (lp:=p7) rfl Y (by rintro⟨v0,v1,v9,v10,v11,⟨⟩⟩; kernel_rfl) (by rintro⟨v0,v1,⟨⟩⟩; kernel_rfl)
def kL(x:aM [.list (.int .i64),.list (.int .i64)]):Option (aM [.int .i64]):=match x with
 | (v0,v1,()) =>
  aC (pH (v0,v1,())) λy1 =>
  some (y1.1,())
abbrev aGB:Ent:=⟨36,[.list (.int .i64),.list (.int .i64)],[.int .i64],kL⟩
theorem HW:Ent.OK Tryz.prog aGB:=oI (aR (oV MN oW)) func36 Y (by rintro⟨v0,v1,⟨⟩⟩; kernel_rfl)
def M6(x:aM [.int .i64]):Option (aM [.bool]):=match x with
 | (v0,()) =>
  some (!(eqI v0 0),())
abbrev aPQ:Ent:=⟨95,[.int .i64],[.bool],M6⟩
theorem aIM:Ent.OK Tryz.prog aPQ:=oI (aR oW) func95 Y (by rintro⟨v0,⟨⟩⟩; kernel_rfl)
abbrev pM:List (Nat×Kd):=[(0,.list (.int .i64)),(1,.fn 95),(7,.int .i64),(8,.int .i64)]
abbrev wL:List (Ex×List (Nat×Kd)):=[(.ret,[(4,.int .i64)]),(.exit 0,[])]
def iN(x:Shape.den pM):Option (Shape.den pM⊕cD wL):=match x with
 | (v0,v1,v7,v8,()) =>
  bif ltI v8 v7 then
   bif aF v8 v0.length then aC (M6 ((v0.getD v8.toNat 0),())) λy2 =>
   bif y2.1 then
    some (.inr (.inl (v8,())))
   else some (.inl (v0,(),v7,(aB .i64 (v8+1)),())) else none
  else some (.inr (.inr ((()))))
def mZ(x:Shape.den pM):Option (cD wL):=aW iN (2^64) x
def lQ(x:aM [.list (.int .i64),.fn 95]):Option (aM [.int .i64]):=match x with
 | (v0,v1,()) =>
  aC (mZ (v0,(),(v0.length:Int),0,())) λz3 =>
  mY z3 (λa4=>some (a4.1,())) λb5 =>
  some ((-1),())
abbrev MI:Ent:=⟨110,[.list (.int .i64),.fn 95],[.int .i64],lQ⟩
theorem JO:Ent.OK Tryz.prog MI:=oU (aR (oV aIM oW)) func110 2 (lp:=mZ) rfl Y (by rintro⟨v0,v1,v7,v8,⟨⟩⟩; kernel_rfl) (by rintro⟨v0,v1,⟨⟩⟩; kernel_rfl)
def pO(x:aM [.list (.int .i64),.fn 95]):Option (aM [.bool]):=match x with
 | (v0,v1,()) =>
  aC (lQ (v0,(),())) λy1 =>
  some (!(ltI y1.1 0),())
abbrev JF:Ent:=⟨76,[.list (.int .i64),.fn 95],[.bool],pO⟩
theorem GA:Ent.OK Tryz.prog JF:=oI (aR (oV JO oW)) func76 Y (by rintro⟨v0,v1,⟨⟩⟩; kernel_rfl)
def OD(x:aM [.list (.int .i64)]):Option (aM [.bool]):=match x with
 | (v0,()) =>
  aC (pO (v0,(),())) λy1 =>
  bif y1.1 then
   some (false,())
  else some (true,())
abbrev aJ0:Ent:=⟨65,[.list (.int .i64)],[.bool],OD⟩
theorem aA8:Ent.OK Tryz.prog aJ0:=oI (aR (oV GA oW)) func65 Y (by rintro⟨v0,⟨⟩⟩; kernel_rfl)
def zZ(x:aM [.int .i64,.list (.list (.int .i64))]):Option (aM [.int .i64]):=match x with
 | (v0,v1,()) =>
  bif ltI v0 0 then
   some (3,())
  else bif ltI 12 v0 then
   some (3,())
  else aC (xT (v1,v0,())) λy1 =>
  some (y1.1,())
abbrev MD:Ent:=⟨37,[.int .i64,.list (.list (.int .i64))],[.int .i64],zZ⟩
theorem P4:Ent.OK Tryz.prog MD:=oI (aR (oV WO oW)) func37 Y (by rintro⟨v0,v1,⟨⟩⟩; kernel_rfl)
abbrev GG:List (Nat×Kd):=[(0,.list (.int .i64)),(1,.list (.int .i64)),(2,.int .i64),(7,.own 3 (.int .i64)),(13,.int .i64),(14,.int .i64)]
abbrev P7:List (Ex×List (Nat×Kd)):=[(.exit 0,[(7,.own 3 (.int .i64))])]
def wH(x:Shape.den GG):Option (Shape.den GG⊕cD P7):=match x with
 | (v0,v1,v2,v7,v13,v14,()) =>
  bif ltI v14 v13 then
   bif aF v14 v0.length then bif aF v14 v1.length then bif aF v14 v7.length then bif Nat.blt v14.toNat v7.length then some (.inl (v0,v1,v2,(v7.set v14.toNat (aB .i64 ((v0.getD v14.toNat 0)+(aB .i64 (v2*(v1.getD v14.toNat 0)))))),v13,(aB .i64 (v14+1)),())) else none else none else none else none
  else some (.inr ((v7,())))
def CW(x:Shape.den GG):Option (cD P7):=aW wH (2^64) x
def vB(x:aM [.list (.int .i64),.list (.int .i64),.int .i64]):Option (aM [.list (.int .i64)]):=match x with
 | (v0,v1,v2,()) =>
  bif !(ltI (v0.length:Int) 0) then bif !(ltI (v0.length:Int) (v0.length:Int)) then bif !(ltI 1048576 (v0.length:Int)) then aC (CW (v0,v1,v2,(List.replicate ((v0.length:Int).toNat) (0:Ty.den (.int .i64))),(v0.length:Int),0,())) λz1 =>
  some (z1.1,()) else none else none else none
abbrev MG:Ent:=⟨42,[.list (.int .i64),.list (.int .i64),.int .i64],[.list (.int .i64)],vB⟩
theorem GP:Ent.OK Tryz.prog MG:=oU (aR oW) func42 3 (lp:=CW) rfl Y (by rintro⟨v0,v1,v2,v7,v13,v14,⟨⟩⟩; kernel_rfl) (by rintro⟨v0,v1,v2,⟨⟩⟩; kernel_rfl)
abbrev CY:List (Nat×Kd):=[(0,.list (.int .i64)),(3,.int .i64)]
abbrev LF:List (Ex×List (Nat×Kd)):=[(.ret,[(2,.bool)]),(.exit 0,[])]
def tA(x:Shape.den CY):Option (Shape.den CY⊕cD LF):=match x with
 | (v0,v3,()) =>
  bif ltI v3 (v0.length:Int) then
   bif aF v3 v0.length then bif !(eqI (v0.getD v3.toNat 0) 0) then
    some (.inr (.inl (false,())))
   else some (.inl (v0,(aB .i64 (v3+1)),())) else none
  else some (.inr (.inr ((()))))
def AK(x:Shape.den CY):Option (cD LF):=aW tA (2^64) x
def vN(x:aM [.list (.int .i64)]):Option (aM [.bool]):=match x with
 | (v0,()) =>
  aC (AK (v0,0,())) λz1 =>
  mY z1 (λa2=>some (a2.1,())) λb3 =>
  some (true,())
abbrev aFM:Ent:=⟨34,[.list (.int .i64)],[.bool],vN⟩
theorem ZW:Ent.OK Tryz.prog aFM:=oU (aR oW) func34 2 (lp:=AK) rfl Y (by rintro⟨v0,v3,⟨⟩⟩; kernel_rfl) (by rintro⟨v0,⟨⟩⟩; kernel_rfl)
abbrev C8:List (Nat×Kd):=[(0,.list (.int .i64)),(1,.list (.int .i64)),(5,.int .i64)]
abbrev K9:List (Ex×List (Nat×Kd)):=[(.ret,[(4,.bool)]),(.exit 0,[])]
def tB(x:Shape.den C8):Option (Shape.den C8⊕cD K9):=match x with
 | (v0,v1,v5,()) =>
  bif ltI v5 (v0.length:Int) then
   bif aF v5 v0.length then bif aF v5 v1.length then bif !(eqI (v0.getD v5.toNat 0) (v1.getD v5.toNat 0)) then
    some (.inr (.inl (false,())))
   else some (.inl (v0,v1,(aB .i64 (v5+1)),())) else none else none
  else some (.inr (.inr ((()))))
def zQ(x:Shape.den C8):Option (cD K9):=aW tB (2^64) x
def nW(x:aM [.list (.int .i64),.list (.int .i64)]):Option (aM [.bool]):=match x with
 | (v0,v1,()) =>
  bif !(eqI (v0.length:Int) (v1.length:Int)) then
   some (false,())
  else aC (zQ (v0,v1,0,())) λz1 =>
  mY z1 (λa2=>some (a2.1,())) λb3 =>
  some (true,())
abbrev R2:Ent:=⟨33,[.list (.int .i64),.list (.int .i64)],[.bool],nW⟩
theorem C2:Ent.OK Tryz.prog R2:=oU (aR oW) func33 4 (lp:=zQ) rfl Y (by rintro⟨v0,v1,v5,⟨⟩⟩; kernel_rfl) (by rintro⟨v0,v1,⟨⟩⟩; kernel_rfl)
abbrev BP:List (Nat×Kd):=[(0,.list (.int .i64)),(1,.list (.int .i64)),(5,.own 3 (.int .i64)),(6,.int .i64)]
abbrev KT:List (Ex×List (Nat×Kd)):=[(.exit 0,[(5,.own 3 (.int .i64))])]
def sB(x:Shape.den BP):Option (Shape.den BP⊕cD KT):=match x with
 | (v0,v1,v5,v6,()) =>
  bif ltI v6 (v0.length:Int) then
   bif aF v6 v0.length then bif aF v6 v1.length then bif aF v6 v5.length then bif Nat.blt v6.toNat v5.length then some (.inl (v0,v1,(v5.set v6.toNat (aB .i64 ((v0.getD v6.toNat 0)-(v1.getD v6.toNat 0)))),(aB .i64 (v6+1)),())) else none else none else none else none
  else some (.inr ((v5,())))
def yV(x:Shape.den BP):Option (cD KT):=aW sB (2^64) x
def uG(x:aM [.list (.int .i64),.list (.int .i64)]):Option (aM [.list (.int .i64)]):=match x with
 | (v0,v1,()) =>
  bif !(ltI (v0.length:Int) 0) then bif !(ltI (v0.length:Int) (v0.length:Int)) then bif !(ltI 1048576 (v0.length:Int)) then aC (yV (v0,v1,(List.replicate ((v0.length:Int).toNat) (0:Ty.den (.int .i64))),0,())) λz1 =>
  some (z1.1,()) else none else none else none
abbrev PW:Ent:=⟨35,[.list (.int .i64),.list (.int .i64)],[.list (.int .i64)],uG⟩
theorem J6:Ent.OK Tryz.prog PW:=oU (aR oW) func35 3 (lp:=yV) rfl Y (by rintro⟨v0,v1,v5,v6,⟨⟩⟩; kernel_rfl) (by rintro⟨v0,v1,⟨⟩⟩; kernel_rfl)
abbrev C3:List (Nat×Kd):=[(0,.list (.list (.int .i64))),(1,.list (.list (.int .i64))),(5,.int .i64)]
abbrev K8:List (Ex×List (Nat×Kd)):=[(.ret,[(4,.bool)]),(.exit 0,[])]
def s8(x:Shape.den C3):Option (Shape.den C3⊕cD K8):=match x with
 | (v0,v1,v5,()) =>
  bif ltI v5 (v0.length:Int) then
   bif aF v5 v0.length then bif aF v5 v1.length then aC (nW ((v0.getD v5.toNat []),(v1.getD v5.toNat []),())) λy2 =>
   bif y2.1 then
    some (.inl (v0,v1,(aB .i64 (v5+1)),()))
   else some (.inr (.inl (false,()))) else none else none
  else some (.inr (.inr ((()))))
def zV(x:Shape.den C3):Option (cD K8):=aW s8 (2^64) x
def vE(x:aM [.list (.list (.int .i64)),.list (.list (.int .i64))]):Option (aM [.bool]):=match x with
 | (v0,v1,()) =>
  bif !(eqI (v0.length:Int) (v1.length:Int)) then
   some (false,())
  else aC (zV (v0,v1,0,())) λz3 =>
  mY z3 (λa4=>some (a4.1,())) λb5 =>
  some (true,())
abbrev RG:Ent:=⟨13,[.list (.list (.int .i64)),.list (.list (.int .i64))],[.bool],vE⟩
theorem K7:Ent.OK Tryz.prog RG:=oU (aR (oV C2 oW)) func13 4 (lp:=zV) rfl Y (by rintro⟨v0,v1,v5,⟨⟩⟩; kernel_rfl) (by rintro⟨v0,v1,⟨⟩⟩; kernel_rfl)
abbrev C1:List (Nat×Kd):=[(0,.list (.list (.list (.int .i64)))),(1,.list (.list (.list (.int .i64)))),(5,.int .i64)]
abbrev K5:List (Ex×List (Nat×Kd)):=[(.ret,[(4,.bool)]),(.exit 0,[])]
def WI(x:Shape.den C1):Option (Shape.den C1⊕cD K5):=match x with
 | (v0,v1,v5,()) =>
  bif ltI v5 (v0.length:Int) then
   bif aF v5 v0.length then bif aF v5 v1.length then aC (vE ((v0.getD v5.toNat []),(v1.getD v5.toNat []),())) λy2 =>
   bif y2.1 then
    some (.inl (v0,v1,(aB .i64 (v5+1)),()))
   else some (.inr (.inl (false,()))) else none else none
  else some (.inr (.inr ((()))))
def II(x:Shape.den C1):Option (cD K5):=aW WI (2^64) x
def BF(x:aM [.list (.list (.list (.int .i64))),.list (.list (.list (.int .i64)))]):Option (aM [.bool]):=match x with
 | (v0,v1,()) =>
  bif !(eqI (v0.length:Int) (v1.length:Int)) then
   some (false,())
  else aC (II (v0,v1,0,())) λz3 =>
  mY z3 (λa4=>some (a4.1,())) λb5 =>
  some (true,())
abbrev SL:Ent:=⟨25,[.list (.list (.list (.int .i64))),.list (.list (.list (.int .i64)))],[.bool],BF⟩
theorem ZO:Ent.OK Tryz.prog SL:=oU (aR (oV K7 oW)) func25 4 (lp:=II) rfl Y (by rintro⟨v0,v1,v5,⟨⟩⟩; kernel_rfl) (by rintro⟨v0,v1,⟨⟩⟩; kernel_rfl)
abbrev uL:List (Nat×Kd):=[(0,.int .i64),(1,.list (.list (.int .i64))),(5,.int .i64)]
abbrev DS:List (Ex×List (Nat×Kd)):=[(.ret,[(4,.int .i64)]),(.exit 1,[])]
def mH(x:Shape.den uL):Option (Shape.den uL⊕cD DS):=match x with
 | (v0,v1,v5,()) =>
  bif ltI v5 (v1.length:Int) then
   bif aF v5 v1.length then aC (vO ((v1.getD v5.toNat []),())) λy5 =>
   bif !(eqI y5.1 0) then
    some (.inr (.inl (y5.1,())))
   else bif aF v5 v1.length then bif !(eqI ((v1.getD v5.toNat []).length:Int) v0) then
    some (.inr (.inl (5,())))
   else bif eqI v5 0 then
    bif aF v5 v1.length then aC (vN ((v1.getD v5.toNat []),())) λy6 =>
    bif y6.1 then
     bif ltI 0 v5 then
      bif aF (aB .i64 (v5-1)) v1.length then bif aF v5 v1.length then aC (kL ((v1.getD ((aB .i64 (v5-1)).toNat) []),(v1.getD v5.toNat []),())) λy7 =>
      bif !(ltI y7.1 0) then
       some (.inr (.inl (6,())))
      else some (.inl (v0,v1,(aB .i64 (v5+1)),())) else none else none
     else some (.inl (v0,v1,(aB .i64 (v5+1)),()))
    else some (.inr (.inl (7,()))) else none
   else bif ltI 0 v5 then
    bif aF (aB .i64 (v5-1)) v1.length then bif aF v5 v1.length then aC (kL ((v1.getD ((aB .i64 (v5-1)).toNat) []),(v1.getD v5.toNat []),())) λy8 =>
    bif !(ltI y8.1 0) then
     some (.inr (.inl (6,())))
    else some (.inl (v0,v1,(aB .i64 (v5+1)),())) else none else none
   else some (.inl (v0,v1,(aB .i64 (v5+1)),())) else none else none
  else some (.inr (.inr ((()))))
def AX(x:Shape.den uL):Option (cD DS):=aW mH (2^64) x
def HP(x:aM [.int .i64,.list (.list (.int .i64))]):Option (aM [.int .i64]):=match x with
 | (v0,v1,()) =>
  bif ltI v0 0 then
   some (3,())
  else bif ltI 12 v0 then
   some (3,())
  else bif eqI (v1.length:Int) 0 then
   some (13,())
  else bif ltI 6 (v1.length:Int) then
   some (4,())
  else aC (AX (v0,v1,0,())) λz9 =>
  mY z9 (λa10=>some (a10.1,())) λb11 =>
  some (0,())
abbrev E3:List (Nat×Kd):=[(0,.int .i64),(1,.list (.list (.int .i64))),(23,.list (.list (.int .i64))),(24,.int .i64),(25,.int .i64)]
abbrev N7:List (Ex×List (Nat×Kd)):=[(.ret,[(4,.int .i64)]),(.exit 1,[])]
def uJ(x:Shape.den E3):Option (Shape.den E3⊕cD N7):=match x with
 | (v0,v1,v23,v24,v25,()) =>
  bif ltI v25 v24 then
   bif aF v25 v23.length then aC (vO ((v23.getD v25.toNat []),())) λy5 =>
   bif !(eqI y5.1 0) then
    some (.inr (.inl (y5.1,())))
   else bif !(eqI ((v23.getD v25.toNat []).length:Int) v0) then
    some (.inr (.inl (5,())))
   else bif eqI v25 0 then
    aC (OD ((v23.getD v25.toNat []),())) λy6 =>
    bif y6.1 then
     bif ltI 0 v25 then
      bif aF (aB .i64 (v25-1)) v1.length then aC (kL ((v1.getD ((aB .i64 (v25-1)).toNat) []),(v23.getD v25.toNat []),())) λy7 =>
      bif !(ltI y7.1 0) then
       some (.inr (.inl (6,())))
      else some (.inl (v0,v1,v23,v24,(aB .i64 (v25+1)),())) else none
     else some (.inl (v0,v1,v23,v24,(aB .i64 (v25+1)),()))
    else some (.inr (.inl (7,())))
   else bif ltI 0 v25 then
    bif aF (aB .i64 (v25-1)) v1.length then aC (kL ((v1.getD ((aB .i64 (v25-1)).toNat) []),(v23.getD v25.toNat []),())) λy8 =>
    bif !(ltI y8.1 0) then
     some (.inr (.inl (6,())))
    else some (.inl (v0,v1,v23,v24,(aB .i64 (v25+1)),())) else none
   else some (.inl (v0,v1,v23,v24,(aB .i64 (v25+1)),())) else none
  else some (.inr (.inr ((()))))
def BA(x:Shape.den E3):Option (cD N7):=aW uJ (2^64) x
def xG(x:aM [.int .i64,.list (.list (.int .i64))]):Option (aM [.int .i64]):=match x with
 | (v0,v1,()) =>
  bif ltI v0 0 then
   some (3,())
  else bif ltI 12 v0 then
   some (3,())
  else bif eqI (v1.length:Int) 0 then
   some (13,())
  else bif ltI 6 (v1.length:Int) then
   some (4,())
  else aC (BA (v0,v1,v1,(v1.length:Int),0,())) λz9 =>
  mY z9 (λa10=>some (a10.1,())) λb11 =>
  some (0,())
abbrev UK:Ent:=⟨44,[.int .i64,.list (.list (.int .i64))],[.int .i64],xG⟩
theorem aBB:Ent.OK Tryz.prog UK:=oU (aR (oV M8 (oV HW (oV aA8 oW)))) func44 8 (lp:=BA) rfl Y (by rintro⟨v0,v1,v23,v24,v25,⟨⟩⟩; kernel_rfl) (by rintro⟨v0,v1,⟨⟩⟩; kernel_rfl)
abbrev E7:List (Nat×Kd):=[(0,.list (.list (.int .i64))),(1,.list (.int .i64)),(5,.int .i64)]
abbrev NK:List (Ex×List (Nat×Kd)):=[(.ret,[(4,.bool)]),(.exit 0,[])]
def uK(x:Shape.den E7):Option (Shape.den E7⊕cD NK):=match x with
 | (v0,v1,v5,()) =>
  bif ltI v5 (v0.length:Int) then
   bif aF v5 v0.length then aC (nW ((v0.getD v5.toNat []),v1,())) λy2 =>
   bif y2.1 then
    some (.inr (.inl (true,())))
   else some (.inl (v0,v1,(aB .i64 (v5+1)),())) else none
  else some (.inr (.inr ((()))))
def BM(x:Shape.den E7):Option (cD NK):=aW uK (2^64) x
def DK(x:aM [.list (.list (.int .i64)),.list (.int .i64)]):Option (aM [.bool]):=match x with
 | (v0,v1,()) =>
  aC (BM (v0,v1,0,())) λz3 =>
  mY z3 (λa4=>some (a4.1,())) λb5 =>
  some (false,())
abbrev UJ:Ent:=⟨49,[.list (.list (.int .i64)),.list (.int .i64)],[.bool],DK⟩
theorem aB8:Ent.OK Tryz.prog UJ:=oU (aR (oV C2 oW)) func49 2 (lp:=BM) rfl Y (by rintro⟨v0,v1,v5,⟨⟩⟩; kernel_rfl) (by rintro⟨v0,v1,⟨⟩⟩; kernel_rfl)
abbrev zX:List (Nat×Kd):=[(0,.list (.list (.int .i64))),(1,.list (.int .i64)),(5,.own 39 (.list (.int .i64))),(6,.int .i64)]
abbrev I9:List (Ex×List (Nat×Kd)):=[(.ret,[(4,.list (.list (.int .i64)))]),(.exit 0,[(1,.list (.int .i64)),(5,.own 39 (.list (.int .i64)))])]
def mA(x:Shape.den zX):Option (Shape.den zX⊕cD I9):=match x with
 | (v0,v1,v5,v6,()) =>
  bif ltI v6 (v0.length:Int) then
   bif aF v6 v0.length then aC (kL (v1,(v0.getD v6.toNat []),())) λy2 =>
   bif eqI y2.1 0 then
    some (.inr (.inl (v0,())))
   else bif ltI y2.1 0 then
    bif Nat.ble [v1].length 1048576 then bif Nat.ble v5.length 1048576 then bif !(ltI v6 0) then bif Nat.ble v6.toNat v0.length then bif Nat.ble v0.length v0.length then bif Nat.ble ((v0.drop v6.toNat).take (v0.length-v6.toNat)).length 1048576 then bif Nat.ble (v5++[v1]).length 1048576 then some (.inr (.inl (((v5++[v1])++((v0.drop v6.toNat).take (v0.length-v6.toNat))),()))) else none else none else none else none else none else none else none
   else bif aF v6 v0.length then bif Nat.ble [(v0.getD v6.toNat [])].length 1048576 then bif Nat.ble v5.length 1048576 then some (.inl (v0,v1,(v5++[(v0.getD v6.toNat [])]),(aB .i64 (v6+1)),())) else none else none else none else none
  else some (.inr (.inr ((v1,v5,()))))
def wP(x:Shape.den zX):Option (cD I9):=aW mA (2^64) x
def iW(x:aM [.list (.list (.int .i64)),.list (.int .i64)]):Option (aM [.list (.list (.int .i64))]):=match x with
 | (v0,v1,()) =>
  aC (wP (v0,v1,[],0,())) λz3 =>
  mY z3 (λa4=>some (a4.1,())) λb5 =>
  bif Nat.ble [b5.1].length 1048576 then bif Nat.ble b5.2.1.length 1048576 then some ((b5.2.1++[b5.1]),()) else none else none
abbrev NG:Ent:=⟨16,[.list (.list (.int .i64)),.list (.int .i64)],[.list (.list (.int .i64))],iW⟩
theorem I7:Ent.OK Tryz.prog NG:=oU (aR (oV HW oW)) func16 3 (lp:=wP) rfl Y (by rintro⟨v0,v1,v5,v6,⟨⟩⟩; kernel_rfl) (by rintro⟨v0,v1,⟨⟩⟩; kernel_rfl)
end Go.PM
namespace Go.PM
open Go Go.RowKit
section
variable {P:Program} {n0:Nat->Prop} {w w':World} {G G':Gd} {μ μ1:Mp} {H H1:Heap}
abbrev a4U(e:TypeId)(t:Ty)(l:List t.den):Blk:=⟨aI t l,e,true,false,some ⟨t,l⟩⟩
def aTS(P:Program) (g:FuncId) (e:TypeId) (t:Ty) (args rets:List Kd) (f:List t.den->aM args->Option (aM rets)):Prop :=
 ∀ l x y,f l x=some y->∀ {n0:Nat->Prop} {G:Nat->Prop} {μ:Mp} {w:World} {us:List Value},aO n0 (Gd.of G) μ [some (a4U e t l)] w->VRs w (Gd.of G) μ (.own 0 t.size::kX args x) us ->
  (callFunc g us.toArray).run P w=.ok (.enter g us.toArray) w/\Calls P g us.toArray w λe w'=>∃ v' G',e=.returned v'/\Ext n0 w (Gd.of G) aG w' (Gd.of G') aG/\(∀ b,G' b->b<w'.heap.size)/\VR w' (Gd.of G') aG (XH rets y) v'
def a6P(P:Program)(E:Env)(fn:Func)(keep:Nat)(lt:Nat->Option eE)(c:Code)(e:TypeId)(t:Ty) args rets (l:List t.den)(x:aM args):Option (aM rets) :=
 bif Nat.ble (kX args x).length.succ fn.ntmps then l4 P E fn.ntmps keep lt c (start keep 0 (.own 0 t.size::kX args x)) [some ⟨aI t l,e,true,false,some ⟨t,l⟩⟩] (aXT P fn.results.toList rets) else none
theorem a9N {E} (hP:LW P) (hE:eS P E) {g:Nat} {fn} (hg:P.funcs[g]?=some fn) {c} (hc:fn.body=some c) {keep lt e t args rets f}
  (hd:aDW args=true) (hl:∀ a∈bB c,∀ s,lt (cA a)=some s->eJ P fn.ntmps a s) (hb:∀ l x,a6P P E fn keep lt c e t args rets l x=f l x):aTS P g e t args rets f:=by
 intro l x y hy n0 G μ w us hW hv;rw[<- hb]at hy;unfold a6P at hy;obtain⟨hlen,hy⟩:=aJ hy;obtain⟨⟨ex,F',H'⟩,h1,h2⟩:=k8 hE.callee hP.mixed c _ _ _ _ hl hy;obtain⟨vs,q,hex,hvs,hq,hdq⟩:∃ vs q,(ex=.normal\/ex=.ret)/\o9 P F' H' fn.results.toList=some vs/\aTG H' (j6 vs)=some q/\aLD rets q=some y:=by
  unfold aXT at h1;split at h1
  ·cases h1
  next hne=>
   split at h1
   ·rename_i vs hvs;split at h1
    ·rename_i q hq;refine⟨vs,q,?_,hvs,hq,h1⟩;cases ex with
     | normal=>exact .inl rfl
     | ret=>exact .inr rfl
     | exit i=>exact absurd rfl (hne i)
    ·cases h1
   ·cases h1
 obtain⟨hq1,hq2⟩:=CR hq;have e0:Ext n0 w (Gd.of G) aG w (Gd.of G) μ :=
  ⟨⟨λb hb=>⟨hb,rfl⟩,λ_ _ h=>(by cases h),λ_ _ h=>(by cases h),λ_ _ h=>h,λ_ _ h=>h,λ_ _ h=>(by cases h)⟩,rfl,rfl,rfl,oM _,λ_ _ _=>rfl,λ_ h=>.inl h⟩
 refine⟨enters hg (hP.names g fn hg) (by rw[hc]; rfl) _ _,calls_of_wp hg hc ?_⟩;have hI:I n0 w (Gd.of G) aG fn.ntmps (start keep 0 (.own 0 t.size::kX args x)) [some (a4U e t l)] ⟨us.toArray++Array.replicate (fn.ntmps-us.toArray.size) undef,[]⟩ w :=
  ⟨Gd.of G,_,e0,hW,mE (by simpa using hv) (by have:=oL hlen; simpa using this)⟩
 refine wp_mono (h2 n0 w (Gd.of G) aG _ w (λr=>⟨rfl,rfl⟩) hI) ?_;rintro e1 a' w' ⟨rfl,G1,μ1,ee,hW',hF'⟩;obtain⟨ws,h3,h4⟩:=lK (P:=P) hW' hF' hvs;have hres:(results fn a'.tmps).run P w'=.ok (if hh:ws.toArray.size=1 then ws.toArray[0] else .tuple ws.toArray) w':=by
  rw[wA,Array.mapM_eq_mapM_toList];simp only[Sem.run_bind,Sem.run_map,h3,Result.andThen_ok,Sem.run_pure]
 have hval:=EX (G:=⟨λb=>G1 b\/∃ r k,H'[r]?=some (some k)/\μ1.loc r=some b,G1.row⟩) (G':=Gd.of λb=>G1 b\/∃ r k,H'[r]?=some (some k)/\μ1.loc r=some b) (λb h=>h) _ _ _ hq2
   (L9 (G':=⟨λb=>G1 b\/∃ r k,H'[r]?=some (some k)/\μ1.loc r=some b,G1.row⟩) hW' (λ_ _ h=>h) (λb hb=>.inl hb) (λr k b hr _ hb=>.inr ⟨r,k,hr,hb⟩) depth _ q _ hq1 (mT h4))
 have hext:Ext n0 w (Gd.of G) aG w' (Gd.of λb=>G1 b\/∃ r k,H'[r]?=some (some k)/\μ1.loc r=some b) aG:={
  good:=λb hb=>⟨.inl (ee.good b hb).1,(ee.good b hb).2⟩
  map:=λ_ _ h=>h
  len:=λ_ _ h=>h
  sh:=λ_ _ h=>(by cases h)
  room:=ee.room
  row:=λ_ _ h=>h
  os:=ee.os
  tape:=ee.tape
  output:=ee.output
  size:=ee.size
  old:=ee.old
  new:=λb hb=>by
   rcases hb with hb|⟨r,k,hr,hb⟩
   ·exact ee.new b hb
   ·obtain⟨c,_,_,_,g5,g6⟩:=hW'.blk r k b hr hb;cases hf:k.frozen with
    | true=>exact ee.new b (g5 hf)
    | false=>exact .inr (g6 hf).1 }
 have hlt':∀ b,(G1 b\/∃ r k,H'[r]?=some (some k)/\μ1.loc r=some b)->b<w'.heap.size:=by
  rintro b (hb|⟨r,k,hr,hb⟩)
  ·exact hW'.lt b hb
  ·exact hW'.pK hr hb
 have hpost:a'.defers=[]/\∃ v,(results fn a'.tmps).run P w'=.ok v w'/\(∃ v' G',Ending.returned v=.returned v'/\Ext n0 w (Gd.of G) aG w' (Gd.of G') aG/\(∀ b,G' b->b<w'.heap.size)/\VR w' (Gd.of G') aG (XH rets y) v') :=
  ⟨hF'.defers,_,hres,_,_,rfl,hext,hlt',T4 hdq hval⟩
 rcases hex with rfl|rfl
 ·exact hpost
 ·exact hpost
def aN5(b n:Option Nat) (o:Nat):Mp:=⟨λr=>if r=0 then b else none,λr=>if r=0 then n else none,λr=>if r=0 then o else 0⟩
theorem a5E {g e t args rets f}(hf:aTS P g e t args rets f){l x y}(hy:f l x=some y)(hpl:t.plain=true)(hW:aO n0 G μ H w){r}(hr:H[r]?=some (some (a4U e t l))){us}(hv:VRs w G μ (.own r t.size::kX args x) us)(hd:dR.noRefs (kX args x)=true)(hnr:dV.noRows (kX args x)=true) :
  vG P n0 w G μ g us.toArray (XH rets y) (H.set r none):=by
 obtain⟨ht1,ht2⟩:=hW.tags r _ _ hr rfl;have hmine:∀ b,μ.loc r=some b->n0 b/\¬ G b:=λb hb=>by
  obtain⟨_,_,_,_,_,h6⟩:=hW.blk r _ b hr hb;exact h6 rfl
 have hrow:∀ j b,G.row j=some b->μ.loc r≠some b:=λj b hj=>(hW.rows.sep j b hj).2.2.2 r _ hr rfl
 have hm1:(aN5 (μ.loc r) (μ.len r) (μ.sh r)).loc 0=μ.loc r:=rfl;have hm2:(aN5 (μ.loc r) (μ.len r) (μ.sh r)).len 0=μ.len r:=rfl;have hm3:(aN5 (μ.loc r) (μ.len r) (μ.sh r)).sh 0=μ.sh r:=rfl;have at0:∀ (s:Nat) (k1:Blk),([some (a4U e t l)]:Heap)[s]?=some (some k1)->s=0/\k1=a4U e t l:=by
  intro s k1 hs;cases s with
  | zero=>simp only[List.getElem?_cons_zero,oJ]at hs; exact⟨rfl,hs.symm⟩
  | succ s=>simp at hs
 have hW1:aO (λb=>w.heap.size<=b\/μ.loc r=some b) (Gd.of G.ok) (aN5 (μ.loc r) (μ.len r) (μ.sh r)) [some (a4U e t l)] w:=by
  refine⟨?_,?_,?_,hW.lt,?_,λb hb=>.inl hb,rQ.none _ _ (λ_=>rfl) _ _ (λs k1 hs=>.inl (by rw[(at0 s k1 hs).2]))⟩
  ·intro s k1 b hs hb;obtain⟨rfl,rfl⟩:=at0 s k1 hs;rw[hm1]at hb;obtain⟨cc,a1,a2,a3,_,a5⟩:=hW.blk r _ b hr hb;rw[hm3];exact⟨cc,a1,uY (G:=G) (G':=Gd.of G.ok) (λb h=>h) _ _ _ _ (xN t hpl l) (nR (iM _ _) a2),a3,(λh=>(by cases h)),(λ_=>⟨.inr hb,(hmine b hb).2⟩)⟩
  ·intro s k1 gg hs hg;obtain⟨rfl,rfl⟩:=at0 s k1 hs;cases hg;exact⟨rfl,by rw[hm2]; exact ht2⟩
  ·intro s1 s2 k1 k2 b e1 e2 _ _ _ _;rw[(at0 s1 k1 e1).1,(at0 s2 k2 e2).1]
  ·intro s hs;have:s≠0:=by rintro rfl; simp at hs
   exact⟨by simp[aN5,this],by simp[aN5,this]⟩
 have hv1:VRs w (Gd.of G.ok) (aN5 (μ.loc r) (μ.len r) (μ.sh r)) (.own 0 t.size::kX args x) us:=by
  rw[VRs]at hv; rw[VRs];obtain⟨u,us',rfl,q1,q2⟩:=hv;refine⟨u,us',rfl,?_,VRs.aV (vA (G:=G) (G':=Gd.of G.ok) (λb h=>h) _ _ _ hnr (cU _ _ hd q2))⟩;rw[VR]at q1; rw[VR];rw[hm1,hm2,hm3];exact q1
 obtain⟨c1,c2⟩:=hf l x y hy hW1 hv1;refine⟨c1,c2.mono ?_⟩;rintro e1 w' ⟨v',G1,rfl,ee,hlt,hvv⟩;have e2:Ext n0 w G μ w' ((Gd.of G1).with G) μ:={
  good:=λb hb=>⟨(ee.good b hb).1,(ee.good b hb).2⟩
  map:=λ_ _ h=>h
  len:=λ_ _ h=>h
  sh:=λ_ _ _=>rfl
  room:=ee.room
  row:=λ_ _ h=>h
  os:=ee.os
  tape:=ee.tape
  output:=ee.output
  size:=ee.size
  old:=λb hb hn=>ee.old b hb (by
   rintro(h|h)
   ·exact Nat.not_le.2 hb h
   ·exact hn (hmine b h).1)
  new:=λb hb=>by
   rcases ee.new b hb with h|h|h
   ·exact .inl h
   ·exact .inr (hW.base b h)
   ·exact .inr (hmine b h).1 }
 have hold:∀ b,b<w.heap.size->μ.loc r≠some b->w'.heap[b]?=w.heap[b]?/\(G1 b->G b):=λb hb hne =>
  ⟨ee.old b hb (by rintro(h|h); exact Nat.not_le.2 hb h; exact hne h),λhg=>by
   rcases ee.new b hg with h|h|h
   ·exact h
   ·exact absurd hb (Nat.not_lt.2 h)
   ·exact absurd h hne⟩
 have hk2:aO n0 ((Gd.of G1).with G) μ (H.set r none) w':=by
  refine(rP hW r).keep e2 ⟨λ_=>rfl,λj b hj=>hold b (hW.rows.sep j b hj).1 (hrow j b hj)⟩ ?_ hlt;intro s k1 b hs hb;obtain⟨hs,hsr⟩:=sI hs;refine hold b (hW.pK hs hb) λhrb=>?_
  cases hf:k1.frozen with
  | false=>exact hsr (hW.inj s r k1 _ b hs hr hf rfl hb hrb)
  | true =>
   obtain⟨_,_,_,_,h5,_⟩:=hW.blk s k1 b hs hb;exact(hmine b hrb).2 (h5 hf)
 exact⟨v',(Gd.of G1).with G,μ,rfl,e2,hk2,(VR.mono (aUV (g:=G1) (G:=(Gd.of G1).with G) (λb h=>h) (μ:=aG)) _ _ hvv).aV⟩
def a1G(e:TypeId) (t:Ty) (args rets:List Kd) (f:List t.den->aM args->Option (aM rets)) (qs:List PV) (H:Heap):Option aGC:=match qs with
 | .own r sz::ps=>match EY e t (.own r sz) H r with
  | some l=>match aLF args ps with
   | some x=>bif dR.noRefs ps&&dV.noRows ps&&dR.noRefs (kX args x)&&dV.noRows (kX args x)&&t.plain then some ⟨aM rets,f l x,λy=>(XH rets y,H.set r none)⟩ else none
   | none=>none
  | none=>none
 | _=>none
theorem a5P {g e t args rets f}(hf:aTS P g e t args rets f):pV P (g,a1G e t args rets f):=by
 intro qs H rh h y hy n0 G μ w vs hW hv;change a1G e t args rets f qs H=some rh at h;unfold a1G at h;split at h
 next r sz ps=>
  split at h
  next l hl=>
   split at h
   next x hx=>obtain⟨hb,h⟩:=L4 h;simp only[oJ]at h;subst h;simp only[oA]at hb;obtain⟨⟨⟨⟨b1,b2⟩,b3⟩,b4⟩,b5⟩:=hb;obtain⟨h1,h2⟩:=nP hW hl;cases h1;obtain⟨u,us,rfl,q1,q2⟩:=hv;have q3:VRs w G μ (kX args x) us:=(EF args hx (cU _ _ b1 q2)).aV;exact a5E hf hy b5 hW h2 (by rw[VRs]; grind) b3 b4
   ·cases h
  ·cases h
 ·cases h
end
open Go Go.RowKit Go.Proofs Tryz
set_option maxHeartbeats 4000000
abbrev dU:List (Nat×Kd):=[(0,.list (.list (.int .i64))),(1,.list (.int .i64)),(2,.fn 36),(8,.int .i64),(9,.int .i64),(10,.int .i64)]
abbrev iQ:List (Ex×List (Nat×Kd)):=[(.exit 0,[(0,.list (.list (.int .i64))),(1,.list (.int .i64)),(2,.fn 36),(8,.int .i64),(9,.int .i64)])]
def bL(x:Shape.den dU):Option (Shape.den dU⊕cD iQ):=match x with
 | (v0,v1,v2,v8,v9,v10,()) =>
  bif ltI v9 v10 then
   bif aF (IntKind.wrap .i64 (Int.fdiv (IntKind.wrap .u64 (aB .i64 (v9+v10))) (2^(min 1 (IntKind.bits .u64))))) v0.length then aC (kL ((v0.getD ((IntKind.wrap .i64 (Int.fdiv (IntKind.wrap .u64 (aB .i64 (v9+v10))) (2^(min 1 (IntKind.bits .u64))))).toNat) []),v1,())) λy2 =>
   bif ltI y2.1 0 then
    some (.inl (v0,v1,(),v8,(aB .i64 ((IntKind.wrap .i64 (Int.fdiv (IntKind.wrap .u64 (aB .i64 (v9+v10))) (2^(min 1 (IntKind.bits .u64)))))+1)),v10,()))
   else some (.inl (v0,v1,(),v8,v9,(IntKind.wrap .i64 (Int.fdiv (IntKind.wrap .u64 (aB .i64 (v9+v10))) (2^(min 1 (IntKind.bits .u64))))),())) else none
  else some (.inr ((v0,v1,(),v8,v9,())))
def dO(x:Shape.den dU):Option (cD iQ):=aW bL (2^64) x
def cN(x:aM [.list (.list (.int .i64)),.list (.int .i64),.fn 36]):Option (aM [.int .i64,.bool]):=match x with
 | (v0,v1,v2,()) =>
  aC (dO (v0,v1,(),(v0.length:Int),0,(v0.length:Int),())) λz3 =>
  bif ltI z3.2.2.2.2.1 z3.2.2.2.1 then
   bif aF z3.2.2.2.2.1 z3.1.length then aC (kL ((z3.1.getD z3.2.2.2.2.1.toNat []),z3.2.1,())) λy4 =>
   some (z3.2.2.2.2.1,eqI y4.1 0,()) else none
  else some (z3.2.2.2.2.1,false,())
abbrev uE:Ent:=⟨80,[.list (.list (.int .i64)),.list (.int .i64),.fn 36],[.int .i64,.bool],cN⟩
theorem sZ:Ent.OK Tryz.prog uE:=oU (aR (oV HW oW)) func80 3 (lp:=dO) rfl Y (by rintro⟨v0,v1,v2,v8,v9,v10,⟨⟩⟩; kernel_rfl) (by rintro⟨v0,v1,v2,⟨⟩⟩; kernel_rfl)
def nK(x:aM [.list (.int .i64),.ptr (.list (.list (.int .i64))),.ptr (.list (.int .i64))]):Option (aM [.bool]):=match x with
 | (v0,v1,v2,()) =>
  aC (vB (v2,v0,(-1),())) λy1 =>
  aC (cN (v1,y1.1,(),())) λy2 =>
  bif y2.2.1 then
   some (false,())
  else some (true,())
abbrev PH:Ent:=⟨79,[.list (.int .i64),.ptr (.list (.list (.int .i64))),.ptr (.list (.int .i64))],[.bool],nK⟩
theorem K3:Ent.OK Tryz.prog PH:=oI (aR (oV GP (oV sZ oW))) func79 Y (by rintro⟨v0,v1,v2,⟨⟩⟩; kernel_rfl)
abbrev gE:List (Nat×Kd):=[(0,.list (.list (.int .i64))),(1,.clo 79 [(.list (.list (.int .i64))),(.list (.int .i64))]),(7,.int .i64),(8,.int .i64)]
abbrev nF:List (Ex×List (Nat×Kd)):=[(.ret,[(4,.int .i64)]),(.exit 0,[])]
def dJ(x:Shape.den gE):Option (Shape.den gE⊕cD nF):=match x with
 | (v0,v1,v7,v8,()) =>
  bif ltI v8 v7 then
   bif aF v8 v0.length then aC (nK ((v0.getD v8.toNat []),v1.1,v1.2.1,())) λy2 =>
   bif y2.1 then
    some (.inr (.inl (v8,())))
   else some (.inl (v0,(v1.1,v1.2.1,()),v7,(aB .i64 (v8+1)),())) else none
  else some (.inr (.inr ((()))))
def fS(x:Shape.den gE):Option (cD nF):=aW dJ (2^64) x
def eF(x:aM [.list (.list (.int .i64)),.clo 79 [(.list (.list (.int .i64))),(.list (.int .i64))]]):Option (aM [.int .i64]):=match x with
 | (v0,v1,()) =>
  aC (fS (v0,(v1.1,v1.2.1,()),(v0.length:Int),0,())) λz3 =>
  mY z3 (λa4=>some (a4.1,())) λb5 =>
  some ((-1),())
abbrev AR:Ent:=⟨92,[.list (.list (.int .i64)),.clo 79 [(.list (.list (.int .i64))),(.list (.int .i64))]],[.int .i64],eF⟩
theorem yN:Ent.OK Tryz.prog AR:=oU (aR (oV K3 oW)) func92 2 (lp:=fS) rfl Y (by rintro⟨v0,v1,v7,v8,⟨⟩⟩; kernel_rfl) (by rintro⟨v0,v1,⟨⟩⟩; kernel_rfl)
def gC(x:aM [.list (.list (.int .i64)),.clo 79 [(.list (.list (.int .i64))),(.list (.int .i64))]]):Option (aM [.bool]):=match x with
 | (v0,v1,()) =>
  aC (eF (v0,(v1.1,v1.2.1,()),())) λy1 =>
  some (!(ltI y1.1 0),())
abbrev yT:Ent:=⟨58,[.list (.list (.int .i64)),.clo 79 [(.list (.list (.int .i64))),(.list (.int .i64))]],[.bool],gC⟩
theorem wJ:Ent.OK Tryz.prog yT:=oI (aR (oV yN oW)) func58 Y (by rintro⟨v0,v1,⟨⟩⟩; kernel_rfl)
def jX(x:aM [.list (.list (.int .i64)),.list (.list (.int .i64)),.list (.int .i64)]):Option (aM [.bool]):=match x with
 | (v0,v1,v2,()) =>
  aC (gC (v1,(v0,v2,()),())) λy1 =>
  bif y1.1 then
   some (false,())
  else some (true,())
abbrev MP:Ent:=⟨46,[.list (.list (.int .i64)),.list (.list (.int .i64)),.list (.int .i64)],[.bool],jX⟩
theorem GR:Ent.OK Tryz.prog MP:=oI (aR (oV wJ oW)) func46 Y (by rintro⟨v0,v1,v2,⟨⟩⟩; kernel_rfl)
abbrev b8:List (Nat×Kd):=[(0,.own 39 (.list (.int .i64))),(1,.fn 41),(5,.int .i64),(6,.win 0 1),(7,.int .i64)]
abbrev cO:List (Ex×List (Nat×Kd)):=[(.exit 2,[(0,.own 39 (.list (.int .i64))),(5,.int .i64)])]
def cH(x:Shape.den b8):Option (Shape.den b8⊕cD cO):=match x with
 | (v0,v1,v5,v6,v7,()) =>
  bif ltI v7 ((v6.2:Nat):Int) then
   bif aF v7 v6.2 then bif Nat.blt (v6.1+v7.toNat) v0.length then bif aF (aB .i64 (v7-1)) v6.2 then bif Nat.blt (v6.1+(aB .i64 (v7-1)).toNat) v0.length then aC (BL ((v0.getD (v6.1+v7.toNat) []),(v0.getD (v6.1+(aB .i64 (v7-1)).toNat) []),())) λy3 =>
   bif y3.1 then
    some (.inl (v0,(),v5,(v6.1,v6.2),(aB .i64 (v7+1)),()))
   else bif aF v7 v6.2 then bif Nat.blt (v6.1+v7.toNat) v0.length then bif aF v5 v0.length then bif Nat.blt v5.toNat v0.length then some (.inl ((v0.set v5.toNat (v0.getD (v6.1+v7.toNat) [])),(),(aB .i64 (v5+1)),(v6.1,v6.2),(aB .i64 (v7+1)),())) else none else none else none else none else none else none else none else none
  else some (.inr ((v0,v5,())))
def cI(x:Shape.den b8):Option (cD cO):=aW cH (2^64) x
abbrev bZ:List (Nat×Kd):=[(0,.own 39 (.list (.int .i64))),(1,.fn 41),(5,.int .i64)]
abbrev cP:List (Ex×List (Nat×Kd)):=[(.ret,[(0,.own 39 (.list (.int .i64))),(4,.win 0 1)]),(.exit 0,[(0,.own 39 (.list (.int .i64)))])]
def bD(x:Shape.den bZ):Option (Shape.den bZ⊕cD cP):=match x with
 | (v0,v1,v5,()) =>
  bif ltI v5 (v0.length:Int) then
   bif aF v5 v0.length then bif Nat.blt v5.toNat v0.length then bif aF (aB .i64 (v5-1)) v0.length then bif Nat.blt ((aB .i64 (v5-1)).toNat) v0.length then aC (BL ((v0.getD v5.toNat []),(v0.getD ((aB .i64 (v5-1)).toNat) []),())) λy5 =>
   bif y5.1 then
    bif !(ltI v5 0) then bif Nat.ble v5.toNat v0.length then bif Nat.ble v0.length v0.length then bif Nat.blt v5.toNat v0.length then aC (cI (v0,(),v5,(v5.toNat,(v0.length-v5.toNat)),1,())) λz6 =>
    bif !(ltI z6.2.1 0) then bif Nat.ble z6.2.1.toNat z6.1.length then bif Nat.ble z6.1.length z6.1.length then bif Nat.blt z6.2.1.toNat z6.1.length then bif Nat.ble (z6.2.1.toNat+(z6.1.length-z6.2.1.toNat)) z6.1.length then bif !(ltI z6.2.1 0) then bif Nat.ble 0 z6.2.1.toNat then bif Nat.ble z6.2.1.toNat ((clr z6.1 z6.2.1.toNat (z6.1.length-z6.2.1.toNat) []).length) then bif Nat.blt 0 ((clr z6.1 z6.2.1.toNat (z6.1.length-z6.2.1.toNat) []).length) then some (.inr (.inl ((clr z6.1 z6.2.1.toNat (z6.1.length-z6.2.1.toNat) []),(0,(z6.2.1.toNat-0)),()))) else none else none else none else none else none else none else none else none else none else none else none else none else none
   else some (.inl (v0,(),(aB .i64 (v5+1)),())) else none else none else none else none
  else some (.inr (.inr ((v0,()))))
def cG(x:Shape.den bZ):Option (cD cP):=aW bD (2^64) x
def bO(v0:List (List Int))(x:aM [.fn 41]):Option (aM [.list (.list (.int .i64))]):=match x with
 | (v1,()) =>
  bif ltI (v0.length:Int) 2 then
   some (v0,())
  else aC (cG (v0,(),1,())) λz7 =>
  mY z7 (λa8=>some (((a8.1.drop a8.2.1.1).take a8.2.1.2),())) λb9 =>
  some (b9.1,())
def eZ:Code:=cQ f38
abbrev fA:Env:=DW [aFH]
theorem iB:eS Tryz.prog fA:=aR ⟨UZ,trivial⟩
def c8:Code:=iH eZ 0
def iO:Code:=iH c8 0
def eI(id:Nat):Option eE:=bif Nat.beq id 9 then some ⟨b8,cO,cI⟩ else bif Nat.beq id 4 then some ⟨bZ,cP,cG⟩ else none
theorem xF:∀ x,jQ Tryz.prog fA 66 (aP f38) eI iO b8 cO x=cH x:=by
 rintro⟨v0,v1,v5,v6,v7,⟨⟩⟩
 kernel_rfl
theorem yK:eJ Tryz.prog 66 iO ⟨b8,cO,cI⟩:=fG iB.callee aZ.mixed _ (aQ (l:=[]) Y trivial) xF
theorem xK:∀ x,jQ Tryz.prog fA 66 (aP f38) eI c8 bZ cP x=bD x:=by
 rintro⟨v0,v1,v5,⟨⟩⟩
 kernel_rfl
theorem zK:bB c8=[iO]:=Y
theorem yO:eJ Tryz.prog 66 c8 ⟨bZ,cP,cG⟩:=fG iB.callee aZ.mixed _ (aQ zK ⟨fB (i:=9) Y rfl yK,trivial⟩) xK
theorem yZ:bB eZ=[c8]:=Y
theorem zU:∀ l x,a6P Tryz.prog fA f38 (aP f38) eI eZ 39 (.list (.int .i64)) [.fn 41] [.list (.list (.int .i64))] l x=bO l x:=by
 rintro v0 ⟨v1,⟨⟩⟩
 kernel_rfl
theorem BQ:aTS Tryz.prog 38 39 (.list (.int .i64)) [.fn 41] [.list (.list (.int .i64))] bO:=a9N aZ iB func38 (c:=eZ) Y (keep:=aP f38) (lt:=eI) (by rfl) (aQ yZ ⟨fB (i:=4) Y rfl yO,trivial⟩) zU
abbrev jP:Shr:=(38,a1G 39 (.list (.int .i64)) [.fn 41] [.list (.list (.int .i64))] bO)
theorem o5:pV Tryz.prog jP:=a5P BQ
abbrev yF:List (Nat×Kd):=[(0,.list (.list (.int .i64))),(3,.list (.list (.int .i64))),(4,.int .i64)]
abbrev HE:List (Ex×List (Nat×Kd)):=[(.exit 0,[(3,.list (.list (.int .i64)))])]
def qC(x:Shape.den yF):Option (Shape.den yF⊕cD HE):=match x with
 | (v0,v3,v4,()) =>
  bif ltI v4 (v0.length:Int) then
   bif aF v4 v0.length then aC (vN ((v0.getD v4.toNat []),())) λy5 =>
   bif y5.1 then
    some (.inl (v0,v3,(aB .i64 (v4+1)),()))
   else bif aF v4 v0.length then bif Nat.ble (v0.getD v4.toNat []).length 1048576 then aC (iW (v3,(v0.getD v4.toNat []),())) λy6 =>
   bif aF v4 v0.length then bif !(ltI ((v0.getD v4.toNat []).length:Int) 0) then bif !(ltI ((v0.getD v4.toNat []).length:Int) ((v0.getD v4.toNat []).length:Int)) then bif !(ltI 1048576 ((v0.getD v4.toNat []).length:Int)) then bif aF v4 v0.length then aC (uG ((List.replicate (((v0.getD v4.toNat []).length:Int).toNat) (0:Ty.den (.int .i64))),(v0.getD v4.toNat []),())) λy7 =>
   aC (iW (y6.1,y7.1,())) λy8 =>
   some (.inl (v0,y8.1,(aB .i64 (v4+1)),())) else none else none else none else none else none else none else none else none
  else some (.inr ((v3,())))
def vY(x:Shape.den yF):Option (cD HE):=aW qC (2^64) x
def wD(x:aM [.list (.list (.int .i64))]):Option (aM [.list (.list (.int .i64))]):=match x with
 | (v0,()) =>
  aC (vY (v0,[],0,())) λz9 =>
  some (z9.1,())
abbrev LA:Ent:=⟨14,[.list (.list (.int .i64))],[.list (.list (.int .i64))],wD⟩
theorem VX:Ent.OK Tryz.prog LA:=oU (aR (oV I7 (oV J6 (oV ZW oW)))) func14 3 (lp:=vY) rfl Y (by rintro⟨v0,v3,v4,⟨⟩⟩; kernel_rfl) (by rintro⟨v0,⟨⟩⟩; kernel_rfl)
end Go.PM
namespace Go.Proofs
open Go.Shelf Tryz
def Tryz.aUM:Go.Shelf.Ren:=⟨fun|6=>66|14=>96|15=>97|20=>123|21=>124|22=>125|23=>126|24=>127|25=>128|26=>129|27=>130|28=>131|29=>132|46=>157|47=>158|48=>159|49=>160|50=>161|57=>178|n=>n,fun|22=>25|24=>39|25=>80|3=>3|39=>137|0=>0|53=>170|55=>172|4=>4|46=>164|45=>163|50=>75|5=>5|9=>9|66=>195|70=>199|76=>221|77=>222|n=>n,fun|n=>n⟩
theorem Tryz.a84:Go.Proofs.SlLaysF.n6 Tryz.prog Tryz.aUM:={
 mixed:=Y
 f6:=⟨f66.name,by decide,func66.trans U⟩
 f14:=⟨f96.name,by decide,func96.trans U⟩
 f15:=func97.trans U
 f20:=⟨f123.name,by decide,func123.trans U⟩
 f21:=⟨f124.name,by decide,func124.trans U⟩
 f22:=⟨f125.name,by decide,func125.trans U⟩
 f23:=⟨f126.name,by decide,func126.trans U⟩
 f24:=⟨f127.name,by decide,func127.trans U⟩
 f25:=⟨f128.name,by decide,func128.trans U⟩
 f26:=⟨f129.name,by decide,func129.trans U⟩
 f27:=⟨f130.name,by decide,func130.trans U⟩
 f28:=func131.trans U
 f29:=func132.trans U
 f46:=⟨f157.name,by decide,func157.trans U⟩
 f47:=func158.trans U
 f48:=func159.trans U
 f49:=⟨f160.name,by decide,func160.trans U⟩
 f50:=⟨f161.name,by decide,func161.trans U⟩
 f57:=⟨f178.name,by decide,func178.trans U⟩
 t0:=underlying0
 a0:=isAgg0
 z0:=sizeOf0
 v0:=zeroValue0
 t3:=underlying3
 a3:=isAgg3
 z3:=sizeOf3
 v3:=zeroValue3
 t4:=underlying4
 a4:=isAgg4
 z4:=sizeOf4
 v4:=zeroValue4
 t5:=underlying5
 a5:=isAgg5
 z5:=sizeOf5
 v5:=zeroValue5
 t9:=underlying9
 a9:=isAgg9
 z9:=sizeOf9
 v9:=zeroValue9
 t22:=underlying25
 a22:=isAgg25
 z22:=sizeOf25
 v22:=zeroValue25
 a24:=isAgg39
 z24:=sizeOf39
 t25:=underlying80
 a25:=isAgg80
 z25:=sizeOf80
 v25:=zeroValue80
 t39:=underlying137
 a39:=isAgg137
 z39:=sizeOf137
 v39:=zeroValue137
 t45:=underlying163
 a45:=isAgg163
 z45:=sizeOf163
 v45:=zeroValue163
 t46:=underlying164
 a46:=isAgg164
 z46:=sizeOf164
 v46:=zeroValue164
 t50:=underlying75
 a50:=isAgg75
 z50:=sizeOf75
 v50:=zeroValue75
 t53:=underlying170
 a53:=isAgg170
 z53:=sizeOf170
 v53:=zeroValue170
 t55:=underlying172
 a55:=isAgg172
 z55:=sizeOf172
 v55:=zeroValue172
 t66:=underlying195
 a66:=isAgg195
 z66:=sizeOf195
 v66:=zeroValue195
 t70:=underlying199
 a70:=isAgg199
 z70:=sizeOf199
 v70:=zeroValue199
 t76:=underlying221
 a76:=isAgg221
 z76:=sizeOf221
 v76:=zeroValue221
 t77:=underlying222
 a77:=isAgg222
 z77:=sizeOf222
 v77:=zeroValue222 }
open Go.RowKit Go.Lib Go.Sort in
theorem Tryz.slices_SortFunc {α:Type} [Inhabited α] (enc:α->Value) (h1:OneCell enc) (cf:α->α->Int) (hO:SWO (ltOf cf)) (g:Nat) (cb:Array Value) (blk off cap:Nat) (d:Array α) (w:World) (eg:∀ args w,(callFunc g args).run Tryz.prog w=.ok (.enter g args) w) (hcmp:CmpLays1 Tryz.prog g cb enc cf blk off d.size w) (hH:Holds enc w blk off d) (hblk:blk<w.heap.size) (hsz:d.size<4611686018427387904) :
  Calls Tryz.prog 66 #[.slice (some ⟨blk,off,none⟩) d.size cap,.func (.func g) #[] cb] w λe w' =>
   e=.returned (.tuple #[])/\∃ d' n os,PermIn 0 d.size d d'/\SortedIn (ltOf cf) 0 d.size d'/\w'=sortWorld enc w blk off n d' os:=Any.slices_SortFunc Tryz.a84 enc h1 cf hO g cb blk off cap d w eg hcmp hH hblk hsz
end Go.Proofs
namespace Go.PM
open Go Go.RowKit
def ins(x:Int):List Int->List Int
 | []=>[x]
 | y::l=>bif ltI y x then y::ins x l else x::y::l
theorem a7F x:∀ l,List.Perm (ins x l) (x::l)
 | []=>.refl _
 | y::l=>by
  unfold ins;cases ltI y x with
  | true=>exact((a7F x l).cons y).trans (.swap x y l)
  | false=>rfl
section
variable {P:Program} {n0:Nat->Prop} {w:World} {G:Gd} {μ:Mp} {H:Heap}
theorem a1M:∀ (l:List Int),aI (.int .i64) l=l.map λn=>PV.lit (.int .i64 n)
 | []=>rfl
 | x::l=>by rw[qP,a1M l]; rfl
theorem a4J(hW:aO n0 G μ H w) os:Ext n0 w G μ (Sort.grow w os) G μ/\aO n0 G μ H (Sort.grow w os):=by
 have hg:∀ b,b<w.heap.size->(Sort.grow w os).heap[b]?=w.heap[b]?:=λb hb=>by
  show (w.heap++os)[b]?=_;grind
 have e:Ext n0 w G μ (Sort.grow w os) G μ:={
  good:=λb hb=>⟨hb,hg b (hW.lt b hb)⟩
  map:=λ_ _ h=>h
  len:=λ_ _ h=>h
  room:=λb n hb=>by
   obtain⟨c,t,fr,h1,h2⟩:=hb;exact⟨c,t,fr,by grind,h2⟩
  row:=λ_ _ h=>h
  os:=rfl
  tape:=rfl
  output:=rfl
  size:=R
  old:=λb hb _=>hg b hb
  new:=λb hb=>.inl hb }
 refine⟨e,hW.keep e ⟨λ_=>rfl,λj b hj=>⟨hg b (hW.rows.sep j b hj).1,id⟩⟩ (λr k b hr hb=>⟨hg b (hW.pK hr hb),id⟩) λb hb=>Nat.lt_of_lt_of_le (hW.lt b hb) e.size⟩
end
def a0I {α:Type} (lt:α->α->Bool) (x:α):List α->List α
 | []=>[x]
 | y::l=>bif lt y x then y::a0I lt x l else x::y::l
def aEN {α}(lt:α->α->Bool):List α->List α
 | []=>[]
 | x::l=>a0I lt x (aEN lt l)
structure LO {α:Type} (D:α->Bool) (lt:α->α->Bool):Prop where
 irrefl:∀ x,D x=true->lt x x=false
 trans:∀ x y z,D x=true->D y=true->D z=true->lt x y=true->lt y z=true->lt x z=true
 ntrans:∀ x y z,D x=true->D y=true->D z=true->lt x y=false->lt y z=false->lt x z=false
 anti:∀ x y,D x=true->D y=true->lt x y=false->lt y x=false->x=y
section
variable {α:Type} {D:α->Bool} {lt:α->α->Bool}
theorem aIO x:∀ l,List.Perm (a0I lt x l) (x::l)
 | []=>.refl _
 | y::l=>by
  unfold a0I;cases lt y x with
  | true=>exact((aIO x l).cons y).trans (.swap x y l)
  | false=>rfl
theorem IK:∀ l ,List.Perm (aEN lt l) l
 | []=>.refl _
 | x::l=>(aIO x (aEN lt l)).trans ((IK l).cons x)
theorem aKV(h:LO D lt) x (hx:D x=true):∀ l ,(∀ y∈l,D y=true)->l.Pairwise (λa b=>lt b a=false)->(a0I lt x l).Pairwise (λa b=>lt b a=false)
 | [],_,_=>by simp[a0I]
 | y::l,hd,hs=>by
  have⟨h1,h2⟩:=List.pairwise_cons.1 hs;have hy:=hd y R;unfold a0I;cases hb:lt y x with
  | true =>
   refine List.pairwise_cons.2 ⟨λz hz=>?_,aKV h x hx l (λz hz=>hd z W) h2⟩;rcases List.mem_cons.1 ((aIO x l).mem_iff.1 hz)with rfl|hz
   ·cases hc:lt z y with
    | false=>rfl
    | true=>have:=h.trans z y z hx hy hx hc hb; rw[h.irrefl z hx]at this; grind
   grind
  | false =>
   refine List.pairwise_cons.2 ⟨λz hz=>?_,hs⟩;rcases List.mem_cons.1 hz with rfl|hz
   ·omega
   ·exact h.ntrans z y x (hd z W) hy hx (h1 z hz) hb
theorem TT(h:LO D lt):∀ l ,(∀ y∈l,D y=true)->(aEN lt l).Pairwise (λa b=>lt b a=false)
 | [],_=>.nil
 | x::l,hd=>aKV h x (hd x R) _ (λy hy=>hd y (by simp[(IK l).mem_iff.1 hy])) (TT h l λy hy=>hd y W)
theorem aVP(h:LO D lt){l l'}(hd:∀ y∈l,D y=true)(hp:List.Perm l' l)(hs:l'.Pairwise (λa b=>lt b a=false)):aEN lt l=l':=by
 refine List.Perm.eq_of_pairwise (λa b ha hb h1 h2=>?_) (TT h l hd) hs ((IK l).trans hp.symm);exact h.anti a b (hd a ((IK l).mem_iff.1 ha)) (hd b (hp.mem_iff.1 hb)) h2 h1
theorem aXR l:(aEN lt l).length=l.length:=(IK l).length_eq
end
section
variable {P:Program} {n0:Nat->Prop} {w w':World} {G G':Gd} {μ μ':Mp} {H:Heap}
structure El (t:Ty) where
 l:List t.den
 ao:Option Addr
 cap:Nat
def El.v {t}(e:El t):Value:=.slice e.ao e.l.length e.cap
def Y2 {t}(w:World)(G:Gd)(D:List t.den->Bool)(e:El t):Prop:=D e.l=true/\VR w G aG (q9 t e.l none) e.v
theorem bF6 {t l v}(h:VR w G aG (q9 t l none) v):∃ e:El t,e.l=l/\e.v=v:=by
 unfold q9 at h;obtain⟨h,-⟩:=h;obtain⟨ao,c,rfl,-⟩:=h;exact⟨⟨l,ao,c⟩,rfl,rfl⟩
theorem aM5 {t}:∀ (l:List (List t.den)),aI (.list t) l=l.map λx=>q9 t x none
 | []=>rfl
 | x::l=>by rw[qP,aM5 l]; rfl
def aI2 {t:Ty}(D:List t.den->Bool)(lt:List t.den->List t.den->Bool)(l:List (List t.den)):Option (List (List t.den)):=bif Nat.blt 0 l.length&&Nat.blt l.length 4611686018427387904&&l.all D then some (aEN lt l) else none
def aJI(t:Ty)(ck:Kd)(D:List t.den->Bool)(lt:List t.den->List t.den->Bool)(args:List PV)(H:Heap):Option aGC:=match args with
 | [.own r sz,p]=>match gS H r with
  | some k=>match k.tag with
   | some g=>match AY g.t (.list t) g.l with
    | some l=>match aDM ck p [] 0 with
     | some _=>bif Nat.beq sz 1&&!k.frozen then some ⟨List (List t.den),aI2 D lt l,λl'=>(.tuple [],H.set r (some ⟨aI (.list t) l',k.ty,k.grown,false,some ⟨.list t,l'⟩⟩))⟩ else none
     | none=>none
    | none=>none
   | none=>none
  | none=>none
 | _=>none
def a8U(P:Program) (g2:FuncId) (t:Ty) (D:List t.den->Bool) (cf:List t.den->List t.den->Int):Prop :=
 ∀ (w:World) (G:Nat->Prop) (x y:List t.den) (vx vy:Value),Lt w G->D x=true->D y=true->VR w (Gd.of G) aG (q9 t x none) vx->VR w (Gd.of G) aG (q9 t y none) vy ->
  Calls P g2 #[vx,vy] w λe w'=>e=.returned (.int .i64 (cf x y))/\∃ q os',w'=Sort.grow (w.drewN q) os'
theorem a5D {g g2 t} (hpl:t.plain=true) {ck} (hck:ck=.fn g2\/ck=.clo g2 []) {D cf} 
  (hLO:LO D λx y=>decide (cf x y<0)) (hf:a8U P g2 t D cf)
  (henter:∀ xs w,(callFunc g xs).run P w=.ok (.enter g xs) w) (eg:∀ xs w,(callFunc g2 xs).run P w=.ok (.enter g2 xs) w)
  (hS:∀ {α} [Inhabited α] enc (h1:Proofs.OneCell enc) cf (hO:Sort.SWO (Proofs.ltOf cf)) cb blk off cap (d:Array α) w (hcmp:Proofs.CmpLays1 P g2 cb enc cf blk off d.size w) (hH:Sort.Holds enc w blk off d) (hblk:blk<w.heap.size) (hsz:d.size<4611686018427387904),
   Calls P g #[.slice (some ⟨blk,off,none⟩) d.size cap,.func (.func g2) #[] cb] w λe w'=>e=.returned (.tuple #[])/\∃ d' n os,Sort.PermIn 0 d.size d d'/\Sort.SortedIn (Proofs.ltOf cf) 0 d.size d'/\w'=Proofs.sortWorld enc w blk off n d' os) :
  pV P (g,aJI t ck D (λx y=>decide (cf x y<0))):=by
 intro args H rh h y hy n0 G μ w us hW hv;change aJI t ck D (λx y=>decide (cf x y<0)) args H=some rh at h;show vG P n0 w G μ g us.toArray (rh.out y).1 (rh.out y).2;unfold aJI at h;split at h
 next r sz p=>
  split at h
  next k hk=>
   split at h
   ·rename_i gg hg;split at h
    ·rename_i l hl;split at h
     ·rename_i pk hpk;obtain⟨hb,h⟩:=L4 h;simp only[oA,Bool.not_eq_true']at hb;have hfz:=hb.2;replace hb:=oE hb.1;simp only[oJ]at h;subst h;subst hb;unfold aI2 at hy;obtain⟨hlen,hy⟩:=aJ hy;simp only[oJ]at hy;subst hy;simp only[oA]at hlen;obtain⟨⟨hl0,hlen⟩,hall⟩:=hlen;have hl0:=fX hl0;have hlen:=fX hlen;obtain⟨gt,gl⟩:=gg;obtain⟨e0,he⟩:=lF hl;dsimp only at e0 he;subst e0;dsimp only at he;subst he;clear hl
      dsimp only at hl0 hlen hall hg ⊢;obtain⟨hcells,hmlen⟩:=hW.tags r k _ (aH hk) hg;dsimp only at hcells hmlen;have hD:∀ x∈gl,D x=true:=List.all_eq_true.1 hall;rw[VRs]at hv;obtain⟨v,us1,rfl,h1,h2⟩:=hv;rw[VRs]at h2;obtain⟨pv,us2,rfl,h2,h3⟩:=h2;rw[VRs]at h3;subst h3;have hpv:pv=.func (.func g2) #[] #[]:=by
       rcases hck with rfl|rfl
       ·have:=UD (g:=g2) (p:=p) hpk;rw[this,VR]at h2;exact h2
       ·have:=QI (g:=g2) (ts:=[]) (p:=p) hpk h2;rw[VR]at this;obtain⟨fs,cs,e1,e2,e3⟩:=this;simp only[ZX]at e3;rw[VRs]at e2 e3;rw[e1]
        congr 1
        ·exact Array.ext' (by simpa using e2)
        ·exact Array.ext' (by simpa using e3)
      subst hpv;rw[VR]at h1;obtain⟨n,h3,h4⟩:=h1;rw[hmlen]at h3;cases h3;rcases h4 with ⟨h5,ao,rfl⟩|⟨b,c,h5,rfl,h7,h8,h9s⟩
      ·omega
      refine⟨henter _ _,?_⟩;obtain⟨cc,a1,a2,a3,_,a5⟩:=hW.blk r k b (aH hk) h5;have hnG:=(a5 hfz).2;rw[hcells,aM5,h9s]at a2;rw[h9s];have each:∀ i (hi:i<gl.length),∃ e:El t,Y2 w (Gd.of G.ok) D e/\e.l=gl[i]/\w.cell? ⟨b,i,none⟩=some e.v:=λi hi=>by
       obtain⟨v,b1,b2⟩:=a2.get (i:=i) (p:=q9 t gl[i] none) (by simp[hi]);have b2:VR w (Gd.of G.ok) aG (q9 t gl[i] none) v:=EX (G:=G) (G':=Gd.of G.ok) (λb h=>h) aG _ v hpl (nC _ _ rfl b2);obtain⟨e,e1,e2⟩:=bF6 b2;rw[Nat.zero_add]at b1;refine⟨e,⟨?_,?_⟩,e1,?_⟩
       ·rw[e1]; exact hD _ (List.getElem_mem hi)
       ·rw[e1,e2]; exact b2
       ·rw[e2]; exact b1
      obtain⟨x0,x0ok,_⟩:=each 0 hl0;have inst:Inhabited {e:El t // Y2 w (Gd.of G.ok) D e}:=⟨⟨x0,x0ok⟩⟩;have each2:∀ i,∃ e:{e:El t // Y2 w (Gd.of G.ok) D e},∀ hi:i<gl.length,e.1.l=gl[i]/\w.cell? ⟨b,i,none⟩=some e.1.v:=λi=>by
       by_cases hi:i<gl.length
       ·obtain⟨e,e1,e2⟩:=each i hi;exact⟨⟨e,e1⟩,λ_=>e2⟩
       ·exact⟨default,λh=>absurd h hi⟩
      obtain⟨f,hfx⟩:=Classical.axiomOfChoice each2;obtain⟨d,hd⟩:∃ d:Array {e:El t // Y2 w (Gd.of G.ok) D e},d=((List.range gl.length).map f).toArray:=⟨_,rfl⟩;have hds:d.size=gl.length:=by rw[hd]; simp
      have hdg:∀ i,i<gl.length->d[i]! =f i:=λi hi=>by
       rw[getElem!_pos d i Z];simp[hd]
      have hcs:gl.length<=cc.size:=by
       rcases oG cc.size gl.length with hlt|hge
       ·have:=(hfx cc.size hlt).2;simp[World.cell?,a1]at this
       ·exact hge
      have hT:∀ (m:Nat) (dk:Array {e:El t // Y2 w (Gd.of G.ok) D e}),SO { w with drawn:=w.drawn+m } (Sort.putRow (λx=>x.1.v) (Sort.ahead w m) b 0 dk) b (Sort.putCells (λx=>x.1.v) 0 dk cc) k.ty:=λm dk=>{
       at_:=by
        show (w.heap.modify b _)[b]?=_;rw[Array.getElem?_modify,if_pos rfl,a1]; rfl
       other:=λx hx=>by
        show (w.heap.modify b _)[x]?=_;rw[Array.getElem?_modify,if_neg (Ne.symm hx)]
       os:=rfl
       tape:=rfl
       output:=rfl
       size:=by show (w.heap.modify b _).size=_; simp
       drawn:=rfl }
      have hps:∀ dk:Array {e:El t // Y2 w (Gd.of G.ok) D e},(Sort.putCells (λx=>x.1.v) 0 dk cc).size=cc.size:=λdk=>by simp[Sort.putCells]
      have e12:∀ (m:Nat) (dk:Array {e:El t // Y2 w (Gd.of G.ok) D e}),Ext n0 w G μ (Sort.putRow (λx=>x.1.v) (Sort.ahead w m) b 0 dk) G μ:=λm dk =>
       (aHN (n0:=n0) (w:=w) (G:=G) (μ:=μ) (Nat.le_add_right w.drawn m)).trans (BN (WJ hW (w.drawn+m)) (aH hk) hfz h5 (c:=cc) (by exact a1) (hT m dk) (hps dk))
      have growE:∀ {w1:World} (os:Array Obj),(∀ b,G b->b<w1.heap.size)->Ext n0 w1 G μ (Sort.grow w1 os) G μ:=λ{w1} os hlt=>by
       have hgr:∀ b,b<w1.heap.size->(Sort.grow w1 os).heap[b]?=w1.heap[b]?:=λb hb=>by
        show (w1.heap++os)[b]?=_;rw[Array.getElem?_append_left hb]
       exact {
        good:=λb hb=>⟨hb,hgr b (hlt b hb)⟩
        map:=λ_ _ h=>h
        len:=λ_ _ h=>h
        row:=λ_ _ h=>h
        room:=λb n hb=>by
         obtain⟨c,t,fr,h1,h2⟩:=hb;exact⟨c,t,fr,by rw[hgr b (kM h1)]; exact h1,h2⟩
        os:=rfl
        tape:=rfl
        output:=rfl
        size:=by show _<=(w1.heap++os).size; simp
        old:=λb hb _=>hgr b hb
        new:=λb hb=>.inl hb }
      have hlt1:∀ (m:Nat) (dk:Array {e:El t // Y2 w (Gd.of G.ok) D e}) b',G b'->b'<(Sort.putRow (λx:{e:El t // Y2 w (Gd.of G.ok) D e}=>x.1.v) (Sort.ahead w m) b 0 dk).heap.size:=λm dk b' hb'=>Nat.lt_of_lt_of_le (hW.lt b' hb') (e12 m dk).size
      have e123:∀ (m:Nat) (dk:Array {e:El t // Y2 w (Gd.of G.ok) D e}) (os:Array Obj),Ext n0 w G μ (Proofs.sortWorld (λx:{e:El t // Y2 w (Gd.of G.ok) D e}=>x.1.v) w b 0 m dk os) G μ:=λm dk os=>(e12 m dk).trans (growE os (hlt1 m dk))
      have hH:Sort.Holds (λx:{e:El t // Y2 w (Gd.of G.ok) D e}=>x.1.v) w b 0 d:=by
       intro j hj;refine⟨?_,by simp[World.frozen?,a1]⟩;rw[Nat.zero_add,hdg j Z];exact(hfx j Z).2
      have hO:Sort.SWO (Proofs.ltOf λx y:{e:El t // Y2 w (Gd.of G.ok) D e}=>cf x.1.l y.1.l) :=
       ⟨λx=>hLO.irrefl _ x.2.1,λx y z=>hLO.trans _ _ _ x.2.1 y.2.1 z.2.1,λx y z=>hLO.ntrans _ _ _ x.2.1 y.2.1 z.2.1⟩
      have hcmp:Proofs.CmpLays1 P g2 #[] (λx:{e:El t // Y2 w (Gd.of G.ok) D e}=>x.1.v) (λx y=>cf x.1.l y.1.l) b 0 d.size w:=by
       intro m os dk _ x y;have eW:=e123 m dk os;have mono0:Mono w (Gd.of G.ok) aG (Proofs.sortWorld (λx:{e:El t // Y2 w (Gd.of G.ok) D e}=>x.1.v) w b 0 m dk os) (Gd.of G.ok) aG:=⟨λb hb=>⟨hb,(eW.good b hb).2⟩,λ_ _ h=>h,λ_ _ h=>h,eW.room,λ_ _ h=>h,λ_ _ _=>rfl⟩;have hx:=VR.mono mono0 _ _ x.2.2;have hy:=VR.mono mono0 _ _ y.2.2;have hlt:Lt (Proofs.sortWorld (λx:{e:El t // Y2 w (Gd.of G.ok) D e}=>x.1.v) w b 0 m dk os) G.ok:=hW.lt.step (λb hb=>⟨hb,(eW.good b hb).2⟩) λb' hb'=>Nat.lt_of_lt_of_le (hW.lt b' hb') eW.size
       exact hf _ G.ok x.1.l y.1.l _ _ hlt x.2.1 y.2.1 hx hy
      have hcall:=hS (λx:{e:El t // Y2 w (Gd.of G.ok) D e}=>x.1.v) (λ_=>rfl) (λx y=>cf x.1.l y.1.l) hO #[] b 0 c d w hcmp hH (kM a1) Z;rw[hds]at hcall;refine hcall.mono ?_;rintro e w' ⟨rfl,d',m,os,⟨hp1,-,hp3⟩,hs,rfl⟩;have hd's:d'.size=gl.length:=by rw[hp1,hds]
      -- the lists,sorted
      have hgl:d.toList.map (λx=>x.1.l)=gl:=by
       apply List.ext_getElem
       ·simp[hds]
       ·intro i h1 h2;have:=hdg i h2;rw[getElem!_pos d i Z]at this;simp only[List.getElem_map,Array.getElem_toList,this];exact(hfx i h2).1
      have hperm:List.Perm (d'.toList.map λx=>x.1.l) gl:=by
       rw[<- hgl];refine List.Perm.map _ ?_;have q1:d'.extract 0 gl.length=d':=by rw[<- hd's]; simp
       have q2:d.extract 0 gl.length=d:=by rw[<- hds]; simp
       rw[q1,q2]at hp3;exact hp3
      have hsort:(d'.toList.map λx=>x.1.l).Pairwise (λa b=>decide (cf b a<0)=false):=by
       refine List.pairwise_map.2 (List.pairwise_iff_getElem.2 λi j hi hj hij=>?_);have:=hs i j (Nat.zero_le _) hij (by simpa[hd's]using hj);rw[getElem!_pos d' i (by simpa using hi),getElem!_pos d' j (by simpa using hj)]at this;simpa[Proofs.ltOf]using this
      have hL:aEN (λx y=>decide (cf x y<0)) gl=d'.toList.map λx=>x.1.l:=aVP hLO hD hperm hsort
      have hLl:(d'.toList.map λx=>x.1.l).length=gl.length:=by simp[hd's]
      rw[hL];have hnew:∀ i (hi:i<d'.size),(Sort.putCells (λx:{e:El t // Y2 w (Gd.of G.ok) D e}=>x.1.v) 0 d' cc)[i]?=some d'[i].1.v:=λi hi=>by
       have h9:i<cc.size:=Z
       simp only[Sort.putCells,Array.getElem?_mapIdx,Array.getElem?_eq_getElem h9,Option.map_some,Nat.zero_le,true_and,Nat.zero_add,hi,if_true,Nat.sub_zero];rw[getElem!_pos _ i hi]
      have hkk:aL (Sort.putRow (λx:{e:El t // Y2 w (Gd.of G.ok) D e}=>x.1.v) (Sort.ahead w m) b 0 d') G μ b 0 (aI (.list t) (d'.toList.map λx=>x.1.l)):=by
       rw[aM5,List.map_map];refine aL.mk λi p hp=>?_
       rw[List.getElem?_map]at hp;cases hi:d'.toList[i]? with
       | none=>rw[hi]at hp; cases hp
       | some x =>
        rw[hi]at hp;simp only[Option.map_some,oJ,Function.comp_apply]at hp;subst hp;obtain⟨hlt,hx⟩:=oO.1 hi;have hlt':i<d'.size:=by simpa using hlt
        refine⟨x.1.v,?_,(VR.mono (e12 m d').toMono.aG _ _ (EX (G:=Gd.of G.ok) (G':=G) (λb h=>h) aG (q9 t x.1.l none) _ hpl x.2.2)).aV⟩;simp only[World.cell?,(hT m d').at_,Nat.zero_add];have:=hnew i hlt';rw[<- hx];simpa using this
      have w1:=WJ hW (w.drawn+m);have w2:=D6 w1 (aH hk) hfz h5 (c:=cc) (k':=⟨aI (.list t) (d'.toList.map λx=>x.1.l),k.ty,k.grown,false,some ⟨.list t,d'.toList.map λx=>x.1.l⟩⟩) (by exact a1) (hT m d') (hps d') rfl (by rw[h9s]; exact hkk)
       (λhgr=>by rw[hps,a3 hgr,hcells,bI,bI,hLl])
       (λg hg=>by cases hg; exact⟨rfl,by rw[hmlen,hLl]⟩)
       (λt l h1 h2=>by cases h2)
      obtain⟨e3,w3⟩:=a4J w2 os;refine⟨_,G,μ,rfl,(e12 m d').trans e3,w3,?_⟩;rw[VR]; exact⟨#[],rfl,by rw[VRs]⟩
     ·cases h
    ·cases h
   ·cases h
  ·cases h
 ·cases h
end
end Go.PM
namespace Go.PM
def cmpL:List Int->List Int->Int
 | [],[]=>0
 | [],_::_=>-1
 | _::_,[]=>1
 | a::l,b::m=>if a<b then -1 else if b<a then 1 else cmpL l m
theorem IL:∀ l,cmpL l l=0
 | []=>rfl
 | a::l=>by simp[cmpL,IL l]
theorem RB:∀ {l m},¬ cmpL l m<0->¬ cmpL m l<0->l=m
 | [],[],_,_=>rfl
 | [],_::_,h,_=>by simp[cmpL]at h
 | _::_,[],_,h=>by simp[cmpL]at h
 | a::l,b::m,h,k=>by
  simp only[cmpL]at h k
  by_cases h1:a<b
  ·grind
  ·by_cases h2:b<a
   ·omega
   ·rw[if_neg h1,if_neg h2]at h;rw[if_neg h2,if_neg h1]at k;have:a=b:=Z
    rw[this,RB h k]
theorem H4:∀ {l m n},cmpL l m<0->cmpL m n<0->cmpL l n<0
 | [],[],_,h,_=>by simp[cmpL]at h
 | [],_::_,[],_,k=>by simp[cmpL]at k
 | [],_::_,_::_,_,_=>by simp[cmpL]
 | _::_,[],_,h,_=>by simp[cmpL]at h
 | _::_,_::_,[],_,k=>by simp[cmpL]at k
 | a::l,b::m,c::n,h,k=>by
  simp only[cmpL]at h k ⊢
  by_cases h1:a<b
  ·grind
  ·by_cases h2:b<a
   ·rw[if_neg h1,if_pos h2]at h; omega
   ·rw[if_neg h1,if_neg h2]at h
    by_cases h3:b<c
    ·rw[if_pos (show a<c by omega)]; omega
    ·by_cases h4:c<b
     ·rw[if_neg h3,if_pos h4]at k; omega
     ·rw[if_neg h3,if_neg h4]at k;rw[if_neg (show ¬ a<c by omega),if_neg (show ¬ c<a by omega)];exact H4 h k
theorem a3C:∀ {l m},cmpL l m<0->¬ cmpL m l<0:=λh k=>by
 have:=H4 h k;rw[IL]at this; omega
theorem KG {α β:Type} f (g:α->β):∀ l:List Nat,(l.findSome? λi=>(f i).map g)=(l.findSome? f).map g
 | []=>rfl
 | i::l=>by
  rw[List.findSome?_cons,List.findSome?_cons];cases h:f i with
  | some y=>rfl
  | none=>exact KG f g l
def aIC(l m:List Int) (i:Nat):Option Int :=
 if ¬ i<m.length then some 1 else if l.getD i 0<m.getD i 0 then some (-1) else if m.getD i 0<l.getD i 0 then some 1 else none
theorem a30:∀ l m j,((List.range' j (l.length-j)).findSome? (aIC l m)).getD (if l.length<m.length then -1 else 0)=cmpL (l.drop j) (m.drop j)\/l.length<j
 | l,m,j=>by
  rcases Nat.lt_or_ge l.length j with h|h
  ·exact .inr h
  ·left;generalize hn:l.length-j=n
   induction n generalizing j with
   | zero =>
    have h1:l.drop j=[]:=List.drop_eq_nil_of_le Z;rw[h1];simp only[List.range'_zero,List.findSome?_nil,Option.getD_none]
    by_cases h2:l.length<m.length
    ·rw[if_pos h2,List.drop_eq_getElem_cons (show j<m.length by omega)]; rfl
    ·rw[if_neg h2,List.drop_eq_nil_of_le (show m.length<=j by omega)]; rfl
   | succ n ih =>
    have hj:j<l.length:=Z
    rw[List.range'_succ,List.findSome?_cons,List.drop_eq_getElem_cons hj];unfold aIC
    by_cases h2:j<m.length
    ·rw[if_neg (λh=>h h2),List.drop_eq_getElem_cons h2];have g1:l.getD j 0=l[j]:=by rw[List.getD_eq_getElem?_getD,List.getElem?_eq_getElem hj]; rfl
     have g2:m.getD j 0=m[j]:=by rw[List.getD_eq_getElem?_getD,List.getElem?_eq_getElem h2]; rfl
     rw[g1,g2];simp only[cmpL]
     by_cases h3:l[j]<m[j]
     ·rw[if_pos h3,if_pos h3]; rfl
     ·rw[if_neg h3,if_neg h3]
      by_cases h4:m[j]<l[j]
      ·rw[if_pos h4,if_pos h4]; rfl
      ·rw[if_neg h4,if_neg h4];exact ih (j+1) Z Z
    ·rw[if_pos h2,List.drop_eq_nil_of_le (show m.length<=j by omega)]; rfl
theorem aMF:∀ {l m},cmpL l m=0->l=m
 | [],[],_=>rfl
 | [],_::_,h=>by simp[cmpL]at h
 | _::_,[],h=>by simp[cmpL]at h
 | a::l,b::m,h=>by
  simp only[cmpL]at h
  by_cases h1:a<b
  ·omega
  ·rw[if_neg h1]at h
   by_cases h2:b<a
   ·omega
   ·rw[if_neg h2]at h;rw[aMF h,show a=b by omega]
theorem a3O {x y}(h0:¬ cmpL x y=0)(h1:¬ cmpL x y<0):cmpL y x<0:=by
 by_cases h:cmpL y x<0
 ·grind
 ·have e:=RB h1 h;subst e;exact(h0 (IL _)).elim
end Go.PM
namespace Go.PM
open Go Go.RowKit Go.Proofs Tryz
set_option maxHeartbeats 4000000
theorem bCB {p:Prop}(h:p):Hid p:=h
theorem aU8(b1 o1 c1 b2 o2 c2:Nat)(l m:List Int)(w:World)(hl:∀ j x,l[j]?=some x->w.cell? ⟨b1,o1+j,none⟩=some (.int .i64 x))(hm:∀ j x,m[j]?=some x->w.cell? ⟨b2,o2+j,none⟩=some (.int .i64 x))(hln:l.length<=1048576)(hmn:m.length<=1048576) :
  Calls Tryz.prog 71 #[.slice (some ⟨b1,o1,none⟩) l.length c1,.slice (some ⟨b2,o2,none⟩) m.length c2] w λe w'=>e=.returned (.int .i64 (cmpL l m))/\w'=w:=by
 have HL:=bCB hl;have HM:=bCB hm;clear hl hm;have e74:∀ args w,(callFunc 108 args).run Tryz.prog w=.ok (.enter 108 args) w:=λargs w=>enters func108 Y Y args w
 go_enter func71,ntmps71
 go_wp2
 go_loop [11] (λi=>∃ k:Nat,k<=l.length/\i=.int .i64 k/\Hid (cmpL (l.drop k) (m.drop k)=cmpL l m)) (λi=>l.length-(RowKit.intOf i).toNat)
 case atStart=>exact⟨0,Nat.zero_le _,rfl,bCB rfl⟩
 case round =>
  obtain⟨k,hk,rfl,hc⟩:=hrel
  by_cases hkn:k<l.length
  ·obtain⟨x,hx⟩:∃ x,l[k]?=some x:=⟨l[k],List.getElem?_eq_getElem hkn⟩;have hcx:=HL.out k x hx;have hdx:l.drop k=x::l.drop (k+1):=by
    rw[List.drop_eq_getElem_cons hkn]
    congr 1
    exact(oO.1 hx).2
   by_cases hkm:k<m.length
   ·obtain⟨y,hy⟩:∃ y,m[k]?=some y:=⟨m[k],List.getElem?_eq_getElem hkm⟩;have hcy:=HM.out k y hy;have hdy:m.drop k=y::m.drop (k+1):=by
     rw[List.drop_eq_getElem_cons hkm]
     congr 1
     exact(oO.1 hy).2
    have hc2:Hid ((if x<y then -1 else if y<x then 1 else cmpL (l.drop (k+1)) (m.drop (k+1)))=cmpL l m):=by
     have:=hc.out;rw[hdx,hdy]at this;exact this
    clear hdx hdy hc hx hy
    go_wp2_with (go_at_fn 108; refine(Tryz.cmp_Compare_int x y w).mono ?_; rintro e w' ⟨rfl,rfl⟩)
    ·rename_i h;have e:Lib.compareInt x y=cmpL l m:=by
      rw[<- hc2.out];unfold Lib.compareInt at h ⊢
      by_cases h1:x<y
      ·rw[if_pos h1,if_pos h1]
      ·by_cases h2:y<x
       ·rw[if_neg h1,if_pos h2,if_neg h1,if_pos h2]
       ·rw[if_neg h1,if_neg h2]at h; simp at h
     clear hc2
     go_ret
     exact⟨oZ (λz=>Ending.returned (.int .i64 z)) e,rfl⟩
    ·rename_i h;refine⟨⟨k+1,by omega,by go_num,bCB ?_⟩,by simp[RowKit.intOf]; omega⟩;rw[<- hc2.out];unfold Lib.compareInt at h
     by_cases h1:x<y
     ·rw[if_pos h1]at h; simp at h
     ·by_cases h2:y<x
      ·rw[if_neg h1,if_pos h2]at h; simp at h
      ·rw[if_neg h1,if_neg h2]
   ·have hc2:Hid (1=cmpL l m):=by
     have:=hc.out;rw[hdx,List.drop_eq_nil_of_le (show m.length<=k by omega)]at this;exact this
    clear hdx hc hx
    go_wp2
    go_ret
    exact⟨oZ (λz=>Ending.returned (.int .i64 z)) hc2.out,rfl⟩
  ·have hke:k=l.length:=Z
   subst hke;have hc2:Hid ((if l.length<m.length then -1 else 0)=cmpL l m):=by
    have:=hc.out;rw[List.drop_length]at this;rw[<- this]
    by_cases h:l.length<m.length
    ·rw[if_pos h,List.drop_eq_getElem_cons h]; rfl
    ·rw[if_neg h,List.drop_eq_nil_of_le (show m.length<=l.length by omega)]; rfl
   clear hc
   go_wp2
   ·rename_i h;have e:=hc2.out;rw[if_pos Z]at e;clear hc2
    go_ret
    exact⟨oZ (λz=>Ending.returned (.int .i64 z)) e,rfl⟩
   ·rename_i h;have e:=hc2.out;rw[if_neg Z]at e;clear hc2
    go_ret
    exact⟨oZ (λz=>Ending.returned (.int .i64 z)) e,rfl⟩
theorem aSM(ao bo:Option Addr)(c1 c2 n:Nat)(w:World) :
  Calls Tryz.prog 71 #[.slice ao 0 c1,.slice bo n c2] w λe w'=>e=.returned (.int .i64 (if 0<n then -1 else 0))/\w'=w:=by
 have e74:∀ args w,(callFunc 108 args).run Tryz.prog w=.ok (.enter 108 args) w:=λargs w=>enters func108 Y Y args w
 go_enter func71,ntmps71
 go_wp2
 go_loop [11] (λi=>i=.int .i64 0) (λi=>0)
 case atStart=>rfl
 case round =>
  subst hrel
  go_wp2
  all_goals (go_ret; exact⟨rfl,rfl⟩)
theorem aST(b1 o1 n:Nat)(bo:Option Addr)(c1 c2:Nat)(x:Int)(w:World)(hn:0<n)(hx:w.cell? ⟨b1,o1,none⟩=some (.int .i64 x)) :
  Calls Tryz.prog 71 #[.slice (some ⟨b1,o1,none⟩) n c1,.slice bo 0 c2] w λe w'=>e=.returned (.int .i64 1)/\w'=w:=by
 have e74:∀ args w,(callFunc 108 args).run Tryz.prog w=.ok (.enter 108 args) w:=λargs w=>enters func108 Y Y args w
 go_enter func71,ntmps71
 go_wp2
 go_loop [11] (λi=>i=.int .i64 0) (λi=>0)
 case atStart=>rfl
 case round =>
  subst hrel
  go_wp2
  all_goals (go_ret; exact⟨rfl,rfl⟩)
theorem aUZ {w:World} {G:Nat->Prop} {l m:List Int} {v u:Value} (hv:VR w (Gd.of G) aG (q9 (.int .i64) l none) v) (hu:VR w (Gd.of G) aG (q9 (.int .i64) m none) u) (hl:l.length<=1048576) (hm:m.length<=1048576) :
  Calls Tryz.prog 71 #[v,u] w λe w'=>e=.returned (.int .i64 (cmpL l m))/\w'=w:=by
 unfold q9 at hv hu;rw[VR]at hv hu;obtain⟨hv,-⟩:=hv;obtain⟨hu,-⟩:=hu;rw[VR]at hv hu;obtain⟨ao,c,rfl,-,-,h1⟩:=hv;obtain⟨bo,d,rfl,-,-,h2⟩:=hu;cases l with
 | nil =>
  refine(aSM ao bo c d m.length w).mono ?_;rintro e w' ⟨rfl,rfl⟩;refine⟨?_,rfl⟩;cases m with
  | nil=>rfl
  | cons y m=>rfl
 | cons x l =>
  rcases h1 with h1|⟨b,off,rfl,-,h1⟩
  ·cases h1
  have hc:∀ (zs:List Int) (b off:Nat),aL w (Gd.of G) aG b off (aI (.int .i64) zs)->∀ j z,zs[j]?=some z->w.cell? ⟨b,off+j,none⟩=some (.int .i64 z):=λzs b off h j z hz=>by
   obtain⟨v,g1,g2⟩:=h.get (i:=j) (p:=.lit (.int .i64 z)) (by rw[a1M,List.getElem?_map,hz]; rfl);rw[VR]at g2;rw[g1,g2]
  cases m with
  | nil =>
   refine(aST b off (l.length+1) bo c d x w (Nat.succ_pos _) (by simpa using hc _ _ _ h1 0 x rfl)).mono ?_;rintro e w' ⟨rfl,rfl⟩;exact⟨rfl,rfl⟩
  | cons y m =>
   rcases h2 with h2|⟨b2,off2,rfl,-,h2⟩
   ·cases h2
   exact aU8 b off c b2 off2 d (x::l) (y::m) w (hc _ _ _ h1) (hc _ _ _ h2) hl hm
theorem aLA {w:World} {G:Nat->Prop} {l m:List Int} {v u:Value} (hv:VR w (Gd.of G) aG (q9 (.int .i64) l none) v) (hu:VR w (Gd.of G) aG (q9 (.int .i64) m none) u) (hl:l.length<=1048576) (hm:m.length<=1048576) :
  Calls Tryz.prog 36 #[v,u] w λe w'=>e=.returned (.int .i64 (cmpL l m))/\w'=w:=by
 have e57:∀ args w,(callFunc 71 args).run Tryz.prog w=.ok (.enter 71 args) w:=λargs w=>enters func71 Y Y args w
 have h:=aUZ hv hu hl hm;clear hv hu
 go_enter func36,ntmps36
 go_wp2_with (go_at_fn 71; refine h.mono ?_; rintro e w' ⟨rfl,rfl⟩)
 go_ret
 exact⟨rfl,rfl⟩
def D64(l:List Int):Bool:=Nat.ble l.length 1048576
theorem loL:LO D64 λx y=>decide (cmpL x y<0) where
 irrefl x _:=by rw[IL]; rfl
 trans x y z _ _ _ h k:=by simp only[decide_eq_true_eq]at h k ⊢; exact H4 h k
 ntrans x y z _ _ _ h k:=by
  simp only[decide_eq_false_iff_not]at h k ⊢;intro hz
  -- x<z: then x<y or y<z
  by_cases h1:x=y
  ·grind
  ·have:cmpL y x<0:=by
    by_cases h2:cmpL y x<0
    ·omega
    ·exact(h1 (RB h h2)).elim
   exact k (H4 this hz)
 anti x y _ _ h k:=by simp only[decide_eq_false_iff_not]at h k; exact RB h k
theorem a3P:a8U Tryz.prog 36 (.int .i64) D64 cmpL:=by
 intro w G x y vx vy hG hx hy kx ky;refine(aLA kx ky (oL hx) (oL hy)).mono ?_;rintro e w' ⟨rfl,rfl⟩;exact⟨rfl,0,#[],by simp[Sort.grow,World.drewN]⟩
abbrev bE5:Shr:=(66,aJI (.int .i64) (.fn 36) D64 λx y=>decide (cmpL x y<0))
theorem a7T:pV Tryz.prog bE5 :=
 a5D rfl (.inl rfl) loL a3P (λ_ _=>enters func66 Y Y _ _) (λ_ _=>enters func36 Y Y _ _)
  (λenc h1 cf hO cb blk off cap d w hcmp hH hblk hsz=>Tryz.slices_SortFunc enc h1 cf hO 36 cb blk off cap d w (λ_ _=>enters func36 Y Y _ _) hcmp hH hblk hsz)
end Go.PM
namespace Go.PM
open Go Go.RowKit
def aOS {t:Ty} (D:List t.den->Bool) (lt:List t.den->List t.den->Bool) (l:List (List t.den)):Option (List (List t.den)):=match l with
 | []=>some []
 | x::r=>aI2 D lt (x::r)
def aL6(t:Ty)(ck:Kd)(D:List t.den->Bool)(lt:List t.den->List t.den->Bool)(args:List PV)(H:Heap):Option aGC:=match args with
 | [.own r sz,p]=>match gS H r with
  | some k=>match k.tag with
   | some g=>match AY g.t (.list t) g.l with
    | some l=>match aDM ck p [] 0 with
     | some _=>bif Nat.beq sz 1&&!k.frozen then some ⟨List (List t.den),aOS D lt l,λl'=>(.tuple [],H.set r (some ⟨aI (.list t) l',k.ty,k.grown,false,some ⟨.list t,l'⟩⟩))⟩ else none
     | none=>none
    | none=>none
   | none=>none
  | none=>none
 | _=>none
theorem aN9 {g:Tg}{u l}(h:AY g.t u g.l=some l):g=⟨u,l⟩:=by
 obtain⟨gt,gl⟩:=g;obtain⟨e,e2⟩:=lF h;grind
theorem a0S {P g g2 t D lt}(h1:pV P (g,aJI t (.fn g2) D lt))(h0:∀ ao c,o3 P g [.lit (.slice ao 0 c),.lit (.func (.func g2) #[] #[])] (.tuple [])) :
  pV P (g,aL6 t (.fn g2) D lt):=by
 intro args H rh h y hy n0 G μ w us hW hv;change aL6 t (.fn g2) D lt args H=some rh at h;show vG P n0 w G μ g us.toArray (rh.out y).1 (rh.out y).2;unfold aL6 at h;split at h
 next r sz p=>
  split at h
  next k hk=>
   split at h
   ·rename_i gg hg;split at h
    ·rename_i l hl;split at h
     ·rename_i pk hpk;obtain⟨hb,h⟩:=L4 h;have hb':=hb;simp only[oA,Bool.not_eq_true']at hb;cases l with
      | cons x l =>
       simp only[oJ]at h;subst h;exact h1 [.own r sz,p] H ⟨List (List t.den),aI2 D lt (x::l),_⟩ (by simp only[aJI,hk,hg,hl,hpk,hb',oC]) y hy hW hv
      | nil =>
       simp only[oJ]at h;subst h;simp only[aOS,oJ]at hy;subst hy;have hp:=UD (p:=p) (g:=g2) (x:=pk) hpk;subst hp;have hsame:H.set r (some ⟨aI (.list t) [],k.ty,k.grown,false,some ⟨.list t,[]⟩⟩)=H:=by
        have hgg:=aN9 hl;subst hgg;have ht:=(hW.tags r k _ (aH hk) hg).1;apply List.ext_getElem?;intro i
        by_cases hi:r=i
        ·subst hi;rw[List.getElem?_set_self (oO.1 (aH hk)).1,aH hk];obtain⟨k1,k2,k3,k4,k5⟩:=k;dsimp only at ht hg hb ⊢;rw[ht,hg,hb.2]
        ·rw[List.getElem?_set_ne hi]
       dsimp only;rw[hsame];rw[VRs]at hv;obtain⟨v,vs,rfl,hv1,hv2⟩:=hv;have hlen:gg.l.length=0:=by rw[aN9 hl]; rfl
       have hm:=(hW.tags r k gg (aH hk) hg).2;obtain⟨ao,c,rfl⟩:∃ ao c,v=.slice ao 0 c:=by
        rw[VR]at hv1;obtain⟨n,e1,e2⟩:=hv1;rw[hm,hlen]at e1;cases e1;rcases e2 with ⟨_,ao,e3⟩|⟨b,c,_,e3,_⟩
        ·exact⟨ao,0,e3⟩
        ·exact⟨_,c,e3⟩
       refine aQ5 (n:=depth) hW (h0 ao c) (args:=[.lit (.slice ao 0 c),.lit (.func (.func g2) #[] #[])]) rfl rfl rfl ?_;rw[VRs];exact⟨_,_,rfl,by rw[VR],hv2⟩
     ·cases h
    ·cases h
   ·cases h
  ·cases h
 ·cases h
open Go Go.RowKit Go.Proofs Tryz
theorem a4Y(ao:Option Addr)(c:Nat):o3 Tryz.prog 66 [.lit (.slice ao 0 c),.lit (.func (.func 36) #[] #[])] (.tuple []) :=
 aZT (cfgs:=bGP Tryz.prog) (sh:=λ_=>false) (prim:=λ_ _=>none) (L:=1000) (n:=12) aZ (λ_ _ _ h=>by cases h) Y
abbrev bDJ:Shr:=(66,aL6 (.int .i64) (.fn 36) D64 λx y=>decide (cmpL x y<0))
theorem a1Y:pV Tryz.prog bDJ:=a0S a7T a4Y
set_option maxHeartbeats 4000000
def fR(x:aM [.list (.int .i64)]):Option (aM [.list (.int .i64)]):=match x with
 | (v0,()) =>
  bif Nat.blt 0 v0.length then bif Nat.ble v0.length 1048576 then some (v0,()) else none else none
abbrev wT:Ent:=⟨48,[.list (.int .i64)],[.list (.int .i64)],fR⟩
theorem tT:Ent.OK Tryz.prog wT:=oI (aR oW) func48 Y (by rintro⟨v0,⟨⟩⟩; kernel_rfl)
def aBM(x:aM [.list (.list (.int .i64))]):Option (aM [.list (.list (.int .i64))]):=match x with
 | (v0,()) =>
  bif Nat.blt 0 v0.length then bif Nat.ble v0.length 1048576 then some (v0,()) else none else none
abbrev C9:List (Nat×Kd):=[(3,.own 39 (.list (.int .i64))),(9,.list (.list (.int .i64))),(10,.int .i64),(11,.int .i64)]
abbrev K6:List (Ex×List (Nat×Kd)):=[(.exit 0,[(3,.own 39 (.list (.int .i64)))])]
def WW(x:Shape.den C9):Option (Shape.den C9⊕cD K6):=match x with
 | (v3,v9,v10,v11,()) =>
  bif ltI v11 v10 then
   bif aF v11 v9.length then aC (fR ((v9.getD v11.toNat []),())) λy2 =>
   bif aF v11 v3.length then bif Nat.blt v11.toNat v3.length then some (.inl ((v3.set v11.toNat y2.1),v9,v10,(aB .i64 (v11+1)),())) else none else none else none
  else some (.inr ((v3,())))
def IY(x:Shape.den C9):Option (cD K6):=aW WW (2^64) x
def H6(x:aM [.list (.list (.int .i64))]):Option (aM [.list (.list (.int .i64))]):=match x with
 | (v0,()) =>
  bif !(ltI (v0.length:Int) 0) then bif !(ltI (v0.length:Int) (v0.length:Int)) then bif !(ltI 1048576 (v0.length:Int)) then aC (IY ((List.replicate ((v0.length:Int).toNat) ([]:Ty.den (.list (.int .i64)))),v0,(v0.length:Int),0,())) λz3 =>
  some (z3.1,()) else none else none else none
abbrev H9:Ent:=⟨57,[.list (.list (.int .i64))],[.list (.list (.int .i64))],H6⟩
theorem LR:Ent.OK Tryz.prog H9:=oU (aR (oV tT oW)) func57 3 (lp:=IY) rfl Y (by rintro⟨v3,v9,v10,v11,⟨⟩⟩; kernel_rfl) (by rintro⟨v0,⟨⟩⟩; kernel_rfl)
def FF(x:aM [.int .i64,.list (.list (.int .i64)),.int .i64]):Option (aM [.clo 89 [(.int .i64),(.list (.list (.int .i64))),(.int .i64)]]):=match x with
 | (v0,v1,v2,()) =>
  some ((v2,v1,v0,()),())
abbrev L5:Ent:=⟨56,[.int .i64,.list (.list (.int .i64)),.int .i64],[.clo 89 [(.int .i64),(.list (.list (.int .i64))),(.int .i64)]],FF⟩
theorem PX:Ent.OK Tryz.prog L5:=oI (aR oW) func56 Y (by rintro⟨v0,v1,v2,⟨⟩⟩; kernel_rfl)
def rK(x:aM [.list (.list (.int .i64))]):Option (aM [.clo 74 [(.list (.list (.int .i64)))]]):=match x with
 | (v0,()) =>
  some ((v0,()),())
abbrev AO:Ent:=⟨40,[.list (.list (.int .i64))],[.clo 74 [(.list (.list (.int .i64)))]],rK⟩
theorem JE:Ent.OK Tryz.prog AO:=oI (aR oW) func40 Y (by rintro⟨v0,⟨⟩⟩; kernel_rfl)
abbrev EU:List (Nat×Kd):=[(0,.int .i64),(7,.own 39 (.list (.int .i64))),(16,.list (.list (.int .i64))),(17,.int .i64),(18,.int .i64)]
abbrev N2:List (Ex×List (Nat×Kd)):=[(.exit 0,[(7,.own 39 (.list (.int .i64)))])]
def uR(x:Shape.den EU):Option (Shape.den EU⊕cD N2):=match x with
 | (v0,v7,v16,v17,v18,()) =>
  bif ltI v18 v17 then
   bif aF v18 v16.length then aC (OD ((v16.getD v18.toNat []),())) λy5 =>
   bif y5.1 then
    some (.inl (v0,v7,v16,v17,(aB .i64 (v18+1)),()))
   else aC (fR ((v16.getD v18.toNat []),())) λy6 =>
   bif !(ltI v0 0) then bif !(ltI v0 v0) then bif !(ltI 1048576 v0) then aC (vB ((List.replicate v0.toNat (0:Ty.den (.int .i64))),(v16.getD v18.toNat []),(-1),())) λy7 =>
   bif Nat.ble [y6.1,y7.1].length 1048576 then bif Nat.ble v7.length 1048576 then some (.inl (v0,(v7++[y6.1,y7.1]),v16,v17,(aB .i64 (v18+1)),())) else none else none else none else none else none else none
  else some (.inr ((v7,())))
def BW(x:Shape.den EU):Option (cD N2):=aW uR (2^64) x
def mK(x:aM [.int .i64,.list (.list (.int .i64))]):Option (aM [.list (.list (.int .i64)),.int .i64]):=match x with
 | (v0,v1,()) =>
  aC (zZ (v0,v1,())) λy1 =>
  bif !(eqI y1.1 0) then
   some ([],y1.1,())
  else aC (BW (v0,[],v1,(v1.length:Int),0,())) λz8 =>
  aC (aOS (t:=(.int .i64)) D64 (λx y=>decide (cmpL x y<0)) z8.1) λy9 =>
  aC (bO y9 ((),())) λy10 =>
  bif ltI 60 (y10.1.length:Int) then
   some ([],4,())
  else some (y10.1,0,())
abbrev aF7:Env:=MT [MG,MD,aJ0,wT] [bDJ,jP]
theorem aA6:eS Tryz.prog aF7:=mM ⟨GP,P4,aA8,tT,trivial⟩ ⟨a1Y,o5,trivial⟩
abbrev DJ:Ent:=⟨28,[.int .i64,.list (.list (.int .i64))],[.list (.list (.int .i64)),.int .i64],mK⟩
theorem EA:Ent.OK Tryz.prog DJ:=oU aA6 func28 6 (lp:=BW) rfl Y (by rintro⟨v0,v7,v16,v17,v18,⟨⟩⟩; kernel_rfl) (by rintro⟨v0,v1,⟨⟩⟩; kernel_rfl)
end Go.PM
namespace Go.PM
open Go Go.RowKit Go.Proofs Tryz
abbrev mF:Ty:=.list (.int .i64)
abbrev LN:Ty:=.list mF
def hb(L:List (List Int)):Heap:=[some ⟨aI mF L,39,true,false,some ⟨mF,L⟩⟩]
def aL7(args:List PV) (H:Heap):Option aGC:=match args with
 | [.win r lo n sz]=>match H with
  | [some k]=>match k.tag with
   | some g=>match AY g.t mF g.l with
    | some L=>bif Nat.beq r 0&&Nat.beq lo 0&&Nat.beq sz 1&&Nat.beq k.ty 39&&k.grown&&!k.frozen then
      some ⟨List (List Int),(bif Nat.ble n 1048576 then some (L.take n) else none),λl=>(.own 1 1,[some k,some ⟨aI mF l,39,true,false,some ⟨mF,l⟩⟩])⟩ else none
    | none=>none
   | none=>none
  | _=>none
 | _=>none
def bB2:Code:=cQ f91
theorem bFG(L:List (List Int))(n:Nat):IJ Tryz.prog (DW []) 8 255 (λ_=>none) (λ_=>none) true [0] bB2 [(0,.win 0 0 n 1)] (hb L) (λex F H=>match ex with
  | .exit _=>none
  | _=>some (qG [2] F,H))=bif Nat.ble ((L.drop 0).take n).length 1048576 then some ([(2,.own 1 1)],hb L++[some ⟨aI mF ((L.drop 0).take n),39,true,false,some ⟨mF,(L.drop 0).take n⟩⟩]) else none:=Y
def qO:Code:=cQ f90
theorem a2D:qO=.seq (.region 0 (dT qO 0) false) (.seq (.seq (.region 1 (dT qO 1) false) (.cond (.tmp 12) (.seq (.region 2 (dT qO 2) true) .ret) .skip))
  (.seq (.seq (.region 3 (dT qO 3) false) (.block 0 (.loop (.seq (.region 4 (dT qO 4) false) (.seq (.cond (.tmp 20) .skip (.exit 0)) (.seq (.block 1 (.seq (.region 5 (dT qO 5) false) (.seq (.region 6 (dT qO 6) true) (.cond (.tmp 46) (.seq (.region 7 (dT qO 7) false) .ret) .skip)))) (.region 8 (dT qO 8) false)))))))
   (.seq (.region 9 (dT qO 9) false) .ret))):=Y
abbrev aDT:Env:=MT [aGB,MP] [(91,aL7)]
def aK6(k:Nat)(notes:Int)(yv addv:Value)(cl:List (List Int)):Frm:=[(0,.win 0 0 k 1),(1,.iptr [.lit (.int .i64 notes)]),(2,.iptr [.lit yv]),(3,.iptr [q9 mF cl none]),(4,.iptr [.lit addv])]
def R1(k:Nat)(notes:Int)(yv addv:Value)(cl:List (List Int))(j:Int):Frm:=aK6 k notes yv addv cl++[(17,q9 mF cl none),(18,.lit (.int .i64 cl.length)),(19,.lit (.int .i64 j))]
section
variable (k:Nat) (notes:Int) (yv addv:Value) (cl L:List (List Int)) (j:Int) (x:List Int)
theorem a2G:lP Tryz.prog aDT 48 (dT qO 0) false (aK6 k notes yv addv cl) (hb L) (λF H=>some (qG [0,1,2,3,4] F,H))=some (aK6 k notes yv addv cl,hb L):=Y
theorem a08:lP Tryz.prog aDT 48 (dT qO 1) false (aK6 k notes yv addv cl) (hb L) (λF H=>some (qG [0,1,2,3,4,12] F,H))=some (aK6 k notes yv addv cl++[(12,.lit (.bool (eqI (k:Int) notes)))],hb L):=Y
theorem bA7:lP Tryz.prog aDT 48 ((dT qO 2).toList.take 3).toArray true (aK6 k notes yv addv cl) (hb L) (λF H=>some (qG [0,1,2,3,4,13,15] F,H))=aC (bif Nat.ble k 1048576 then some (L.take k) else none) λy=>some (aK6 k notes yv addv cl++[(13,.lit yv),(15,.own 1 1)],hb L++[some ⟨aI mF y,39,true,false,some ⟨mF,y⟩⟩]):=Y
theorem bA8:lP Tryz.prog aDT 48 (dT qO 3) false (aK6 k notes yv addv cl) (hb L) (λF H=>some (qG [0,1,2,3,4,17,18,19] F,H))=some (R1 k notes yv addv cl 0,hb L):=Y
theorem bAA:lP Tryz.prog aDT 48 (dT qO 4) false (R1 k notes yv addv cl j) (hb L) (λF H=>some (qG [0,1,2,3,4,17,18,19,20] F,H))=some (R1 k notes yv addv cl j++[(20,.lit (.bool (ltI j cl.length)))],hb L):=Y
theorem bBD:lP Tryz.prog aDT 48 (dT qO 5) false (R1 k notes yv addv cl j) (hb L) (λF H=>some (qG [0,1,2,3,4,17,18,19,8] F,H))=bif aF j cl.length then some (R1 k notes yv addv cl j++[(8,q9 (.int .i64) (cl.getD j.toNat []) none)],hb L) else none:=Y
theorem bCV:lP Tryz.prog aDT 48 (dT qO 8) false (R1 k notes yv addv cl j) (hb L) (λF H=>some (qG [0,1,2,3,4,17,18,19] F,H))=some (R1 k notes yv addv cl (aB .i64 (j+1)),hb L):=Y
theorem bCK(H:Heap):lP Tryz.prog aDT 48 (dT qO 7) false [] H (λF H=>some (qG [6] F,H))=some ([(6,.lit (.bool false))],H):=Y
theorem bBK(H:Heap):lP Tryz.prog aDT 48 (dT qO 9) false [] H (λF H=>some (qG [6] F,H))=some ([(6,.lit (.bool true))],H):=Y
theorem a7S(b:Bool)(H:Heap):FN Tryz.prog aDT 48 (dT qO 2).toList ((dT qO 2).toList.drop 4) [(16,.lit (.bool b))] H (λF H=>some (qG [6] F,H))=some ([(6,.lit (.bool b))],H):=Y
def aBA(k:Nat) (notes:Int) (yv addv:Value) (cl:List (List Int)) (j:Int) (b:Bool):Frm:=R1 k notes yv addv cl j++(bif b then [(38,.lit (.bool true)),(39,.lit addv),(43,.win 0 0 (k+1) 1)] else [(38,.lit (.bool false)),(39,.lit undef),(43,.lit undef)])
theorem bB0:lP Tryz.prog aDT 48 ((dT qO 6).toList.take 21).toArray true (R1 k notes yv addv cl j++[(8,q9 (.int .i64) x none)]) (hb L) (λF H=>some (qG [0,1,2,3,4,17,18,19,38,39,43] F,H)) =
  bif aF (aB .i64 ((k:Int)-1)) k then bif Nat.blt (0+(aB .i64 ((k:Int)-1)).toNat) L.length then aC (kL (x,L.getD (0+(aB .i64 ((k:Int)-1)).toNat) [],())) λy1 =>
   bif ltI 0 y1.1 then aC (jX (cl,(L.drop 0).take k,x,())) λy2 =>
    bif y2.1 then (bif Nat.ble (0+k+1) L.length then some (aBA k notes yv addv cl j true,hb (spl L (0+k) [x])) else none) else some (aBA k notes yv addv cl j false,hb L)
   else some (aBA k notes yv addv cl j false,hb L) else none else none:=Y
end
theorem bA5:f91.body=some bB2:=Y
theorem bE8:f91.results=#[.tmp 2]:=Y
theorem bEQ:pS bB2=[]:=Y
theorem bFS:f91.ntmps=8:=Y
theorem bBS:pV Tryz.prog (91,aL7):=by
 intro args H rh h y hy n0 G μ w us hW hv;change aL7 args H=some rh at h;show vG Tryz.prog n0 w G μ 91 us.toArray (rh.out y).1 (rh.out y).2;unfold aL7 at h;split at h
 next r lo n sz=>
  split at h
  next k=>
   split at h
   ·rename_i g hg;split at h
    ·rename_i L hL;obtain⟨hb1,h9⟩:=L4 h;clear h;simp only[oJ]at h9;subst h9;simp only[oA,Bool.not_eq_true']at hb1;obtain⟨⟨⟨⟨⟨b1,b2⟩,b3⟩,b4⟩,b5⟩,b6⟩:=hb1;have b1:=oE b1;have b2:=oE b2;have b3:=oE b3;have b4:=oE b4;subst b1; subst b2; subst b3;have hgg:=aN9 hL;subst hgg;have hk:k=⟨aI mF L,39,true,false,some ⟨mF,L⟩⟩:=by
      have ht:=(hW.tags 0 k _ rfl hg).1;obtain⟨k1,k2,k3,k4,k5⟩:=k;dsimp only at ht hg b4 b5 b6;rw[ht,hg,b4,b5,b6]
     subst hk;dsimp only at hy ⊢;obtain⟨hle,hy⟩:=aJ hy;simp only[oJ]at hy;subst hy;have hrun:=bFG L n;have hlen:Nat.ble ((L.drop 0).take n).length 1048576=true:=by
      refine Nat.ble_eq_true_of_le ?_;have:=oL hle;rw[List.length_take]; omega
     rw[hlen,oC]at hrun;obtain⟨⟨ex,F',H'⟩,h1,h2⟩:=nX (aR (P:=Tryz.prog) (l:=[]) trivial).callee aZ.mixed bB2 _ _ _ _ (λb hb=>by rw[bEQ]at hb; cases hb) hrun;have hex:(ex=.normal\/ex=.ret)/\qG [2] F'=[(2,.own 1 1)]/\H'=hb L++[some ⟨aI mF ((L.drop 0).take n),39,true,false,some ⟨mF,(L.drop 0).take n⟩⟩]:=by
      cases ex with
      | exit i=>cases h1
      | normal =>
       simp only[oJ,oP]at h1;exact⟨.inl rfl,h1.1,h1.2⟩
      | ret =>
       simp only[oJ,oP]at h1;exact⟨.inr rfl,h1.1,h1.2⟩
     obtain⟨hex,hF',rfl⟩:=hex;refine⟨enters func91 Y Y _ _,calls_of_wp func91 bA5 (wpIn_wide (n:=0) |>.1 ?_)⟩;have hF0:=mE (m:=1) (n:=f91.ntmps) (vs:=us.toArray) (by simpa using hv) (by rw[bFS]; show 1<=8; decide);rw[bFS]at hF0 ⊢;have hF0:cZ w G μ 8 [(0,.win 0 0 n 1)] _:=hF0;have hI:I n0 w G μ 8 [(0,.win 0 0 n 1)] (hb L) _ w:=⟨G,μ,Ext.refl _ _ _ _,hW,hF0⟩
     refine wpIn_mono (h2 none 0 n0 w G μ _ w (λh=>by cases h) (λr hr=>hW.top r (by
      cases r with
      | zero=>exact absurd R hr
      | succ r=>simp)) hI.bCA) ?_
     rintro e a' w' ⟨rfl,⟨G',μ',e',hW',hF2,hm⟩,hdd⟩;have hI':cZ w' G' μ' 8 [(2,.own 1 1)] { a' with defers:=[] }:=by rw[<- hF']; exact hF2.pick [2]
     have hd:a'.defers=[]:=hdd rfl;have hv2:=hI'.slot 2;have hpost:a'.defers=[]/\∃ v,(results f91 a'.tmps).run Tryz.prog w'=.ok v w'/\(∃ v' G'' μ'',Ending.returned v=.returned v'/\Ext n0 w G μ w' G'' μ''/\aO n0 G'' μ'' (hb L++[some ⟨aI mF ((L.drop 0).take n),39,true,false,some ⟨mF,(L.drop 0).take n⟩⟩]) w'/\VR w' G'' μ'' (.own 1 1) v') :=
      ⟨hd,_,results_tmp bE8 _ _ _,_,G',μ',rfl,e',hW',hv2⟩
     rcases hex with rfl|rfl
     ·exact hpost
     ·exact hpost
    ·cases h
   ·cases h
  ·cases h
 ·cases h
theorem bB9:eS Tryz.prog aDT:=mM ⟨HW,GR,trivial⟩ ⟨bBS,trivial⟩
def KA(f:List Int->Option (List (List (List Int)))):List (List Int)->Option (List (List (List Int)))
 | []=>some []
 | x::xs=>match f x with
  | some a=>match KA f xs with
   | some b=>some (a++b)
   | none=>none
  | none=>none
def grow(cl:List (List Int)):Nat->List (List Int)->Option (List (List (List Int)))
 | 0,c=>some [c]
 | r+1,c=>KA (λx=>aC (kL (x,c.getD (c.length-1) [],())) λy1 =>
   bif ltI 0 y1.1 then aC (jX (cl,c,x,())) λy2=>bif y2.1 then grow cl r (c++[x]) else some []
   else some []) cl
theorem aF0 {f:List Int->Option (List (List (List Int)))}:∀ {l1 l2:List (List Int)} {g:List (List (List Int))},KA f (l1++l2)=some g->∃ a b,KA f l1=some a/\KA f l2=some b/\g=a++b
 | [],l2,g,h=>⟨[],g,rfl,h,rfl⟩
 | x::l1,l2,g,h=>by
  simp only[List.cons_append,KA]at h;split at h
  next a ha=>
   split at h
   next b hb=>simp only[oJ]at h;subst h;obtain⟨a1,b1,h1,h2,rfl⟩:=aF0 hb;exact⟨a++a1,b1,by simp only[KA,ha,h1],h2,by rw[List.append_assoc]⟩
   ·cases h
  ·cases h
theorem a7K {f:List Int->Option (List (List (List Int)))}{l:List (List Int)}{g:List (List (List Int))}(h:KA f l=some g){j:Nat}(hj:j<l.length) :
  ∃ gd a b,KA f (l.take j)=some gd/\f l[j]=some a/\KA f (l.take (j+1))=some (gd++a)/\g=gd++a++b:=by
 have e:l=l.take j++(l[j]::l.drop (j+1)):=by rw[<- List.drop_eq_getElem_cons hj,List.take_append_drop]
 rw[e]at h;obtain⟨gd,b0,h1,h2,rfl⟩:=aF0 h;simp only[KA]at h2;split at h2
 next a ha=>
  split at h2
  next b hb=>
   simp only[oJ]at h2;subst h2;refine⟨gd,a,b,h1,ha,?_,by rw[List.append_assoc]⟩;rw[List.take_succ_eq_append_getElem hj];have key:∀ {l1:List (List Int)} {g1:List (List (List Int))},KA f l1=some g1->KA f (l1++[l[j]])=some (g1++a):=by
    intro l1
    induction l1 with
    | nil =>
     intro g1 h;simp only[KA,oJ]at h;subst h;simp[KA,ha]
    | cons x l1 ih =>
     intro g1 h;simp only[KA]at h;split at h
     ·rename_i a1 ha1;split at h
      next b1 hb1=>simp only[oJ]at h;subst h;simp only[List.cons_append,KA,ha1,ih hb1,List.append_assoc]
      ·cases h
     ·cases h
   exact key h1
  ·cases h2
 ·cases h2
abbrev chE(g:List (List (List Int))):List (aM [.list mF]):=g.map λc=>(c,())
theorem a2C:f90.body=some qO:=Y
theorem bBA:f90.ntmps=48:=Y
theorem a7H:f90.results=#[.tmp 6]:=Y
theorem bGH:(dT qO 2).toList.drop 3=pR qO 2 3::(dT qO 2).toList.drop 4:=Y
theorem bEV:QK (dT qO 2) 3=true:=Y
theorem bDL:(((dT qO 2).toList.drop 4).all λo=>!aHG o.op)=true:=Y
theorem bBE:(pR qO 2 3).op=.call (OY (pR qO 2 3)):=Y
theorem bBM:(OY (pR qO 2 3)).callee=.value (.tmp 13):=Y
theorem bB3:(OY (pR qO 2 3)).args=#[.tmp 15]:=Y
theorem bCF:(pR qO 2 3).guard=none:=Y
theorem bAK:(pR qO 2 3).dst=some 16:=Y
theorem a6S:(dT qO 6).toList.drop 21=pR qO 6 21::(dT qO 6).toList.drop 22:=Y
theorem aZQ:QK (dT qO 6) 21=true:=Y
theorem aT5:(((dT qO 6).toList.drop 22).all λo=>!aHG o.op)=true:=Y
theorem bB5:(pR qO 6 21).op=.call (OY (pR qO 6 21)):=Y
theorem bCW:(OY (pR qO 6 21)).callee=.value (.tmp 39):=Y
theorem bBP:(OY (pR qO 6 21)).args=#[.tmp 43]:=Y
theorem aLS:(pR qO 6 21).dst=some 44:=Y
section
variable (k:Nat) (notes:Int) (yv addv:Value) (cl L:List (List Int)) (j:Int) (x:List Int) (H:Heap)
theorem bD1(b:Bool):guardOf (aBA k notes yv addv cl j b) (dT qO 6).toList (pR qO 6 21)=some b:=by
 cases b
 ·kernel_rfl
 ·kernel_rfl
theorem a6W:FN Tryz.prog aDT 48 (dT qO 6).toList ((dT qO 6).toList.drop 22) ((44,.lit (.bool true))::aBA k notes yv addv cl j true) H (λF H=>some (qG [0,1,2,3,4,17,18,19,46] F,H))=some (R1 k notes yv addv cl j++[(46,.lit (.bool false))],H):=Y
theorem a6B:FN Tryz.prog aDT 48 (dT qO 6).toList ((dT qO 6).toList.drop 22) ((44,.lit (.bool false))::aBA k notes yv addv cl j true) H (λF H=>some (qG [46] F,H))=some ([(46,.lit (.bool true))],H):=Y
theorem aWC:FN Tryz.prog aDT 48 (dT qO 6).toList ((dT qO 6).toList.drop 22) ((44,.lit undef)::aBA k notes yv addv cl j false) H (λF H=>some (qG [0,1,2,3,4,17,18,19,46] F,H))=some (R1 k notes yv addv cl j++[(46,.lit (.bool false))],H):=Y
end
section
variable {l:Nat} {G0:Gd} {all:List (aM [.list mF])} {J Jx:List (aM [.list mF])->(Nat->Prop)->(Nat->Prop)->World->Prop}
def aHO(G0:Gd) (J Jx:List (aM [.list mF])->(Nat->Prop)->(Nat->Prop)->World->Prop) (pre:List (aM [.list mF])) (g:List (List (List Int))) (notes:Nat) (c:List (List Int)) (A:World) (G:Gd) (μ:Mp) (en:Ending) (A':World):Prop :=
 ∃ bb G' μ' H',en=.returned (.bool bb)/\Mono A G μ A' G' μ'/\(bb=true->∃ L',H'=hb L'/\Sg (J (pre++chE g)) G0 G' μ' H' A'/\L'.length=notes/\L'.take c.length=c)/\(bb=false->∃ q,Sg (Jx q) G0 G' μ' H' A')
set_option maxHeartbeats 4000000 in
theorem bGI(hY:∀ pre e post T X B T' X' A us Gx m',all=pre++e::post->J pre T X B->Stp X B A->(∀ b,T' b->(T b\/B.heap.size<=b)/\b<A.heap.size)->(∀ b,X' b->T' b/\(X b\/B.heap.size<=b)) ->
   (∀ b,Gx b->(G0 b\/T' b)/\¬ X' b)->VRs A (Gd.of Gx) aG (kX [.list mF] e) us ->
   YieldAt Fence.wide m' Tryz.prog l us.toArray A λen C =>
    ((∀ b,b<A.heap.size->G0 b\/T' b->C.heap[b]?=A.heap[b]?)/\(∀ b n,Room A b n->Room C b n)/\A.heap.size<=C.heap.size)/\((en=.returned (.bool true)/\J (pre++[e]) T' X' C)\/(en=.returned (.bool false)/\Jx (pre++[e]) T' X' C)))
  {notes:Nat} {cl:List (List Int)} (hn:notes<=1048576) (hcl:cl.length<=1048576) {v1 v2 v3 v4 yv addv:Value} (hyv:yv=.func (.yield l) #[] #[]) (hadd:addv=.func (.func 90) #[] #[v1,v2,v3,v4]) :
  ∀ (r:Nat) (c:List (List Int)) (g:List (List (List Int))) (pre post:List (aM [.list mF])) (A:World) (G:Gd) (μ:Mp) (L:List (List Int)) (m:Nat) (vc:Value),c.length+r=notes->0<c.length->grow cl r c=some g->all=pre++chE g++post ->
   Sg (J pre) G0 G μ (hb L) A->L.length=notes->L.take c.length=c->VRs A G μ [.win 0 0 c.length 1,.iptr [.lit (.int .i64 notes)],.iptr [.lit yv],.iptr [q9 mF cl none],.iptr [.lit addv]] [vc,v1,v2,v3,v4] ->
   CallsIn Fence.wide m Tryz.prog 90 #[vc,v1,v2,v3,v4] A (aHO G0 J Jx pre g notes c A G μ):=by
 have hcal:dA Tryz.prog (eY Tryz.prog aDT):=bB9.callee;have hP:=aZ.mixed;intro r
 induction r with
 | zero =>
  intro c g pre post A G μ L m vc hlen hc0 hgrow hall hS hL hLc hvs;simp only[grow,oJ]at hgrow;subst hgrow;obtain⟨k,hk⟩:∃ k,c.length=k:=⟨_,rfl⟩;rw[hk]at hvs hLc;refine callsIn_of_wp func90 a2C trivial ?_ rfl;have hF0:=mE (m:=31) (n:=f90.ntmps) (vs:=#[vc,v1,v2,v3,v4]) hvs (by rw[bBA]; show 5<=48; decide);rw[bBA]at hF0 ⊢;have hF0:cZ A G μ 48 (aK6 k notes yv addv cl) _:=hF0;rw[a2D];refine wpIn_seq (o7 hcal hP (a2G k notes yv addv cl L) hS hF0 ?_)
  intro G1 μ1 a1 A1 hS1 mo1 hF1;refine wpIn_seq (wpIn_seq (o7 hcal hP (a08 k notes yv addv cl L) hS1 hF1 ?_));intro G2 μ2 a2 A2 hS2 mo2 hF2;have hc:=u7 (t:=12) hF2 rfl;rw[bP,oT Z]at hc;have hF2':cZ A2 G2 μ2 48 (aK6 k notes yv addv cl) a2:=hF2.pick [0,1,2,3,4];refine wpIn_cond_true hc (wpIn_seq (WN hcal hP (s:=3) (sl:=[0,1,2,3,4,13,15]) bEV (by rw[bA7,Nat.ble_eq_true_of_le Z]; rfl) hS2 hF2' ?_))
  intro G3 μ3 a3 A3 hS3 mo3 hF3;rw[bGH];obtain⟨hS4,mo4⟩:=hS3.freeze (r:=1) (k:=⟨aI mF (L.take k),39,true,false,some ⟨mF,L.take k⟩⟩) rfl rfl;obtain⟨n4,hW4,_,_⟩:=hS4.open_;have h15:VR A3 (G3.or λx=>μ3.loc 1=some x) aG (q9 mF (L.take k) none) (a3.tmps.getD 15 undef):=by
   have hv:=VR.mono mo4 _ _ (hF3.slot 15);exact E5 hW4 (r:=1) (sz:=1) (k:=⟨aI mF (L.take k),39,true,true,some ⟨mF,L.take k⟩⟩) hv rfl rfl (λb h=>h) (λb h=>.inr h)
  rw[hLc]at h15;have hall':all=pre++(c,())::post:=by rw[hall]; simp[chE]
  have hy:=λm'=>hS4.yield (us:=[a3.tmps.getD 15 undef]) hY hall' (by
   simp only[kX,B8];rw[VRs];exact⟨_,[],rfl,h15,by rw[VRs]⟩) rfl m'
  refine aX8 bBE bBM (aAF bCF) (by rw[<- hyv]; exact aGT (t:=13) hF3 rfl) (us:=[a3.tmps.getD 15 undef].toArray) (by rw[bB3]; exact aCK a3 15) hy ?_;rintro en C ⟨moY,hout⟩;have hmono:Mono A G μ C (G3.or λx=>μ3.loc 1=some x) μ3:=(((mo1.trans mo2).trans mo3).trans mo4).trans moY;obtain⟨nT,hWT,_,_⟩:=hS.open_;have htop:∀ r,1<=r->μ.loc r=none/\μ.len r=none:=λr hr=>hWT.top r hr
  have key:∀ (b:Bool) {Ψ:(Nat->Prop)->(Nat->Prop)->World->Prop},Sg Ψ G0 (G3.or λx=>μ3.loc 1=some x) μ3 ((hb L++[some ⟨aI mF (L.take k),39,true,false,some ⟨mF,L.take k⟩⟩]:Heap).set 1 (some ⟨aI mF (L.take k),39,true,true,some ⟨mF,L.take k⟩⟩)) C ->
    (∀ G' μ' A',Sg Ψ G0 G' μ' (hb L) A'->Mono A G μ A' G' μ'->aHO G0 J Jx pre [c] notes c A G μ (.returned (.bool b)) A') ->
    ∀ (Q:Exit->Act->World->Prop),(∀ a w,bodyPost Tryz.prog f90 (aHO G0 J Jx pre [c] notes c A G μ) .ret a w->Q .ret a w) ->
    wpListIn Fence.wide m Tryz.prog (dT qO 2) (Exit.then (Code.ret.wpIn Fence.wide m Tryz.prog Q) Q) ((dT qO 2).toList.drop 4) (a3.put (pR qO 2 3).dst (.bool b)) C:=by
   intro b Ψ hSy hfin Q hQ;rw[bAK];have hF5:cZ C (G3.or λx=>μ3.loc 1=some x) μ3 48 [(16,.lit (.bool b))] (a3.put (some 16) (.bool b)):=((hF3.mono (mo4.trans moY)).pick []).cons O (by rw[VR]);refine X7 hcal (sl:=[6]) (a7S b _) bDL hSy hF5 ?_;intro G6 μ6 a6 A6 hS6 mo6 hF6;refine wpIn_ret ?_;have h6:=u7 (t:=6) hF6 rfl;refine hQ _ _ ⟨hF6.defers,_,results_tmp a7H _ _ _,?_⟩;have e6:a6.tmps.getD 6 undef=.bool b:=h6
   rw[e6];exact hfin _ _ A6 (hS6.bGN (k:=⟨aI mF L,39,true,false,some ⟨mF,L⟩⟩) rfl) (aZD (hmono.trans mo6) htop)
  rcases hout with ⟨rfl,hS5⟩|⟨rfl,hS5⟩
  ·refine⟨_,rfl,key true hS5 (λG' μ' A' hS' mo'=>⟨true,G',μ',hb L,rfl,mo',λ_=>⟨L,rfl,hS',hL,by rw[hk]; exact hLc⟩,λh=>by cases h⟩) _ λ_ _ h=>h⟩
  ·refine⟨_,rfl,key false hS5 (λG' μ' A' hS' mo'=>⟨false,G',μ',hb L,rfl,mo',λh=>(by cases h),λ_=>⟨_,hS'⟩⟩) _ λ_ _ h=>h⟩
 | succ r ih =>
  intro c g pre post A G μ L m vc hlen hc0 hgrow hall hS hL hLc hvs;obtain⟨k,hk⟩:∃ k,c.length=k:=⟨_,rfl⟩;rw[hk]at hvs hLc;simp only[grow]at hgrow;rw[hk]at hgrow;obtain⟨f,hf⟩:∃ f:List Int->Option (List (List (List Int))),f=λx=>aC (kL (x,c.getD (k-1) [],())) λy1=>bif ltI 0 y1.1 then aC (jX (cl,c,x,())) λy2=>bif y2.1 then grow cl r (c++[x]) else some [] else some []:=⟨_,rfl⟩
  rw[<- hf]at hgrow;refine callsIn_of_wp func90 a2C trivial ?_ rfl;have hF0:=mE (m:=31) (n:=f90.ntmps) (vs:=#[vc,v1,v2,v3,v4]) hvs (by rw[bBA]; show 5<=48; decide);rw[bBA]at hF0 ⊢;have hF0:cZ A G μ 48 (aK6 k notes yv addv cl) _:=hF0;rw[a2D];refine wpIn_seq (o7 hcal hP (a2G k notes yv addv cl L) hS hF0 ?_);intro G1 μ1 a1 A1 hS1 mo1 hF1;refine wpIn_seq (wpIn_seq (o7 hcal hP (a08 k notes yv addv cl L) hS1 hF1 ?_))
  intro G2 μ2 a2 A2 hS2 mo2 hF2;have hc:=u7 (t:=12) hF2 rfl;rw[bP,oF Z]at hc;have hF2':cZ A2 G2 μ2 48 (aK6 k notes yv addv cl) a2:=hF2.pick [0,1,2,3,4];refine wpIn_cond_false hc (wpIn_skip ?_);refine wpIn_seq (wpIn_seq (o7 hcal hP (bA8 k notes yv addv cl L) hS2 hF2' ?_));intro G3 μ3 a3 A3 hS3 mo3 hF3;have mo03:=(mo1.trans mo2).trans mo3;refine wpIn_block (wpIn_loop_ghost (λn a B=>∃ j gd G' μ' L',j<=cl.length/\n=cl.length-j/\KA f (cl.take j)=some gd/\Sg (J (pre++chE gd)) G0 G' μ' (hb L') B/\Mono A G μ B G' μ'/\L'.length=notes/\L'.take k=c/\cZ B G' μ' 48 (R1 k notes yv addv cl j) a) cl.length
   ⟨0,[],G3,μ3,L,Nat.zero_le _,rfl,rfl,by simpa[chE]using hS3,mo03,hL,hLc,hF3⟩ ?_)
  rintro n a B ⟨j,gd,G4,μ4,L',hj,rfl,hgd,hS4,mo4,hL',hLc',hF4⟩;refine wpIn_seq (o7 hcal hP (bAA k notes yv addv cl L' j) hS4 hF4 ?_);intro G5 μ5 a5 A5 hS5 mo5 hF5;have hc5:=u7 (t:=20) hF5 rfl
  by_cases hlt:j<cl.length
  ·rw[aE,oT Z]at hc5;refine wpIn_seq (wpIn_cond_true hc5 (wpIn_skip ?_));have hF5':cZ A5 G5 μ5 48 (R1 k notes yv addv cl j) a5:=hF5.pick [0,1,2,3,4,17,18,19];refine wpIn_seq (wpIn_block (wpIn_seq (o7 hcal hP (sl:=[0,1,2,3,4,17,18,19,8]) (by rw[bBD,aK,oT Z]; rfl) hS5 hF5' ?_)));intro G6 μ6 a6 A6 hS6 mo6 hF6;have hx:cl.getD (Int.toNat (j:Int)) []=cl[j]:=by simp[hlt]
   rw[hx]at hF6;obtain⟨gd',ga,gb,hg1,hg2,hg3,hg4⟩:=a7K hgrow hlt;rw[hgd]at hg1;cases hg1;have hfx:=hg2;rw[hf]at hfx;dsimp only at hfx;have hkk:aB .i64 ((k:Int)-1)=((k-1:Nat):Int):=by rw[wrap64 Z Z]; omega
   have hlast:L'.getD (0+(aB .i64 ((k:Int)-1)).toNat) []=c.getD (k-1) []:=by
    rw[hkk,oN,Nat.zero_add,<- hLc'];rw[oQ,oQ,List.getElem?_take,if_pos Z]
   have hmo6:=(mo4.trans mo5).trans mo6;have hreg:=bB0 k notes yv addv cl L' j cl[j];rw[hkk,aK,oT Z,oC,<- hkk,bW,oT (by rw[hkk,oN]; omega),oC,hlast,List.drop_zero,hLc']at hreg;cases hy1:kL (cl[j],c.getD (k-1) [],())with
   | none=>rw[hy1]at hfx; cases hfx
   | some y1 =>
   rw[hy1,aD]at hfx hreg
   -- what the rest of a round comes to
   have next:∀ (L2:List (List Int)) (G':Gd) (μ':Mp) (a':Act) (A':World),Sg (J (pre++chE (gd++ga))) G0 G' μ' (hb L2) A'->Mono A G μ A' G' μ'->L2.length=notes->L2.take k=c->cZ A' G' μ' 48 (R1 k notes yv addv cl j) a' ->
     (Code.region 8 (dT qO 8) false).wpIn Fence.wide m Tryz.prog (Exit.then (λa' w'=>∃ n',n'<cl.length-j/\∃ j gd G' μ' L',j<=cl.length/\n'=cl.length-j/\KA f (cl.take j)=some gd/\Sg (J (pre++chE gd)) G0 G' μ' (hb L') w'/\Mono A G μ w' G' μ'/\L'.length=notes/\L'.take k=c/\cZ w' G' μ' 48 (R1 k notes yv addv cl j) a')
      (Exit.inBlock 0 (Exit.then ((Code.seq (.region 9 (dT qO 9) false) .ret).wpIn Fence.wide m Tryz.prog (bodyPost Tryz.prog f90 (aHO G0 J Jx pre g notes c A G μ))) (bodyPost Tryz.prog f90 (aHO G0 J Jx pre g notes c A G μ))))) a' A':=by
    intro L2 G' μ' a' A' hS' mo' hl2 ht2 hF';refine o7 hcal hP (bCV k notes yv addv cl L2 j) hS' hF' ?_;intro G9 μ9 a9 A9 hS9 mo9 hF9;rw[bC j Z]at hF9;exact⟨cl.length-(j+1),by omega,j+1,gd++ga,G9,μ9,L2,hlt,rfl,hg3,hS9,mo'.trans mo9,hl2,ht2,hF9⟩
   cases hb1:ltI 0 y1.1 with
   | false =>
    rw[hb1,oD]at hfx hreg;simp only[oJ]at hfx;subst hfx;refine wpIn_seq (WN hcal hP (s:=21) (sl:=[0,1,2,3,4,17,18,19,38,39,43]) aZQ hreg hS6 hF6 ?_);intro G7 μ7 a7 A7 hS7 mo7 hF7;rw[a6S];refine a1K (yI hF7 (bD1 k notes yv addv cl j false)) ?_;rw[aLS];have hF8:cZ A7 G7 μ7 48 ((44,.lit undef)::aBA k notes yv addv cl j false) (a7.put (some 44) undef):=hF7.cons O (by rw[VR]);refine X7 hcal (sl:=[0,1,2,3,4,17,18,19,46]) (aWC k notes yv addv cl j _) aT5 hS7 hF8 ?_
    intro G9 μ9 a9 A9 hS9 mo9 hF9;refine wpIn_cond_false (u7 (t:=46) hF9 rfl) (wpIn_skip ?_);exact next L' G9 μ9 a9 A9 (by rw[List.append_nil]; exact hS9) ((hmo6.trans mo7).trans mo9) hL' hLc' (hF9.pick [0,1,2,3,4,17,18,19])
   | true =>
    rw[hb1,oC]at hfx hreg;cases hy2:jX (cl,c,cl[j],())with
    | none=>rw[hy2]at hfx; cases hfx
    | some y2 =>
    rw[hy2,aD]at hfx hreg;cases hb2:y2.1 with
    | false =>
     rw[hb2,oD]at hfx hreg;simp only[oJ]at hfx;subst hfx;refine wpIn_seq (WN hcal hP (s:=21) (sl:=[0,1,2,3,4,17,18,19,38,39,43]) aZQ hreg hS6 hF6 ?_);intro G7 μ7 a7 A7 hS7 mo7 hF7;rw[a6S];refine a1K (yI hF7 (bD1 k notes yv addv cl j false)) ?_;rw[aLS];have hF8:cZ A7 G7 μ7 48 ((44,.lit undef)::aBA k notes yv addv cl j false) (a7.put (some 44) undef):=hF7.cons O (by rw[VR]);refine X7 hcal (sl:=[0,1,2,3,4,17,18,19,46]) (aWC k notes yv addv cl j _) aT5 hS7 hF8 ?_
     intro G9 μ9 a9 A9 hS9 mo9 hF9;refine wpIn_cond_false (u7 (t:=46) hF9 rfl) (wpIn_skip ?_);exact next L' G9 μ9 a9 A9 (by rw[List.append_nil]; exact hS9) ((hmo6.trans mo7).trans mo9) hL' hLc' (hF9.pick [0,1,2,3,4,17,18,19])
    | true =>
     rw[hb2,oC]at hfx hreg;rw[cT,oT Z,oC]at hreg;refine wpIn_seq (WN hcal hP (s:=21) (sl:=[0,1,2,3,4,17,18,19,38,39,43]) aZQ hreg hS6 hF6 ?_);intro G7 μ7 a7 A7 hS7 mo7 hF7;rw[a6S];have hcl1:(c++[cl[j]]).length=k+1:=by rw[oH,hk]; rfl
     have hsl:(spl L' (0+k) [cl[j]]).length=notes:=by simp only[spl,oH,List.length_take,List.length_drop,List.length_cons,List.length_nil]; omega
     have hst:(spl L' (0+k) [cl[j]]).take (k+1)=c++[cl[j]]:=by
      simp only[spl,Nat.zero_add,List.length_cons,List.length_nil];rw[hLc',<- List.append_assoc,<- hcl1,List.take_left]
     have hall2:all=(pre++chE gd)++chE ga++(chE gb++post):=by rw[hall,hg4]; simp only[chE,List.map_append,List.append_assoc]
     have hvs7:VRs A7 G7 μ7 [.win 0 0 (k+1) 1,.iptr [.lit (.int .i64 notes)],.iptr [.lit yv],.iptr [q9 mF cl none],.iptr [.lit addv]] [a7.tmps.getD 43 undef,v1,v2,v3,v4]:=by
      have h1:=VRs.mono (hmo6.trans mo7) _ _ hvs;rw[VRs]at h1 ⊢;obtain⟨x0,xs0,e0,_,h3⟩:=h1;cases e0;exact⟨_,_,rfl,hF7.slot 43,h3⟩
     have hih:=λm'=>ih (c++[cl[j]]) ga (pre++chE gd) (chE gb++post) A7 G7 μ7 (spl L' (0+k) [cl[j]]) m' (a7.tmps.getD 43 undef) (by rw[hcl1]; omega) (by rw[hcl1]; omega) hfx hall2 hS7 hsl (by rw[hcl1]; exact hst) (by rw[hcl1]; exact hvs7)
     refine aV0 bB5 bCW (yI hF7 (bD1 k notes yv addv cl j true)) (by rw[aGT (t:=39) hF7 rfl,hadd]) (us:=#[a7.tmps.getD 43 undef,v1,v2,v3,v4]) (by rw[bBP,aCK]; rfl) (enters func90 Y Y _ _) hih ?_;rintro en C ⟨bb,G',μ',H',rfl,moC,ht,hff⟩;cases bb with
     | true =>
      obtain⟨L3,rfl,hS8,hl3,ht3⟩:=ht rfl;refine⟨_,rfl,?_⟩;rw[aLS];have hF8:cZ C G' μ' 48 ((44,.lit (.bool true))::aBA k notes yv addv cl j true) (a7.put (some 44) (.bool true)):=(hF7.mono moC).cons O (by rw[VR]);refine X7 hcal (sl:=[0,1,2,3,4,17,18,19,46]) (a6W k notes yv addv cl j _) aT5 hS8 hF8 ?_;intro G9 μ9 a9 A9 hS9 mo9 hF9;refine wpIn_cond_false (u7 (t:=46) hF9 rfl) (wpIn_skip ?_);have ht4:L3.take k=c:=by
       have:=oZ (List.take k) ht3;rw[List.take_take,hcl1,Nat.min_eq_left Z]at this;rw[this,<- hk,List.take_left]
      exact next L3 G9 μ9 a9 A9 (by rw[chE,List.map_append,<- List.append_assoc]; exact hS9) (((hmo6.trans mo7).trans moC).trans mo9) hl3 ht4 (hF9.pick [0,1,2,3,4,17,18,19])
     | false =>
      obtain⟨q,hS8⟩:=hff rfl;refine⟨_,rfl,?_⟩;rw[aLS];have hF8:cZ C G' μ' 48 ((44,.lit (.bool false))::aBA k notes yv addv cl j true) (a7.put (some 44) (.bool false)):=(hF7.mono moC).cons O (by rw[VR]);refine X7 hcal (sl:=[46]) (a6B k notes yv addv cl j _) aT5 hS8 hF8 ?_;intro G9 μ9 a9 A9 hS9 mo9 hF9;refine wpIn_cond_true (u7 (t:=46) hF9 rfl) ?_;have hF9':cZ A9 G9 μ9 48 [] a9:=hF9.pick []
      refine wpIn_seq (o7 hcal hP (bCK H') hS9 hF9' ?_);intro G10 μ10 a10 A10 hS10 mo10 hF10;refine wpIn_ret ?_;have h6:a10.tmps.getD 6 undef=.bool false:=u7 (t:=6) hF10 rfl;refine⟨hF10.defers,_,results_tmp a7H _ _ _,?_⟩;rw[h6];exact⟨false,G10,μ10,H',rfl,(((hmo6.trans mo7).trans moC).trans mo9).trans mo10,λh=>(by cases h),λ_=>⟨q,hS10⟩⟩
  ·rw[aE,oF Z]at hc5;refine wpIn_seq (wpIn_cond_false hc5 (wpIn_exit ?_));have hje:j=cl.length:=Z
   subst hje;rw[List.take_length,hgrow]at hgd;cases hgd;have hF5':cZ A5 G5 μ5 48 [] a5:=hF5.pick [];refine wpIn_seq (o7 hcal hP (bBK (hb L')) hS5 hF5' ?_);intro G9 μ9 a9 A9 hS9 mo9 hF9;refine wpIn_ret ⟨hF9.defers,_,results_tmp a7H _ _ _,?_⟩;have h6:a9.tmps.getD 6 undef=.bool true:=u7 (t:=6) hF9 rfl;rw[h6];exact⟨true,G9,μ9,hb L',rfl,(mo4.trans mo5).trans mo9,λ_=>⟨L',rfl,hS9,hL',by rw[hk]; exact hLc'⟩,λh=>by cases h⟩
end
abbrev E0:Env:=DW []
theorem bDH:eS Tryz.prog E0:=aR trivial
def KV:Code:=cQ f74
theorem bAE:KV=.seq (.region 0 (dT KV 0) false) (.block 0 (.loop (.seq (.region 1 (dT KV 1) false) (.seq (.cond (.tmp 8) .skip (.exit 0)) (.seq (.block 1 (.seq (.region 2 (dT KV 2) false) (.seq (.region 3 (dT KV 3) false) (.cond (.tmp 14) .ret .skip)))) (.region 4 (dT KV 4) false)))))):=Y
def fV(x:aBD [.list (.list (.int .i64))]):Option (List (aM [.list (.int .i64)])):=match x with
 | (l,())=>bif Nat.ble l.length 1048576 then some (l.map λx=>(x,())) else none
abbrev bAR:Ty:=.list (.int .i64)
def YF(yv:Value)(cl:List (List Int))(i:Int):Frm:=[(0,.lit yv),(5,q9 bAR cl none),(6,.lit (.int .i64 cl.length)),(7,.lit (.int .i64 i))]
theorem bA4(yv:Value)(cl:List (List Int)):lP Tryz.prog E0 16 (dT KV 0) false [(0,.lit yv),(1,.iptr (enc (.list bAR) cl))] [] (λF H=>some (qG [0,5,6,7] F,H))=some (YF yv cl 0,[]):=Y
theorem bAS(yv:Value)(cl:List (List Int))(i:Int):lP Tryz.prog E0 16 (dT KV 1) false (YF yv cl i) [] (λF H=>some (qG [0,5,6,7,8] F,H))=some (YF yv cl i++[(8,.lit (.bool (ltI i cl.length)))],[]):=Y
theorem bBJ(yv:Value)(cl:List (List Int))(i:Int):lP Tryz.prog E0 16 (dT KV 2) false (YF yv cl i) [] (λF H=>some (qG [0,5,6,7,4] F,H))=bif aF i cl.length then some (YF yv cl i++[(4,q9 (.int .i64) (cl.getD i.toNat []) none)],[]) else none:=Y
theorem a5O(yv:Value)(cl:List (List Int))(i:Int)(x:List Int):FN Tryz.prog E0 16 (dT KV 3).toList ((dT KV 3).toList.take 2) (YF yv cl i++[(4,q9 (.int .i64) x none)]) [] (λF H=>some (qG [0,5,6,7,11,12] F,H))=some (YF yv cl i++[(11,.lit yv),(12,q9 (.int .i64) x none)],[]):=Y
theorem a63(yv:Value)(cl:List (List Int))(i:Int):FN Tryz.prog E0 16 (dT KV 3).toList ((dT KV 3).toList.drop 3) ((13,.lit (.bool true))::YF yv cl i) [] (λF H=>some (qG [0,5,6,7,14] F,H))=some (YF yv cl i++[(14,.lit (.bool false))],[]):=Y
theorem a97(yv:Value)(cl:List (List Int))(i:Int):FN Tryz.prog E0 16 (dT KV 3).toList ((dT KV 3).toList.drop 3) ((13,.lit (.bool false))::YF yv cl i) [] (λF H=>some (qG [0,5,6,7,14] F,H))=some (YF yv cl i++[(14,.lit (.bool true))],[]):=Y
theorem bB4(yv:Value)(cl:List (List Int))(i:Int):lP Tryz.prog E0 16 (dT KV 4) false (YF yv cl i) [] (λF H=>some (qG [0,5,6,7] F,H))=some (YF yv cl (aB .i64 (i+1)),[]):=Y
theorem bEJ:(dT KV 3).toList.drop 2=pR KV 3 2::(dT KV 3).toList.drop 3:=Y
theorem bAC:QK (dT KV 3) 2=true:=Y
theorem a8J:(((dT KV 3).toList.drop 3).all λo=>!aHG o.op)=true:=Y
theorem bBI:(pR KV 3 2).op=.call (OY (pR KV 3 2)):=Y
theorem bBQ:(OY (pR KV 3 2)).callee=.value (.tmp 11):=Y
theorem bA2:(OY (pR KV 3 2)).args=#[.tmp 12]:=Y
theorem bC0:(pR KV 3 2).guard=none:=Y
theorem a1W:(pR KV 3 2).dst=some 13:=Y
theorem bFL:f74.results=#[]:=Y
theorem bBO:f74.body=some KV:=Y
theorem bEZ:f74.ntmps=16:=Y
theorem bHH:aTR Tryz.prog 74 [.list (.list (.int .i64))] [.list (.int .i64)] fV:=by
 rintro⟨cl,⟨⟩⟩ all hall m l W G vs hlt hvs J Jx hY hJ;unfold fV at hall;obtain⟨hlen,hall⟩:=aJ hall;have hlen:=oL hlen;simp only[oJ]at hall;subst hall;obtain⟨yv,hyv⟩:∃ yv:Value,yv=.func (.yield l) #[] #[]:=⟨_,rfl⟩;have hcl:dA Tryz.prog (eY Tryz.prog E0):=bDH.callee;have hP:=aZ.mixed;refine callsIn_of_wp func74 bBO trivial ?_ rfl;have hargs:VRs W (Gd.of G) aG [.lit yv,.iptr (enc (.list bAR) cl)] ((#[.func (.yield l) #[] #[]]:Array Value)++vs.toArray).toList:=by
  rw[<- hyv];simp only[ZX]at hvs;simp only[Array.toList_append,List.cons_append,List.nil_append];rw[VRs];exact⟨yv,vs,rfl,by rw[VR],hvs⟩
 have hF0:=mE (m:=3) (n:=f74.ntmps) hargs (by rw[bEZ]; show 2<=16; decide);rw[bEZ]at hF0 ⊢;have hF0:cZ W (Gd.of G) aG 16 [(0,.lit yv),(1,.iptr (enc (.list bAR) cl))] _:=hF0;have hS0:Sg (J []) (Gd.of G) (Gd.of G) aG [] W:=Sg.start hlt hJ;rw[bAE];refine wpIn_seq (o7 hcl hP (bA4 yv cl) hS0 hF0 ?_);intro G1 μ1 a1 A1 hS1 _ hF1;have hret:∀ (ex:Exit) (a:Act) (A:World),(ex=.normal\/ex=.ret)->a.defers=[]->(∃ Φ,Sg Φ (Gd.of G) G1 μ1 [] A1/\True)->∀ (T X:Nat->Prop) (B:World),Stp X B A->(J (cl.map λx=>(x,())) T X B\/∃ pre,Jx pre T X B) ->
   bodyPost Tryz.prog f74 (λen C=>(∃ v,en=.returned v)/\∃ T X B,Stp X B C/\(J (cl.map λx=>(x,())) T X B\/∃ pre,Jx pre T X B)) ex a A:=by
  intro ex a A hex hd _ T X B hst hj;have hr:(results f74 a.tmps).run Tryz.prog A=.ok (.tuple #[]) A:=by simp[results,bFL]
  rcases hex with rfl|rfl
  ·exact⟨hd,_,hr,⟨_,rfl⟩,T,X,B,hst,hj⟩
  ·exact⟨hd,_,hr,⟨_,rfl⟩,T,X,B,hst,hj⟩
 refine wpIn_block (wpIn_loop_ghost (λk a A=>∃ j G' μ',j<=cl.length/\k=cl.length-j/\Sg (J ((cl.take j).map λx=>(x,()))) (Gd.of G) G' μ' [] A/\cZ A G' μ' 16 (YF yv cl j) a) cl.length ⟨0,G1,μ1,Nat.zero_le _,rfl,hS1,hF1⟩ ?_);rintro k a A ⟨j,G2,μ2,hj,rfl,hS2,hF2⟩;refine wpIn_seq (o7 hcl hP (bAS yv cl j) hS2 hF2 ?_);intro G3 μ3 a3 A3 hS3 _ hF3;have hc:=u7 (t:=8) hF3 rfl
 by_cases hlt2:j<cl.length
 ·rw[aE,oT Z]at hc;refine wpIn_seq (wpIn_cond_true hc (wpIn_skip ?_));have hF3':cZ A3 G3 μ3 16 (YF yv cl j) a3:=hF3.pick [0,5,6,7];refine wpIn_seq (wpIn_block (wpIn_seq (o7 hcl hP (sl:=[0,5,6,7,4]) (by rw[bBJ,aK,oT Z]; rfl) hS3 hF3' ?_)));intro G4 μ4 a4 A4 hS4 _ hF4;refine wpIn_seq (a29 hcl hP (s:=2) (sl:=[0,5,6,7,11,12]) bAC (a5O yv cl j _) hS4 hF4 ?_);intro G5 μ5 a5 A5 hS5 _ hF5
  rw[bEJ];have hx:cl.getD (Int.toNat (j:Int)) []=cl[j]:=by simp[hlt2]
  have h12:=hF5.slot 12;have h12:VR A5 G5 aG (q9 (.int .i64) cl[j] none) (a5.tmps.getD 12 undef):=by
   rw[<- hx];exact nC _ _ rfl h12
  have hall:(cl.map λx=>((x,()):aM [.list (.int .i64)]))=((cl.take j).map λx=>(x,()))++(cl[j],())::((cl.drop (j+1)).map λx=>(x,())):=by rw[<- List.map_cons (f:=λx=>((x,()):aM [.list (.int .i64)])),<- List.map_append,<- List.drop_eq_getElem_cons hlt2,List.take_append_drop]
  have hy:=λm'=>hS5.yield (us:=[a5.tmps.getD 12 undef]) hY hall (by
   simp only[kX,B8];rw[VRs];exact⟨_,[],rfl,h12,by rw[VRs]⟩) rfl m'
  refine aX8 bBI bBQ (aAF bC0) (by rw[<- hyv]; exact aGT (t:=11) hF5 rfl) (us:=[a5.tmps.getD 12 undef].toArray) (by rw[bA2]; exact aCK a5 12) hy ?_;rintro en C ⟨hmo,hout⟩;have hF6:cZ C G5 μ5 16 (YF yv cl j) a5:=(hF5.mono hmo).pick [0,5,6,7];have htake:(cl.take (j+1)).map (λx=>((x,()):aM [.list (.int .i64)]))=((cl.take j).map λx=>(x,()))++[(cl[j],())]:=by rw[List.take_succ_eq_append_getElem hlt2,List.map_append]; rfl
  rcases hout with ⟨rfl,hS6⟩|⟨rfl,hS6⟩
  ·refine⟨_,rfl,?_⟩;rw[a1W];have hF7:cZ C G5 μ5 16 ((13,.lit (.bool true))::YF yv cl j) (a5.put (some 13) (.bool true)):=hF6.cons O (by rw[VR]);refine X7 hcl (sl:=[0,5,6,7,14]) (a63 yv cl j) a8J hS6 hF7 ?_;intro G8 μ8 a8 A8 hS8 _ hF8;refine wpIn_cond_false (u7 (t:=14) hF8 rfl) (wpIn_skip ?_);have hF8':cZ A8 G8 μ8 16 (YF yv cl j) a8:=hF8.pick [0,5,6,7];refine o7 hcl hP (bB4 yv cl j) hS8 hF8' ?_
   intro G9 μ9 a9 A9 hS9 _ hF9;rw[bC j Z]at hF9;exact⟨cl.length-(j+1),by omega,j+1,G9,μ9,hlt2,rfl,by rw[htake]; exact hS9,hF9⟩
  ·refine⟨_,rfl,?_⟩;rw[a1W];have hF7:cZ C G5 μ5 16 ((13,.lit (.bool false))::YF yv cl j) (a5.put (some 13) (.bool false)):=hF6.cons O (by rw[VR]);refine X7 hcl (sl:=[0,5,6,7,14]) (a97 yv cl j) a8J hS6 hF7 ?_;intro G8 μ8 a8 A8 hS8 _ hF8;refine wpIn_cond_true (u7 (t:=14) hF8 rfl) (wpIn_ret ?_);obtain⟨T,X,B,hst,hjx⟩:=hS8.stp;exact hret .ret a8 A8 (.inr rfl) hF8.defers ⟨_,hS1,trivial⟩ T X B hst (.inr ⟨_,hjx⟩)
 ·rw[aE,oF Z]at hc;refine wpIn_seq (wpIn_cond_false hc (wpIn_exit ?_));have hje:j=cl.length:=Z
  subst hje;rw[List.take_length]at hS3;obtain⟨T,X,B,hst,hj2⟩:=hS3.stp;exact hret .normal a3 A3 (.inl rfl) hF3.defers ⟨_,hS1,trivial⟩ T X B hst (.inl hj2)
def XJ:Code:=cQ f89
theorem bBW:XJ=.seq (.region 0 (dT XJ 0) false) (.seq (.region 1 (dT XJ 1) false) (.seq (.region 2 (dT XJ 2) false) (.region 3 (dT XJ 3) true))):=Y
def aG2(notes col:Int)(cl:List (List Int)):Frm:=[(1,.iptr [.lit (.int .i64 notes)]),(2,.iptr [q9 mF cl none]),(3,.iptr [.lit (.int .i64 col)])]
def a0V(notes:Int)(cl:List (List Int)):PV:=.clo (.func 90) [] [.iptr [.lit (.int .i64 notes)],.hptr 0 0,.iptr [q9 mF cl none],.hptr 1 0]
section
variable (notes col:Int) (cl:List (List Int)) (yv addv:Value)
theorem bA9(l:Nat):lP Tryz.prog E0 15 (dT XJ 0) false ((0,.lit (.func (.yield l) #[] #[]))::aG2 notes col cl) [] (λF H=>some (qG [1,2,3,4] F,H))=some (aG2 notes col cl++[(4,.hptr 0 0)],[some ⟨[.lit (.func (.yield l) #[] #[])],131,false,false,none⟩]):=Y
theorem bAW:lP Tryz.prog E0 15 (dT XJ 1) false (aG2 notes col cl++[(4,.hptr 0 0)]) [some ⟨[.lit yv],131,false,false,none⟩] (λF H=>some (qG [1,2,3,4,5] F,H))=some (aG2 notes col cl++[(4,.hptr 0 0),(5,.hptr 1 0)],[some ⟨[.lit yv],131,false,false,none⟩,some ⟨[.lit .nilFunc],131,false,false,none⟩]):=Y
theorem bBC:lP Tryz.prog E0 15 (dT XJ 2) false (aG2 notes col cl++[(4,.hptr 0 0),(5,.hptr 1 0)]) [some ⟨[.lit yv],131,false,false,none⟩,some ⟨[.lit .nilFunc],131,false,false,none⟩] (λF H=>some (qG [1,2,3,4,5] F,H))=some (aG2 notes col cl++[(4,.hptr 0 0),(5,.hptr 1 0)],[some ⟨[.lit yv],131,false,false,none⟩,some ⟨[a0V notes cl],131,false,false,none⟩]):=Y
theorem bAL:lP Tryz.prog E0 15 ((dT XJ 3).toList.take 7).toArray true (aG2 notes col cl++[(5,.iptr [.lit addv])]) [] (λF H=>some (qG [7,13] F,H)) =
  bif !(ltI notes 0) then bif !(ltI 1048576 notes) then bif !(ltI col 0) then bif !(ltI col col) then bif !(ltI 1048576 col) then bif Nat.ble (0+0+1) (List.replicate notes.toNat ([]:List Int)).length then
   some ([(7,.lit addv),(13,.win 0 0 1 1)],hb (spl (List.replicate notes.toNat []) (0+0) [List.replicate col.toNat 0])) else none else none else none else none else none else none:=Y
end
theorem bF3:(dT XJ 3).toList.drop 7=[pR XJ 3 7]:=Y
theorem bDN:QK (dT XJ 3) 7=true:=Y
theorem bFE:(pR XJ 3 7).op=.call (OY (pR XJ 3 7)):=Y
theorem bFZ:(OY (pR XJ 3 7)).callee=.value (.tmp 7):=Y
theorem bFC:(OY (pR XJ 3 7)).args=#[.tmp 13]:=Y
theorem bFA:(pR XJ 3 7).guard=none:=Y
theorem bE3:(pR XJ 3 7).dst=some 14:=Y
theorem bCR:f89.body=some XJ:=Y
theorem bFF:f89.ntmps=15:=Y
theorem bE9:f89.results=#[]:=Y
def aVS(x:aBD [.int .i64,.list (.list (.int .i64)),.int .i64]):Option (List (aM [.list (.list (.int .i64))])):=match x with
 | (notes,cl,col,())=>bif ltI 0 notes&&!ltI 1048576 notes&&!ltI col 0&&!ltI 1048576 col&&Nat.ble cl.length 1048576 then (match grow cl (notes.toNat-1) [List.replicate col.toNat 0]with
  | some g=>some (chE g)
  | none=>none) else none
set_option maxHeartbeats 2000000 in
theorem bEK:aTR Tryz.prog 89 [.int .i64,.list (.list (.int .i64)),.int .i64] [.list (.list (.int .i64))] aVS:=by
 rintro⟨notes,cl,col,⟨⟩⟩ all hall m l W G vs hlt hvs J Jx hY hJ;unfold aVS at hall;dsimp only at hall;obtain⟨hcond,hall⟩:=aJ hall;simp only[oA,Bool.not_eq_true',aE,decide_eq_true_eq,decide_eq_false_iff_not]at hcond;obtain⟨⟨⟨⟨c1,c2⟩,c3⟩,c4⟩,c5⟩:=hcond;have c5:=oL c5;obtain⟨g,hg⟩:∃ g,grow cl (notes.toNat-1) [List.replicate col.toNat 0]=some g:=by
  cases h:grow cl (notes.toNat-1) [List.replicate col.toNat 0]with
  | none=>rw[h]at hall; cases hall
  | some g=>exact⟨g,rfl⟩
 rw[hg]at hall;simp only[oJ]at hall;subst hall;obtain⟨nn,hnn⟩:=Int.eq_ofNat_of_zero_le (a:=notes) (Int.le_of_lt c1);subst hnn;rw[oN]at hg;have hcal:dA Tryz.prog (eY Tryz.prog E0):=bDH.callee;have hP:=aZ.mixed;refine callsIn_of_wp func89 bCR trivial ?_ rfl;have hargs:VRs W (Gd.of G) aG [.lit (.func (.yield l) #[] #[]),.iptr [.lit (.int .i64 nn)],.iptr [q9 mF cl none],.iptr [.lit (.int .i64 col)]] ((#[.func (.yield l) #[] #[]]:Array Value)++vs.toArray).toList:=by
  simp only[ZX]at hvs;simp only[Array.toList_append,List.cons_append,List.nil_append];rw[VRs];exact⟨_,vs,rfl,by rw[VR],hvs⟩
 have hF0:=mE (m:=15) (n:=f89.ntmps) hargs (by rw[bFF]; show 4<=15; decide);rw[bFF]at hF0 ⊢;have hF0:cZ W (Gd.of G) aG 15 ((0,.lit (.func (.yield l) #[] #[]))::aG2 nn col cl) _:=hF0;have hS0:Sg (J []) (Gd.of G) (Gd.of G) aG [] W:=Sg.start hlt hJ;rw[bBW];refine wpIn_seq (o7 hcal hP (bA9 nn col cl l) hS0 hF0 ?_);intro G1 μ1 a1 A1 hS1 _ hF1;refine wpIn_seq (o7 hcal hP (bAW nn col cl (.func (.yield l) #[] #[])) hS1 hF1 ?_)
 intro G2 μ2 a2 A2 hS2 _ hF2;refine wpIn_seq (o7 hcal hP (bBC nn col cl (.func (.yield l) #[] #[])) hS2 hF2 ?_);intro G3 μ3 a3 A3 hS3 _ hF3
 -- the two variables are data from now on
 obtain⟨hS4,mo4⟩:=hS3.freeze (r:=0) (k:=⟨[.lit (.func (.yield l) #[] #[])],131,false,false,none⟩) rfl rfl;obtain⟨hS5,mo5⟩:=hS4.freeze (r:=1) (k:=⟨[a0V nn cl],131,false,false,none⟩) rfl rfl;obtain⟨G5,hG5⟩:∃ G5:Gd,G5=(G3.or λx=>μ3.loc 0=some x).or λx=>μ3.loc 1=some x:=⟨_,rfl⟩
 rw[<- hG5]at hS5 mo5;have hF5:cZ A3 G5 μ3 15 (aG2 nn col cl++[(4,.hptr 0 0),(5,.hptr 1 0)]) a3:=hF3.mono (mo4.trans mo5);obtain⟨n5,hW5,_,_⟩:=hS5.open_;have s5:=hF5.slot 5;have s5:VR A3 G5 μ3 (.hptr 1 0) (a3.tmps.getD 5 undef):=s5;rw[VR]at s5;obtain⟨b1,hb1,hp1⟩:=s5;obtain⟨_,_,q1,_,q2,_⟩:=hW5.blk 1 ⟨[a0V nn cl],131,false,true,none⟩ b1 rfl hb1;have hGb1:=q2 rfl;rw[aL]at q1;obtain⟨⟨addv,hcell,hclo⟩,_⟩:=q1
 unfold a0V at hclo;rw[VR]at hclo;obtain⟨fs,cs,hadd,hfs,hcs⟩:=hclo;have hfs:fs=#[]:=by
  rw[VRs]at hfs;apply Array.ext'; simpa using hfs
 subst hfs;rw[VRs]at hcs;obtain⟨v1,cs1,e1,hv1,hcs⟩:=hcs;rw[VRs]at hcs;obtain⟨v2,cs2,rfl,hv2,hcs⟩:=hcs;rw[VRs]at hcs;obtain⟨v3,cs3,rfl,hv3,hcs⟩:=hcs;rw[VRs]at hcs;obtain⟨v4,cs4,rfl,hv4,hcs⟩:=hcs;rw[VRs]at hcs;subst hcs;have hcsA:cs=#[v1,v2,v3,v4]:=by apply Array.ext'; simpa using e1
 subst hcsA;have hbox:∀ {u:Value},u=.pointer (some ⟨b1,μ3.sh 1+0,none⟩)->VR A3 G5 aG (.iptr [.lit addv]) u:=by
  rintro u rfl;rw[VR];refine⟨b1,μ3.sh 1+0,rfl,hGb1,?_⟩;rw[aL];exact⟨⟨addv,by rw[Nat.add_zero]; exact hcell,by rw[VR]⟩,by rw[aL]; trivial⟩
 have hv2':VR A3 G5 aG (.iptr [.lit (.func (.yield l) #[] #[])]) v2:=by
  rw[VR]at hv2;obtain⟨b0,hb0,rfl⟩:=hv2;obtain⟨_,_,q3,_,q4,_⟩:=hW5.blk 0 ⟨[.lit (.func (.yield l) #[] #[])],131,false,true,none⟩ b0 rfl hb0;rw[VR];refine⟨b0,μ3.sh 0+0,rfl,q4 rfl,?_⟩;rw[Nat.add_zero];rw[aL]at q3 ⊢;obtain⟨⟨u,hu1,hu2⟩,_⟩:=q3;rw[VR]at hu2;exact⟨⟨u,hu1,by rw[VR]; exact hu2⟩,by rw[aL]; trivial⟩
 have hv4':VR A3 G5 aG (.iptr [.lit addv]) v4:=by
  rw[VR]at hv4;obtain⟨b4,hb4,rfl⟩:=hv4;rw[hb1]at hb4;cases hb4;exact hbox rfl
 have hS6:Sg (J []) (Gd.of G) G5 aG [] A3:=hS5.renamed λn0 hW=>⟨λr k b h=>by simp at h,λr k g h=>by simp at h,λr s k l b h=>by simp at h,hW.lt,λ_ _=>⟨rfl,rfl⟩,hW.base,hW.rows.rel (λ_ _=>False) (λ_ _ _ h=>h.elim) (λr k' hr=>by simp at hr)⟩
 have hF6:cZ A3 G5 aG 15 (aG2 nn col cl++[(5,.iptr [.lit addv])]) a3:=by
  refine⟨hF5.size,λt=>?_,hF5.defers⟩
  by_cases h5:t=5
  ·subst h5; exact hbox hp1
  ·have:=hF5.slot t;have e:bM (aG2 nn col cl++[(5,.iptr [.lit addv])]) t=bM (aG2 nn col cl) t:=by
    by_cases h1:t=1
    ·subst h1; rfl
    ·by_cases h2:t=2
     ·subst h2; rfl
     ·by_cases h3:t=3
      ·subst h3; rfl
      ·simp only[aG2,List.cons_append,List.nil_append];rw[bT,if_neg h1,bT,if_neg h2,bT,if_neg h3,bT,if_neg h5];rw[bT,if_neg h1,bT,if_neg h2,bT,if_neg h3]
   rw[e]
   by_cases h1:t=1
   ·subst h1; exact nC (.iptr [.lit (.int .i64 nn)]) _ rfl this
   ·by_cases h2:t=2
    ·subst h2; exact nC (.iptr [q9 mF cl none]) _ rfl this
    ·by_cases h3:t=3
     ·subst h3; exact nC (.iptr [.lit (.int .i64 col)]) _ rfl this
     ·simp only[aG2];rw[bT,if_neg h1,bT,if_neg h2,bT,if_neg h3];simp only[bM];rw[VR]; trivial
 refine WN hcal hP (s:=7) (sl:=[7,13]) bDN (by
  rw[bAL];simp only[aE,cT];rw[oF Z,oF Z,oF Z,oF Z,oF Z,oT (by rw[List.length_replicate]; omega)];rfl) hS6 hF6 ?_
 intro G7 μ7 a7 A7 hS7 mo7 hF7;rw[bF3];have hS7:Sg (J []) (Gd.of G) G7 μ7 (hb (spl (List.replicate nn []) 0 [List.replicate col.toNat 0])) A7:=by
  have:=hS7;rwa[oN]at this
 have hvs7:VRs A7 G7 μ7 [.win 0 0 1 1,.iptr [.lit (.int .i64 nn)],.iptr [.lit (.func (.yield l) #[] #[])],.iptr [q9 mF cl none],.iptr [.lit addv]] [a7.tmps.getD 13 undef,v1,v2,v3,v4]:=by
  have m7:Mono A3 G5 aG A7 G7 μ7:=mo7;rw[VRs]; refine⟨_,_,rfl,hF7.slot 13,?_⟩;rw[VRs]; refine⟨_,_,rfl,VR.mono m7 _ _ (nC _ _ rfl hv1),?_⟩;rw[VRs]; refine⟨_,_,rfl,VR.mono m7 _ _ hv2',?_⟩;rw[VRs]; refine⟨_,_,rfl,VR.mono m7 _ _ (nC _ _ rfl hv3),?_⟩;rw[VRs]; refine⟨_,_,rfl,VR.mono m7 _ _ hv4',?_⟩;rw[VRs]
 have hcall:=λm'=>bGI hY (notes:=nn) (cl:=cl) Z c5 (v1:=v1) (v2:=v2) (v3:=v3) (v4:=v4) rfl hadd (nn-1) [List.replicate col.toNat 0] g [] [] A7 G7 μ7 (spl (List.replicate nn []) 0 [List.replicate col.toNat 0]) m' (a7.tmps.getD 13 undef)
  (by simp only[List.length_cons,List.length_nil]; omega) R hg R hS7 (by simp only[spl,oH,List.length_take,List.length_drop,List.length_replicate,List.length_cons,List.length_nil]; omega) (by simp[spl]) hvs7
 refine aV0 bFE bFZ (aAF bFA) (by rw[aGT (t:=7) hF7 rfl,hadd]) (us:=#[a7.tmps.getD 13 undef,v1,v2,v3,v4]) (by rw[bFC,aCK]; rfl) (enters func90 Y Y _ _) hcall ?_;rintro en C ⟨bb,G',μ',H',rfl,moC,ht,hff⟩;refine⟨_,rfl,?_⟩;have hd:(a7.put (pR XJ 3 7).dst (.bool bb)).defers=[]:=by rw[bE3]; exact hF7.defers
 have hr:∀ tmps,(results f89 tmps).run Tryz.prog C=.ok (.tuple #[]) C:=λtmps=>by simp[results,bE9]
 cases bb with
 | true =>
  obtain⟨L',rfl,hS8,_,_⟩:=ht rfl;obtain⟨T,X,B,hst,hj⟩:=hS8.stp;rw[List.nil_append]at hj;exact⟨hd,_,hr _,⟨_,rfl⟩,T,X,B,hst,.inl hj⟩
 | false =>
  obtain⟨q,hS8⟩:=hff rfl;obtain⟨T,X,B,hst,hj⟩:=hS8.stp;exact⟨hd,_,hr _,⟨_,rfl⟩,T,X,B,hst,.inr ⟨q,hj⟩⟩
set_option maxHeartbeats 4000000
abbrev gV:List (Nat×Kd):=[(6,.bown 60 50 (.list (.list (.int .i64)))),(7,.box 35 (.int .i64)),(10,.bown 60 50 (.list (.list (.int .i64)))),(30,.clo 89 [(.int .i64),(.list (.list (.int .i64))),(.int .i64)])]
abbrev qK:List (Ex×List (Nat×Kd)):=[(.normal,[(6,.bown 60 50 (.list (.list (.int .i64)))),(7,.box 35 (.int .i64)),(10,.bown 60 50 (.list (.list (.int .i64))))]),(.ret,[(6,.bown 60 50 (.list (.list (.int .i64)))),(7,.box 35 (.int .i64))])]
def LK(x:Shape.den gV)(e:aM [.list (.list (.int .i64))]):Option (Shape.den gV⊕cD qK):=match x,e with
 | (v6,v7,v10,v30,()),(e0,()) =>
  bif eqI (v10.length:Int) 5000 then
   some (.inr (.inr (([],4,()))))
  else aC (H6 (e0,())) λy3 =>
  bif Nat.ble [y3.1].length 1048576 then bif Nat.ble v10.length 1048576 then some (.inl (v6,v7,(v10++[y3.1]),(v30.1,v30.2.1,v30.2.2.1,()),())) else none else none
def N0(x:Shape.den gV):aBD [(.int .i64),(.list (.list (.int .i64))),(.int .i64)]:=match x with
 | (v6,v7,v10,v30,())=>(v30.1,v30.2.1,v30.2.2.1,())
def CU(x:Shape.den gV):Option (cD qK):=aW0 gV qK (λx=>aVS (N0 x)) LK x
def FH(x:aM [.int .i64,.list (.list (.int .i64)),.int .i64]):Option (aM [.list (.list (.list (.int .i64))),.int .i64]):=match x with
 | (v0,v1,v2,()) =>
  aC (mK (v0,v1,())) λy1 =>
  bif !(eqI y1.2.1 0) then
   some ([],y1.2.1,())
  else bif ltI v2 1 then
   some ([],3,())
  else bif ltI 6 v2 then
   some ([],3,())
  else aC (FF (v0,y1.1,v2,())) λy2 =>
  aC (CU ([],0,[],(y2.1.1,y2.1.2.1,y2.1.2.2.1,()),())) λz4 =>
  mY z4 (λa5=>some (a5.2.2.1,0,())) λb6 =>
  some (b6.1,b6.2.1,())
def FO:Code:=cQ f22
abbrev MJ:Env:=DW [DJ,H9,L5]
theorem P6:eS Tryz.prog MJ:=aR ⟨EA,LR,PX,trivial⟩
def eC:Code:=aQV FO 0
def aE8:Code:=inLoop eC
def KH(id:Nat):Option eE:=none
def KR(id:Nat):Option eE:=bif Nat.beq id 9 then some ⟨gV,qK,CU⟩ else none
theorem YM:cA aE8=9:=Y
theorem LH:eC=.rangeFunc (aB0 eC) (aNQ eC) (CK eC) (inLoop eC):=Y
theorem X9:∀ y e,aFP Tryz.prog MJ 41 (UC f22) KH KR (aNQ eC).toList (CK eC) (inLoop eC) [.list (.list (.int .i64))] gV qK y e=LK y e:=by
 rintro⟨v6,v7,v10,v30,⟨⟩⟩ ⟨e0,⟨⟩⟩
 kernel_rfl
theorem aCE:∀ x,aRB 89 [(.int .i64),(.list (.list (.int .i64))),(.int .i64)] gV (aB0 eC) x=some (N0 x):=by
 rintro⟨v6,v7,v10,v30,⟨⟩⟩
 kernel_rfl
theorem ZS:TW Tryz.prog 41 false [] eC ⟨gV,qK,CU⟩:=aCW P6 aZ LH func89 (c:=cQ f89) Y bEK Y (M4 (l:=[]) Y trivial) aCE X9
theorem aAN:pS FO=[eC]:=Y
theorem aDC:∀ x,a94 Tryz.prog MJ f22 (UC f22) KH KR FO [.int .i64,.list (.list (.int .i64)),.int .i64] [.list (.list (.list (.int .i64))),.int .i64] x=FH x:=by
 rintro⟨v0,v1,v2,⟨⟩⟩
 kernel_rfl
abbrev WE:Ent:=⟨22,[.int .i64,.list (.list (.int .i64)),.int .i64],[.list (.list (.list (.int .i64))),.int .i64],FH⟩
theorem aDG:Ent.OK Tryz.prog WE:=a00 aZ P6 func22 (c:=FO) Y (keep:=UC f22) (lt:=KH) (rt:=KR) (M4 aAN ⟨XO LH YM rfl ZS,trivial⟩) aDC
def xO(x:aM [.list (.int .i64),.ptr (.list (.list (.int .i64))),.ptr (.list (.list (.int .i64)))]):Option (aM [.bool]):=match x with
 | (v0,v1,v2,()) =>
  aC (jX (v1,v2,v0,())) λy1 =>
  some (y1.1,())
abbrev J8:Ent:=⟨59,[.list (.int .i64),.ptr (.list (.list (.int .i64))),.ptr (.list (.list (.int .i64)))],[.bool],xO⟩
theorem HB:Ent.OK Tryz.prog J8:=oI (aR (oV GR oW)) func59 Y (by rintro⟨v0,v1,v2,⟨⟩⟩; kernel_rfl)
abbrev lZ:List (Nat×Kd):=[(0,.list (.list (.int .i64))),(1,.clo 59 [(.list (.list (.int .i64))),(.list (.list (.int .i64)))]),(7,.int .i64),(8,.int .i64)]
abbrev tH:List (Ex×List (Nat×Kd)):=[(.ret,[(4,.int .i64)]),(.exit 0,[])]
def DT(x:Shape.den lZ):Option (Shape.den lZ⊕cD tH):=match x with
 | (v0,v1,v7,v8,()) =>
  bif ltI v8 v7 then
   bif aF v8 v0.length then aC (xO ((v0.getD v8.toNat []),v1.1,v1.2.1,())) λy2 =>
   bif y2.1 then
    some (.inr (.inl (v8,())))
   else some (.inl (v0,(v1.1,v1.2.1,()),v7,(aB .i64 (v8+1)),())) else none
  else some (.inr (.inr ((()))))
def rW(x:Shape.den lZ):Option (cD tH):=aW DT (2^64) x
def wB(x:aM [.list (.list (.int .i64)),.clo 59 [(.list (.list (.int .i64))),(.list (.list (.int .i64)))]]):Option (aM [.int .i64]):=match x with
 | (v0,v1,()) =>
  aC (rW (v0,(v1.1,v1.2.1,()),(v0.length:Int),0,())) λz3 =>
  mY z3 (λa4=>some (a4.1,())) λb5 =>
  some ((-1),())
abbrev IG:Ent:=⟨92,[.list (.list (.int .i64)),.clo 59 [(.list (.list (.int .i64))),(.list (.list (.int .i64)))]],[.int .i64],wB⟩
theorem FU:Ent.OK Tryz.prog IG:=oU (aR (oV HB oW)) func92 2 (lp:=rW) rfl Y (by rintro⟨v0,v1,v7,v8,⟨⟩⟩; kernel_rfl) (by rintro⟨v0,v1,⟨⟩⟩; kernel_rfl)
def s9(x:aM [.list (.list (.int .i64)),.clo 59 [(.list (.list (.int .i64))),(.list (.list (.int .i64)))]]):Option (aM [.bool]):=match x with
 | (v0,v1,()) =>
  aC (wB (v0,(v1.1,v1.2.1,()),())) λy1 =>
  some (!(ltI y1.1 0),())
abbrev tL:Ent:=⟨58,[.list (.list (.int .i64)),.clo 59 [(.list (.list (.int .i64))),(.list (.list (.int .i64)))]],[.bool],s9⟩
theorem DF:Ent.OK Tryz.prog tL:=oI (aR (oV FU oW)) func58 Y (by rintro⟨v0,v1,⟨⟩⟩; kernel_rfl)
abbrev eN:List (Nat×Kd):=[(0,.int .i64),(4,.bown 60 50 (.list (.list (.int .i64)))),(5,.box 35 (.int .i64)),(6,.box 25 (.list (.list (.int .i64)))),(22,.clo 89 [(.int .i64),(.list (.list (.int .i64))),(.int .i64)])]
abbrev lS:List (Ex×List (Nat×Kd)):=[(.normal,[(0,.int .i64),(4,.bown 60 50 (.list (.list (.int .i64)))),(5,.box 35 (.int .i64)),(6,.box 25 (.list (.list (.int .i64))))]),(.ret,[(4,.bown 60 50 (.list (.list (.int .i64)))),(5,.box 35 (.int .i64))])]
def GY(x:Shape.den eN)(e:aM [.list (.list (.int .i64))]):Option (Shape.den eN⊕cD lS):=match x,e with
 | (v0,v4,v5,v6,v22,()),(e0,()) =>
  some (.inr (.inr (([],4,()))))
def I6(x:Shape.den eN):aBD [(.int .i64),(.list (.list (.int .i64))),(.int .i64)]:=match x with
 | (v0,v4,v5,v6,v22,())=>(v22.1,v22.2.1,v22.2.2.1,())
def yS(x:Shape.den eN):Option (cD lS):=aW0 eN lS (λx=>aVS (I6 x)) GY x
abbrev eO:List (Nat×Kd):=[(0,.int .i64),(4,.bown 60 50 (.list (.list (.int .i64)))),(5,.box 35 (.int .i64)),(6,.box 25 (.list (.list (.int .i64)))),(8,.bown 60 50 (.list (.list (.int .i64)))),(9,.int .i64),(31,.clo 89 [(.int .i64),(.list (.list (.int .i64))),(.int .i64)])]
abbrev lO:List (Ex×List (Nat×Kd)):=[(.normal,[(0,.int .i64),(4,.bown 60 50 (.list (.list (.int .i64)))),(5,.box 35 (.int .i64)),(6,.box 25 (.list (.list (.int .i64)))),(8,.bown 60 50 (.list (.list (.int .i64)))),(9,.int .i64)]),(.ret,[(4,.bown 60 50 (.list (.list (.int .i64)))),(5,.box 35 (.int .i64))])]
def HG(x:Shape.den eO)(e:aM [.list (.list (.int .i64))]):Option (Shape.den eO⊕cD lO):=match x,e with
 | (v0,v4,v5,v6,v8,v9,v31,()),(e0,()) =>
  aC (s9 (v6,(v6,e0,()),())) λy7 =>
  bif y7.1 then
   some (.inl (v0,v4,v5,v6,v8,v9,(v31.1,v31.2.1,v31.2.2.1,()),()))
  else bif eqI (v8.length:Int) 5000 then
   some (.inr (.inr (([],4,()))))
  else aC (H6 (e0,())) λy8 =>
  bif Nat.ble [y8.1].length 1048576 then bif Nat.ble v8.length 1048576 then some (.inl (v0,v4,v5,v6,(v8++[y8.1]),v9,(v31.1,v31.2.1,v31.2.2.1,()),())) else none else none
def IV(x:Shape.den eO):aBD [(.int .i64),(.list (.list (.int .i64))),(.int .i64)]:=match x with
 | (v0,v4,v5,v6,v8,v9,v31,())=>(v31.1,v31.2.1,v31.2.2.1,())
def yU(x:Shape.den eO):Option (cD lO):=aW0 eO lO (λx=>aVS (IV x)) HG x
abbrev lT:List (Nat×Kd):=[(0,.int .i64),(4,.bown 60 50 (.list (.list (.int .i64)))),(5,.box 35 (.int .i64)),(6,.box 25 (.list (.list (.int .i64)))),(8,.bown 60 50 (.list (.list (.int .i64)))),(9,.int .i64)]
abbrev qH:List (Ex×List (Nat×Kd)):=[(.ret,[(4,.bown 60 50 (.list (.list (.int .i64)))),(5,.box 35 (.int .i64))]),(.exit 2,[(4,.bown 60 50 (.list (.list (.int .i64)))),(5,.box 35 (.int .i64)),(8,.bown 60 50 (.list (.list (.int .i64))))])]
def HR(x:Shape.den lT):Option (Shape.den lT⊕cD qH):=match x with
 | (v0,v4,v5,v6,v8,v9,()) =>
  bif !(ltI 6 v9) then
   aC (FF (v0,v6,v9,())) λy12 =>
   aC (yU (v0,v4,v5,v6,v8,v9,(y12.1.1,y12.1.2.1,y12.1.2.2.1,()),())) λz13 =>
   mY z13 (λa14=>some (.inl (a14.1,a14.2.1,a14.2.2.1,a14.2.2.2.1,a14.2.2.2.2.1,(aB .i64 (a14.2.2.2.2.2.1+1)),()))) λb15 =>
   some (.inr (.inl (b15.1,b15.2.1,())))
  else some (.inr (.inr ((v4,v5,v8,()))))
def xW(x:Shape.den lT):Option (cD qH):=aW HR (2^64) x
def GS(x:aM [.int .i64,.list (.list (.int .i64))]):Option (aM [.list (.list (.list (.int .i64))),.int .i64]):=match x with
 | (v0,v1,()) =>
  aC (mK (v0,v1,())) λy1 =>
  bif !(eqI y1.2.1 0) then
   some ([],y1.2.1,())
  else aC (FF (v0,y1.1,7,())) λy2 =>
  aC (yS (v0,[],0,y1.1,(y2.1.1,y2.1.2.1,y2.1.2.2.1,()),())) λz3 =>
  mY z3 (λa4=>aC (xW (a4.1,a4.2.1,a4.2.2.1,a4.2.2.2.1,[],1,())) λz16 =>
   mY z16 (λa17=>some (a17.1,a17.2.1,())) λb18 =>
   some (b18.2.2.1,0,())) λb5 =>
  some (b5.1,b5.2.1,())
def uD:Code:=cQ f23
abbrev uH:Env:=DW [DJ,H9,L5,tL]
theorem uQ:eS Tryz.prog uH:=aR ⟨EA,LR,PX,DF,trivial⟩
def cX:Code:=aQV uD 0
def Z4:Code:=inLoop cX
def rA:Code:=inLoop (aQV uD 1)
def cW:Code:=aQV rA 0
def Z2:Code:=inLoop cW
def sU(id:Nat):Option eE:=bif Nat.beq id 8 then some ⟨lT,qH,xW⟩ else none
def sQ(id:Nat):Option eE:=bif Nat.beq id 5 then some ⟨eN,lS,yS⟩ else bif Nat.beq id 12 then some ⟨eO,lO,yU⟩ else none
theorem S6:cA Z4=5:=Y
theorem HN:cX=.rangeFunc (aB0 cX) (aNQ cX) (CK cX) (inLoop cX):=Y
theorem TJ:∀ y e,aFP Tryz.prog uH 45 (UC f23) sU sQ (aNQ cX).toList (CK cX) (inLoop cX) [.list (.list (.int .i64))] eN lS y e=GY y e:=by
 rintro⟨v0,v4,v5,v6,v22,⟨⟩⟩ ⟨e0,⟨⟩⟩
 kernel_rfl
theorem WH:∀ x,aRB 89 [(.int .i64),(.list (.list (.int .i64))),(.int .i64)] eN (aB0 cX) x=some (I6 x):=by
 rintro⟨v0,v4,v5,v6,v22,⟨⟩⟩
 kernel_rfl
theorem V1:TW Tryz.prog 45 false [] cX ⟨eN,lS,yS⟩:=aCW uQ aZ HN func89 (c:=cQ f89) Y bEK Y (M4 (l:=[]) Y trivial) WH TJ
theorem TH:cA Z2=12:=Y
theorem HI:cW=.rangeFunc (aB0 cW) (aNQ cW) (CK cW) (inLoop cW):=Y
theorem S4:∀ y e,aFP Tryz.prog uH 45 (UC f23) sU sQ (aNQ cW).toList (CK cW) (inLoop cW) [.list (.list (.int .i64))] eO lO y e=HG y e:=by
 rintro⟨v0,v4,v5,v6,v8,v9,v31,⟨⟩⟩ ⟨e0,⟨⟩⟩
 kernel_rfl
theorem WS:∀ x,aRB 89 [(.int .i64),(.list (.list (.int .i64))),(.int .i64)] eO (aB0 cW) x=some (IV x):=by
 rintro⟨v0,v4,v5,v6,v8,v9,v31,⟨⟩⟩
 kernel_rfl
theorem U7:TW Tryz.prog 45 false [] cW ⟨eO,lO,yU⟩:=aCW uQ aZ HI func89 (c:=cQ f89) Y bEK Y (M4 (l:=[]) Y trivial) WS S4
theorem Y3:pS rA=[cW]:=Y
theorem TK:∀ x,aZV Tryz.prog uH 45 (UC f23) sU sQ false [] rA lT qH x=HR x:=by
 rintro⟨v0,v4,v5,v6,v8,v9,⟨⟩⟩
 kernel_rfl
theorem VK:TW Tryz.prog 45 false [] (.loop rA) ⟨lT,qH,xW⟩:=aW1 uQ.callee aZ.mixed _ (M4 Y3 ⟨XO HI TH rfl U7,trivial⟩) TK
theorem WG:pS uD=[cX,.loop rA]:=Y
theorem X6:∀ x,a94 Tryz.prog uH f23 (UC f23) sU sQ uD [.int .i64,.list (.list (.int .i64))] [.list (.list (.list (.int .i64))),.int .i64] x=GS x:=by
 rintro⟨v0,v1,⟨⟩⟩
 kernel_rfl
abbrev P3:Ent:=⟨23,[.int .i64,.list (.list (.int .i64))],[.list (.list (.list (.int .i64))),.int .i64],GS⟩
theorem XY:Ent.OK Tryz.prog P3:=a00 aZ uQ func23 (c:=uD) Y (keep:=UC f23) (lt:=sU) (rt:=sQ) (M4 WG ⟨XO HN S6 rfl V1,aWB (i:=8) Y rfl VK,trivial⟩) X6
end Go.PM
namespace Go.PM
open Go Go.RowKit Go.Proofs Tryz
set_option maxHeartbeats 4000000
def zE(x:aM []):Option (aM [.bool]):=match x with
 | (()) =>
  aC (FH (2,[[1,0],[0,1],[1,(-1)]],3,())) λy1 =>
  aC (FH (1,[[1],[4],[3]],3,())) λy2 =>
  bif Nat.ble 0 2 then bif Nat.ble 2 [[1,0],[0,1],[1,(-1)]].length then aC (GS (2,(([[1,0],[0,1],[1,(-1)]].drop 0).take (2-0)),())) λy3 =>
  bif eqI y1.2.1 0 then
   aC (BF (y1.1,[[[0,0],[0,1],[1,0]],[[0,0],[1,(-1)],[1,0]]],())) λy4 =>
   bif y4.1 then
    bif eqI y2.2.1 0 then
     aC (BF (y2.1,[[[0],[1],[4]],[[0],[3],[4]]],())) λy5 =>
     bif y5.1 then
      bif eqI y3.2.1 0 then
       aC (BF (y3.1,[[[0,0],[0,1]],[[0,0],[1,0]]],())) λy6 =>
       some (y6.1,())
      else some (false,())
     else some (false,())
    else some (false,())
   else some (false,())
  else some (false,()) else none else none
def GN:Code:=cQ f6
abbrev P8:Env:=DW [WE,P3,SL]
theorem Y7:eS Tryz.prog P8:=aR ⟨aDG,XY,ZO,trivial⟩
def NN(id:Nat):Option eE:=none
theorem XE:bB GN=[]:=Y
theorem XV:∀ x,a03 Tryz.prog P8 f6 (aP f6) NN GN [] [.bool] x=zE x:=by
 rintro⟨⟨⟩⟩
 kernel_rfl
theorem aAZ:ZR Tryz.prog 6 [] [.bool] zE:=aE3 aZ Y7 func6 (c:=GN) Y (keep:=aP f6) (lt:=NN) (aQ XE trivial) XV
def fL(x:aM []):Option (aM [.bool]):=some (true,())
theorem bAT:∀ x,zE x=fL x:=by
 rintro⟨⟩
 kernel_rfl
theorem aAT:ZR Tryz.prog 6 [] [.bool] fL:=by
 have h:zE=fL:=funext bAT;rw[<- h];exact aAZ
abbrev PY:Ent:=⟨6,[],[.bool],fL⟩
theorem XW:Ent.OK Tryz.prog PY:=aAT
end Go.PM
namespace Go.PM
open Go Go.RowKit Go.Proofs
theorem UL(a:Int):EB (a,())=some (false,()):=by unfold EB; simp[bP]
theorem aDS(a b:Int):FE (a,b,())=some (if a<b then -1 else if b<a then 1 else 0,()):=by
 unfold FE; dsimp only;rw[UL,aD,UL,aD];simp only[aE];grind
theorem L7(l m:List Int)(hl:l.length<=9223372036854775806)(hm:m.length<=9223372036854775806):pH (l,m,())=some (cmpL l m,()):=by
 have hloop:p7 (l,m,l,(l.length:Int),0,())=some (((List.range l.length).findSome? λi=>(aIC l m i).map λy=>.inl (y,())).getD (.inr (l,m,()))):=by
  refine qI (N:=2^64) (step:=kC) (λi=>(l,m,l,(l.length:Int),(i:Int),())) (λi=>(aIC l m i).map λy=>.inl (y,())) l.length (.inr (l,m,())) Z ?_ ?_
  ·intro i hi;simp only[kC,aE,bP,aK,pG,aS,oN];rw[if_pos Z,if_pos Z,aDS,aD,bC i Z]
   by_cases h2:i<m.length
   ·rw[if_neg Z,if_pos Z]
    by_cases h3:l.getD i 0<m.getD i 0
    ·have hc:aIC l m i=some (-1):=by unfold aIC; rw[if_neg (λh=>h h2),if_pos h3]
     rw[hc,if_pos h3,if_pos O]; rfl
    ·by_cases h4:m.getD i 0<l.getD i 0
     ·have hc:aIC l m i=some 1:=by unfold aIC; rw[if_neg (λh=>h h2),if_neg h3,if_pos h4]
      rw[hc,if_neg h3,if_pos h4,if_pos O]; rfl
     ·have hc:aIC l m i=none:=by unfold aIC; rw[if_neg (λh=>h h2),if_neg h3,if_neg h4]
      rw[hc,if_neg h3,if_neg h4,if_neg O]; rfl
   ·have hc:aIC l m i=some 1:=by unfold aIC; rw[if_pos h2]
    rw[hc,if_pos Z]; rfl
  ·simp only[kC,aE,aS];rw[if_neg Z]
 have hfind:=(a30 l m 0).resolve_right Z;rw[Nat.sub_zero,<- List.range_eq_range']at hfind;simp only[List.drop_zero]at hfind;unfold pH; dsimp only;rw[hloop,aD,KG,<- hfind];cases (List.range l.length).findSome? (aIC l m)with
 | some y=>rfl
 | none =>
  simp only[Option.map_none,Option.getD_none,lM,aE,aS]
  by_cases h:l.length<m.length
  ·rw[if_pos h,if_pos Z]
  ·rw[if_neg h,if_neg Z]
theorem CI(l m:List Int)(hl:l.length<=9223372036854775806)(hm:m.length<=9223372036854775806):kL (l,m,())=some (cmpL l m,()):=by
 unfold kL; dsimp only;rw[L7 l m hl hm,aD]
end Go.PM
