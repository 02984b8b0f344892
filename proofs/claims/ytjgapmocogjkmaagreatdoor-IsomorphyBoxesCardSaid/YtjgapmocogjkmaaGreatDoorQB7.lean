/- Texts of one proof, joined (7). -/
import Derived.Shelf.SlSortCmp.WholeK
import Derived.Ground.SlsfProg
import Derived.Test.YtjgapmocogjkmaaGreatDoorProg
import Derived.Shelf.Sort.Plain
import Derived.WalkKit
import Derived.Lib.Walk
import Derived.Lib.SliceRun
import Derived.Lib.AtoiTie
import Derived.Lib.ParseIntBTie
import Derived.Lib.AtoiAllCases
import Derived.Test.YtjgapmocogjkmaaGreatDoorQB6
set_option linter.unusedSimpArgs false
set_option linter.unusedVariables false
namespace Go.PM
open Go Go.RowKit Go.Proofs
set_option maxRecDepth 100000
set_option maxHeartbeats 4000000
/-! schisma/table.great -/
def xI (x : aJ [.int .i64]) : Option (aJ [.bool]) := match x with
 | (v0, ()) =>
  bif ltI 1000000000 v0 then
   some (true, ())
  else some (ltI v0 (-1000000000), ())
noncomputable def EX : Code := aR Tryz.f111
abbrev PB : Env := bF []
theorem UG : aW Tryz.prog PB := aU trivial
def K3 (id : Nat) : Option aO := none
theorem Q4 : aE EX = [] := by kernel_rfl
theorem UU : ∀ x, bH Tryz.prog PB Tryz.f111 (aC Tryz.f111) K3 EX [.int .i64] [.bool] x = xI x := by
 rintro ⟨v0, ⟨⟩⟩
 kernel_rfl
theorem ZH : bW Tryz.prog 111 [.int .i64] [.bool] xI := by
 exact aX aM UG Tryz.func111 (c := EX) (by kernel_rfl) (aQ := aC Tryz.f111) (lt := K3) (aD Q4 trivial) UU
abbrev OJ : Ent := ⟨111, [.int .i64], [.bool], xI⟩
theorem UR : Ent.OK Tryz.prog OJ := ZH

/-! slices.IndexFunc[schisma/api.Row,int] -/
abbrev bS : List (Nat × Kd) := [(0, .list TyE), (1, .fn 111), (7, .int .i64), (8, .int .i64)]
abbrev cH : List (Ex × List (Nat × Kd)) := [(.ret, [(4, .int .i64)]), (.exit 0, [])]
def jF (x : Shape.den bS) : Option (Shape.den bS ⊕ aT cH) := match x with
 | (v0, v1, v7, v8, ()) =>
  bif ltI v8 v7 then
   bif bD v8 v0.length then aB (xI ((v0.getD v8.toNat 0), ())) fun y2 =>
   bif y2.1 then
    some (.inr (.inl (v8, ())))
   else some (.inl (v0, (), v7, (aK .i64 (v8 + 1)), ())) else none
  else some (.inr (.inr ((()))))
def fE (x : Shape.den bS) : Option (aT cH) := bZ jF (2 ^ 64) x
def eT (x : aJ [.list TyE, .fn 111]) : Option (aJ [.int .i64]) := match x with
 | (v0, v1, ()) =>
  aB (fE (v0, (), (v0.length : Int), 0, ())) fun z3 =>
  jE z3 (fun a4 => some (a4.1, ())) fun b5 =>
  some ((-1), ())
noncomputable def eN : Code := aR Tryz.f73
abbrev gQ : Env := bF [OJ]
theorem kJ : aW Tryz.prog gQ := aU ⟨UR, trivial⟩
noncomputable def cO : Code := eJ eN 0
def gH (id : Nat) : Option aO := bif Nat.beq id 2 then some ⟨bS, cH, fE⟩ else none
theorem qK : ∀ x, eA Tryz.prog gQ 19 (aC Tryz.f73) gH cO bS cH x = jF x := by
 rintro ⟨v0, v1, v7, v8, ⟨⟩⟩
 kernel_rfl
theorem sM : aE cO = [] := by kernel_rfl
theorem qP : aF cO = 2 := by kernel_rfl
theorem rG : cA Tryz.prog 19 cO ⟨bS, cH, fE⟩ := by
 exact cN kJ.callee aM.mixed _ (aD sM trivial) qK
theorem rV : aE eN = [cO] := by kernel_rfl
theorem sP : ∀ x, bH Tryz.prog gQ Tryz.f73 (aC Tryz.f73) gH eN [.list TyE, .fn 111] [.int .i64] x = eT x := by
 rintro ⟨v0, v1, ⟨⟩⟩
 kernel_rfl
theorem tR : bW Tryz.prog 73 [.list TyE, .fn 111] [.int .i64] eT := by
 exact aX aM kJ Tryz.func73 (c := eN) (by kernel_rfl) (aQ := aC Tryz.f73) (lt := gH) (aD rV ⟨cT qP rfl rG, trivial⟩) sP
abbrev l7 : Ent := ⟨73, [.list TyE, .fn 111], [.int .i64], eT⟩
theorem sQ : Ent.OK Tryz.prog l7 := tR

/-! slices.ContainsFunc[schisma/api.Row,int] -/
def dR (x : aJ [.list TyE, .fn 111]) : Option (aJ [.bool]) := match x with
 | (v0, v1, ()) =>
  aB (eT (v0, (), ())) fun y1 =>
  some (!(ltI y1.1 0), ())
noncomputable def fR : Code := aR Tryz.f55
abbrev kI : Env := bF [l7]
theorem qL : aW Tryz.prog kI := aU ⟨sQ, trivial⟩
def j8 (id : Nat) : Option aO := none
theorem pQ : aE fR = [] := by kernel_rfl
theorem qS : ∀ x, bH Tryz.prog kI Tryz.f55 (aC Tryz.f55) j8 fR [.list TyE, .fn 111] [.bool] x = dR x := by
 rintro ⟨v0, v1, ⟨⟩⟩
 kernel_rfl
theorem rQ : bW Tryz.prog 55 [.list TyE, .fn 111] [.bool] dR := by
 exact aX aM qL Tryz.func55 (c := fR) (by kernel_rfl) (aQ := aC Tryz.f55) (lt := j8) (aD pQ trivial) qS
abbrev kK : Ent := ⟨55, [.list TyE, .fn 111], [.bool], dR⟩
theorem qI : Ent.OK Tryz.prog kK := rQ

/-! schisma/table.Check -/
abbrev kP : List (Nat × Kd) := [(0, .list TyD), (8, .list TyD), (9, .int .i64), (10, .int .i64)]
abbrev nO : List (Ex × List (Nat × Kd)) := [(.ret, [(2, .int .i64)]), (.exit 0, [])]
def CA (x : Shape.den kP) : Option (Shape.den kP ⊕ aT nO) := match x with
 | (v0, v8, v9, v10, ()) =>
  bif ltI v10 v9 then
   bif bD v10 v8.length then bif ltI 12 ((v8.getD v10.toNat []).length : Int) then
    some (.inr (.inl (4, ())))
   else bif bD 0 v0.length then bif !(eqI ((v8.getD v10.toNat []).length : Int) ((v0.getD 0 []).length : Int)) then
    some (.inr (.inl (5, ())))
   else aB (dR ((v8.getD v10.toNat []), (), ())) fun y2 =>
   bif y2.1 then
    some (.inr (.inl (4, ())))
   else some (.inl (v0, v8, v9, (aK .i64 (v10 + 1)), ())) else none else none
  else some (.inr (.inr ((()))))
def s6 (x : Shape.den kP) : Option (aT nO) := bZ CA (2 ^ 64) x
def xQ (x : aJ [.list TyD]) : Option (aJ [.int .i64]) := match x with
 | (v0, ()) =>
  bif ltI 12 (v0.length : Int) then
   some (4, ())
  else aB (s6 (v0, v0, (v0.length : Int), 0, ())) fun z3 =>
  jE z3 (fun a4 => some (a4.1, ())) fun b5 =>
  some (0, ())
noncomputable def xN : Code := aR Tryz.f110
abbrev ES : Env := bF [kK]
theorem GU : aW Tryz.prog ES := aU ⟨qI, trivial⟩
noncomputable def pP : Code := eJ xN 0
def C7 (id : Nat) : Option aO := bif Nat.beq id 4 then some ⟨kP, nO, s6⟩ else none
theorem L9 : ∀ x, eA Tryz.prog ES 30 (aC Tryz.f110) C7 pP kP nO x = CA x := by
 rintro ⟨v0, v8, v9, v10, ⟨⟩⟩
 kernel_rfl
theorem T1 : aE pP = [] := by kernel_rfl
theorem MH : aF pP = 4 := by kernel_rfl
theorem N0 : cA Tryz.prog 30 pP ⟨kP, nO, s6⟩ := by
 exact cN GU.callee aM.mixed _ (aD T1 trivial) L9
theorem QE : aE xN = [pP] := by kernel_rfl
theorem US : ∀ x, bH Tryz.prog ES Tryz.f110 (aC Tryz.f110) C7 xN [.list TyD] [.int .i64] x = xQ x := by
 rintro ⟨v0, ⟨⟩⟩
 kernel_rfl
theorem Y4 : bW Tryz.prog 110 [.list TyD] [.int .i64] xQ := by
 exact aX aM GU Tryz.func110 (c := xN) (by kernel_rfl) (aQ := aC Tryz.f110) (lt := C7) (aD QE ⟨cT MH rfl N0, trivial⟩) US
abbrev PR : Ent := ⟨110, [.list TyD], [.int .i64], xQ⟩
theorem UC : Ent.OK Tryz.prog PR := Y4

/-! schisma/hermite.pivot$1 -/
def pZ (x : aJ [.int .i64]) : Option (aJ [.bool]) := match x with
 | (v0, ()) =>
  some (!(eqI v0 0), ())
noncomputable def uT : Code := aR Tryz.f206
abbrev DD : Env := bF []
theorem KK : aW Tryz.prog DD := aU trivial
def B7 (id : Nat) : Option aO := none
theorem JI : aE uT = [] := by kernel_rfl
theorem KO : ∀ x, bH Tryz.prog DD Tryz.f206 (aC Tryz.f206) B7 uT [.int .i64] [.bool] x = pZ x := by
 rintro ⟨v0, ⟨⟩⟩
 kernel_rfl
theorem NS : bW Tryz.prog 206 [.int .i64] [.bool] pZ := by
 exact aX aM KK Tryz.func206 (c := uT) (by kernel_rfl) (aQ := aC Tryz.f206) (lt := B7) (aD JI trivial) KO
abbrev D6 : Ent := ⟨206, [.int .i64], [.bool], pZ⟩
theorem KW : Ent.OK Tryz.prog D6 := NS

/-! slices.IndexFunc[schisma/api.Row,int] -/
abbrev bR : List (Nat × Kd) := [(0, .list TyE), (1, .fn 206), (7, .int .i64), (8, .int .i64)]
abbrev cF : List (Ex × List (Nat × Kd)) := [(.ret, [(4, .int .i64)]), (.exit 0, [])]
def jH (x : Shape.den bR) : Option (Shape.den bR ⊕ aT cF) := match x with
 | (v0, v1, v7, v8, ()) =>
  bif ltI v8 v7 then
   bif bD v8 v0.length then aB (pZ ((v0.getD v8.toNat 0), ())) fun y2 =>
   bif y2.1 then
    some (.inr (.inl (v8, ())))
   else some (.inl (v0, (), v7, (aK .i64 (v8 + 1)), ())) else none
  else some (.inr (.inr ((()))))
def fF (x : Shape.den bR) : Option (aT cF) := bZ jH (2 ^ 64) x
def eS (x : aJ [.list TyE, .fn 206]) : Option (aJ [.int .i64]) := match x with
 | (v0, v1, ()) =>
  aB (fF (v0, (), (v0.length : Int), 0, ())) fun z3 =>
  jE z3 (fun a4 => some (a4.1, ())) fun b5 =>
  some ((-1), ())
noncomputable def eO : Code := aR Tryz.f73
abbrev gT : Env := bF [D6]
theorem kF : aW Tryz.prog gT := aU ⟨KW, trivial⟩
noncomputable def cL : Code := eJ eO 0
def gJ (id : Nat) : Option aO := bif Nat.beq id 2 then some ⟨bR, cF, fF⟩ else none
theorem qM : ∀ x, eA Tryz.prog gT 19 (aC Tryz.f73) gJ cL bR cF x = jH x := by
 rintro ⟨v0, v1, v7, v8, ⟨⟩⟩
 kernel_rfl
theorem sU : aE cL = [] := by kernel_rfl
theorem qV : aF cL = 2 := by kernel_rfl
theorem rD : cA Tryz.prog 19 cL ⟨bR, cF, fF⟩ := by
 exact cN kF.callee aM.mixed _ (aD sU trivial) qM
theorem rS : aE eO = [cL] := by kernel_rfl
theorem sR : ∀ x, bH Tryz.prog gT Tryz.f73 (aC Tryz.f73) gJ eO [.list TyE, .fn 206] [.int .i64] x = eS x := by
 rintro ⟨v0, v1, ⟨⟩⟩
 kernel_rfl
theorem tS : bW Tryz.prog 73 [.list TyE, .fn 206] [.int .i64] eS := by
 exact aX aM kF Tryz.func73 (c := eO) (by kernel_rfl) (aQ := aC Tryz.f73) (lt := gJ) (aD rS ⟨cT qV rfl rD, trivial⟩) sR
abbrev lV : Ent := ⟨73, [.list TyE, .fn 206], [.int .i64], eS⟩
theorem sO : Ent.OK Tryz.prog lV := tS

/-! schisma/hermite.pivot -/
def tK (x : aJ [.list TyE]) : Option (aJ [.int .i64]) := match x with
 | (v0, ()) =>
  aB (eS (v0, (), ())) fun y1 =>
  some (y1.1, ())
noncomputable def zB : Code := aR Tryz.f190
abbrev H8 : Env := bF [lV]
theorem PU : aW Tryz.prog H8 := aU ⟨sO, trivial⟩
def GS (id : Nat) : Option aO := none
theorem M6 : aE zB = [] := by kernel_rfl
theorem P0 : ∀ x, bH Tryz.prog H8 Tryz.f190 (aC Tryz.f190) GS zB [.list TyE] [.int .i64] x = tK x := by
 rintro ⟨v0, ⟨⟩⟩
 kernel_rfl
theorem UH : bW Tryz.prog 190 [.list TyE] [.int .i64] tK := by
 exact aX aM PU Tryz.func190 (c := zB) (by kernel_rfl) (aQ := aC Tryz.f190) (lt := GS) (aD M6 trivial) P0
abbrev I0 : Ent := ⟨190, [.list TyE], [.int .i64], tK⟩
theorem N9 : Ent.OK Tryz.prog I0 := UH

/-! schisma/hermite.isForm$1 -/
def mU (x : aJ [.list TyE, .ptr TyE, .ptr TyD]) : Option (aJ [.bool]) := match x with
 | (v0, v1, v2, ()) =>
  bif bD v1 v0.length then bif ltI (v0.getD v1.toNat 0) 0 then
   some (true, ())
  else bif bD v1 v0.length then bif bD v1 v2.length then some (!(ltI (v0.getD v1.toNat 0) (v2.getD v1.toNat 0)), ()) else none else none else none
noncomputable def rU : Code := aR Tryz.f192
abbrev yR : Env := bF []
theorem HO : aW Tryz.prog yR := aU trivial
def xF (id : Nat) : Option aO := none
theorem EO : aE rU = [] := by kernel_rfl
theorem HB : ∀ x, bH Tryz.prog yR Tryz.f192 (aC Tryz.f192) xF rU [.list TyE, .ptr TyE, .ptr TyD] [.bool] x = mU x := by
 rintro ⟨v0, v1, v2, ⟨⟩⟩
 kernel_rfl
theorem KX : bW Tryz.prog 192 [.list TyE, .ptr TyE, .ptr TyD] [.bool] mU := by
 exact aX aM HO Tryz.func192 (c := rU) (by kernel_rfl) (aQ := aC Tryz.f192) (lt := xF) (aD EO trivial) HB
abbrev AD : Ent := ⟨192, [.list TyE, .ptr TyE, .ptr TyD], [.bool], mU⟩
theorem HK : Ent.OK Tryz.prog AD := KX

/-! slices.IndexFunc[schisma/api.Matrix,schisma/api.Row] -/
abbrev bG : List (Nat × Kd) := [(0, .list TyD), (1, .clo 192 [TyE, TyD]), (7, .int .i64), (8, .int .i64)]
abbrev bO : List (Ex × List (Nat × Kd)) := [(.ret, [(4, .int .i64)]), (.exit 0, [])]
def fX (x : Shape.den bG) : Option (Shape.den bG ⊕ aT bO) := match x with
 | (v0, v1, v7, v8, ()) =>
  bif ltI v8 v7 then
   bif bD v8 v0.length then aB (mU ((v0.getD v8.toNat []), v1.1, v1.2.1, ())) fun y2 =>
   bif y2.1 then
    some (.inr (.inl (v8, ())))
   else some (.inl (v0, (v1.1, v1.2.1, ()), v7, (aK .i64 (v8 + 1)), ())) else none
  else some (.inr (.inr ((()))))
def dO (x : Shape.den bG) : Option (aT bO) := bZ fX (2 ^ 64) x
def cV (x : aJ [.list TyD, .clo 192 [TyE, TyD]]) : Option (aJ [.int .i64]) := match x with
 | (v0, v1, ()) =>
  aB (dO (v0, (v1.1, v1.2.1, ()), (v0.length : Int), 0, ())) fun z3 =>
  jE z3 (fun a4 => some (a4.1, ())) fun b5 =>
  some ((-1), ())
noncomputable def cW : Code := aR Tryz.f207
abbrev eR : Env := bF [AD]
theorem gL : aW Tryz.prog eR := aU ⟨HK, trivial⟩
noncomputable def bQ : Code := eJ cW 0
def eH (id : Nat) : Option aO := bif Nat.beq id 2 then some ⟨bG, bO, dO⟩ else none
theorem mD : ∀ x, eA Tryz.prog eR 19 (aC Tryz.f207) eH bQ bG bO x = fX x := by
 rintro ⟨v0, v1, v7, v8, ⟨⟩⟩
 kernel_rfl
theorem oJ : aE bQ = [] := by kernel_rfl
theorem mB : aF bQ = 2 := by kernel_rfl
theorem mS : cA Tryz.prog 19 bQ ⟨bG, bO, dO⟩ := by
 exact cN gL.callee aM.mixed _ (aD oJ trivial) mD
theorem nV : aE cW = [bQ] := by kernel_rfl
theorem oN : ∀ x, bH Tryz.prog eR Tryz.f207 (aC Tryz.f207) eH cW [.list TyD, .clo 192 [TyE, TyD]] [.int .i64] x = cV x := by
 rintro ⟨v0, v1, ⟨⟩⟩
 kernel_rfl
theorem pM : bW Tryz.prog 207 [.list TyD, .clo 192 [TyE, TyD]] [.int .i64] cV := by
 exact aX aM gL Tryz.func207 (c := cW) (by kernel_rfl) (aQ := aC Tryz.f207) (lt := eH) (aD nV ⟨cT mB rfl mS, trivial⟩) oN
abbrev iE : Ent := ⟨207, [.list TyD, .clo 192 [TyE, TyD]], [.int .i64], cV⟩
theorem oR : Ent.OK Tryz.prog iE := pM

/-! slices.ContainsFunc[schisma/api.Matrix,schisma/api.Row] -/
def cB (x : aJ [.list TyD, .clo 192 [TyE, TyD]]) : Option (aJ [.bool]) := match x with
 | (v0, v1, ()) =>
  aB (cV (v0, (v1.1, v1.2.1, ()), ())) fun y1 =>
  some (!(ltI y1.1 0), ())
noncomputable def dW : Code := aR Tryz.f191
abbrev gM : Env := bF [iE]
theorem mF : aW Tryz.prog gM := aU ⟨oR, trivial⟩
def gF (id : Nat) : Option aO := none
theorem lT : aE dW = [] := by kernel_rfl
theorem mE : ∀ x, bH Tryz.prog gM Tryz.f191 (aC Tryz.f191) gF dW [.list TyD, .clo 192 [TyE, TyD]] [.bool] x = cB x := by
 rintro ⟨v0, v1, ⟨⟩⟩
 kernel_rfl
theorem nU : bW Tryz.prog 191 [.list TyD, .clo 192 [TyE, TyD]] [.bool] cB := by
 exact aX aM mF Tryz.func191 (c := dW) (by kernel_rfl) (aQ := aC Tryz.f191) (lt := gF) (aD lT trivial) mE
abbrev gN : Ent := ⟨191, [.list TyD, .clo 192 [TyE, TyD]], [.bool], cB⟩
theorem mA : Ent.OK Tryz.prog gN := nU

/-! schisma/hermite.isForm -/
abbrev gR : List (Nat × Kd) := [(0, .list TyD), (3, .int .i64), (7, .list TyD), (8, .int .i64), (9, .int .i64)]
abbrev jZ : List (Ex × List (Nat × Kd)) := [(.ret, [(2, .bool)]), (.exit 0, [])]
def vY (x : Shape.den gR) : Option (Shape.den gR ⊕ aT jZ) := match x with
 | (v0, v3, v7, v8, v9, ()) =>
  bif ltI v9 v8 then
   bif bD v9 v7.length then aB (tK ((v7.getD v9.toNat []), ())) fun y3 =>
   bif !(ltI v3 y3.1) then
    some (.inr (.inl (false, ())))
   else bif bD y3.1 (v7.getD v9.toNat []).length then bif ltI ((v7.getD v9.toNat []).getD y3.1.toNat 0) 0 then
    some (.inr (.inl (false, ())))
   else bif !(ltI v9 0) then bif Nat.ble 0 v9.toNat then bif Nat.ble v9.toNat v0.length then aB (cB (((v0.drop 0).take (v9.toNat - 0)), (y3.1, (v7.getD v9.toNat []), ()), ())) fun y4 =>
   bif y4.1 then
    some (.inr (.inl (false, ())))
   else some (.inl (v0, y3.1, v7, v8, (aK .i64 (v9 + 1)), ())) else none else none else none else none else none
  else some (.inr (.inr ((()))))
def o7 (x : Shape.den gR) : Option (aT jZ) := bZ vY (2 ^ 64) x
def rM (x : aJ [.list TyD]) : Option (aJ [.bool]) := match x with
 | (v0, ()) =>
  aB (o7 (v0, (-1), v0, (v0.length : Int), 0, ())) fun z5 =>
  jE z5 (fun a6 => some (a6.1, ())) fun b7 =>
  some (true, ())
noncomputable def rK : Code := aR Tryz.f167
abbrev wW : Env := bF [I0, gN]
theorem AM : aW Tryz.prog wW := aU ⟨N9, mA, trivial⟩
noncomputable def kT : Code := eJ rK 0
def uG (id : Nat) : Option aO := bif Nat.beq id 3 then some ⟨gR, jZ, o7⟩ else none
theorem HR : ∀ x, eA Tryz.prog wW 33 (aC Tryz.f167) uG kT gR jZ x = vY x := by
 rintro ⟨v0, v3, v7, v8, v9, ⟨⟩⟩
 kernel_rfl
theorem M5 : aE kT = [] := by kernel_rfl
theorem HQ : aF kT = 3 := by kernel_rfl
theorem IF : cA Tryz.prog 33 kT ⟨gR, jZ, o7⟩ := by
 exact cN AM.callee aM.mixed _ (aD M5 trivial) HR
theorem KY : aE rK = [kT] := by kernel_rfl
theorem LY : ∀ x, bH Tryz.prog wW Tryz.f167 (aC Tryz.f167) uG rK [.list TyD] [.bool] x = rM x := by
 rintro ⟨v0, ⟨⟩⟩
 kernel_rfl
theorem RG : bW Tryz.prog 167 [.list TyD] [.bool] rM := by
 exact aX aM AM Tryz.func167 (c := rK) (by kernel_rfl) (aQ := aC Tryz.f167) (lt := uG) (aD KY ⟨cT HQ rfl IF, trivial⟩) LY
abbrev GR : Ent := ⟨167, [.list TyD], [.bool], rM⟩
theorem NF : Ent.OK Tryz.prog GR := RG

/-! schisma/hermite.IsForm -/
def rJ (x : aJ [.list TyD]) : Option (aJ [.bool, .int .i64]) := match x with
 | (v0, ()) =>
  aB (xQ (v0, ())) fun y1 =>
  bif !(eqI y1.1 0) then
   some (false, y1.1, ())
  else aB (rM (v0, ())) fun y2 =>
  some (y2.1, 0, ())
noncomputable def wG : Code := aR Tryz.f140
abbrev GO : Env := bF [GR, PR]
theorem ME : aW Tryz.prog GO := aU ⟨NF, UC, trivial⟩
def EE (id : Nat) : Option aO := none
theorem KH : aE wG = [] := by kernel_rfl
theorem MJ : ∀ x, bH Tryz.prog GO Tryz.f140 (aC Tryz.f140) EE wG [.list TyD] [.bool, .int .i64] x = rJ x := by
 rintro ⟨v0, ⟨⟩⟩
 kernel_rfl
theorem SK : bW Tryz.prog 140 [.list TyD] [.bool, .int .i64] rJ := by
 exact aX aM ME Tryz.func140 (c := wG) (by kernel_rfl) (aQ := aC Tryz.f140) (lt := EE) (aD KH trivial) MJ
abbrev GK : Ent := ⟨140, [.list TyD], [.bool, .int .i64], rJ⟩
theorem M1 : Ent.OK Tryz.prog GK := SK

/-! schisma/lattice.Check -/
def tH (x : aJ [.agg (.prod TyE TyC)]) : Option (aJ [.int .i64]) := match x with
 | (v0, ()) =>
  aB (pE (v0.1, v0.2, ())) fun y1 =>
  bif !(eqI y1.1 0) then
   some (y1.1, ())
  else aB (rJ (v0.2, ())) fun y2 =>
  bif !(eqI y2.2.1 0) then
   some (7, ())
  else bif y2.1 then
   some (0, ())
  else some (7, ())
noncomputable def AO : Code := aR Tryz.f107
abbrev HU : Env := bF [GK, zI]
theorem OP : aW Tryz.prog HU := aU ⟨M1, BU, trivial⟩
def GI (id : Nat) : Option aO := none
theorem L4 : aE AO = [] := by kernel_rfl
theorem NX : ∀ x, bH Tryz.prog HU Tryz.f107 (aC Tryz.f107) GI AO [.agg (.prod TyE TyC)] [.int .i64] x = tH x := by
 rintro ⟨v0, ⟨⟩⟩
 kernel_rfl
theorem T5 : bW Tryz.prog 107 [.agg (.prod TyE TyC)] [.int .i64] tH := by
 exact aX aM OP Tryz.func107 (c := AO) (by kernel_rfl) (aQ := aC Tryz.f107) (lt := GI) (aD L4 trivial) NX
abbrev HT : Ent := ⟨107, [.agg (.prod TyE TyC)], [.int .i64], tH⟩
theorem NM : Ent.OK Tryz.prog HT := T5

/-! schisma/lattice.checkRow -/
def oW (x : aJ [.agg (.prod TyE TyC), .list TyE]) : Option (aJ [.int .i64]) := match x with
 | (v0, v1, ()) =>
  aB (tH ((v0.1, v0.2), ())) fun y1 =>
  bif !(eqI y1.1 0) then
   some (y1.1, ())
  else aB (mP (v1, ())) fun y2 =>
  bif !(eqI y2.1 0) then
   some (y2.1, ())
  else bif !(eqI (v1.length : Int) v0.1) then
   some (5, ())
  else some (0, ())
noncomputable def tQ : Code := aR Tryz.f80
abbrev BI : Env := bF [HT, E5]
theorem IG : aW Tryz.prog BI := aU ⟨NM, CL, trivial⟩
def zL (id : Nat) : Option aO := none
theorem HF : aE tQ = [] := by kernel_rfl
theorem JE : ∀ x, bH Tryz.prog BI Tryz.f80 (aC Tryz.f80) zL tQ [.agg (.prod TyE TyC), .list TyE] [.int .i64] x = oW x := by
 rintro ⟨v0, v1, ⟨⟩⟩
 kernel_rfl
theorem M9 : bW Tryz.prog 80 [.agg (.prod TyE TyC), .list TyE] [.int .i64] oW := by
 exact aX aM IG Tryz.func80 (c := tQ) (by kernel_rfl) (aQ := aC Tryz.f80) (lt := zL) (aD HF trivial) JE
abbrev BX : Ent := ⟨80, [.agg (.prod TyE TyC), .list TyE], [.int .i64], oW⟩
theorem IQ : Ent.OK Tryz.prog BX := M9

/-! (schisma/lattice.Lattice).pivots -/
def iI (x : aJ [.agg (.prod TyE TyC)]) : Option (aJ [.clo 141 [(.prod TyE TyC)]]) := match x with
 | (v0, ()) =>
  some (((v0.1, v0.2), ()), ())
noncomputable def l3 : Code := aR Tryz.f108
abbrev r8 : Env := bF []
theorem zP : aW Tryz.prog r8 := aU trivial
def rE (id : Nat) : Option aO := none
theorem xY : aE l3 = [] := by kernel_rfl
theorem yQ : ∀ x, bH Tryz.prog r8 Tryz.f108 (aC Tryz.f108) rE l3 [.agg (.prod TyE TyC)] [.clo 141 [(.prod TyE TyC)]] x = iI x := by
 rintro ⟨v0, ⟨⟩⟩
 kernel_rfl
theorem CB : bW Tryz.prog 108 [.agg (.prod TyE TyC)] [.clo 141 [(.prod TyE TyC)]] iI := by
 exact aX aM zP Tryz.func108 (c := l3) (by kernel_rfl) (aQ := aC Tryz.f108) (lt := rE) (aD xY trivial) yQ
abbrev sE : Ent := ⟨108, [.agg (.prod TyE TyC)], [.clo 141 [(.prod TyE TyC)]], iI⟩
theorem AL : Ent.OK Tryz.prog sE := CB

/-! (schisma/lattice.Lattice).reduce -/
abbrev bI : List (Nat × Kd) := [(4, .bown 137 144 .str), (5, .bown 137 144 .str), (14, .clo 141 [(.prod TyE TyC)])]
abbrev dE : List (Ex × List (Nat × Kd)) := [(.normal, [(4, .bown 137 144 .str), (5, .bown 137 144 .str)])]
def nM (x : Shape.den bI) (e : aJ [.int .i64, .list .str]) : Option (Shape.den bI ⊕ aT dE) := match x, e with
 | (v4, v5, v14, ()), (e0, e1, ()) =>
  bif bD e0 v4.length then bif Nat.blt e0.toNat v4.length then bif bD e0 e1.length then aB (oF ((v4.getD e0.toNat ByteArray.empty), (e1.getD e0.toNat ByteArray.empty), ())) fun y3 =>
  aB (aO7 gZ v4 (y3.1, e1, ())) fun y4 =>
  bif Nat.ble [y3.1].length 1048576 then bif Nat.ble v5.length 1048576 then some (.inl (y4, (v5 ++ [y3.1]), ((v14.1.1, v14.1.2), ()), ())) else none else none else none else none else none
def oY (x : Shape.den bI) : tI [(.prod TyE TyC)] := match x with
 | (v4, v5, v14, ()) => ((v14.1.1, v14.1.2), ())
def iL (x : Shape.den bI) : Option (aT dE) := aB1 bI dE (fun x => aDS (oY x)) nM x
def iD (x : aJ [.agg (.prod TyE TyC), .list TyE]) : Option (aJ [.list .str, .list .str]) := match x with
 | (v0, v1, ()) =>
  aB (lR (v1, ())) fun y1 =>
  aB (iI ((v0.1, v0.2), ())) fun y2 =>
  aB (iL (y1, [], ((y2.1.1.1, y2.1.1.2), ()), ())) fun z5 =>
  some (z5.1, z5.2.1, ())
noncomputable def iB : Code := aR Tryz.f81
abbrev lU : Env := aBV [sE, C2] [uF, tW]
theorem o5 : aW Tryz.prog lU := B8 ⟨AL, DP, trivial⟩ ⟨xG, CZ, trivial⟩
noncomputable def bB : Code := G7 iB 0
noncomputable def qD : Code := inLoop bB
def lG (id : Nat) : Option aO := none
def lD (id : Nat) : Option aO := bif Nat.beq id 5 then some ⟨bI, dE, iL⟩ else none
theorem wB : aF qD = 5 := by kernel_rfl
theorem yP : bN qD = [] := by kernel_rfl
theorem nQ : bB = .rangeFunc (BM bB) (OX bB) (j5 bB) (inLoop bB) := by kernel_rfl
theorem vA : ∀ y e, JC Tryz.prog lU 40 (rH Tryz.f81) lG lD (OX bB).toList (j5 bB) (inLoop bB) [.int .i64, .list .str] bI dE y e = nM y e := by
 rintro ⟨v4, v5, v14, ⟨⟩⟩ ⟨e0, e1, ⟨⟩⟩
 kernel_rfl
theorem xT : ∀ x, VZ 141 [(.prod TyE TyC)] bI (BM bB) x = some (oY x) := by
 rintro ⟨v4, v5, v14, ⟨⟩⟩
 kernel_rfl
theorem wL : r9 Tryz.prog 40 false [] bB ⟨bI, dE, iL⟩ := by
 exact DR o5 aM nQ Tryz.func141 (c := aR Tryz.f141) (by kernel_rfl) aL8 (by kernel_rfl) (lQ yP trivial) xT vA
theorem xK : bN iB = [bB] := by kernel_rfl
theorem zA : ∀ x, aA6 Tryz.prog lU Tryz.f81 (rH Tryz.f81) lG lD iB [.agg (.prod TyE TyC), .list TyE] [.list .str, .list .str] x = iD x := by
 rintro ⟨v0, v1, ⟨⟩⟩
 kernel_rfl
theorem CG : bW Tryz.prog 81 [.agg (.prod TyE TyC), .list TyE] [.list .str, .list .str] iD := by
 exact U6 aM o5 Tryz.func81 (c := iB) (by kernel_rfl) (aQ := rH Tryz.f81) (lt := lG) (rt := lD) (lQ xK ⟨AY nQ wB rfl wL, trivial⟩) zA
abbrev sA : Ent := ⟨81, [.agg (.prod TyE TyC), .list TyE], [.list .str, .list .str], iD⟩
theorem AA : Ent.OK Tryz.prog sA := CG

/-! schisma/lattice.Represent -/
def mR (x : aJ [.agg (.prod TyE TyC), .list TyE]) : Option (aJ [.list TyE, .int .i64]) := match x with
 | (v0, v1, ()) =>
  aB (oW ((v0.1, v0.2), v1, ())) fun y1 =>
  bif !(eqI y1.1 0) then
   some ([], y1.1, ())
  else aB (iD ((v0.1, v0.2), v1, ())) fun y2 =>
  aB (lM (y2.1, ())) fun y3 =>
  some (y3.1, y3.2.1, ())
noncomputable def rN : Code := aR Tryz.f68
abbrev yM : Env := bF [sA, BX, wZ]
theorem HC : aW Tryz.prog yM := aU ⟨AA, IQ, GD, trivial⟩
def wY (id : Nat) : Option aO := none
theorem EG : aE rN = [] := by kernel_rfl
theorem G9 : ∀ x, bH Tryz.prog yM Tryz.f68 (aC Tryz.f68) wY rN [.agg (.prod TyE TyC), .list TyE] [.list TyE, .int .i64] x = mR x := by
 rintro ⟨v0, v1, ⟨⟩⟩
 kernel_rfl
theorem KM : bW Tryz.prog 68 [.agg (.prod TyE TyC), .list TyE] [.list TyE, .int .i64] mR := by
 exact aX aM HC Tryz.func68 (c := rN) (by kernel_rfl) (aQ := aC Tryz.f68) (lt := wY) (aD EG trivial) G9
abbrev zJ : Ent := ⟨68, [.agg (.prod TyE TyC), .list TyE], [.list TyE, .int .i64], mR⟩
theorem HA : Ent.OK Tryz.prog zJ := KM
end Go.PM
set_option linter.unusedSimpArgs false
set_option linter.unusedVariables false
namespace Go.PM
open Go Go.RowKit Go.Proofs
set_option maxRecDepth 100000
set_option maxHeartbeats 4000000
/-! schisma/isomorphy.turns -/
def f38 (x : aJ [.int .i64]) : Option (aJ [.clo 62 [(.list TyF)]]) := match x with
 | (v0, ()) =>
  aB (f61 (v0, ())) fun y1 =>
  some ((y1.1, ()), ())
noncomputable def c38 : Code := aR Tryz.f38
abbrev E38 : Env := bF [e61]
theorem aTO : aW Tryz.prog E38 := aU ⟨aTJ, trivial⟩
def aYM (id : Nat) : Option aO := none
theorem aQL : aE c38 = [] := by kernel_rfl
theorem aWA : ∀ x, bH Tryz.prog E38 Tryz.f38 (aC Tryz.f38) aYM c38 [.int .i64] [.clo 62 [(.list TyF)]] x = f38 x := by
 rintro ⟨v0, ⟨⟩⟩
 kernel_rfl
theorem aYW : bW Tryz.prog 38 [.int .i64] [.clo 62 [(.list TyF)]] f38 := by
 exact aX aM aTO Tryz.func38 (c := c38) (by kernel_rfl) (aQ := aC Tryz.f38) (lt := aYM) (aD aQL trivial) aWA
abbrev e38 : Ent := ⟨38, [.int .i64], [.clo 62 [(.list TyF)]], f38⟩
theorem aDC : Ent.OK Tryz.prog e38 := aYW

/-! schisma/isomorphy.Fixed -/
abbrev FB : List (Nat × Kd) := [(1, .box 25 TyA), (2, .own 27 TyB), (3, .int .i64), (5, .bown 34 27 TyB), (14, .clo 62 [(.list TyF)])]
abbrev SL : List (Ex × List (Nat × Kd)) := [(.normal, [(5, .bown 34 27 TyB)])]
def aGW (x : Shape.den FB) (e : aJ [.agg TyB]) : Option (Shape.den FB ⊕ aT SL) := match x, e with
 | (v1, v2, v3, v5, v14, ()), (e0, ()) =>
  aB (f40 (v1, e0, ())) fun y3 =>
  aB (f48 (y3.1, v1, ())) fun y4 =>
  bif eqI y4.1 0 then
   bif Nat.ble [e0].length 1048576 then bif Nat.ble v5.length 1048576 then some (.inl (v1, v2, v3, (v5 ++ [e0]), (v14.1, ()), ())) else none else none
  else some (.inl (v1, v2, v3, v5, (v14.1, ()), ()))
def aJR (x : Shape.den FB) : tI [(.list TyF)] := match x with
 | (v1, v2, v3, v5, v14, ()) => (v14.1, ())
def W8 (x : Shape.den FB) : Option (aT SL) := aB1 FB SL (fun x => JF (aJR x)) aGW x
def f28 (x : aJ [.agg TyA]) : Option (aJ [.list TyB, .int .i64]) := match x with
 | (v0, ()) =>
  aB (f24 (v0, ())) fun y1 =>
  bif !(eqI y1.1 0) then
   some ([], y1.1, ())
  else aB (f38 (v0.1, ())) fun y2 =>
  aB (W8 (v0, [], 0, [], (y2.1.1, ()), ())) fun z5 =>
  some (z5.1, 0, ())
noncomputable def c28 : Code := aR Tryz.f28
abbrev E28 : Env := bF [e24, e38, e40, e48]
theorem aOQ : aW Tryz.prog E28 := aU ⟨aHF, aDC, aD4, aDD, trivial⟩
noncomputable def GH : Code := G7 c28 0
noncomputable def aTE : Code := inLoop GH
def aVL (id : Nat) : Option aO := none
def aTQ (id : Nat) : Option aO := bif Nat.beq id 7 then some ⟨FB, SL, W8⟩ else none
theorem aLX : aF aTE = 7 := by kernel_rfl
theorem aWM : bN aTE = [] := by kernel_rfl
theorem aGC : GH = .rangeFunc (BM GH) (OX GH) (j5 GH) (inLoop GH) := by kernel_rfl
theorem aLF : ∀ y e, JC Tryz.prog E28 27 (rH Tryz.f28) aVL aTQ (OX GH).toList (j5 GH) (inLoop GH) [.agg TyB] FB SL y e = aGW y e := by
 rintro ⟨v1, v2, v3, v5, v14, ⟨⟩⟩ ⟨e0, ⟨⟩⟩
 kernel_rfl
theorem aR0 : ∀ x, VZ 62 [(.list TyF)] FB (BM GH) x = some (aJR x) := by
 rintro ⟨v1, v2, v3, v5, v14, ⟨⟩⟩
 kernel_rfl
theorem aOC : r9 Tryz.prog 27 false [] GH ⟨FB, SL, W8⟩ := by
 exact DR aOQ aM aGC Tryz.func62 (c := aR Tryz.f62) (by kernel_rfl) aSA (by kernel_rfl) (lQ aWM trivial) aR0 aLF
theorem aRC : bN c28 = [GH] := by kernel_rfl
theorem aU5 : ∀ x, aA6 Tryz.prog E28 Tryz.f28 (rH Tryz.f28) aVL aTQ c28 [.agg TyA] [.list TyB, .int .i64] x = f28 x := by
 rintro ⟨v0, ⟨⟩⟩
 kernel_rfl
theorem aY1 : bW Tryz.prog 28 [.agg TyA] [.list TyB, .int .i64] f28 := by
 exact U6 aM aOQ Tryz.func28 (c := c28) (by kernel_rfl) (aQ := rH Tryz.f28) (lt := aVL) (rt := aTQ) (lQ aRC ⟨AY aGC aLX rfl aOC, trivial⟩) aU5
abbrev e28 : Ent := ⟨28, [.agg TyA], [.list TyB, .int .i64], f28⟩
theorem aVF : Ent.OK Tryz.prog e28 := aY1

/-! schisma/isomorphy.canonical -/
abbrev FY : List (Nat × Kd) := [(1, .box 25 TyA), (2, .box 25 TyA), (3, .box 27 TyB), (4, .box 30 TyE), (5, .box 25 TyA), (6, .box 27 TyB), (7, .box 4 .bool), (15, .clo 62 [(.list TyF)])]
abbrev QG : List (Ex × List (Nat × Kd)) := [(.normal, [(1, .box 25 TyA), (2, .box 25 TyA), (3, .box 27 TyB), (4, .box 30 TyE), (5, .box 25 TyA), (6, .box 27 TyB)]), (.ret, [(2, .box 25 TyA), (3, .box 27 TyB), (4, .box 30 TyE)])]
def aEY (x : Shape.den FY) (e : aJ [.agg TyB]) : Option (Shape.den FY ⊕ aT QG) := match x, e with
 | (v1, v2, v3, v4, v5, v6, v7, v15, ()), (e0, ()) =>
  aB (f40 (v1, e0, ())) fun y2 =>
  aB (f39 (y2.1, ())) fun y3 =>
  bif !(eqI y3.2.1 0) then
   some (.inr (.inr (((0, ([], ([], []))), (0, (0, (0, 0))), y3.2.1, ()))))
  else bif v7 then
   aB (f48 (y3.1, v5, ())) fun y4 =>
   bif ltI y4.1 0 then
    some (.inl (v1, v2, v3, v4, y3.1, e0, true, (v15.1, ()), ()))
   else some (.inl (v1, v2, v3, v4, v5, v6, v7, (v15.1, ()), ()))
  else some (.inl (v1, v2, v3, v4, y3.1, e0, true, (v15.1, ()), ()))
def aKA (x : Shape.den FY) : tI [(.list TyF)] := match x with
 | (v1, v2, v3, v4, v5, v6, v7, v15, ()) => (v15.1, ())
def YP (x : Shape.den FY) : Option (aT QG) := aB1 FY QG (fun x => JF (aKA x)) aEY x
def f47 (x : aJ [.agg TyA]) : Option (aJ [.agg TyA, .agg TyB, .int .i64]) := match x with
 | (v0, ()) =>
  aB (f38 (v0.1, ())) fun y1 =>
  aB (YP (v0, (0, ([], ([], []))), (0, (0, (0, 0))), 0, (0, ([], ([], []))), (0, (0, (0, 0))), false, (y1.1.1, ()), ())) fun z5 =>
  jE z5 (fun a6 => aB (B4 ((a6.1.2.1.length : Int), [a6.1.2.2.1, a6.1.2.2.2], ())) fun y8 =>
   bif !(eqI y8.2.1 0) then
    some ((0, ([], ([], []))), (0, (0, (0, 0))), y8.2.1, ())
   else aB (mR ((y8.1.1, y8.1.2), a6.1.2.1, ())) fun y9 =>
   bif !(eqI y9.2.1 0) then
    some ((0, ([], ([], []))), (0, (0, (0, 0))), y9.2.1, ())
   else some ((a6.2.2.2.2.1.1, (y9.1, (a6.2.2.2.2.1.2.2.1, a6.2.2.2.2.1.2.2.2))), a6.2.2.2.2.2.1, 0, ())) fun b7 =>
  some (b7.1, b7.2.1, b7.2.2.1, ())
noncomputable def c47 : Code := aR Tryz.f47
abbrev E47 : Env := bF [e38, e39, e40, e48, S6, zJ]
theorem aOE : aW Tryz.prog E47 := aU ⟨aDC, aWS, aD4, aDD, WR, HA, trivial⟩
noncomputable def GV : Code := G7 c47 0
noncomputable def aTD : Code := inLoop GV
def aT2 (id : Nat) : Option aO := none
def aT8 (id : Nat) : Option aO := bif Nat.beq id 6 then some ⟨FY, QG, YP⟩ else none
theorem aLJ : aF aTD = 6 := by kernel_rfl
theorem aV8 : bN aTD = [] := by kernel_rfl
theorem aFN : GV = .rangeFunc (BM GV) (OX GV) (j5 GV) (inLoop GV) := by kernel_rfl
theorem aLI : ∀ y e, JC Tryz.prog E47 71 (rH Tryz.f47) aT2 aT8 (OX GV).toList (j5 GV) (inLoop GV) [.agg TyB] FY QG y e = aEY y e := by
 rintro ⟨v1, v2, v3, v4, v5, v6, v7, v15, ⟨⟩⟩ ⟨e0, ⟨⟩⟩
 kernel_rfl
theorem aS3 : ∀ x, VZ 62 [(.list TyF)] FY (BM GV) x = some (aKA x) := by
 rintro ⟨v1, v2, v3, v4, v5, v6, v7, v15, ⟨⟩⟩
 kernel_rfl
theorem aNO : r9 Tryz.prog 71 false [] GV ⟨FY, QG, YP⟩ := by
 exact DR aOE aM aFN Tryz.func62 (c := aR Tryz.f62) (by kernel_rfl) aSA (by kernel_rfl) (lQ aV8 trivial) aS3 aLI
theorem aRK : bN c47 = [GV] := by kernel_rfl
theorem aUH : ∀ x, aA6 Tryz.prog E47 Tryz.f47 (rH Tryz.f47) aT2 aT8 c47 [.agg TyA] [.agg TyA, .agg TyB, .int .i64] x = f47 x := by
 rintro ⟨v0, ⟨⟩⟩
 kernel_rfl
theorem aZJ : bW Tryz.prog 47 [.agg TyA] [.agg TyA, .agg TyB, .int .i64] f47 := by
 exact U6 aM aOE Tryz.func47 (c := c47) (by kernel_rfl) (aQ := rH Tryz.f47) (lt := aT2) (rt := aT8) (lQ aRK ⟨AY aFN aLJ rfl aNO, trivial⟩) aUH
abbrev e47 : Ent := ⟨47, [.agg TyA], [.agg TyA, .agg TyB, .int .i64], f47⟩
theorem aPB : Ent.OK Tryz.prog e47 := aZJ

/-! schisma/isomorphy.Canonical -/
def f26 (x : aJ [.agg TyA]) : Option (aJ [.agg TyA, .int .i64]) := match x with
 | (v0, ()) =>
  aB (f24 (v0, ())) fun y1 =>
  bif !(eqI y1.1 0) then
   some ((0, ([], ([], []))), y1.1, ())
  else aB (f47 (v0, ())) fun y2 =>
  some (y2.1, y2.2.2.1, ())
noncomputable def c26 : Code := aR Tryz.f26
abbrev E26 : Env := bF [e24, e47]
theorem aTV : aW Tryz.prog E26 := aU ⟨aHF, aPB, trivial⟩
def aXX (id : Nat) : Option aO := none
theorem aR1 : aE c26 = [] := by kernel_rfl
theorem aUN : ∀ x, bH Tryz.prog E26 Tryz.f26 (aC Tryz.f26) aXX c26 [.agg TyA] [.agg TyA, .int .i64] x = f26 x := by
 rintro ⟨v0, ⟨⟩⟩
 kernel_rfl
theorem aZP : bW Tryz.prog 26 [.agg TyA] [.agg TyA, .int .i64] f26 := by
 exact aX aM aTV Tryz.func26 (c := c26) (by kernel_rfl) (aQ := aC Tryz.f26) (lt := aXX) (aD aR1 trivial) aUN
abbrev e26 : Ent := ⟨26, [.agg TyA], [.agg TyA, .int .i64], f26⟩
theorem aVV : Ent.OK Tryz.prog e26 := aZP

/-! schisma/isomorphy.steps -/
abbrev RD : List (Nat × Kd) := [(0, .list TyE), (1, .list TyE), (11, .list TyE), (12, .int .i64), (13, .int .i64), (42, .agg TyF), (43, .int .i64)]
abbrev VX : List (Ex × List (Nat × Kd)) := [(.ret, [(8, .int .i64), (9, .int .i64), (10, .bool)]), (.exit 4, [(0, .list TyE), (1, .list TyE), (11, .list TyE), (12, .int .i64), (13, .int .i64)])]
def aGT (x : Shape.den RD) : Option (Shape.den RD ⊕ aT VX) := match x with
 | (v0, v1, v11, v12, v13, v42, v43, ()) =>
  bif ltI v43 2 then
   bif eqI v43 0 then
    aB (f65 (v0, v1, v13, v42.1, ())) fun y6 =>
    aB (f46 (y6.1, v11, ())) fun y7 =>
    bif y7.1 then
     some (.inr (.inl (v13, v42.1, true, ())))
    else some (.inl (v0, v1, v11, v12, v13, (v42.1, v42.2), (aK .i64 (v43 + 1)), ()))
   else bif eqI v43 1 then aB (f65 (v0, v1, v13, v42.2, ())) fun y8 =>
   aB (f46 (y8.1, v11, ())) fun y9 =>
   bif y9.1 then
    some (.inr (.inl (v13, v42.2, true, ())))
   else some (.inl (v0, v1, v11, v12, v13, (v42.1, v42.2), (aK .i64 (v43 + 1)), ())) else none
  else some (.inr (.inr ((v0, v1, v11, v12, v13, ()))))
def XF (x : Shape.den RD) : Option (aT VX) := bZ aGT (2 ^ 64) x
abbrev RA : List (Nat × Kd) := [(0, .list TyE), (1, .list TyE), (11, .list TyE), (12, .int .i64), (13, .int .i64)]
abbrev WN : List (Ex × List (Nat × Kd)) := [(.ret, [(8, .int .i64), (9, .int .i64), (10, .bool)]), (.exit 2, [(0, .list TyE), (1, .list TyE), (11, .list TyE), (12, .int .i64)])]
def aET (x : Shape.den RA) : Option (Shape.den RA ⊕ aT WN) := match x with
 | (v0, v1, v11, v12, v13, ()) =>
  bif !(ltI v12 v13) then
   aB (XF (v0, v1, v11, v12, v13, ((aK .i64 (v12 - (if v13 < (IntKind.wrap .i64 (0 - v13)) then (IntKind.wrap .i64 (0 - v13)) else v13))), (aK .i64 ((if v13 < (IntKind.wrap .i64 (0 - v13)) then (IntKind.wrap .i64 (0 - v13)) else v13) - v12))), 0, ())) fun z13 =>
   jE z13 (fun a14 => some (.inr (.inl (a14.1, a14.2.1, a14.2.2.1, ())))) fun b15 =>
   some (.inl (b15.1, b15.2.1, b15.2.2.1, b15.2.2.2.1, (aK .i64 (b15.2.2.2.2.1 + 1)), ()))
  else some (.inr (.inr ((v0, v1, v11, v12, ()))))
def YZ (x : Shape.den RA) : Option (aT WN) := bZ aET (2 ^ 64) x
abbrev SJ : List (Nat × Kd) := [(0, .list TyE), (1, .list TyE), (11, .list TyE), (12, .int .i64)]
abbrev VU : List (Ex × List (Nat × Kd)) := [(.ret, [(8, .int .i64), (9, .int .i64), (10, .bool)]), (.exit 0, [(0, .list TyE), (1, .list TyE), (11, .list TyE)])]
def aGQ (x : Shape.den SJ) : Option (Shape.den SJ ⊕ aT VU) := match x with
 | (v0, v1, v11, v12, ()) =>
  bif !(ltI 2000 v12) then
   aB (YZ (v0, v1, v11, v12, (IntKind.wrap .i64 (0 - v12)), ())) fun z19 =>
   jE z19 (fun a20 => some (.inr (.inl (a20.1, a20.2.1, a20.2.2.1, ())))) fun b21 =>
   bif ltI 16 b21.2.2.2.1 then
    some (.inr (.inr ((b21.1, b21.2.1, b21.2.2.1, ()))))
   else some (.inl (b21.1, b21.2.1, b21.2.2.1, (aK .i64 (b21.2.2.2.1 + 1)), ()))
  else some (.inr (.inr ((v0, v1, v11, ()))))
def WK (x : Shape.den SJ) : Option (aT VU) := bZ aGQ (2 ^ 64) x
def f49 (x : aJ [.list TyE, .list TyE, .list TyE, .list TyE]) : Option (aJ [.int .i64, .int .i64, .bool]) := match x with
 | (v0, v1, v2, v3, ()) =>
  aB (f65 (v3, v2, 1, (-1), ())) fun y1 =>
  aB (WK (v0, v1, y1.1, 0, ())) fun z22 =>
  jE z22 (fun a23 => some (a23.1, a23.2.1, a23.2.2.1, ())) fun b24 =>
  none
noncomputable def c49 : Code := aR Tryz.f49
abbrev E49 : Env := bF [e46, e65]
theorem aDU : aW Tryz.prog E49 := aU ⟨aHW, aPP, trivial⟩
noncomputable def aBF : Code := eJ c49 0
noncomputable def aA1 : Code := eJ aBF 0
noncomputable def aER : Code := eJ aA1 0
def aNC (id : Nat) : Option aO := bif Nat.beq id 9 then some ⟨RD, VX, XF⟩ else bif Nat.beq id 6 then some ⟨RA, WN, YZ⟩ else bif Nat.beq id 3 then some ⟨SJ, VU, WK⟩ else none
theorem aK2 : ∀ x, eA Tryz.prog E49 65 (aC Tryz.f49) aNC aER RD VX x = aGT x := by
 rintro ⟨v0, v1, v11, v12, v13, v42, v43, ⟨⟩⟩
 kernel_rfl
theorem aW0 : aE aER = [] := by kernel_rfl
theorem aKY : aF aER = 9 := by kernel_rfl
theorem aO8 : cA Tryz.prog 65 aER ⟨RD, VX, XF⟩ := by
 exact cN aDU.callee aM.mixed _ (aD aW0 trivial) aK2
theorem aLZ : ∀ x, eA Tryz.prog E49 65 (aC Tryz.f49) aNC aA1 RA WN x = aET x := by
 rintro ⟨v0, v1, v11, v12, v13, ⟨⟩⟩
 kernel_rfl
theorem aTL : aE aA1 = [aER] := by kernel_rfl
theorem aMC : aF aA1 = 6 := by kernel_rfl
theorem aNX : cA Tryz.prog 65 aA1 ⟨RA, WN, YZ⟩ := by
 exact cN aDU.callee aM.mixed _ (aD aTL ⟨cT aKY rfl aO8, trivial⟩) aLZ
theorem aMK : ∀ x, eA Tryz.prog E49 65 (aC Tryz.f49) aNC aBF SJ VU x = aGQ x := by
 rintro ⟨v0, v1, v11, v12, ⟨⟩⟩
 kernel_rfl
theorem aWY : aE aBF = [aA1] := by kernel_rfl
theorem aM9 : aF aBF = 3 := by kernel_rfl
theorem aOJ : cA Tryz.prog 65 aBF ⟨SJ, VU, WK⟩ := by
 exact cN aDU.callee aM.mixed _ (aD aWY ⟨cT aMC rfl aNX, trivial⟩) aMK
theorem aS1 : aE c49 = [aBF] := by kernel_rfl
theorem aTN : ∀ x, bH Tryz.prog E49 Tryz.f49 (aC Tryz.f49) aNC c49 [.list TyE, .list TyE, .list TyE, .list TyE] [.int .i64, .int .i64, .bool] x = f49 x := by
 rintro ⟨v0, v1, v2, v3, ⟨⟩⟩
 kernel_rfl
theorem aY8 : bW Tryz.prog 49 [.list TyE, .list TyE, .list TyE, .list TyE] [.int .i64, .int .i64, .bool] f49 := by
 exact aX aM aDU Tryz.func49 (c := c49) (by kernel_rfl) (aQ := aC Tryz.f49) (lt := aNC) (aD aS1 ⟨cT aM9 rfl aOJ, trivial⟩) aTN
abbrev e49 : Ent := ⟨49, [.list TyE, .list TyE, .list TyE, .list TyE], [.int .i64, .int .i64, .bool], f49⟩
theorem aTI : Ent.OK Tryz.prog e49 := aY8

/-! schisma/isomorphy.Isomorphic -/
abbrev R6 : List (Nat × Kd) := [(2, .box 25 TyA), (3, .box 25 TyA), (4, .box 49 (.prod TyB TyF)), (5, .box 4 .bool), (6, .box 30 TyE), (21, .agg (.prod TyA TyA)), (22, .int .i64)]
abbrev W7 : List (Ex × List (Nat × Kd)) := [(.ret, [(4, .box 49 (.prod TyB TyF)), (5, .box 4 .bool), (6, .box 30 TyE)]), (.exit 0, [(2, .box 25 TyA), (3, .box 25 TyA), (4, .box 49 (.prod TyB TyF)), (5, .box 4 .bool), (6, .box 30 TyE)])]
def aG5 (x : Shape.den R6) : Option (Shape.den R6 ⊕ aT W7) := match x with
 | (v2, v3, v4, v5, v6, v21, v22, ()) =>
  bif ltI v22 2 then
   bif eqI v22 0 then
    aB (f24 (v21.1, ())) fun y3 =>
    bif !(eqI y3.1 0) then
     some (.inr (.inl (((0, (0, (0, 0))), (0, 0)), false, y3.1, ())))
    else some (.inl (v2, v3, (v4.1, (v4.2.1, v4.2.2)), v5, v6, (v21.1, v21.2), (aK .i64 (v22 + 1)), ()))
   else bif eqI v22 1 then aB (f24 (v21.2, ())) fun y4 =>
   bif !(eqI y4.1 0) then
    some (.inr (.inl (((0, (0, (0, 0))), (0, 0)), false, y4.1, ())))
   else some (.inl (v2, v3, (v4.1, (v4.2.1, v4.2.2)), v5, v6, (v21.1, v21.2), (aK .i64 (v22 + 1)), ())) else none
  else some (.inr (.inr ((v2, v3, (v4.1, (v4.2.1, v4.2.2)), v5, v6, ()))))
def V7 (x : Shape.den R6) : Option (aT W7) := bZ aG5 (2 ^ 64) x
abbrev E2 : List (Nat × Kd) := [(2, .box 25 TyA), (3, .box 25 TyA), (4, .box 49 (.prod TyB TyF)), (5, .box 4 .bool), (6, .box 30 TyE), (67, .clo 62 [(.list TyF)])]
abbrev R0 : List (Ex × List (Nat × Kd)) := [(.normal, [(4, .box 49 (.prod TyB TyF)), (5, .box 4 .bool), (6, .box 30 TyE)]), (.ret, [(4, .box 49 (.prod TyB TyF)), (5, .box 4 .bool), (6, .box 30 TyE)])]
def aFJ (x : Shape.den E2) (e : aJ [.agg TyB]) : Option (Shape.den E2 ⊕ aT R0) := match x, e with
 | (v2, v3, v4, v5, v6, v67, ()), (e0, ()) =>
  aB (f40 (v2, e0, ())) fun y12 =>
  aB (f48 (y12.1, v3, ())) fun y13 =>
  bif !(eqI y13.1 0) then
   some (.inl (v2, v3, (v4.1, (v4.2.1, v4.2.2)), v5, v6, (v67.1, ()), ()))
  else aB (f49 (v2.2.2.1, v2.2.2.2, v2.2.1, v3.2.1, ())) fun y14 =>
  bif y14.2.2.1 then
   bif !(ltI 1000 (if y14.1 < (IntKind.wrap .i64 (0 - y14.1)) then (IntKind.wrap .i64 (0 - y14.1)) else y14.1)) then
    bif !(ltI 1000 (if y14.2.1 < (IntKind.wrap .i64 (0 - y14.2.1)) then (IntKind.wrap .i64 (0 - y14.2.1)) else y14.2.1)) then
     some (.inr (.inr (((e0, (y14.1, y14.2.1)), true, 0, ()))))
    else some (.inl (v2, v3, (v4.1, (v4.2.1, v4.2.2)), v5, v6, (v67.1, ()), ()))
   else some (.inl (v2, v3, (v4.1, (v4.2.1, v4.2.2)), v5, v6, (v67.1, ()), ()))
  else some (.inl (v2, v3, (v4.1, (v4.2.1, v4.2.2)), v5, v6, (v67.1, ()), ()))
def aJW (x : Shape.den E2) : tI [(.list TyF)] := match x with
 | (v2, v3, v4, v5, v6, v67, ()) => (v67.1, ())
def VY (x : Shape.den E2) : Option (aT R0) := aB1 E2 R0 (fun x => JF (aJW x)) aFJ x
def f27 (x : aJ [.agg TyA, .agg TyA]) : Option (aJ [.agg (.prod TyB TyF), .bool, .int .i64]) := match x with
 | (v0, v1, ()) =>
  aB (V7 (v0, v1, ((0, (0, (0, 0))), (0, 0)), false, 0, (v0, v1), 0, ())) fun z5 =>
  jE z5 (fun a6 => some ((a6.1.1, (a6.1.2.1, a6.1.2.2)), a6.2.1, a6.2.2.1, ())) fun b7 =>
  bif !(eqI (b7.1.2.1.length : Int) (b7.2.1.2.1.length : Int)) then
   some (((0, (0, (0, 0))), (0, 0)), false, 5, ())
  else aB (f47 (b7.1, ())) fun y8 =>
  bif !(eqI y8.2.2.1 0) then
   some (((0, (0, (0, 0))), (0, 0)), false, y8.2.2.1, ())
  else aB (f47 (b7.2.1, ())) fun y9 =>
  bif !(eqI y9.2.2.1 0) then
   some (((0, (0, (0, 0))), (0, 0)), false, y9.2.2.1, ())
  else aB (f25 (y8.1, y9.1, ())) fun y10 =>
  bif y10.1 then
   aB (f38 (b7.1.1, ())) fun y11 =>
   aB (VY (b7.1, b7.2.1, (b7.2.2.1.1, (b7.2.2.1.2.1, b7.2.2.1.2.2)), b7.2.2.2.1, y9.2.2.1, (y11.1.1, ()), ())) fun z15 =>
   jE z15 (fun a16 => some (((0, (0, (0, 0))), (0, 0)), false, 3, ())) fun b17 =>
   some ((b17.1.1, (b17.1.2.1, b17.1.2.2)), b17.2.1, b17.2.2.1, ())
  else some (((0, (0, (0, 0))), (0, 0)), false, 0, ())
noncomputable def c27 : Code := aR Tryz.f27
abbrev E27 : Env := bF [e24, e25, e38, e40, e47, e48, e49]
theorem aIX : aW Tryz.prog E27 := aU ⟨aHF, aVK, aDC, aD4, aPB, aDD, aTI, trivial⟩
noncomputable def aGY : Code := inLoop (G7 c27 0)
noncomputable def GZ : Code := G7 c27 1
noncomputable def aS5 : Code := inLoop GZ
def aRU (id : Nat) : Option aO := bif Nat.beq id 2 then some ⟨R6, W7, V7⟩ else none
def aSH (id : Nat) : Option aO := bif Nat.beq id 20 then some ⟨E2, R0, VY⟩ else none
theorem aKS : aF aGY = 2 := by kernel_rfl
theorem aWE : bN aGY = [] := by kernel_rfl
theorem aL7 : ∀ x, QJ Tryz.prog E27 109 (rH Tryz.f27) aRU aSH false [] aGY R6 W7 x = aG5 x := by
 rintro ⟨v2, v3, v4, v5, v6, v21, v22, ⟨⟩⟩
 kernel_rfl
theorem aN4 : r9 Tryz.prog 109 false [] (.loop aGY) ⟨R6, W7, V7⟩ := by
 exact IY aIX.callee aM.mixed _ (lQ aWE trivial) aL7
theorem aMA : aF aS5 = 20 := by kernel_rfl
theorem aV1 : bN aS5 = [] := by kernel_rfl
theorem aEL : GZ = .rangeFunc (BM GZ) (OX GZ) (j5 GZ) (inLoop GZ) := by kernel_rfl
theorem aMB : ∀ y e, JC Tryz.prog E27 109 (rH Tryz.f27) aRU aSH (OX GZ).toList (j5 GZ) (inLoop GZ) [.agg TyB] E2 R0 y e = aFJ y e := by
 rintro ⟨v2, v3, v4, v5, v6, v67, ⟨⟩⟩ ⟨e0, ⟨⟩⟩
 kernel_rfl
theorem aSS : ∀ x, VZ 62 [(.list TyF)] E2 (BM GZ) x = some (aJW x) := by
 rintro ⟨v2, v3, v4, v5, v6, v67, ⟨⟩⟩
 kernel_rfl
theorem aQD : r9 Tryz.prog 109 false [] GZ ⟨E2, R0, VY⟩ := by
 exact DR aIX aM aEL Tryz.func62 (c := aR Tryz.f62) (by kernel_rfl) aSA (by kernel_rfl) (lQ aV1 trivial) aSS aMB
theorem aSO : bN c27 = [.loop aGY, GZ] := by kernel_rfl
theorem aV6 : ∀ x, aA6 Tryz.prog E27 Tryz.f27 (rH Tryz.f27) aRU aSH c27 [.agg TyA, .agg TyA] [.agg (.prod TyB TyF), .bool, .int .i64] x = f27 x := by
 rintro ⟨v0, v1, ⟨⟩⟩
 kernel_rfl
theorem aY3 : bW Tryz.prog 27 [.agg TyA, .agg TyA] [.agg (.prod TyB TyF), .bool, .int .i64] f27 := by
 exact U6 aM aIX Tryz.func27 (c := c27) (by kernel_rfl) (aQ := rH Tryz.f27) (lt := aRU) (rt := aSH) (lQ aSO ⟨O8 aKS rfl aN4, AY aEL aMA rfl aQD, trivial⟩) aV6
abbrev e27 : Ent := ⟨27, [.agg TyA, .agg TyA], [.agg (.prod TyB TyF), .bool, .int .i64], f27⟩
theorem aT4 : Ent.OK Tryz.prog e27 := aY3

/-! schisma/schismalaw46.known -/
def g12 (x : aJ []) : Option (aJ [.bool]) := match x with
 | (()) =>
  aB (f26 ((1, ([0], ([2], [5]))), ())) fun y1 =>
  aB (f26 ((2, ([0], ([2], [5]))), ())) fun y2 =>
  aB (f28 ((1, ([0], ([1], [1]))), ())) fun y3 =>
  aB (f27 ((1, ([0], ([2], [5]))), (1, ([0], ([5], [2]))), ())) fun y4 =>
  bif eqI y1.2.1 0 then
   aB (f19 (y1.1, (1, ([0], ([(-5)], [(-2)]))), ())) fun y5 =>
   bif y5.1 then
    bif eqI y2.2.1 0 then
     aB (f19 (y2.1, (2, ([0], ([(-5)], [(-3)]))), ())) fun y6 =>
     bif y6.1 then
      bif eqI y3.2.1 0 then
       bif eqI (y3.1.length : Int) 2 then
        bif eqI y4.2.2.1 0 then
         some (y4.2.1, ())
        else some (false, ())
       else some (false, ())
      else some (false, ())
     else some (false, ())
    else some (false, ())
   else some (false, ())
  else some (false, ())
noncomputable def c12 : Code := aR Tryz.f12
abbrev E12 : Env := bF [e19, e26, e27, e28]
theorem aV0 : aW Tryz.prog E12 := aU ⟨aUF, aVV, aT4, aVF, trivial⟩
def aX4 (id : Nat) : Option aO := none
theorem aSG : aE c12 = [] := by kernel_rfl
theorem aWT : ∀ x, bH Tryz.prog E12 Tryz.f12 (aC Tryz.f12) aX4 c12 [] [.bool] x = g12 x := by
 rintro ⟨⟨⟩⟩
 kernel_rfl
theorem aZE : bW Tryz.prog 12 [] [.bool] g12 := by
 exact aX aM aV0 Tryz.func12 (c := c12) (by kernel_rfl) (aQ := aC Tryz.f12) (lt := aX4) (aD aSG trivial) aWT
def f12 (x : aJ []) : Option (aJ [.bool]) := some (true, ())
theorem aSI : ∀ x, g12 x = f12 x := by
 rintro ⟨⟩
 kernel_rfl
theorem aZO : bW Tryz.prog 12 [] [.bool] f12 := by
 have h : g12 = f12 := funext aSI
 rw [← h]
 exact aZE
abbrev e12 : Ent := ⟨12, [], [.bool], f12⟩
theorem aT0 : Ent.OK Tryz.prog e12 := aZO
end Go.PM
set_option linter.unusedSimpArgs false
set_option linter.unusedVariables false
namespace Go.PM
open Go Go.RowKit Go.Proofs
set_option maxRecDepth 100000
theorem TQ {τ : Type} (p : Nat → Prop) [DecidablePred p] (g : Nat → τ) : ∀ l : List Nat, (l.findSome? fun i => if p i then some (g i) else none) = (l.find? fun i => decide (p i)).map g
 | [] => rfl
 | i :: l => by
  rw [List.findSome?_cons, List.find?_cons]
  by_cases h : p i
  ·simp [h]
  ·simp [h, TQ p g l]
theorem aFC {s : List Int} {i : Nat} (h : i < s.length) : s.getD i 0 ∈ s := by
 rw [List.getD_eq_getElem?_getD, List.getElem?_eq_getElem h]; exact List.getElem_mem h
def okE (v : Int) : Prop := -1000000000 ≤ v ∧ v ≤ 1000000000
instance (v : Int) : Decidable (okE v) := by unfold okE; infer_instance
theorem aYU (a b : List Int) (ha : a.length ≤ 9223372036854775806) : f46 (a, b, ()) = some (decide (a = b), ()) := by
 unfold f46; dsimp only
 simp only [hM, U8, jT]
 by_cases hl : a.length = b.length
 ·rw [if_neg (by omega)]
  have : OV (a, b, (a.length : Int), 0, ()) = some (((List.range a.length).findSome? fun i => if ¬ a.getD i 0 = b.getD i 0 then some (.inl (false, ())) else none).getD (.inr ())) := VS (N := 2 ^ 64) (step := JR) (fun i => (a, b, (a.length : Int), (i : Int), ())) (fun i => if ¬ a.getD i 0 = b.getD i 0 then some (.inl (false, ())) else none) a.length (.inr ()) (by omega) (by
   intro i hi
   simp only [JR, bA, hM, vO, jT, U8, Int.toNat_natCast]
   rw [if_pos (by omega), if_pos ⟨by omega, by omega⟩, if_pos ⟨by omega, by omega⟩, BV i (by omega)]
   by_cases h : ¬ a.getD i 0 = b.getD i 0
   ·rw [if_pos h, if_pos h]
   ·rw [if_neg h, if_neg h]) (by
   simp only [JR, bA, jT]
   rw [if_neg (by omega)])
  rw [this, TQ (fun i => ¬ a.getD i 0 = b.getD i 0), cQ]
  cases hf : (List.range a.length).find? fun i => decide (¬ a.getD i 0 = b.getD i 0) with
  | none =>
   have hall : ∀ i, i < a.length → a.getD i 0 = b.getD i 0 := by
    intro i hi
    have := List.find?_eq_none.1 hf i (List.mem_range.2 hi)
    simpa using this
   have : a = b := by
    apply List.ext_getElem hl
    intro i h1 h2
    have := hall i h1
    rw [List.getD_eq_getElem?_getD, List.getD_eq_getElem?_getD, List.getElem?_eq_getElem h1, List.getElem?_eq_getElem h2] at this
    exact this
   rw [decide_eq_true this]; rfl
  | some i =>
   have h1 := List.find?_some hf
   have : ¬ a = b := fun e => by subst e; simp at h1
   rw [decide_eq_false this]; rfl
 ·rw [if_pos (by omega), decide_eq_false]
  rintro rfl; exact hl rfl
abbrev Lay : Type := Int × List Int × List Int × List Int
def ShL (l : Lay) : Prop := l.2.1.length ≤ 1000 ∧ l.2.2.1.length ≤ 1000 ∧ l.2.2.2.length ≤ 1000
end Go.PM
set_option linter.unusedSimpArgs false
set_option linter.unusedVariables false
namespace Go.PM
open Go Go.RowKit Go.Proofs
set_option maxRecDepth 100000
def mxE (a b : Int) (r s : List Int) (i : Nat) : Int := aK .i64 (aK .i64 (a * r.getD i 0) + aK .i64 (b * s.getD i 0))
def mx (a b : Int) (r s : List Int) : List Int := (List.range r.length).map (mxE a b r s)
theorem aAK (a b : Int) (r s : List Int) : (mx a b r s).length = r.length := by simp [mx]
theorem aO1 {a b : Int} {r s : List Int} (hl : s.length = r.length) (hr : r.length ≤ 1000) : f65 (r, s, a, b, ()) = some (mx a b r s, ()) := by
 have hloop : N2 (r, s, a, b, [], (r.length : Int), 0, ()) = some (mx a b r s, ()) := by
  refine J9 (N := 2 ^ 64) (step := I5) (fun i => (r, s, a, b, (List.range i).map (mxE a b r s), (r.length : Int), (i : Int), ())) r.length _ (by omega) ?_ ?_
  ·intro i hi
   simp only [I5, bA, vO, pX, jT, Int.toNat_natCast, List.length_map, List.length_range, List.length_singleton]
   rw [if_pos (by omega), if_pos (by omega), if_pos (by omega), if_pos (by omega), if_pos (by omega), BV i (by omega), List.range_succ, List.map_append]
   rfl
  ·simp only [I5, bA, jT]
   rw [if_neg (by omega)]
   rfl
 unfold f65; dsimp only
 rw [hloop, cQ]
def trn (l : Lay) (g : S4) : Lay := (l.1, l.2.1, mx g.1 g.2.2.1 l.2.2.1 l.2.2.2, mx g.2.1 g.2.2.2 l.2.2.1 l.2.2.2)
theorem aW5 {l : Lay} (g : S4) (h0 : l.2.1.length ≤ 1000) (h1 : l.2.2.2.length = l.2.2.1.length) (h2 : l.2.2.1.length ≤ 1000) : f40 (l, g, ()) = some (trn l g, ()) := by
 obtain ⟨k, o, r, u⟩ := l
 obtain ⟨a, b, c, d⟩ := g
 dsimp only at h0 h1 h2
 unfold f40; dsimp only
 have hc : aLL (o, ()) = some (o, ()) := by
  unfold aLL; dsimp only
  rw [pX, jT, if_pos (by omega)]
 rw [hc, cQ, aO1 h1 h2, cQ, aO1 h1 h2, cQ]
 rfl
def FP (k : Int) : List (Int × Int) := if k = 2 then aKC else aJ0
def xV (k : Int) : List S4 := if k = 2 then aB0 else aDX
theorem aT3 (k : Int) : f61 (k, ()) = some (FP k, ()) := by
 unfold f61 FP; dsimp only
 rw [hM, jT]
 by_cases h : k = 2
 ·rw [if_pos h, if_pos h]; rfl
 ·rw [if_neg h, if_neg h]; rfl
theorem aXB (k : Int) : f38 (k, ()) = some ((FP k, ()), ()) := by
 unfold f38; dsimp only
 rw [aT3, cQ]
theorem aLM (k : Int) : JF (FP k, ()) = some ((xV k).map fun g => (g, ())) := by
 unfold FP xV
 by_cases h : k = 2
 ·rw [if_pos h, if_pos h]; rfl
 ·rw [if_neg h, if_neg h]; rfl
end Go.PM
set_option linter.unusedSimpArgs false
set_option linter.unusedVariables false
namespace Go.PM
open Go Go.RowKit Go.Proofs
set_option maxRecDepth 100000
set_option maxHeartbeats 4000000
end Go.PM
set_option linter.unusedSimpArgs false
set_option linter.unusedVariables false
namespace Go.PM
open Go Go.RowKit Go.Proofs
set_option maxRecDepth 100000
set_option maxHeartbeats 4000000
end Go.PM
set_option linter.unusedSimpArgs false
set_option linter.unusedVariables false
namespace Go.PM
open Go Go.RowKit Go.Proofs
set_option maxRecDepth 100000
def Sm (B : Int) (r : List Int) : Prop := ∀ v ∈ r, -B ≤ v ∧ v ≤ B
structure aTF (B : Int) (l : Lay) : Prop where
 kind : l.1 = 1 ∨ l.1 = 2
 len : l.2.1.length ≤ 3
 right : l.2.2.1.length = l.2.1.length
 up : l.2.2.2.length = l.2.1.length
 o : Sm B l.2.1
 r : Sm B l.2.2.1
 u : Sm B l.2.2.2
theorem Sm.get {B : Int} {r : List Int} (h : Sm B r) {i : Nat} (hi : i < r.length) : -B ≤ r.getD i 0 ∧ r.getD i 0 ≤ B := h _ (aFC hi)
def P7 (g : S4) : Prop := (-1 ≤ g.1 ∧ g.1 ≤ 1) ∧ (-1 ≤ g.2.1 ∧ g.2.1 ≤ 1) ∧ (-1 ≤ g.2.2.1 ∧ g.2.2.1 ≤ 1) ∧ (-1 ≤ g.2.2.2 ∧ g.2.2.2 ≤ 1)
instance (g : S4) : Decidable (P7 g) := by unfold P7; infer_instance
theorem aSB {k : Int} {g : S4} (h : g ∈ xV k) : P7 g := by
 have h4 : ∀ g ∈ aDX, P7 g := by decide
 have h6 : ∀ g ∈ aB0, P7 g := by decide
 unfold xV at h
 split at h
 ·exact h6 g h
 ·exact h4 g h
theorem aEQ {a x B : Int} (ha : -1 ≤ a ∧ a ≤ 1) (hx : -B ≤ x ∧ x ≤ B) : -B ≤ a * x ∧ a * x ≤ B := by
 rcases (by omega : a = -1 ∨ a = 0 ∨ a = 1) with rfl | rfl | rfl <;> omega
theorem aOB {a b B : Int} {r s : List Int} {i : Nat} (ha : -1 ≤ a ∧ a ≤ 1) (hb : -1 ≤ b ∧ b ≤ 1) (hr : -B ≤ r.getD i 0 ∧ r.getD i 0 ≤ B) (hs : -B ≤ s.getD i 0 ∧ s.getD i 0 ≤ B) (hB : B ≤ 1000000000) :
  mxE a b r s i = a * r.getD i 0 + b * s.getD i 0 ∧ -(2 * B) ≤ mxE a b r s i ∧ mxE a b r s i ≤ 2 * B := by
 have h1 := aEQ ha hr
 have h2 := aEQ hb hs
 have : mxE a b r s i = a * r.getD i 0 + b * s.getD i 0 := by
  unfold mxE
  rw [wrap64 (x := a * r.getD i 0) (by omega) (by omega), wrap64 (x := b * s.getD i 0) (by omega) (by omega), wrap64 (by omega) (by omega)]
 rw [this]
 omega
theorem aGG {a b B : Int} {r s : List Int} (ha : -1 ≤ a ∧ a ≤ 1) (hb : -1 ≤ b ∧ b ≤ 1) (hr : Sm B r) (hs : Sm B s) (hl : s.length = r.length) (hB : B ≤ 1000000000) : Sm (2 * B) (mx a b r s) := by
 intro v hv
 unfold mx at hv
 obtain ⟨i, hi, rfl⟩ := List.mem_map.1 hv
 have hi := List.mem_range.1 hi
 exact (aOB ha hb (hr.get hi) (hs.get (by omega)) hB).2
end Go.PM
set_option linter.unusedSimpArgs false
set_option linter.unusedVariables false
namespace Go.PM
open Go Go.RowKit
def aH2 (P : Program) (E : Env) (fn : Func) (aQ : Nat) (lt rt : Nat → Option aO) (c : Code) (ae : TypeId) (t : Ty) (args rets : List Kd) (x : aJ args) : Option (aJ rets) :=
 bif Nat.ble (fQ args x).length fn.ntmps then pB P E fn.ntmps aQ lt rt false [] c (start aQ 0 (fQ args x)) [some (arB ae t [])] (aGH P fn.results.toList rets) else none
section
variable {P : Program}
theorem aV5 {E : Env} (hP : yS P) (hE : aW P E) {g : Nat} {fn : Func} (hg : P.funcs[g]? = some fn) {c : Code} (hc : fn.body = some c) {aQ : Nat} {lt rt : Nat → Option aO} {ae : TypeId} {t : Ty} {args rets : List Kd} {f : aJ args → Option (aJ rets)}
  (hl : ∀ a ∈ bN c, BG P fn.ntmps lt rt false [] a) (hb : ∀ x, aH2 P E fn aQ lt rt c ae t args rets x = f x) : bW P g args rets f := by
 intro x y hy
 rw [← hb] at hy
 unfold aH2 at hy
 obtain ⟨hlen, hy⟩ := aI hy
 obtain ⟨⟨ex, F', H'⟩, h1, h2⟩ := fK hE.callee hP.mixed c _ _ _ _ hl hy
 obtain ⟨vs, q, hex, hvs, hq, hd⟩ : ∃ vs q, (ex = .normal ∨ ex = .ret) ∧ kU P F' H' fn.results.toList = some vs ∧ aHM H' (dN vs) = some q ∧ aFG rets q = some y := by
  unfold aGH at h1
  split at h1
  ·cases h1
  ·rename_i hne
   split at h1
   ·rename_i vs hvs
    split at h1
    ·rename_i q hq
     refine ⟨vs, q, ?_, hvs, hq, h1⟩
     cases ex with
     | normal => exact .inl rfl
     | ret => exact .inr rfl
     | exit i => exact absurd rfl (hne i)
    ·cases h1
   ·cases h1
 obtain ⟨hq1, hq2⟩ := yE hq
 intro w G us hlt hv
 have at0 : ∀ (s : Nat) (k1 : Blk), ([some (arB ae t [])] : Heap)[s]? = some (some k1) → s = 0 ∧ k1 = arB ae t [] := by
  intro s k1 hs
  cases s with
  | zero => simp only [List.getElem?_cons_zero, Option.some.injEq] at hs; exact ⟨rfl, hs.symm⟩
  | succ s => simp at hs
 have hW : aP (mI w) (Gd.of G) ⟨fun _ => none, fun r => if r = 0 then some 0 else none⟩ [some (arB ae t [])] w := by
  refine ⟨(fun r k b h hb => by cases hb), (fun r k g h hg => ?_), (fun r s k l b h _ _ _ hb => by cases hb), hlt, (fun r hr => ⟨rfl, ?_⟩), fun _ h => h, ⟨(fun _ _ _ h => by cases h), (fun _ _ h => by cases h), (fun _ _ h => by cases h), (fun r k u l h hgr ht => ?_), (fun r s k k' u l u' l' h1 g1 t1 h2 g2 t2 => by rw [(at0 r k h1).1, (at0 s k' h2).1])⟩⟩
  ·obtain ⟨rfl, rfl⟩ := at0 r k h
   cases hg
   exact ⟨rfl, rfl⟩
  ·have : r ≠ 0 := by rintro rfl; simp at hr
   simp [this]
  ·obtain ⟨rfl, rfl⟩ := at0 r k h
   cases ht
   exact ⟨rfl, fun _ _ => rfl, fun j row hj => by simp at hj⟩
 have e0 : Ext (mI w) w (Gd.of G) aG w (Gd.of G) ⟨fun _ => none, fun r => if r = 0 then some 0 else none⟩ :=
  ⟨⟨fun b hb => ⟨hb, rfl⟩, fun _ _ h => (by cases h), fun _ _ h => (by cases h), fun _ _ h => h, fun _ _ h => h⟩, rfl, rfl, rfl, Nat.le_refl _, fun _ _ _ => rfl, fun _ h => .inl h⟩
 refine ⟨enters hg (hP.names g fn hg) (by rw [hc]; rfl) _ _, (callsIn_wide (n := 0)).1 (callsIn_of_wp_marks hg hc trivial ?_)⟩
 have hI : I (mI w) w (Gd.of G) aG fn.ntmps (start aQ 0 (fQ args x)) [some (arB ae t [])] ⟨us ++ Array.replicate (fn.ntmps - us.size) undef, []⟩ w := ⟨Gd.of G, _, e0, hW, pF hv.aZ (Nat.le_of_ble_eq_true hlen)⟩
 refine wpIn_mono (h2 none 0 _ w (Gd.of G) aG _ w (fun _ => rfl) (fun r _ => ⟨rfl, rfl⟩) hI.aVR) ?_
 rintro e1 ⟨tm, ds⟩ w' ⟨rfl, hI', _⟩
 have hend : ∀ w', IM (mI w) w (Gd.of G) aG fn.ntmps F' H' { tmps := tm, defers := [] } w' → LeavesIn Fence.wide 0 P fn tm (fun en w' => ∃ v' G', en = .returned v' ∧ Ext (mI w) w (Gd.of G) aG w' (Gd.of G') aG ∧ (∀ b, G' b → b < w'.heap.size) ∧ VR w' (Gd.of G') aG (aCF rets y) v') [] .returning w' := by
  rintro w' ⟨G1, μ1, e1, e2, hF', _⟩
  obtain ⟨ws, h3, h4⟩ := jG (P := P) e2 hF' hvs
  have hres : (results fn tm).run P w' = .ok (if hh : ws.toArray.size = 1 then ws.toArray[0] else .tuple ws.toArray) w' := by
   rw [rP, Array.mapM_eq_mapM_toList]
   simp only [Sem.run_bind, Sem.run_map, h3, Result.andThen_ok, Sem.run_pure]
  have hval := vP (G := ⟨fun b => G1 b ∨ ∃ r k, H'[r]? = some (some k) ∧ μ1.loc r = some b, G1.row⟩) (G' := Gd.of fun b => G1 b ∨ ∃ r k, H'[r]? = some (some k) ∧ μ1.loc r = some b) (fun b h => h) _ _ _ hq2
    (uH (G' := ⟨fun b => G1 b ∨ ∃ r k, H'[r]? = some (some k) ∧ μ1.loc r = some b, G1.row⟩) e2 (fun _ _ h => h) (fun b hb => .inl hb) (fun r k b hr _ hb => .inr ⟨r, k, hr, hb⟩) depth _ q _ hq1 (lF h4))
  have hext : Ext (mI w) w (Gd.of G) aG w' (Gd.of fun b => G1 b ∨ ∃ r k, H'[r]? = some (some k) ∧ μ1.loc r = some b) aG := {
   good := fun b hb => ⟨.inl (e1.good b hb).1, (e1.good b hb).2⟩
   map := fun _ _ h => h
   len := fun _ _ h => h
   room := e1.room
   row := fun _ _ h => h
   os := e1.os
   tape := e1.tape
   output := e1.output
   size := e1.size
   old := e1.old
   new := fun b hb => by
    rcases hb with hb | ⟨r, k, hr, hb⟩
    ·exact e1.new b hb
    ·obtain ⟨c, _, _, _, g5, g6⟩ := e2.blk r k b hr hb
     cases hf : k.frozen with
     | true => exact e1.new b (g5 hf)
     | false => exact .inr (g6 hf).1 }
  have hlt' : ∀ b, (G1 b ∨ ∃ r k, H'[r]? = some (some k) ∧ μ1.loc r = some b) → b < w'.heap.size := by
   rintro b (hb | ⟨r, k, hr, hb⟩)
   ·exact e2.lt b hb
   ·exact e2.fP hr hb
  exact ⟨_, hres, _, _, rfl, hext, hlt', J0 hd hval⟩
 rcases hex with rfl | rfl
 ·exact nF (fun b hb => hW.base b hb) hend ds w' hI'
 ·exact nF (fun b hb => hW.base b hb) hend ds w' hI'
end
end Go.PM
namespace Go.Proofs
open Go.Shelf
def Tryz.Y5 : Go.Shelf.Ren := ⟨fun | 6 => 54 | 14 => 71 | 15 => 72 | 20 => 88 | 21 => 89 | 22 => 90 | 23 => 91 | 24 => 92 | 25 => 93 | 26 => 94 | 27 => 95 | 28 => 96 | 29 => 97 | 46 => 125 | 47 => 126 | 48 => 127 | 49 => 128 | 50 => 129 | 57 => 153 | n => n, fun | 0 => 0 | 3 => 3 | 4 => 4 | 5 => 5 | 9 => 9 | 22 => 63 | 24 => 25 | 25 => 95 | 39 => 125 | 45 => 152 | 46 => 153 | 50 => 157 | 53 => 160 | 55 => 162 | 66 => 196 | 70 => 200 | 76 => 223 | 77 => 224 | n => n, fun | n => n⟩
theorem Tryz.aM8 : Go.Proofs.SlLaysF0.n6 Tryz.prog Tryz.Y5 := {
 mixed := by kernel_rfl
 f6 := ⟨Tryz.f54.name, by decide, Tryz.func54.trans (congrArg some (by kernel_rfl))⟩
 f14 := ⟨Tryz.f71.name, by decide, Tryz.func71.trans (congrArg some (by kernel_rfl))⟩
 f15 := Tryz.func72.trans (congrArg some (by kernel_rfl))
 f20 := ⟨Tryz.f88.name, by decide, Tryz.func88.trans (congrArg some (by kernel_rfl))⟩
 f21 := ⟨Tryz.f89.name, by decide, Tryz.func89.trans (congrArg some (by kernel_rfl))⟩
 f22 := ⟨Tryz.f90.name, by decide, Tryz.func90.trans (congrArg some (by kernel_rfl))⟩
 f23 := ⟨Tryz.f91.name, by decide, Tryz.func91.trans (congrArg some (by kernel_rfl))⟩
 f24 := ⟨Tryz.f92.name, by decide, Tryz.func92.trans (congrArg some (by kernel_rfl))⟩
 f25 := ⟨Tryz.f93.name, by decide, Tryz.func93.trans (congrArg some (by kernel_rfl))⟩
 f26 := ⟨Tryz.f94.name, by decide, Tryz.func94.trans (congrArg some (by kernel_rfl))⟩
 f27 := ⟨Tryz.f95.name, by decide, Tryz.func95.trans (congrArg some (by kernel_rfl))⟩
 f28 := Tryz.func96.trans (congrArg some (by kernel_rfl))
 f29 := Tryz.func97.trans (congrArg some (by kernel_rfl))
 f46 := ⟨Tryz.f125.name, by decide, Tryz.func125.trans (congrArg some (by kernel_rfl))⟩
 f47 := Tryz.func126.trans (congrArg some (by kernel_rfl))
 f48 := Tryz.func127.trans (congrArg some (by kernel_rfl))
 f49 := ⟨Tryz.f128.name, by decide, Tryz.func128.trans (congrArg some (by kernel_rfl))⟩
 f50 := ⟨Tryz.f129.name, by decide, Tryz.func129.trans (congrArg some (by kernel_rfl))⟩
 f57 := ⟨Tryz.f153.name, by decide, Tryz.func153.trans (congrArg some (by kernel_rfl))⟩
 t0 := Tryz.underlying0
 a0 := Tryz.isAgg0
 z0 := Tryz.sizeOf0
 v0 := Tryz.zeroValue0
 t3 := Tryz.underlying3
 a3 := Tryz.isAgg3
 z3 := Tryz.sizeOf3
 v3 := Tryz.zeroValue3
 t4 := Tryz.underlying4
 a4 := Tryz.isAgg4
 z4 := Tryz.sizeOf4
 v4 := Tryz.zeroValue4
 t5 := Tryz.underlying5
 a5 := Tryz.isAgg5
 z5 := Tryz.sizeOf5
 v5 := Tryz.zeroValue5
 t9 := Tryz.underlying9
 a9 := Tryz.isAgg9
 z9 := Tryz.sizeOf9
 v9 := Tryz.zeroValue9
 t22 := Tryz.underlying63
 a22 := Tryz.isAgg63
 z22 := Tryz.sizeOf63
 v22 := Tryz.zeroValue63
 t25 := Tryz.underlying95
 a25 := Tryz.isAgg95
 z25 := Tryz.sizeOf95
 v25 := Tryz.zeroValue95
 t39 := Tryz.underlying125
 a39 := Tryz.isAgg125
 z39 := Tryz.sizeOf125
 v39 := Tryz.zeroValue125
 t45 := Tryz.underlying152
 a45 := Tryz.isAgg152
 z45 := Tryz.sizeOf152
 v45 := Tryz.zeroValue152
 t46 := Tryz.underlying153
 a46 := Tryz.isAgg153
 z46 := Tryz.sizeOf153
 v46 := Tryz.zeroValue153
 t50 := Tryz.underlying157
 a50 := Tryz.isAgg157
 z50 := Tryz.sizeOf157
 v50 := Tryz.zeroValue157
 t53 := Tryz.underlying160
 a53 := Tryz.isAgg160
 z53 := Tryz.sizeOf160
 v53 := Tryz.zeroValue160
 t55 := Tryz.underlying162
 a55 := Tryz.isAgg162
 z55 := Tryz.sizeOf162
 v55 := Tryz.zeroValue162
 t66 := Tryz.underlying196
 a66 := Tryz.isAgg196
 z66 := Tryz.sizeOf196
 v66 := Tryz.zeroValue196
 t70 := Tryz.underlying200
 a70 := Tryz.isAgg200
 z70 := Tryz.sizeOf200
 v70 := Tryz.zeroValue200
 t76 := Tryz.underlying223
 a76 := Tryz.isAgg223
 z76 := Tryz.sizeOf223
 v76 := Tryz.zeroValue223
 t77 := Tryz.underlying224
 a77 := Tryz.isAgg224
 z77 := Tryz.sizeOf224
 v77 := Tryz.zeroValue224 }
open Go.RowKit Go.Lib Go.Sort in
/-- slices.SortFunc at structs: a permutation, sorted by 'cmp(a, b) < 0' (the shelf's contract, laid at this instance). -/
theorem Tryz.SH {α : Type} [Inhabited α] (enc : α → List Value) (hk : ∀ x, (enc x).length = 4) (h1 : ∀ x, ∀ v ∈ enc x, v.oneCell' = true) (cf : α → α → Int) (hO : SWO (ltOf cf)) (g : Nat) (cb : Array Value) (blk off cap : Nat) (d : Array α) (w : World) (eg : ∀ args w, (callFunc g args).run Tryz.prog w = .ok (.enter g args) w) (hcmp : CmpLays Tryz.prog g cb enc 4 cf blk off d.size w) (hH : HoldsK enc 4 w blk off d) (hblk : blk < w.heap.size) (hsz : d.size < 4611686018427387904) :
  Calls Tryz.prog 54 #[.slice (some ⟨blk, off, none⟩) d.size cap, .func (.func g) #[] cb] w fun e w' =>
   e = .returned (.tuple #[]) ∧ ∃ d' n os, PermIn 0 d.size d d' ∧ SortedIn (ltOf cf) 0 d.size d' ∧ w' = sortWorldK enc 4 w blk off n d' os := AnyQ.slices_SortFunc Tryz.aM8 4 Tryz.isAgg25 Tryz.sizeOf25 enc hk h1 cf hO g cb blk off cap d w eg hcmp hH hblk hsz
end Go.Proofs
set_option linter.unusedSimpArgs false
set_option linter.unusedVariables false
namespace Go.PM
open Go Go.RowKit
def ins (x : Int) : List Int → List Int
 | [] => [x]
 | y :: l => bif ltI y x then y :: ins x l else x :: y :: l
theorem aPJ (x : Int) : ∀ l, List.Perm (ins x l) (x :: l)
 | [] => .refl _
 | y :: l => by
  unfold ins
  cases ltI y x with
  | true => exact ((aPJ x l).cons y).trans (.swap x y l)
  | false => exact .refl _
section
variable {P : Program} {n0 : Nat → Prop} {w : World} {G : Gd} {μ : Mp} {H : Heap}
theorem aJ3 : ∀ (l : List Int), aH (.int .i64) l = l.map fun n => PV.lit (.int .i64 n)
 | [] => rfl
 | x :: l => by rw [dV, aJ3 l]; rfl
theorem aLT (hW : aP n0 G μ H w) (os : Array Obj) : Ext n0 w G μ (Sort.grow w os) G μ ∧ aP n0 G μ H (Sort.grow w os) := by
 have hg : ∀ b, b < w.heap.size → (Sort.grow w os).heap[b]? = w.heap[b]? := fun b hb => by
  show (w.heap ++ os)[b]? = _
  rw [Array.getElem?_append_left hb]
 have e : Ext n0 w G μ (Sort.grow w os) G μ := {
  good := fun b hb => ⟨hb, hg b (hW.lt b hb)⟩
  map := fun _ _ h => h
  len := fun _ _ h => h
  room := fun b n hb => by
   obtain ⟨c, t, fr, h1, h2⟩ := hb
   exact ⟨c, t, fr, by rw [hg b (cC h1)]; exact h1, h2⟩
  row := fun _ _ h => h
  os := rfl
  tape := rfl
  output := rfl
  size := by show _ ≤ (w.heap ++ os).size; simp
  old := fun b hb _ => hg b hb
  new := fun b hb => .inl hb }
 refine ⟨e, hW.aQ e ⟨fun _ => rfl, fun j b hj => ⟨hg b (hW.rows.sep j b hj).1, id⟩⟩ (fun r k b hr hb => ⟨hg b (hW.fP hr hb), id⟩) fun b hb => Nat.lt_of_lt_of_le (hW.lt b hb) e.size⟩

end
end Go.PM
set_option linter.unusedSimpArgs false
set_option linter.unusedVariables false
namespace Go.PM
open Go Go.RowKit
def aHT {α : Type} (lt : α → α → Bool) (x : α) : List α → List α
 | [] => [x]
 | y :: l => bif lt y x then y :: aHT lt x l else x :: y :: l
def ZJ {α : Type} (lt : α → α → Bool) : List α → List α
 | [] => []
 | x :: l => aHT lt x (ZJ lt l)
structure LO {α : Type} (D : α → Bool) (lt : α → α → Bool) : Prop where
 irrefl : ∀ x, D x = true → lt x x = false
 trans : ∀ x y z, D x = true → D y = true → D z = true → lt x y = true → lt y z = true → lt x z = true
 ntrans : ∀ x y z, D x = true → D y = true → D z = true → lt x y = false → lt y z = false → lt x z = false
 anti : ∀ x y, D x = true → D y = true → lt x y = false → lt y x = false → x = y
section
variable {α : Type} {D : α → Bool} {lt : α → α → Bool}
theorem R4 (x : α) : ∀ l, List.Perm (aHT lt x l) (x :: l)
 | [] => .refl _
 | y :: l => by
  unfold aHT
  cases lt y x with
  | true => exact ((R4 x l).cons y).trans (.swap x y l)
  | false => exact .refl _
theorem DY : ∀ l : List α, List.Perm (ZJ lt l) l
 | [] => .refl _
 | x :: l => (R4 x (ZJ lt l)).trans ((DY l).cons x)
theorem S1 (h : LO D lt) (x : α) (hx : D x = true) : ∀ l : List α, (∀ y ∈ l, D y = true) → l.Pairwise (fun a b => lt b a = false) → (aHT lt x l).Pairwise (fun a b => lt b a = false)
 | [], _, _ => by simp [aHT]
 | y :: l, hd, hs => by
  have ⟨h1, h2⟩ := List.pairwise_cons.1 hs
  have hy := hd y (by simp)
  unfold aHT
  cases hb : lt y x with
  | true =>
   refine List.pairwise_cons.2 ⟨fun z hz => ?_, S1 h x hx l (fun z hz => hd z (by simp [hz])) h2⟩
   rcases List.mem_cons.1 ((R4 x l).mem_iff.1 hz) with rfl | hz
   ·cases hc : lt z y with
    | false => rfl
    | true => have := h.trans z y z hx hy hx hc hb; rw [h.irrefl z hx] at this; cases this
   ·exact h1 z hz
  | false =>
   refine List.pairwise_cons.2 ⟨fun z hz => ?_, hs⟩
   rcases List.mem_cons.1 hz with rfl | hz
   ·exact hb
   ·exact h.ntrans z y x (hd z (by simp [hz])) hy hx (h1 z hz) hb
theorem TE (h : LO D lt) : ∀ l : List α, (∀ y ∈ l, D y = true) → (ZJ lt l).Pairwise (fun a b => lt b a = false)
 | [], _ => .nil
 | x :: l, hd => S1 h x (hd x (by simp)) _ (fun y hy => hd y (by simp [(DY l).mem_iff.1 hy])) (TE h l fun y hy => hd y (by simp [hy]))
theorem aE0 (h : LO D lt) {l l' : List α} (hd : ∀ y ∈ l, D y = true) (hp : List.Perm l' l) (hs : l'.Pairwise (fun a b => lt b a = false)) : ZJ lt l = l' := by
 refine List.Perm.eq_of_pairwise (le := fun a b => lt b a = false) (fun a b ha hb h1 h2 => ?_) (TE h l hd) hs ((DY l).trans hp.symm)
 exact h.anti a b (hd a ((DY l).mem_iff.1 ha)) (hd b (hp.mem_iff.1 hb)) h2 h1
theorem TI (l : List α) : (ZJ lt l).length = l.length := (DY l).length_eq
end
end Go.PM
set_option linter.unusedSimpArgs false
set_option linter.unusedVariables false
namespace Go.PM
open Go Go.RowKit
section
variable {P : Program} {n0 : Nat → Prop} {w w' : World} {G G' : Gd} {μ μ' : Mp} {H : Heap}
theorem aBA {b : Nat} : ∀ {ps : List PV} {off : Nat}, aN w G μ b off ps → ∃ vs : List Value, VRs w G μ ps vs ∧ vs.length = ps.length ∧ ∀ c (hc : c < vs.length), w.cell? ⟨b, off + c, none⟩ = some vs[c]
 | [], off, _ => ⟨[], by rw [VRs], rfl, fun c hc => absurd hc (Nat.not_lt_zero _)⟩
 | p :: ps, off, h => by
  rw [aN] at h
  obtain ⟨⟨v, h1, h2⟩, h3⟩ := h
  obtain ⟨vs, k1, k2, k3⟩ := aBA h3
  refine ⟨v :: vs, ?_, by simp [k2], fun c hc => ?_⟩
  ·rw [VRs]; exact ⟨v, vs, rfl, h2, k1⟩
  ·cases c with
   | zero => exact h1
   | succ c =>
    have := k3 c (by simpa using hc)
    rw [Nat.add_assoc, Nat.add_comm 1 c] at this
    simpa using this
theorem MO (t : Ty) : ∀ (l : List t.den) (i c : Nat) (hi : i < l.length), c < t.size → (aH t l)[i * t.size + c]? = (enc t l[i])[c]?
 | [], i, c, hi, _ => by cases hi
 | x :: l, 0, c, hi, hc => by
  rw [dV, Nat.zero_mul, Nat.zero_add, List.getElem?_append_left (by rw [fU]; exact hc)]; rfl
 | x :: l, i + 1, c, hi, hc => by
  rw [dV, List.getElem?_append_right (by rw [fU, Nat.add_mul]; omega), fU, show (i + 1) * t.size + c - t.size = i * t.size + c by rw [Nat.add_mul]; omega, MO t l i c (by simpa using hi) hc]
  rfl
structure ElK (t : Ty) where
 x : t.den
 vs : List Value
def Z7 {t : Ty} (w : World) (G : Nat → Prop) (D : t.den → Bool) (e : ElK t) : Prop := D e.x = true ∧ VRs w (Gd.of G) aG (enc t e.x) e.vs ∧ e.vs.length = t.size
def SM {α : Type} (D : List α → α → Bool) (lt : α → α → Bool) (l : List α) : Option (List α) := bif Nat.blt 0 l.length && Nat.blt l.length 4611686018427387904 && l.all (D l) then some (ZJ lt l) else none
def aDZ (t : Ty) (g2 : FuncId) (D : List t.den → t.den → Bool) (lt : t.den → t.den → Bool) (args : List PV) (H : Heap) : Option aGO := match args with
 | [.own r sz, p] => match fB H r with
  | some k => match k.tag with
   | some g => match tY g.t t g.l with
    | some l => match aJ4 g2 p with
     | some _ => bif Nat.beq sz t.size && !k.frozen then some ⟨List t.den, SM D lt l, fun l' => (.tuple [], H.set r (some ⟨aH t l', k.ty, k.grown, false, some ⟨t, l'⟩⟩))⟩ else none
     | none => none
    | none => none
   | none => none
  | none => none
 | _ => none
def aOK (P : Program) (g2 : FuncId) (t : Ty) (D : t.den → Bool) (cf : t.den → t.den → Int) : Prop :=
 ∀ (w : World) (G : Nat → Prop) (x y : t.den) (vx vy : List Value), Lt w G → D x = true → D y = true → VRs w (Gd.of G) aG (enc t x) vx → VRs w (Gd.of G) aG (enc t y) vy →
  Calls P g2 #[.agg vx.toArray, .agg vy.toArray] w fun e w' => e = .returned (.int .i64 (cf x y)) ∧ ∃ q os', w' = Sort.grow (w.drewN q) os'

theorem aK1 {g g2 : FuncId} {t : Ty} (hpl : t.plain = true) (hk0 : 0 < t.size) {D : List t.den → t.den → Bool} {cf : t.den → t.den → Int}
  (hLO : ∀ l, LO (D l) fun x y => decide (cf x y < 0)) (hf : ∀ l, aOK P g2 t (D l) cf)
  (henter : ∀ (xs : Array Value) (w : World), (callFunc g xs).run P w = .ok (.enter g xs) w) (eg : ∀ (xs : Array Value) (w : World), (callFunc g2 xs).run P w = .ok (.enter g2 xs) w)
  (hS : ∀ {α : Type} [Inhabited α] (enc : α → List Value) (hk : ∀ x, (enc x).length = t.size) (h1 : ∀ x, ∀ v ∈ enc x, v.oneCell' = true) (cf : α → α → Int) (hO : Sort.SWO (Proofs.ltOf cf)) (cb : Array Value) (blk off cap : Nat) (d : Array α) (w : World) (hcmp : Proofs.CmpLays P g2 cb enc t.size cf blk off d.size w) (hH : Sort.HoldsK enc t.size w blk off d) (hblk : blk < w.heap.size) (hsz : d.size < 4611686018427387904),
   Calls P g #[.slice (some ⟨blk, off, none⟩) d.size cap, .func (.func g2) #[] cb] w fun e w' => e = .returned (.tuple #[]) ∧ ∃ d' n os, Sort.PermIn 0 d.size d d' ∧ Sort.SortedIn (Proofs.ltOf cf) 0 d.size d' ∧ w' = Proofs.sortWorldK enc t.size w blk off n d' os) :
  DH P (g, aDZ t g2 D (fun x y => decide (cf x y < 0))) := by
 intro args H rh h y hy n0 G μ w us hW hv
 change aDZ t g2 D (fun x y => decide (cf x y < 0)) args H = some rh at h
 show nG P n0 w G μ g us.toArray (rh.out y).1 (rh.out y).2
 unfold aDZ at h
 split at h
 ·rename_i r sz p
  split at h
  ·rename_i k hk
   split at h
   ·rename_i gg hg
    split at h
    ·rename_i l hl
     split at h
     ·rename_i pk hpk
      obtain ⟨hb, h⟩ := Q7 h
      simp only [Bool.and_eq_true, Bool.not_eq_true'] at hb
      have hfz := hb.2
      replace hb := Nat.eq_of_beq_eq_true hb.1
      simp only [Option.some.injEq] at h
      subst h
      subst hb
      unfold SM at hy
      obtain ⟨hlen, hy⟩ := aI hy
      simp only [Option.some.injEq] at hy
      subst hy
      simp only [Bool.and_eq_true] at hlen
      obtain ⟨⟨hl0, hlen⟩, hall⟩ := hlen
      have hl0 := cM hl0
      have hlen := cM hlen
      obtain ⟨gt, gl⟩ := gg
      obtain ⟨e0, he⟩ := jP hl
      dsimp only at e0 he
      subst e0
      dsimp only at he
      subst he
      clear hl
      dsimp only at hl0 hlen hall hg ⊢
      obtain ⟨hcells, hmlen⟩ := hW.tags r k _ (aL hk) hg
      dsimp only at hcells hmlen
      have hLO := hLO gl
      have hf := hf gl
      have hD : ∀ x ∈ gl, D gl x = true := List.all_eq_true.1 hall
      generalize hDD : D gl = D' at hLO hf hD
      rw [VRs] at hv
      obtain ⟨v, us1, rfl, h1, h2⟩ := hv
      rw [VRs] at h2
      obtain ⟨pv, us2, rfl, h2, h3⟩ := h2
      rw [VRs] at h3
      subst h3
      have hpv : pv = .func (.func g2) #[] #[] := by
       have := JY (g := g2) (p := p) hpk
       rw [this, VR] at h2
       exact h2
      subst hpv
      rw [VR] at h1
      obtain ⟨n, h3, h4⟩ := h1
      rw [hmlen] at h3
      cases h3
      rcases h4 with ⟨h5, ao, rfl⟩ | ⟨b, c, h5, rfl, h7, h8⟩
      ·omega
      refine ⟨henter _ _, ?_⟩
      obtain ⟨cc, a1, a2, a3, _, a5⟩ := hW.blk r k b (aL hk) h5
      have hnG := (a5 hfz).2
      rw [hcells] at a2
      have each : ∀ i (hi : i < gl.length), ∃ e : ElK gt, Z7 w G.ok D' e ∧ e.x = gl[i] ∧ ∀ c (hc : c < e.vs.length), w.cell? ⟨b, i * gt.size + c, none⟩ = some e.vs[c] := fun i hi => by
       have hcs : aN w G μ b (i * gt.size) (enc gt gl[i]) := aN.mk fun c p hp => by
        have hc : c < gt.size := by
         have := (List.getElem?_eq_some_iff.1 hp).1
         rwa [fU] at this
        have := a2.get (i := i * gt.size + c) (p := p) (by rw [MO gt gl i c hi hc]; exact hp)
        rwa [Nat.zero_add] at this
       obtain ⟨vs, v1, v2, v3⟩ := aBA hcs
       have v1 : VRs w G aG (enc gt gl[i]) vs := bP _ _ (uP _ _) v1
       exact ⟨⟨gl[i], vs⟩, ⟨hD _ (List.getElem_mem hi), jI (G := G) (G' := Gd.of G.ok) (fun b h => h) _ _ _ (sB _ _ hpl) v1, by rw [v2, fU]⟩, rfl, v3⟩
      obtain ⟨x0, x0ok, _⟩ := each 0 hl0
      have inst : Inhabited {e : ElK gt // Z7 w G.ok D' e} := ⟨⟨x0, x0ok⟩⟩
      have each2 : ∀ i, ∃ e : {e : ElK gt // Z7 w G.ok D' e}, ∀ hi : i < gl.length, e.1.x = gl[i] ∧ ∀ c (hc : c < e.1.vs.length), w.cell? ⟨b, i * gt.size + c, none⟩ = some e.1.vs[c] := fun i => by
       by_cases hi : i < gl.length
       ·obtain ⟨e, e1, e2⟩ := each i hi
        exact ⟨⟨e, e1⟩, fun _ => e2⟩
       ·exact ⟨default, fun h => absurd h hi⟩
      obtain ⟨f, hfx⟩ := Classical.axiomOfChoice each2
      obtain ⟨d, hd⟩ : ∃ d : Array {e : ElK gt // Z7 w G.ok D' e}, d = ((List.range gl.length).map f).toArray := ⟨_, rfl⟩
      have hds : d.size = gl.length := by rw [hd]; simp
      have hdg : ∀ i, i < gl.length → d[i]! = f i := fun i hi => by
       rw [getElem!_pos d i (by omega)]
       simp [hd]
      obtain ⟨en, hen⟩ : ∃ en : {e : ElK gt // Z7 w G.ok D' e} → List Value, en = fun e => e.1.vs := ⟨_, rfl⟩
      have hek : ∀ x, (en x).length = gt.size := fun x => by rw [hen]; exact x.2.2.2
      have he1 : ∀ x, ∀ v ∈ en x, v.oneCell' = true := fun x => by rw [hen]; exact VH gt x.1.x x.1.vs x.2.2.1
      have hcell : ∀ j, j < gl.length * gt.size → w.cell? ⟨b, j, none⟩ = some (Sort.flatK en gt.size d)[j]! := fun j hj => by
       have hj1 : j / gt.size < gl.length := Nat.div_lt_of_lt_mul (by rw [Nat.mul_comm]; exact hj)
       have hj2 : j % gt.size < gt.size := Nat.mod_lt _ hk0
       rw [Sort.get_flatK _ _ _ _ (by rw [hds]; exact hj), hdg _ hj1]
       have := (hfx _ hj1).2 (j % gt.size) (by rw [(f (j / gt.size)).2.2.2]; exact hj2)
       rw [Nat.mul_comm, Nat.div_add_mod] at this
       rw [this, hen]
       congr 1
       rw [getElem!_pos]
      have hcs : gl.length * gt.size ≤ cc.size := by
       rcases Nat.lt_or_ge cc.size (gl.length * gt.size) with hlt | hge
       ·have := hcell cc.size hlt
        simp [World.cell?, a1] at this
       ·exact hge
      have hT : ∀ (m : Nat) (F : Array Value), zY { w with drawn := w.drawn + m } (Sort.putRow id (Sort.ahead w m) b 0 F) b (Sort.putCells id 0 F cc) k.ty := fun m F => {
       at_ := by
        show (w.heap.modify b _)[b]? = _
        rw [Array.getElem?_modify, if_pos rfl, a1]; rfl
       other := fun x hx => by
        show (w.heap.modify b _)[x]? = _
        rw [Array.getElem?_modify, if_neg (Ne.symm hx)]
       os := rfl
       tape := rfl
       output := rfl
       size := by show (w.heap.modify b _).size = _; simp
       drawn := rfl }
      have hps : ∀ F : Array Value, (Sort.putCells id 0 F cc).size = cc.size := fun F => by simp [Sort.putCells]
      have e12 : ∀ (m : Nat) (F : Array Value), Ext n0 w G μ (Sort.putRow id (Sort.ahead w m) b 0 F) G μ := fun m F =>
       (PY (n0 := n0) (w := w) (G := G) (μ := μ) (Nat.le_add_right w.drawn m)).trans (mW (D4 hW (w.drawn + m)) (aL hk) hfz h5 (c := cc) (by exact a1) (hT m F) (hps F))
      have growE : ∀ {w1 : World} (os : Array Obj), (∀ b, G b → b < w1.heap.size) → Ext n0 w1 G μ (Sort.grow w1 os) G μ := fun {w1} os hlt => by
       have hgr : ∀ b, b < w1.heap.size → (Sort.grow w1 os).heap[b]? = w1.heap[b]? := fun b hb => by
        show (w1.heap ++ os)[b]? = _
        rw [Array.getElem?_append_left hb]
       exact {
        good := fun b hb => ⟨hb, hgr b (hlt b hb)⟩
        map := fun _ _ h => h
        len := fun _ _ h => h
        row := fun _ _ h => h
        room := fun b n hb => by
         obtain ⟨c, t, fr, h1, h2⟩ := hb
         exact ⟨c, t, fr, by rw [hgr b (cC h1)]; exact h1, h2⟩
        os := rfl
        tape := rfl
        output := rfl
        size := by show _ ≤ (w1.heap ++ os).size; simp
        old := fun b hb _ => hgr b hb
        new := fun b hb => .inl hb }
      have hlt1 : ∀ (m : Nat) (F : Array Value) b', G b' → b' < (Sort.putRow id (Sort.ahead w m) b 0 F).heap.size := fun m F b' hb' => Nat.lt_of_lt_of_le (hW.lt b' hb') (e12 m F).size
      have e123 : ∀ (m : Nat) (F : Array Value) (os : Array Obj), Ext n0 w G μ (Sort.grow (Sort.putRow id (Sort.ahead w m) b 0 F) os) G μ := fun m F os => (e12 m F).trans (growE os (hlt1 m F))
      have hH : Sort.HoldsK en gt.size w b 0 d := by
       intro j hj
       rw [Sort.size_flatK, hds] at hj
       refine ⟨?_, by simp [World.frozen?, a1]⟩
       rw [Nat.zero_add]
       exact hcell j hj
      have hO : Sort.SWO (Proofs.ltOf fun x y : {e : ElK gt // Z7 w G.ok D' e} => cf x.1.x y.1.x) :=
       ⟨fun x => hLO.irrefl _ x.2.1, fun x y z => hLO.trans _ _ _ x.2.1 y.2.1 z.2.1, fun x y z => hLO.ntrans _ _ _ x.2.1 y.2.1 z.2.1⟩
      have hcmp : Proofs.CmpLays P g2 #[] en gt.size (fun x y => cf x.1.x y.1.x) b 0 d.size w := by
       intro m os dk _ x y
       have eW := e123 m (Sort.flatK en gt.size dk) os
       have mono0 : Mono w (Gd.of G.ok) aG (Proofs.sortWorldK en gt.size w b 0 m dk os) (Gd.of G.ok) aG := ⟨fun b hb => ⟨hb, (eW.good b hb).2⟩, fun _ _ h => h, fun _ _ h => h, eW.room, fun _ _ h => h⟩
       have hx := VRs.mono mono0 _ _ x.2.2.1
       have hy := VRs.mono mono0 _ _ y.2.2.1
       have hlt : Lt (Proofs.sortWorldK en gt.size w b 0 m dk os) G.ok := hW.lt.step (fun b hb => ⟨hb, (eW.good b hb).2⟩) fun b' hb' => Nat.lt_of_lt_of_le (hW.lt b' hb') eW.size
       have := hf _ G.ok x.1.x y.1.x _ _ hlt x.2.1 y.2.1 hx hy
       rw [hen] at this ⊢
       exact this
      have hcall := hS en hek he1 (fun x y => cf x.1.x y.1.x) hO #[] b 0 c d w hcmp hH (cC a1) (by omega)
      rw [hds] at hcall
      refine hcall.mono ?_
      rintro e w' ⟨rfl, d', m, os, ⟨hp1, -, hp3⟩, hs, rfl⟩
      have hd's : d'.size = gl.length := by rw [hp1, hds]
      have hgl : d.toList.map (fun x => x.1.x) = gl := by
       apply List.ext_getElem
       ·simp [hds]
       ·intro i h1 h2
        have := hdg i h2
        rw [getElem!_pos d i (by omega)] at this
        simp only [List.getElem_map, Array.getElem_toList, this]
        exact (hfx i h2).1
      have hperm : List.Perm (d'.toList.map fun x => x.1.x) gl := by
       have hh : List.Perm (d'.toList.map fun x => x.1.x) (d.toList.map fun x => x.1.x) := by
        refine List.Perm.map _ ?_
        have q1 : d'.extract 0 gl.length = d' := by rw [← hd's]; simp
        have q2 : d.extract 0 gl.length = d := by rw [← hds]; simp
        rw [q1, q2] at hp3
        exact hp3
       rwa [hgl] at hh
      have hsort : (d'.toList.map fun x => x.1.x).Pairwise (fun a b => decide (cf b a < 0) = false) := by
       refine List.pairwise_map.2 (List.pairwise_iff_getElem.2 fun i j hi hj hij => ?_)
       have := hs i j (Nat.zero_le _) hij (by simpa [hd's] using hj)
       rw [getElem!_pos d' i (by simpa using hi), getElem!_pos d' j (by simpa using hj)] at this
       simpa [Proofs.ltOf] using this
      have hL : ZJ (fun x y => decide (cf x y < 0)) gl = d'.toList.map fun x => x.1.x := aE0 hLO hD hperm hsort
      have hLl : (d'.toList.map fun x => x.1.x).length = gl.length := by simp [hd's]
      rw [hL]
      have hnew : ∀ i (hi : i < gl.length * gt.size), (Sort.putCells id 0 (Sort.flatK en gt.size d') cc)[i]? = some (Sort.flatK en gt.size d')[i]! := fun i hi => by
       have h9 : i < cc.size := by omega
       have h10 : i < (Sort.flatK en gt.size d').size := by rw [Sort.size_flatK, hd's]; exact hi
       simp only [Sort.putCells, Array.getElem?_mapIdx, Array.getElem?_eq_getElem h9, Option.map_some, Nat.zero_le, true_and, Nat.zero_add, h10, if_true, Nat.sub_zero, id]
      have hkk : aN (Sort.putRow id (Sort.ahead w m) b 0 (Sort.flatK en gt.size d')) G μ b 0 (aH gt (d'.toList.map fun x => x.1.x)) := by
       refine aN.mk fun j p hp => ?_
       have hj : j < gl.length * gt.size := by
        have := (List.getElem?_eq_some_iff.1 hp).1
        rwa [aV, hLl] at this
       have hj1 : j / gt.size < gl.length := Nat.div_lt_of_lt_mul (by rw [Nat.mul_comm]; exact hj)
       have hj2 : j % gt.size < gt.size := Nat.mod_lt _ hk0
       have hj3 : j / gt.size < d'.size := by omega
       have hjj : j / gt.size * gt.size + j % gt.size = j := by rw [Nat.mul_comm]; exact Nat.div_add_mod _ _
       rw [← hjj, MO gt _ _ _ (by rw [hLl]; exact hj1) hj2] at hp
       simp only [List.getElem_map, Array.getElem_toList] at hp
       have hx := d'[j / gt.size].2.2.1
       obtain ⟨v, q1, q2⟩ := hx.get hp
       have q2' : VR w G μ p v := by
        have h3 := vP (G := Gd.of G.ok) (G' := G) (fun b h => h) aG p v ?_ q2
        ·exact h3.aZ
        ·have := sB gt d'[j / gt.size].1.x hpl
         exact LR this (List.mem_of_getElem? hp)
       refine ⟨v, ?_, VR.mono (e12 m _).toMono _ _ q2'⟩
       simp only [World.cell?, (hT m _).at_, Nat.zero_add]
       rw [hnew j hj, Sort.get_flatK _ _ _ _ (by rw [hd's]; exact hj), getElem!_pos d' _ hj3, hen, List.getElem!_eq_getElem?_getD, q1]
       rfl
      have w1 := D4 hW (w.drawn + m)
      have w2 := o6 w1 (aL hk) hfz h5 (c := cc) (k' := ⟨aH gt (d'.toList.map fun x => x.1.x), k.ty, k.grown, false, some ⟨gt, d'.toList.map fun x => x.1.x⟩⟩) (by exact a1) (hT m _) (hps _) rfl hkk
       (fun hgr => by rw [hps, a3 hgr, hcells, aV, aV, hLl])
       (fun g hg => by cases hg; exact ⟨rfl, by rw [hmlen, hLl]⟩)
       (fun t l h1 h2 => by cases h2; cases hpl)
      obtain ⟨e3, w3⟩ := aLT w2 os
      refine ⟨_, G, μ, rfl, (e12 m _).trans e3, w3, ?_⟩
      rw [VR]; exact ⟨#[], rfl, by rw [VRs]⟩
     ·cases h
    ·cases h
   ·cases h
  ·cases h
 ·cases h
end
end Go.PM
set_option linter.unusedSimpArgs false
set_option linter.unusedVariables false
namespace Go.PM
def cmpL : List Int → List Int → Int
 | [], [] => 0
 | [], _ :: _ => -1
 | _ :: _, [] => 1
 | a :: l, b :: m => if a < b then -1 else if b < a then 1 else cmpL l m
theorem J5 : ∀ l, cmpL l l = 0
 | [] => rfl
 | a :: l => by simp [cmpL, J5 l]
theorem J6 : ∀ {l m : List Int}, ¬ cmpL l m < 0 → ¬ cmpL m l < 0 → l = m
 | [], [], _, _ => rfl
 | [], _ :: _, h, _ => by simp [cmpL] at h
 | _ :: _, [], _, h => by simp [cmpL] at h
 | a :: l, b :: m, h, k => by
  simp only [cmpL] at h k
  by_cases h1 : a < b
  ·simp [h1] at h
  ·by_cases h2 : b < a
   ·simp [h2] at k
   ·rw [if_neg h1, if_neg h2] at h
    rw [if_neg h2, if_neg h1] at k
    have : a = b := by omega
    rw [this, J6 h k]
theorem yY : ∀ {l m n : List Int}, cmpL l m < 0 → cmpL m n < 0 → cmpL l n < 0
 | [], [], _, h, _ => by simp [cmpL] at h
 | [], _ :: _, [], _, k => by simp [cmpL] at k
 | [], _ :: _, _ :: _, _, _ => by simp [cmpL]
 | _ :: _, [], _, h, _ => by simp [cmpL] at h
 | _ :: _, _ :: _, [], _, k => by simp [cmpL] at k
 | a :: l, b :: m, c :: n, h, k => by
  simp only [cmpL] at h k ⊢
  by_cases h1 : a < b
  ·by_cases h3 : b < c
   ·rw [if_pos (show a < c by omega)]; omega
   ·by_cases h4 : c < b
    ·rw [if_neg h3, if_pos h4] at k; omega
    ·rw [if_pos (show a < c by omega)]; omega
  ·by_cases h2 : b < a
   ·rw [if_neg h1, if_pos h2] at h; omega
   ·rw [if_neg h1, if_neg h2] at h
    by_cases h3 : b < c
    ·rw [if_pos (show a < c by omega)]; omega
    ·by_cases h4 : c < b
     ·rw [if_neg h3, if_pos h4] at k; omega
     ·rw [if_neg h3, if_neg h4] at k
      rw [if_neg (show ¬ a < c by omega), if_neg (show ¬ c < a by omega)]
      exact yY h k
theorem OW {α β : Type} (f : Nat → Option α) (g : α → β) : ∀ l : List Nat, (l.findSome? fun i => (f i).map g) = (l.findSome? f).map g
 | [] => rfl
 | i :: l => by
  rw [List.findSome?_cons, List.findSome?_cons]
  cases h : f i with
  | some y => rfl
  | none => exact OW f g l
def R7 (l m : List Int) (i : Nat) : Option Int :=
 if ¬ i < m.length then some 1 else if l.getD i 0 < m.getD i 0 then some (-1) else if m.getD i 0 < l.getD i 0 then some 1 else none
theorem aL9 : ∀ (l m : List Int) (j : Nat), ((List.range' j (l.length - j)).findSome? (R7 l m)).getD (if l.length < m.length then -1 else 0) = cmpL (l.drop j) (m.drop j) ∨ l.length < j
 | l, m, j => by
  rcases Nat.lt_or_ge l.length j with h | h
  ·exact .inr h
  ·left
   generalize hn : l.length - j = n
   induction n generalizing j with
   | zero =>
    have h1 : l.drop j = [] := List.drop_eq_nil_of_le (by omega)
    rw [h1]
    simp only [List.range'_zero, List.findSome?_nil, Option.getD_none]
    by_cases h2 : l.length < m.length
    ·rw [if_pos h2, List.drop_eq_getElem_cons (show j < m.length by omega)]; rfl
    ·rw [if_neg h2, List.drop_eq_nil_of_le (show m.length ≤ j by omega)]; rfl
   | succ n ih =>
    have hj : j < l.length := by omega
    rw [List.range'_succ, List.findSome?_cons, List.drop_eq_getElem_cons hj]
    unfold R7
    by_cases h2 : j < m.length
    ·rw [if_neg (fun h => h h2), List.drop_eq_getElem_cons h2]
     have g1 : l.getD j 0 = l[j] := by rw [List.getD_eq_getElem?_getD, List.getElem?_eq_getElem hj]; rfl
     have g2 : m.getD j 0 = m[j] := by rw [List.getD_eq_getElem?_getD, List.getElem?_eq_getElem h2]; rfl
     rw [g1, g2]
     simp only [cmpL]
     by_cases h3 : l[j] < m[j]
     ·rw [if_pos h3, if_pos h3]; rfl
     ·rw [if_neg h3, if_neg h3]
      by_cases h4 : m[j] < l[j]
      ·rw [if_pos h4, if_pos h4]; rfl
      ·rw [if_neg h4, if_neg h4]
       exact ih (j + 1) (by omega) (by omega)
    ·rw [if_pos h2, List.drop_eq_nil_of_le (show m.length ≤ j by omega)]; rfl

theorem aE7 : ∀ {l m : List Int}, cmpL l m = 0 → l = m
 | [], [], _ => rfl
 | [], _ :: _, h => by simp [cmpL] at h
 | _ :: _, [], h => by simp [cmpL] at h
 | a :: l, b :: m, h => by
  simp only [cmpL] at h
  by_cases h1 : a < b
  ·rw [if_pos h1] at h; omega
  ·rw [if_neg h1] at h
   by_cases h2 : b < a
   ·rw [if_pos h2] at h; omega
   ·rw [if_neg h2] at h
    rw [aE7 h, show a = b by omega]
def aIW (a b : List Int × List Int) : Int := if ¬ cmpL a.1 b.1 = 0 then cmpL a.1 b.1 else cmpL a.2 b.2
end Go.PM
set_option linter.unusedSimpArgs false
set_option linter.unusedVariables false
namespace Go.PM
open Go Go.RowKit Go.Proofs
set_option maxRecDepth 100000
set_option maxHeartbeats 4000000
theorem aD3 {p : Prop} (h : p) : Hid p := h
theorem aBQ (b1 o1 c1 b2 o2 c2 : Nat) (l m : List Int) (w : World) (hl : ∀ j x, l[j]? = some x → w.cell? ⟨b1, o1 + j, none⟩ = some (.int .i64 x)) (hm : ∀ j x, m[j]? = some x → w.cell? ⟨b2, o2 + j, none⟩ = some (.int .i64 x)) (hln : l.length ≤ 1048576) (hmn : m.length ≤ 1048576) :
  Calls Tryz.prog 57 #[.slice (some ⟨b1, o1, none⟩) l.length c1, .slice (some ⟨b2, o2, none⟩) m.length c2] w fun e w' => e = .returned (.int .i64 (cmpL l m)) ∧ w' = w := by
 have HL := aD3 hl
 have HM := aD3 hm
 clear hl hm
 have e74 : ∀ args w, (callFunc 74 args).run Tryz.prog w = .ok (.enter 74 args) w := fun args w => enters Tryz.func74 (by kernel_rfl) (by kernel_rfl) args w
 go_enter Tryz.func57, Tryz.ntmps57
 go_wp2
 go_loop [11] (fun i => ∃ k : Nat, k ≤ l.length ∧ i = .int .i64 k ∧ Hid (cmpL (l.drop k) (m.drop k) = cmpL l m)) (fun i => l.length - (RowKit.intOf i).toNat)
 case atStart => exact ⟨0, Nat.zero_le _, rfl, aD3 rfl⟩
 case round =>
  obtain ⟨k, hk, rfl, hc⟩ := hrel
  by_cases hkn : k < l.length
  ·obtain ⟨x, hx⟩ : ∃ x, l[k]? = some x := ⟨l[k], List.getElem?_eq_getElem hkn⟩
   have hcx := HL.out k x hx
   have hdx : l.drop k = x :: l.drop (k + 1) := by
    rw [List.drop_eq_getElem_cons hkn]
    congr 1
    exact (List.getElem?_eq_some_iff.1 hx).2
   by_cases hkm : k < m.length
   ·obtain ⟨y, hy⟩ : ∃ y, m[k]? = some y := ⟨m[k], List.getElem?_eq_getElem hkm⟩
    have hcy := HM.out k y hy
    have hdy : m.drop k = y :: m.drop (k + 1) := by
     rw [List.drop_eq_getElem_cons hkm]
     congr 1
     exact (List.getElem?_eq_some_iff.1 hy).2
    have hc2 : Hid ((if x < y then -1 else if y < x then 1 else cmpL (l.drop (k + 1)) (m.drop (k + 1))) = cmpL l m) := by
     have := hc.out
     rw [hdx, hdy] at this
     exact this
    clear hdx hdy hc hx hy
    go_wp2_with (go_at_fn 74; refine (Tryz.cmp_Compare_int x y w).mono ?_; rintro e w' ⟨rfl, rfl⟩)
    ·rename_i h
     have e : Lib.compareInt x y = cmpL l m := by
      rw [← hc2.out]
      unfold Lib.compareInt at h ⊢
      by_cases h1 : x < y
      ·rw [if_pos h1, if_pos h1]
      ·by_cases h2 : y < x
       ·rw [if_neg h1, if_pos h2, if_neg h1, if_pos h2]
       ·rw [if_neg h1, if_neg h2] at h; simp at h
     clear hc2
     go_ret
     exact ⟨congrArg (fun z => Ending.returned (.int .i64 z)) e, rfl⟩
    ·rename_i h
     refine ⟨⟨k + 1, by omega, by go_num, aD3 ?_⟩, by simp [RowKit.intOf]; omega⟩
     rw [← hc2.out]
     unfold Lib.compareInt at h
     by_cases h1 : x < y
     ·rw [if_pos h1] at h; simp at h
     ·by_cases h2 : y < x
      ·rw [if_neg h1, if_pos h2] at h; simp at h
      ·rw [if_neg h1, if_neg h2]
   ·have hc2 : Hid (1 = cmpL l m) := by
     have := hc.out
     rw [hdx, List.drop_eq_nil_of_le (show m.length ≤ k by omega)] at this
     exact this
    clear hdx hc hx
    go_wp2
    go_ret
    exact ⟨congrArg (fun z => Ending.returned (.int .i64 z)) hc2.out, rfl⟩
  ·have hke : k = l.length := by omega
   subst hke
   have hc2 : Hid ((if l.length < m.length then -1 else 0) = cmpL l m) := by
    have := hc.out
    rw [List.drop_length] at this
    rw [← this]
    by_cases h : l.length < m.length
    ·rw [if_pos h, List.drop_eq_getElem_cons h]; rfl
    ·rw [if_neg h, List.drop_eq_nil_of_le (show m.length ≤ l.length by omega)]; rfl
   clear hc
   go_wp2
   ·rename_i h
    have e := hc2.out
    rw [if_pos (by omega)] at e
    clear hc2
    go_ret
    exact ⟨congrArg (fun z => Ending.returned (.int .i64 z)) e, rfl⟩
   ·rename_i h
    have e := hc2.out
    rw [if_neg (by omega)] at e
    clear hc2
    go_ret
    exact ⟨congrArg (fun z => Ending.returned (.int .i64 z)) e, rfl⟩
theorem aC8 (ao bo : Option Addr) (c1 c2 n : Nat) (w : World) :
  Calls Tryz.prog 57 #[.slice ao 0 c1, .slice bo n c2] w fun e w' => e = .returned (.int .i64 (if 0 < n then -1 else 0)) ∧ w' = w := by
 have e74 : ∀ args w, (callFunc 74 args).run Tryz.prog w = .ok (.enter 74 args) w := fun args w => enters Tryz.func74 (by kernel_rfl) (by kernel_rfl) args w
 go_enter Tryz.func57, Tryz.ntmps57
 go_wp2
 go_loop [11] (fun i => i = .int .i64 0) (fun i => 0)
 case atStart => rfl
 case round =>
  subst hrel
  go_wp2
  all_goals (go_ret; exact ⟨rfl, rfl⟩)
theorem aDW (b1 o1 n : Nat) (bo : Option Addr) (c1 c2 : Nat) (x : Int) (w : World) (hn : 0 < n) (hx : w.cell? ⟨b1, o1, none⟩ = some (.int .i64 x)) :
  Calls Tryz.prog 57 #[.slice (some ⟨b1, o1, none⟩) n c1, .slice bo 0 c2] w fun e w' => e = .returned (.int .i64 1) ∧ w' = w := by
 have e74 : ∀ args w, (callFunc 74 args).run Tryz.prog w = .ok (.enter 74 args) w := fun args w => enters Tryz.func74 (by kernel_rfl) (by kernel_rfl) args w
 go_enter Tryz.func57, Tryz.ntmps57
 go_wp2
 go_loop [11] (fun i => i = .int .i64 0) (fun i => 0)
 case atStart => rfl
 case round =>
  subst hrel
  go_wp2
  all_goals (go_ret; exact ⟨rfl, rfl⟩)
theorem aED {w : World} {G : Nat → Prop} {l m : List Int} {v u : Value} (hv : VR w (Gd.of G) aG (o0 (.int .i64) l none) v) (hu : VR w (Gd.of G) aG (o0 (.int .i64) m none) u) (hl : l.length ≤ 1048576) (hm : m.length ≤ 1048576) :
  Calls Tryz.prog 57 #[v, u] w fun e w' => e = .returned (.int .i64 (cmpL l m)) ∧ w' = w := by
 unfold o0 at hv hu
 rw [VR] at hv hu
 obtain ⟨hv, -⟩ := hv
 obtain ⟨hu, -⟩ := hu
 rw [VR] at hv hu
 obtain ⟨ao, c, rfl, -, -, h1⟩ := hv
 obtain ⟨bo, d, rfl, -, -, h2⟩ := hu
 cases l with
 | nil =>
  refine (aC8 ao bo c d m.length w).mono ?_
  rintro e w' ⟨rfl, rfl⟩
  refine ⟨?_, rfl⟩
  cases m with
  | nil => rfl
  | cons y m => rfl
 | cons x l =>
  rcases h1 with h1 | ⟨b, off, rfl, -, h1⟩
  ·cases h1
  have hc : ∀ (zs : List Int) (b off : Nat), aN w (Gd.of G) aG b off (aH (.int .i64) zs) → ∀ j z, zs[j]? = some z → w.cell? ⟨b, off + j, none⟩ = some (.int .i64 z) := fun zs b off h j z hz => by
   obtain ⟨v, g1, g2⟩ := h.get (i := j) (p := .lit (.int .i64 z)) (by rw [aJ3, List.getElem?_map, hz]; rfl)
   rw [VR] at g2
   rw [g1, g2]
  cases m with
  | nil =>
   refine (aDW b off (l.length + 1) bo c d x w (Nat.succ_pos _) (by simpa using hc _ _ _ h1 0 x rfl)).mono ?_
   rintro e w' ⟨rfl, rfl⟩
   exact ⟨rfl, rfl⟩
  | cons y m =>
   rcases h2 with h2 | ⟨b2, off2, rfl, -, h2⟩
   ·cases h2
   exact aBQ b off c b2 off2 d (x :: l) (y :: m) w (hc _ _ _ h1) (hc _ _ _ h2) hl hm
theorem GN {w : World} {G : Nat → Prop} {l m : List Int} {v u : Value} (hv : VR w (Gd.of G) aG (o0 (.int .i64) l none) v) (hu : VR w (Gd.of G) aG (o0 (.int .i64) m none) u) (hl : l.length ≤ 1048576) (hm : m.length ≤ 1048576) :
  Calls Tryz.prog 35 #[v, u] w fun e w' => e = .returned (.int .i64 (cmpL l m)) ∧ w' = w := by
 have e57 : ∀ args w, (callFunc 57 args).run Tryz.prog w = .ok (.enter 57 args) w := fun args w => enters Tryz.func57 (by kernel_rfl) (by kernel_rfl) args w
 have h := aED hv hu hl hm
 clear hv hu
 go_enter Tryz.func35, Tryz.ntmps35
 go_wp2_with (go_at_fn 57; refine h.mono ?_; rintro e w' ⟨rfl, rfl⟩)
 go_ret
 exact ⟨rfl, rfl⟩
abbrev OH : Ty := .prod (.int .i64) (.prod (.list (.int .i64)) (.prod (.list (.int .i64)) (.list (.int .i64))))
def cfL (x y : OH.den) : Int := if cmpL x.2.2.1 y.2.2.1 ≠ 0 then cmpL x.2.2.1 y.2.2.1 else cmpL x.2.2.2 y.2.2.2
theorem aHY {w : World} {G : Nat → Prop} {x y : OH.den} {vx vy : List Value} (hG : Lt w G) (hx : VRs w (Gd.of G) aG (enc OH x) vx) (hy : VRs w (Gd.of G) aG (enc OH y) vy) (h1 : x.2.2.1.length ≤ 1048576) (h2 : x.2.2.2.length ≤ 1048576) (h3 : y.2.2.1.length ≤ 1048576) (h4 : y.2.2.2.length ≤ 1048576) :
  Calls Tryz.prog 48 #[.agg vx.toArray, .agg vy.toArray] w fun e w' => e = .returned (.int .i64 (cfL x y)) ∧ ∃ q os', w' = Sort.grow (w.drewN q) os' := by
 obtain ⟨a, b, r, u⟩ := x
 obtain ⟨a', b', r', u'⟩ := y
 have four : ∀ {a : Int} {b r u : List Int} {vs : List Value}, VRs w (Gd.of G) aG (enc OH (a, b, r, u)) vs → ∃ v1 v2 v3 v4, vs = [v1, v2, v3, v4] ∧ VR w (Gd.of G) aG (o0 (.int .i64) r none) v3 ∧ VR w (Gd.of G) aG (o0 (.int .i64) u none) v4 := by
  intro a b r u vs h
  have h : VRs w (Gd.of G) aG [.lit (.int .i64 a), o0 (.int .i64) b none, o0 (.int .i64) r none, o0 (.int .i64) u none] vs := h
  rw [VRs] at h
  obtain ⟨v1, us, rfl, -, h⟩ := h
  rw [VRs] at h
  obtain ⟨v2, us, rfl, -, h⟩ := h
  rw [VRs] at h
  obtain ⟨v3, us, rfl, k3, h⟩ := h
  rw [VRs] at h
  obtain ⟨v4, us, rfl, k4, h⟩ := h
  rw [VRs] at h
  subst h
  exact ⟨v1, v2, v3, v4, rfl, k3, k4⟩
 obtain ⟨v1, v2, v3, v4, rfl, k3, k4⟩ := four hx
 obtain ⟨u1, u2, u3, u4, rfl, j3, j4⟩ := four hy
 clear hx hy four
 have hm : ∀ o1 o2, Mono w (Gd.of G) aG ((w.alloc o1).alloc o2) (Gd.of G) aG := fun o1 o2 => by
  have hh : ∀ b, b < w.heap.size → ((w.alloc o1).alloc o2).heap[b]? = w.heap[b]? := fun b hb => by
   rw [Below.heap_alloc _ _ _ (by simp; omega), Below.heap_alloc _ _ _ hb]
  exact ⟨fun b hb => ⟨hb, hh b (hG.lt b hb)⟩, fun _ _ h => h, fun _ _ h => h, fun b n ⟨c, t, fr, e1, e2⟩ => ⟨c, t, fr, by rw [hh b (cC e1)]; exact e1, e2⟩, fun _ _ h => h⟩
 have hl1 : ∀ o1 o2, Calls Tryz.prog 35 #[v3, u3] ((w.alloc o1).alloc o2) fun e w2 => e = .returned (.int .i64 (cmpL r r')) ∧ w2 = (w.alloc o1).alloc o2 := fun o1 o2 =>
  GN (VR.mono (hm o1 o2) _ _ k3) (VR.mono (hm o1 o2) _ _ j3) h1 h3
 have hl2 : ∀ o1 o2, Calls Tryz.prog 35 #[v4, u4] ((w.alloc o1).alloc o2) fun e w2 => e = .returned (.int .i64 (cmpL u u')) ∧ w2 = (w.alloc o1).alloc o2 := fun o1 o2 =>
  GN (VR.mono (hm o1 o2) _ _ k4) (VR.mono (hm o1 o2) _ _ j4) h2 h4
 have hgr : ∀ o1 o2, ∃ q os', (w.alloc o1).alloc o2 = Sort.grow (w.drewN q) os' := fun o1 o2 => ⟨0, #[o1, o2], by rw [Sort.alloc_eq_grow, Sort.alloc_eq_grow, Sort.grow_grow]; rfl⟩
 obtain ⟨z, hz⟩ : ∃ z, z = cfL (a, b, r, u) (a', b', r', u') := ⟨_, rfl⟩
 rw [← hz]
 have Hz := aD3 hz
 have Hm := aD3 hm
 clear hz hm k3 k4 j3 j4
 generalize hc1 : cmpL r r' = q1 at hl1
 generalize hc2 : cmpL u u' = q2 at hl2
 have H1 := aD3 hc1
 have H2 := aD3 hc2
 have Hg := aD3 hgr
 clear hc1 hc2 hgr h1 h2 h3 h4 hG
 have e35 : ∀ args w, (callFunc 35 args).run Tryz.prog w = .ok (.enter 35 args) w := fun args w => enters Tryz.func35 (by kernel_rfl) (by kernel_rfl) args w
 go_enter Tryz.func48, Tryz.ntmps48
 go_wp2_with (go_at_fn 35; first | (refine (hl1 _ _).mono ?_; rintro e w' ⟨rfl, rfl⟩) | (refine (hl2 _ _).mono ?_; rintro e w' ⟨rfl, rfl⟩))
 ·rename_i h
  have e : q1 = z := by
   rw [Hz.out]
   unfold cfL
   show q1 = if cmpL r r' ≠ 0 then cmpL r r' else cmpL u u'
   rw [H1.out, if_pos (by simpa using h)]
  go_ret
  exact ⟨congrArg (fun z => Ending.returned (.int .i64 z)) e, Hg.out _ _⟩
 ·rename_i h
  have e : q2 = z := by
   rw [Hz.out]
   unfold cfL
   show q2 = if cmpL r r' ≠ 0 then cmpL r r' else cmpL u u'
   rw [H1.out, H2.out, if_neg (by simpa using h)]
  go_ret
  exact ⟨congrArg (fun z => Ending.returned (.int .i64 z)) e, Hg.out _ _⟩
def LC (l : List OH.den) (x : OH.den) : Bool := (match l with
 | [] => false
 | y :: _ => decide (x.1 = y.1) && decide (x.2.1 = y.2.1)) && (Nat.ble x.2.2.1.length 1048576 && Nat.ble x.2.2.2.length 1048576)
def ltL (x y : OH.den) : Bool := decide (cfL x y < 0)
theorem U3 {x y : OH.den} : cfL x y < 0 ↔ cmpL x.2.2.1 y.2.2.1 < 0 ∨ x.2.2.1 = y.2.2.1 ∧ cmpL x.2.2.2 y.2.2.2 < 0 := by
 unfold cfL
 by_cases h : cmpL x.2.2.1 y.2.2.1 = 0
 ·rw [if_neg (by simpa using h)]
  have e : x.2.2.1 = y.2.2.1 := aE7 h
  constructor
  ·exact fun k => .inr ⟨e, k⟩
  ·rintro (k | ⟨-, k⟩)
   ·omega
   ·exact k
 ·rw [if_pos h]
  constructor
  ·exact .inl
  ·rintro (k | ⟨k, -⟩)
   ·exact k
   ·rw [k, J5] at h; exact absurd rfl h
theorem aVS (l : List OH.den) : LO (LC l) fun x y => decide (cfL x y < 0) where
 irrefl x _ := by
  rw [decide_eq_false_iff_not, U3, J5, J5]; simp
 trans x y z _ _ _ h k := by
  rw [decide_eq_true_eq, U3] at *
  rcases h with h | ⟨h1, h2⟩
  ·rcases k with k | ⟨k1, k2⟩
   ·exact .inl (yY h k)
   ·rw [← k1]; exact .inl h
  ·rcases k with k | ⟨k1, k2⟩
   ·rw [h1]; exact .inl k
   ·exact .inr ⟨h1.trans k1, yY h2 k2⟩
 ntrans x y z _ _ _ h k := by
  rw [decide_eq_false_iff_not, U3] at *
  have tri : ∀ a b : List Int, cmpL a b < 0 ∨ a = b ∨ cmpL b a < 0 := fun a b => by
   by_cases h1 : cmpL a b < 0
   ·exact .inl h1
   ·by_cases h2 : cmpL b a < 0
    ·exact .inr (.inr h2)
    ·exact .inr (.inl (J6 h1 h2))
  rintro (g | ⟨g1, g2⟩)
  ·rcases tri x.2.2.1 y.2.2.1 with a | a | a
   ·exact h (.inl a)
   ·rw [a] at g; exact k (.inl g)
   ·exact k (.inl (yY a g))
  ·rcases tri x.2.2.1 y.2.2.1 with a | a | a
   ·exact h (.inl a)
   ·rcases tri x.2.2.2 y.2.2.2 with c | c | c
    ·exact h (.inr ⟨a, c⟩)
    ·rw [c] at g2; exact k (.inr ⟨a.symm.trans g1, g2⟩)
    ·exact k (.inr ⟨a.symm.trans g1, yY c g2⟩)
   ·exact k (.inl (by rw [g1] at a; exact a))
 anti x y hx hy h k := by
  have h : ¬ cfL x y < 0 := by simpa using h
  have k : ¬ cfL y x < 0 := by simpa using k
  rw [U3] at h k
  have e1 : x.2.2.1 = y.2.2.1 := J6 (fun a => h (.inl a)) (fun a => k (.inl a))
  have e2 : x.2.2.2 = y.2.2.2 := J6 (fun a => h (.inr ⟨e1, a⟩)) (fun a => k (.inr ⟨e1.symm, a⟩))
  unfold LC at hx hy
  cases l with
  | nil => simp at hx
  | cons z l =>
   simp only [Bool.and_eq_true, decide_eq_true_eq] at hx hy
   obtain ⟨x1, x2, x3, x4⟩ := x
   obtain ⟨y1, y2, y3, y4⟩ := y
   dsimp only at hx hy e1 e2
   rw [e1, e2, hx.1.1, hx.1.2, hy.1.1, hy.1.2]
theorem aKV (l : List OH.den) : aOK Tryz.prog 48 OH (LC l) cfL := by
 intro w G x y vx vy hG hx hy kx ky
 unfold LC at hx hy
 simp only [Bool.and_eq_true] at hx hy
 exact aHY hG kx ky (Nat.le_of_ble_eq_true hx.2.1) (Nat.le_of_ble_eq_true hx.2.2) (Nat.le_of_ble_eq_true hy.2.1) (Nat.le_of_ble_eq_true hy.2.2)
abbrev s54 : Shr := (54, aDZ OH 48 LC ltL)
theorem aTT : DH Tryz.prog s54 :=
 aK1 (t := OH) rfl (by decide) aVS aKV (fun _ _ => enters Tryz.func54 (by kernel_rfl) (by kernel_rfl) _ _) (fun _ _ => enters Tryz.func48 (by kernel_rfl) (by kernel_rfl) _ _)
  (fun enc hk h1 cf hO cb blk off cap d w hcmp hH hblk hsz => Tryz.SH enc hk h1 cf hO 48 cb blk off cap d w (fun _ _ => enters Tryz.func48 (by kernel_rfl) (by kernel_rfl) _ _) hcmp hH hblk hsz)
end Go.PM
set_option linter.unusedSimpArgs false
set_option linter.unusedVariables false
namespace Go.PM
open Go Go.RowKit Go.Proofs
set_option maxRecDepth 100000
set_option maxHeartbeats 4000000
/-! schisma/isomorphy.checkBox -/
abbrev RI : List (Nat × Kd) := [(1, .box 68 (.prod (.int .i64) (.prod (.int .i64) (.int .i64)))), (4, .int .i64), (5, .int .i64), (36, .int .i64), (37, .int .i64)]
abbrev XC : List (Ex × List (Nat × Kd)) := [(.ret, [(2, .int .i64), (3, .int .i64)]), (.exit 0, [(4, .int .i64)])]
def PN (x : Shape.den RI) : Option (Shape.den RI ⊕ aT XC) := match x with
 | (v1, v4, v5, v36, v37, ()) =>
  bif ltI v37 v36 then
   bif ltI 100000 (aK .i64 (v5 * (aK .i64 ((aK .i64 ((aK .i64 (2 * v1.2.2)) + 1)) * (aK .i64 ((aK .i64 (2 * v1.2.2)) + 1)))))) then
    some (.inr (.inl (0, 4, ())))
   else some (.inl ((v1.1, (v1.2.1, v1.2.2)), (aK .i64 (v4 * (aK .i64 ((aK .i64 (2 * v1.2.2)) + 1)))), (aK .i64 (v5 * (aK .i64 ((aK .i64 ((aK .i64 (2 * v1.2.2)) + 1)) * (aK .i64 ((aK .i64 (2 * v1.2.2)) + 1)))))), v36, (aK .i64 (v37 + 1)), ()))
  else some (.inr (.inr ((v4, ()))))
def s7 (x : Shape.den RI) : Option (aT XC) := bZ PN (2 ^ 64) x
def f51 (x : aJ [.agg (.prod (.int .i64) (.prod (.int .i64) (.int .i64)))]) : Option (aJ [.int .i64, .int .i64]) := match x with
 | (v0, ()) =>
  bif !(eqI v0.1 1) then
   bif !(eqI v0.1 2) then
    some (0, 12, ())
   else bif ltI v0.2.1 0 then
    some (0, 3, ())
   else bif ltI 4 v0.2.1 then
    some (0, 3, ())
   else bif ltI v0.2.2 0 then
    some (0, 3, ())
   else bif ltI 0 v0.2.1 then
    bif ltI 100000 v0.2.2 then
     some (0, 4, ())
    else aB (s7 ((v0.1, (v0.2.1, v0.2.2)), 1, 1, v0.2.1, 0, ())) fun z1 =>
    jE z1 (fun a2 => some (a2.1, a2.2.1, ())) fun b3 =>
    some (b3.1, 0, ())
   else aB (s7 ((v0.1, (v0.2.1, v0.2.2)), 1, 1, v0.2.1, 0, ())) fun z4 =>
   jE z4 (fun a5 => some (a5.1, a5.2.1, ())) fun b6 =>
   some (b6.1, 0, ())
  else bif ltI v0.2.1 0 then
   some (0, 3, ())
  else bif ltI 4 v0.2.1 then
   some (0, 3, ())
  else bif ltI v0.2.2 0 then
   some (0, 3, ())
  else bif ltI 0 v0.2.1 then
   bif ltI 100000 v0.2.2 then
    some (0, 4, ())
   else aB (s7 ((v0.1, (v0.2.1, v0.2.2)), 1, 1, v0.2.1, 0, ())) fun z7 =>
   jE z7 (fun a8 => some (a8.1, a8.2.1, ())) fun b9 =>
   some (b9.1, 0, ())
  else aB (s7 ((v0.1, (v0.2.1, v0.2.2)), 1, 1, v0.2.1, 0, ())) fun z10 =>
  jE z10 (fun a11 => some (a11.1, a11.2.1, ())) fun b12 =>
  some (b12.1, 0, ())
noncomputable def c51 : Code := aR Tryz.f51
abbrev E51 : Env := bF []
theorem aN5 : aW Tryz.prog E51 := aU trivial
noncomputable def aFX : Code := eJ c51 0
def aUR (id : Nat) : Option aO := bif Nat.beq id 9 then some ⟨RI, XC, s7⟩ else none
theorem aL5 : ∀ x, eA Tryz.prog E51 60 (aC Tryz.f51) aUR aFX RI XC x = PN x := by
 rintro ⟨v1, v4, v5, v36, v37, ⟨⟩⟩
 kernel_rfl
theorem aUX : aE aFX = [] := by kernel_rfl
theorem aM6 : aF aFX = 9 := by kernel_rfl
theorem aPD : cA Tryz.prog 60 aFX ⟨RI, XC, s7⟩ := by
 exact cN aN5.callee aM.mixed _ (aD aUX trivial) aL5
theorem aQR : aE c51 = [aFX] := by kernel_rfl
theorem aUL : ∀ x, bH Tryz.prog E51 Tryz.f51 (aC Tryz.f51) aUR c51 [.agg (.prod (.int .i64) (.prod (.int .i64) (.int .i64)))] [.int .i64, .int .i64] x = f51 x := by
 rintro ⟨v0, ⟨⟩⟩
 kernel_rfl
theorem aYV : bW Tryz.prog 51 [.agg (.prod (.int .i64) (.prod (.int .i64) (.int .i64)))] [.int .i64, .int .i64] f51 := by
 exact aX aM aN5 Tryz.func51 (c := c51) (by kernel_rfl) (aQ := aC Tryz.f51) (lt := aUR) (aD aQR ⟨cT aM6 rfl aPD, trivial⟩) aUL
abbrev e51 : Ent := ⟨51, [.agg (.prod (.int .i64) (.prod (.int .i64) (.int .i64)))], [.int .i64, .int .i64], f51⟩
theorem aU7 : Ent.OK Tryz.prog e51 := aYV

/-! schisma/isomorphy.rowOf -/
abbrev RV : List (Nat × Kd) := [(1, .int .i64), (2, .box 68 (.prod (.int .i64) (.prod (.int .i64) (.int .i64)))), (5, .own 3 (.int .i64)), (6, .int .i64)]
abbrev W4 : List (Ex × List (Nat × Kd)) := [(.exit 0, [(5, .own 3 (.int .i64))])]
def IH (x : Shape.den RV) : Option (Shape.den RV ⊕ aT W4) := match x with
 | (v1, v2, v5, v6, ()) =>
  bif !(ltI v6 0) then
   bif eqI (aK .i64 ((aK .i64 (2 * v2.2.2)) + 1)) 0 then none else bif bD v6 v5.length then bif Nat.blt v6.toNat v5.length then bif eqI (aK .i64 ((aK .i64 (2 * v2.2.2)) + 1)) 0 then none else some (.inl ((aK .i64 (v1.tdiv (aK .i64 ((aK .i64 (2 * v2.2.2)) + 1)))), (v2.1, (v2.2.1, v2.2.2)), (v5.set v6.toNat (aK .i64 ((v1.tmod (aK .i64 ((aK .i64 (2 * v2.2.2)) + 1))) - v2.2.2))), (aK .i64 (v6 - 1)), ())) else none else none
  else some (.inr ((v5, ())))
def JP (x : Shape.den RV) : Option (aT W4) := bZ IH (2 ^ 64) x
def f52 (x : aJ [.agg (.prod (.int .i64) (.prod (.int .i64) (.int .i64))), .int .i64]) : Option (aJ [.list (.int .i64)]) := match x with
 | (v0, v1, ()) =>
  bif !(ltI v0.2.1 0) then bif !(ltI v0.2.1 v0.2.1) then bif !(ltI 1048576 v0.2.1) then aB (JP (v1, (v0.1, (v0.2.1, v0.2.2)), (List.replicate v0.2.1.toNat 0), (aK .i64 (v0.2.1 - 1)), ())) fun z1 =>
  some (z1.1, ()) else none else none else none
noncomputable def c52 : Code := aR Tryz.f52
abbrev E52 : Env := bF []
theorem aO4 : aW Tryz.prog E52 := aU trivial
noncomputable def aGB : Code := eJ c52 0
def aVB (id : Nat) : Option aO := bif Nat.beq id 3 then some ⟨RV, W4, JP⟩ else none
theorem aK4 : ∀ x, eA Tryz.prog E52 36 (aC Tryz.f52) aVB aGB RV W4 x = IH x := by
 rintro ⟨v1, v2, v5, v6, ⟨⟩⟩
 kernel_rfl
theorem aVP : aE aGB = [] := by kernel_rfl
theorem aKZ : aF aGB = 3 := by kernel_rfl
theorem aPC : cA Tryz.prog 36 aGB ⟨RV, W4, JP⟩ := by
 exact cN aO4.callee aM.mixed _ (aD aVP trivial) aK4
theorem aRF : aE c52 = [aGB] := by kernel_rfl
theorem aVD : ∀ x, bH Tryz.prog E52 Tryz.f52 (aC Tryz.f52) aVB c52 [.agg (.prod (.int .i64) (.prod (.int .i64) (.int .i64))), .int .i64] [.list (.int .i64)] x = f52 x := by
 rintro ⟨v0, v1, ⟨⟩⟩
 kernel_rfl
theorem aY2 : bW Tryz.prog 52 [.agg (.prod (.int .i64) (.prod (.int .i64) (.int .i64))), .int .i64] [.list (.int .i64)] f52 := by
 exact aX aM aO4 Tryz.func52 (c := c52) (by kernel_rfl) (aQ := aC Tryz.f52) (lt := aVB) (aD aRF ⟨cT aKZ rfl aPC, trivial⟩) aVD
abbrev e52 : Ent := ⟨52, [.agg (.prod (.int .i64) (.prod (.int .i64) (.int .i64))), .int .i64], [.list (.int .i64)], f52⟩
theorem aV7 : Ent.OK Tryz.prog e52 := aY2

/-! schisma/row.Text -/
abbrev pS : List (Nat × Kd) := [(1, .bool), (7, .own 9 .str), (16, .list (.int .i64)), (17, .int .i64), (18, .int .i64)]
abbrev tP : List (Ex × List (Nat × Kd)) := [(.exit 0, [(1, .bool), (7, .own 9 .str)])]
def pK (x : Shape.den pS) : Option (Shape.den pS ⊕ aT tP) := match x with
 | (v1, v7, v16, v17, v18, ()) =>
  bif ltI v18 v17 then
   bif bD v18 v16.length then aB (k7 ((v16.getD v18.toNat 0), ())) fun y3 =>
   bif Nat.ble [y3.1].length 1048576 then bif Nat.ble v7.length 1048576 then some (.inl (v1, (v7 ++ [y3.1]), v16, v17, (aK .i64 (v18 + 1)), ())) else none else none else none
  else some (.inr ((v1, v7, ())))
def pA (x : Shape.den pS) : Option (aT tP) := bZ pK (2 ^ 64) x
def uL (x : aJ [.list (.int .i64), .bool]) : Option (aJ [.str, .int .i64]) := match x with
 | (v0, v1, ()) =>
  aB (mP (v0, ())) fun y1 =>
  bif !(eqI y1.1 0) then
   some ((ByteArray.mk #[]), y1.1, ())
  else aB (pA (v1, [], v0, (v0.length : Int), 0, ())) fun z4 =>
  aB (lH (z4.2.1, (ByteArray.mk #[32]), ())) fun y5 =>
  bif z4.1 then
   bif Nat.ble ((ByteArray.mk #[91]).size + y5.1.size) 9223372036854775807 then bif Nat.ble (((ByteArray.mk #[91]) ++ y5.1).size + (ByteArray.mk #[62]).size) 9223372036854775807 then some ((((ByteArray.mk #[91]) ++ y5.1) ++ (ByteArray.mk #[62])), 0, ()) else none else none
  else bif Nat.ble ((ByteArray.mk #[60]).size + y5.1.size) 9223372036854775807 then bif Nat.ble (((ByteArray.mk #[60]) ++ y5.1).size + (ByteArray.mk #[93]).size) 9223372036854775807 then some ((((ByteArray.mk #[60]) ++ y5.1) ++ (ByteArray.mk #[93])), 0, ()) else none else none
noncomputable def J2 : Code := aR Tryz.f70
abbrev Q5 : Env := bF [E5, CC, LB]
theorem N5 : aW Tryz.prog Q5 := aU ⟨CL, DI, RQ, trivial⟩
noncomputable def vX : Code := eJ J2 0
def NA (id : Nat) : Option aO := bif Nat.beq id 6 then some ⟨pS, tP, pA⟩ else none
theorem TZ : ∀ x, eA Tryz.prog Q5 37 (aC Tryz.f70) NA vX pS tP x = pK x := by
 rintro ⟨v1, v7, v16, v17, v18, ⟨⟩⟩
 kernel_rfl
theorem aDG : aE vX = [] := by kernel_rfl
theorem U0 : aF vX = 6 := by kernel_rfl
theorem WX : cA Tryz.prog 37 vX ⟨pS, tP, pA⟩ := by
 exact cN N5.callee aM.mixed _ (aD aDG trivial) TZ
theorem ZP : aE J2 = [vX] := by kernel_rfl
theorem aCI : ∀ x, bH Tryz.prog Q5 Tryz.f70 (aC Tryz.f70) NA J2 [.list (.int .i64), .bool] [.str, .int .i64] x = uL x := by
 rintro ⟨v0, v1, ⟨⟩⟩
 kernel_rfl
theorem aHV : bW Tryz.prog 70 [.list (.int .i64), .bool] [.str, .int .i64] uL := by
 exact aX aM N5 Tryz.func70 (c := J2) (by kernel_rfl) (aQ := aC Tryz.f70) (lt := NA) (aD ZP ⟨cT U0 rfl WX, trivial⟩) aCI
abbrev aAT : Ent := ⟨70, [.list (.int .i64), .bool], [.str, .int .i64], uL⟩
theorem aDK : Ent.OK Tryz.prog aAT := aHV

/-! schisma/isomorphy.key -/
def f53 (x : aJ [.agg (.prod (.int .i64) (.prod (.list (.int .i64)) (.prod (.list (.int .i64)) (.list (.int .i64)))))]) : Option (aJ [.str]) := match x with
 | (v0, ()) =>
  aB (uL (v0.2.2.1, true, ())) fun y1 =>
  aB (uL (v0.2.2.2, true, ())) fun y2 =>
  bif Nat.ble (y1.1.size + y2.1.size) 9223372036854775807 then some ((y1.1 ++ y2.1), ()) else none
noncomputable def c53 : Code := aR Tryz.f53
abbrev E53 : Env := bF [aAT]
theorem aU1 : aW Tryz.prog E53 := aU ⟨aDK, trivial⟩
def aXK (id : Nat) : Option aO := none
theorem aQW : aE c53 = [] := by kernel_rfl
theorem aTX : ∀ x, bH Tryz.prog E53 Tryz.f53 (aC Tryz.f53) aXK c53 [.agg (.prod (.int .i64) (.prod (.list (.int .i64)) (.prod (.list (.int .i64)) (.list (.int .i64)))))] [.str] x = f53 x := by
 rintro ⟨v0, ⟨⟩⟩
 kernel_rfl
theorem aYZ : bW Tryz.prog 53 [.agg (.prod (.int .i64) (.prod (.list (.int .i64)) (.prod (.list (.int .i64)) (.list (.int .i64)))))] [.str] f53 := by
 exact aX aM aU1 Tryz.func53 (c := c53) (by kernel_rfl) (aQ := aC Tryz.f53) (lt := aXK) (aD aQW trivial) aTX
abbrev e53 : Ent := ⟨53, [.agg (.prod (.int .i64) (.prod (.list (.int .i64)) (.prod (.list (.int .i64)) (.list (.int .i64)))))], [.str], f53⟩
theorem aTY : Ent.OK Tryz.prog e53 := aYZ

/-! schisma/isomorphy.All -/
abbrev C8 : List (Nat × Kd) := [(1, .box 68 (.prod (.int .i64) (.prod (.int .i64) (.int .i64)))), (2, .own 25 (.prod (.int .i64) (.prod (.list (.int .i64)) (.prod (.list (.int .i64)) (.list (.int .i64)))))), (3, .int .i64), (4, .int .i64), (6, .mpk 0), (7, .own 25 (.prod (.int .i64) (.prod (.list (.int .i64)) (.prod (.list (.int .i64)) (.list (.int .i64)))))), (8, .int .i64), (10, .box 25 (.prod (.int .i64) (.prod (.list (.int .i64)) (.prod (.list (.int .i64)) (.list (.int .i64)))))), (11, .box 25 (.prod (.int .i64) (.prod (.list (.int .i64)) (.prod (.list (.int .i64)) (.list (.int .i64)))))), (24, .int .i64), (25, .int .i64), (28, .int .i64), (29, .int .i64), (47, .clo 62 [(.list (.prod (.int .i64) (.int .i64)))]), (100000, .ar 1000000 .str)]
abbrev MY : List (Ex × List (Nat × Kd)) := [(.normal, [(1, .box 68 (.prod (.int .i64) (.prod (.int .i64) (.int .i64)))), (2, .own 25 (.prod (.int .i64) (.prod (.list (.int .i64)) (.prod (.list (.int .i64)) (.list (.int .i64)))))), (3, .int .i64), (4, .int .i64), (6, .mpk 0), (7, .own 25 (.prod (.int .i64) (.prod (.list (.int .i64)) (.prod (.list (.int .i64)) (.list (.int .i64)))))), (8, .int .i64), (11, .box 25 (.prod (.int .i64) (.prod (.list (.int .i64)) (.prod (.list (.int .i64)) (.list (.int .i64)))))), (24, .int .i64), (25, .int .i64), (28, .int .i64), (29, .int .i64), (100000, .ar 1000000 .str)])]
def N7 (x : Shape.den C8) (e : aJ [.agg (.prod (.int .i64) (.prod (.int .i64) (.prod (.int .i64) (.int .i64))))]) : Option (Shape.den C8 ⊕ aT MY) := match x, e with
 | (v1, v2, v3, v4, v6, v7, v8, v10, v11, v24, v25, v28, v29, v47, v100000, ()), (e0, ()) =>
  aB (f40 ((v10.1, (v10.2.1, (v10.2.2.1, v10.2.2.2))), (e0.1, (e0.2.1, (e0.2.2.1, e0.2.2.2))), ())) fun y5 =>
  aB (f48 ((y5.1.1, (y5.1.2.1, (y5.1.2.2.1, y5.1.2.2.2))), (v11.1, (v11.2.1, (v11.2.2.1, v11.2.2.2))), ())) fun y6 =>
  bif ltI y6.1 0 then
   some (.inl ((v1.1, (v1.2.1, v1.2.2)), v2, v3, v4, (), v7, v8, (v10.1, (v10.2.1, (v10.2.2.1, v10.2.2.2))), (y5.1.1, (y5.1.2.1, (y5.1.2.2.1, y5.1.2.2.2))), v24, v25, v28, v29, (v47.1, ()), v100000, ()))
  else some (.inl ((v1.1, (v1.2.1, v1.2.2)), v2, v3, v4, (), v7, v8, (v10.1, (v10.2.1, (v10.2.2.1, v10.2.2.2))), (v11.1, (v11.2.1, (v11.2.2.1, v11.2.2.2))), v24, v25, v28, v29, (v47.1, ()), v100000, ()))
def aC1 (x : Shape.den C8) : tI [(.list (.prod (.int .i64) (.int .i64)))] := match x with
 | (v1, v2, v3, v4, v6, v7, v8, v10, v11, v24, v25, v28, v29, v47, v100000, ()) => (v47.1, ())
def EF (x : Shape.den C8) : Option (aT MY) := aB1 C8 MY (fun x => JF (aC1 x)) N7 x
abbrev JD : List (Nat × Kd) := [(1, .box 68 (.prod (.int .i64) (.prod (.int .i64) (.int .i64)))), (2, .own 25 (.prod (.int .i64) (.prod (.list (.int .i64)) (.prod (.list (.int .i64)) (.list (.int .i64)))))), (3, .int .i64), (4, .int .i64), (6, .mpk 0), (7, .own 25 (.prod (.int .i64) (.prod (.list (.int .i64)) (.prod (.list (.int .i64)) (.list (.int .i64)))))), (8, .int .i64), (24, .int .i64), (25, .int .i64), (28, .int .i64), (29, .int .i64), (100000, .ar 1000000 .str)]
abbrev MV : List (Ex × List (Nat × Kd)) := [(.exit 2, [(1, .box 68 (.prod (.int .i64) (.prod (.int .i64) (.int .i64)))), (2, .own 25 (.prod (.int .i64) (.prod (.list (.int .i64)) (.prod (.list (.int .i64)) (.list (.int .i64)))))), (3, .int .i64), (4, .int .i64), (6, .mpk 0), (7, .own 25 (.prod (.int .i64) (.prod (.list (.int .i64)) (.prod (.list (.int .i64)) (.list (.int .i64)))))), (24, .int .i64), (25, .int .i64), (100000, .ar 1000000 .str)])]
def OQ (x : Shape.den JD) : Option (Shape.den JD ⊕ aT MV) := match x with
 | (v1, v2, v3, v4, v6, v7, v8, v24, v25, v28, v29, v100000, ()) =>
  bif ltI v29 v28 then
   bif !(ltI v1.2.1 0) then bif !(ltI v1.2.1 v1.2.1) then bif !(ltI 1048576 v1.2.1) then aB (f52 ((v1.1, (v1.2.1, v1.2.2)), v8, ())) fun y9 =>
   aB (f52 ((v1.1, (v1.2.1, v1.2.2)), v29, ())) fun y10 =>
   aB (f38 (v1.1, ())) fun y11 =>
   aB (EF ((v1.1, (v1.2.1, v1.2.2)), v2, v3, v4, (), v7, v8, (v1.1, ((List.replicate v1.2.1.toNat 0), (y9.1, y10.1))), (v1.1, ((List.replicate v1.2.1.toNat 0), (y9.1, y10.1))), v24, v25, v28, v29, (y11.1.1, ()), v100000, ())) fun z12 =>
   aB (f53 ((z12.2.2.2.2.2.2.2.1.1, (z12.2.2.2.2.2.2.2.1.2.1, (z12.2.2.2.2.2.2.2.1.2.2.1, z12.2.2.2.2.2.2.2.1.2.2.2))), ())) fun y13 =>
   bif Nat.blt 0 z12.2.2.2.2.2.2.2.2.2.2.2.2.1.length then bif (MQ (z12.2.2.2.2.2.2.2.2.2.2.2.2.1.getD 0 []) y13.1) then
    some (.inl ((z12.1.1, (z12.1.2.1, z12.1.2.2)), z12.2.1, z12.2.2.1, z12.2.2.2.1, (), z12.2.2.2.2.2.1, z12.2.2.2.2.2.2.1, z12.2.2.2.2.2.2.2.2.1, z12.2.2.2.2.2.2.2.2.2.1, z12.2.2.2.2.2.2.2.2.2.2.1, (aK .i64 (z12.2.2.2.2.2.2.2.2.2.2.2.1 + 1)), z12.2.2.2.2.2.2.2.2.2.2.2.2.1, ()))
   else bif Nat.blt 0 z12.2.2.2.2.2.2.2.2.2.2.2.2.1.length then bif Nat.ble [(z12.2.2.2.2.2.2.2.1.1, (z12.2.2.2.2.2.2.2.1.2.1, (z12.2.2.2.2.2.2.2.1.2.2.1, z12.2.2.2.2.2.2.2.1.2.2.2)))].length 1048576 then bif Nat.ble z12.2.2.2.2.2.1.length 1048576 then some (.inl ((z12.1.1, (z12.1.2.1, z12.1.2.2)), z12.2.1, z12.2.2.1, z12.2.2.2.1, (), (z12.2.2.2.2.2.1 ++ [(z12.2.2.2.2.2.2.2.1.1, (z12.2.2.2.2.2.2.2.1.2.1, (z12.2.2.2.2.2.2.2.1.2.2.1, z12.2.2.2.2.2.2.2.1.2.2.2)))]), z12.2.2.2.2.2.2.1, z12.2.2.2.2.2.2.2.2.1, z12.2.2.2.2.2.2.2.2.2.1, z12.2.2.2.2.2.2.2.2.2.2.1, (aK .i64 (z12.2.2.2.2.2.2.2.2.2.2.2.1 + 1)), (aIV z12.2.2.2.2.2.2.2.2.2.2.2.2.1 0 y13.1), ())) else none else none else none else none else none else none else none
  else some (.inr (((v1.1, (v1.2.1, v1.2.2)), v2, v3, v4, (), v7, v24, v25, v100000, ())))
def DZ (x : Shape.den JD) : Option (aT MV) := bZ OQ (2 ^ 64) x
abbrev MN : List (Nat × Kd) := [(1, .box 68 (.prod (.int .i64) (.prod (.int .i64) (.int .i64)))), (2, .own 25 (.prod (.int .i64) (.prod (.list (.int .i64)) (.prod (.list (.int .i64)) (.list (.int .i64)))))), (3, .int .i64), (4, .int .i64), (6, .mpk 0), (7, .own 25 (.prod (.int .i64) (.prod (.list (.int .i64)) (.prod (.list (.int .i64)) (.list (.int .i64)))))), (24, .int .i64), (25, .int .i64), (100000, .ar 1000000 .str)]
abbrev QX : List (Ex × List (Nat × Kd)) := [(.exit 0, [(7, .own 25 (.prod (.int .i64) (.prod (.list (.int .i64)) (.prod (.list (.int .i64)) (.list (.int .i64)))))), (100000, .ar 1000000 .str)])]
def WB (x : Shape.den MN) : Option (Shape.den MN ⊕ aT QX) := match x with
 | (v1, v2, v3, v4, v6, v7, v24, v25, v100000, ()) =>
  bif ltI v25 v24 then
   aB (DZ ((v1.1, (v1.2.1, v1.2.2)), v2, v3, v4, (), v7, v25, v24, v25, v4, 0, v100000, ())) fun z15 =>
   some (.inl ((z15.1.1, (z15.1.2.1, z15.1.2.2)), z15.2.1, z15.2.2.1, z15.2.2.2.1, (), z15.2.2.2.2.2.1, z15.2.2.2.2.2.2.1, (aK .i64 (z15.2.2.2.2.2.2.2.1 + 1)), z15.2.2.2.2.2.2.2.2.1, ()))
  else some (.inr ((v7, v100000, ())))
def ID (x : Shape.den MN) : Option (aT QX) := bZ WB (2 ^ 64) x
def f32 (x : aJ [.agg (.prod (.int .i64) (.prod (.int .i64) (.int .i64)))]) : Option (aJ [.list (.prod (.int .i64) (.prod (.list (.int .i64)) (.prod (.list (.int .i64)) (.list (.int .i64))))), .int .i64]) := match x with
 | (v0, ()) =>
  aB (f51 ((v0.1, (v0.2.1, v0.2.2)), ())) fun y1 =>
  bif !(eqI y1.2.1 0) then
   some ([], y1.2.1, ())
  else aB (ID ((v0.1, (v0.2.1, v0.2.2)), [], 0, y1.1, (), [], y1.1, 0, [[]], ())) fun z16 =>
  aB (SM LC ltL z16.1) fun y17 =>
  some (y17, 0, ())
noncomputable def c32 : Code := aR Tryz.f32
abbrev E32 : Env := aBV [e38, e40, e48, e51, e52, e53] [s54]
theorem aD2 : aW Tryz.prog E32 := B8 ⟨aDC, aD4, aDD, aU7, aV7, aTY, trivial⟩ ⟨aTT, trivial⟩
noncomputable def aAZ : Code := inLoop (G7 c32 0)
noncomputable def aAP : Code := inLoop (G7 aAZ 0)
noncomputable def GM : Code := G7 aAP 0
noncomputable def aS6 : Code := inLoop GM
def aP2 (id : Nat) : Option aO := bif Nat.beq id 10 then some ⟨JD, MV, DZ⟩ else bif Nat.beq id 7 then some ⟨MN, QX, ID⟩ else none
def aPH (id : Nat) : Option aO := bif Nat.beq id 16 then some ⟨C8, MY, EF⟩ else none
theorem aME : aF aS6 = 16 := by kernel_rfl
theorem aTK : bN aS6 = [] := by kernel_rfl
theorem aGL : GM = .rangeFunc (BM GM) (OX GM) (j5 GM) (inLoop GM) := by kernel_rfl
theorem aMG : ∀ y e, JC Tryz.prog E32 74 (rH Tryz.f32) aP2 aPH (OX GM).toList (j5 GM) (inLoop GM) [.agg (.prod (.int .i64) (.prod (.int .i64) (.prod (.int .i64) (.int .i64))))] C8 MY y e = N7 y e := by
 rintro ⟨v1, v2, v3, v4, v6, v7, v8, v10, v11, v24, v25, v28, v29, v47, v100000, ⟨⟩⟩ ⟨e0, ⟨⟩⟩
 kernel_rfl
theorem aSQ : ∀ x, VZ 62 [(.list (.prod (.int .i64) (.int .i64)))] C8 (BM GM) x = some (aC1 x) := by
 rintro ⟨v1, v2, v3, v4, v6, v7, v8, v10, v11, v24, v25, v28, v29, v47, v100000, ⟨⟩⟩
 kernel_rfl
theorem aNE : r9 Tryz.prog 74 false [] GM ⟨C8, MY, EF⟩ := by
 exact DR aD2 aM aGL Tryz.func62 (c := aR Tryz.f62) (by kernel_rfl) aSA (by kernel_rfl) (lQ aTK trivial) aSQ aMG
theorem aMV : aF aAP = 10 := by kernel_rfl
theorem aU0 : bN aAP = [GM] := by kernel_rfl
theorem aKN : ∀ x, QJ Tryz.prog E32 74 (rH Tryz.f32) aP2 aPH false [] aAP JD MV x = OQ x := by
 rintro ⟨v1, v2, v3, v4, v6, v7, v8, v24, v25, v28, v29, v100000, ⟨⟩⟩
 kernel_rfl
theorem aOD : r9 Tryz.prog 74 false [] (.loop aAP) ⟨JD, MV, DZ⟩ := by
 exact IY aD2.callee aM.mixed _ (lQ aU0 ⟨AY aGL aME rfl aNE, trivial⟩) aKN
theorem aLW : aF aAZ = 7 := by kernel_rfl
theorem aT6 : bN aAZ = [.loop aAP] := by kernel_rfl
theorem aMT : ∀ x, QJ Tryz.prog E32 74 (rH Tryz.f32) aP2 aPH false [] aAZ MN QX x = WB x := by
 rintro ⟨v1, v2, v3, v4, v6, v7, v24, v25, v100000, ⟨⟩⟩
 kernel_rfl
theorem aN9 : r9 Tryz.prog 74 false [] (.loop aAZ) ⟨MN, QX, ID⟩ := by
 exact IY aD2.callee aM.mixed _ (lQ aT6 ⟨O8 aMV rfl aOD, trivial⟩) aMT
theorem aSJ : bN c32 = [.loop aAZ] := by kernel_rfl
theorem aUE : ∀ x, aH2 Tryz.prog E32 Tryz.f32 (rH Tryz.f32) aP2 aPH c32 1000000 .str [.agg (.prod (.int .i64) (.prod (.int .i64) (.int .i64)))] [.list (.prod (.int .i64) (.prod (.list (.int .i64)) (.prod (.list (.int .i64)) (.list (.int .i64))))), .int .i64] x = f32 x := by
 rintro ⟨v0, ⟨⟩⟩
 kernel_rfl
theorem aYO : bW Tryz.prog 32 [.agg (.prod (.int .i64) (.prod (.int .i64) (.int .i64)))] [.list (.prod (.int .i64) (.prod (.list (.int .i64)) (.prod (.list (.int .i64)) (.list (.int .i64))))), .int .i64] f32 := by
 exact aV5 aM aD2 Tryz.func32 (c := c32) (by kernel_rfl) (aQ := rH Tryz.f32) (lt := aP2) (rt := aPH) (lQ aSJ ⟨O8 aLW rfl aN9, trivial⟩) aUE
abbrev e32 : Ent := ⟨32, [.agg (.prod (.int .i64) (.prod (.int .i64) (.int .i64)))], [.list (.prod (.int .i64) (.prod (.list (.int .i64)) (.prod (.list (.int .i64)) (.list (.int .i64))))), .int .i64], f32⟩
theorem aNQ : Ent.OK Tryz.prog e32 := aYO

/-! schisma/isomorphy.Count -/
def f33 (x : aJ [.agg (.prod (.int .i64) (.prod (.int .i64) (.int .i64)))]) : Option (aJ [.int .i64, .int .i64]) := match x with
 | (v0, ()) =>
  aB (f32 ((v0.1, (v0.2.1, v0.2.2)), ())) fun y1 =>
  some ((y1.1.length : Int), y1.2.1, ())
noncomputable def c33 : Code := aR Tryz.f33
abbrev E33 : Env := bF [e32]
theorem aVG : aW Tryz.prog E33 := aU ⟨aNQ, trivial⟩
def aXL (id : Nat) : Option aO := none
theorem aQZ : aE c33 = [] := by kernel_rfl
theorem aUG : ∀ x, bH Tryz.prog E33 Tryz.f33 (aC Tryz.f33) aXL c33 [.agg (.prod (.int .i64) (.prod (.int .i64) (.int .i64)))] [.int .i64, .int .i64] x = f33 x := by
 rintro ⟨v0, ⟨⟩⟩
 kernel_rfl
theorem aY5 : bW Tryz.prog 33 [.agg (.prod (.int .i64) (.prod (.int .i64) (.int .i64)))] [.int .i64, .int .i64] f33 := by
 exact aX aM aVG Tryz.func33 (c := c33) (by kernel_rfl) (aQ := aC Tryz.f33) (lt := aXL) (aD aQZ trivial) aUG
abbrev e33 : Ent := ⟨33, [.agg (.prod (.int .i64) (.prod (.int .i64) (.int .i64)))], [.int .i64, .int .i64], f33⟩
theorem aW2 : Ent.OK Tryz.prog e33 := aY5
end Go.PM
set_option linter.unusedSimpArgs false
set_option linter.unusedVariables false
namespace Go.PM
open Go Go.RowKit Go.Proofs
set_option maxRecDepth 100000
set_option maxHeartbeats 4000000
/-! schisma/schismalaw46.IsomorphyBoxes -/
abbrev RW : List (Nat × Kd) := [(0, .int .i64), (1, .int .i64), (2, .int .i64), (7, .int .i64), (8, .int .i64), (9, .int .i64)]
abbrev Q2 : List (Ex × List (Nat × Kd)) := [(.exit 1, [(0, .int .i64), (1, .int .i64), (2, .int .i64), (7, .int .i64)])]
def nW (x : Shape.den RW) : Option (Shape.den RW ⊕ aT Q2) := match x with
 | (v0, v1, v2, v7, v8, v9, ()) =>
  bif ltI v9 (aK .i64 (2 * v1)) then
   bif eqI v7 0 then
    bif ltI 100000 v2 then
     some (.inl (v0, v1, v2, 4, (aK .i64 (v8 * (aK .i64 ((aK .i64 (2 * (if 100000 < v2 then 100000 else v2))) + 1)))), (aK .i64 (v9 + 1)), ()))
    else bif ltI 100000 (aK .i64 (v8 * (aK .i64 ((aK .i64 (2 * v2)) + 1)))) then
     some (.inl (v0, v1, v2, 4, (aK .i64 (v8 * (aK .i64 ((aK .i64 (2 * (if 100000 < v2 then 100000 else v2))) + 1)))), (aK .i64 (v9 + 1)), ()))
    else some (.inl (v0, v1, v2, v7, (aK .i64 (v8 * (aK .i64 ((aK .i64 (2 * (if 100000 < v2 then 100000 else v2))) + 1)))), (aK .i64 (v9 + 1)), ()))
   else some (.inr ((v0, v1, v2, v7, ())))
  else some (.inr ((v0, v1, v2, v7, ())))
def hX (x : Shape.den RW) : Option (aT Q2) := bZ nW (2 ^ 64) x
def f10 (x : aJ [.int .i64, .int .i64, .int .i64]) : Option (aJ [.bool]) := match x with
 | (v0, v1, v2, ()) =>
  aB (f12 (())) fun y1 =>
  bif y1.1 then
   bif !(eqI v0 1) then
    bif !(eqI v0 2) then
     aB (hX (v0, v1, v2, 12, 1, 0, ())) fun z2 =>
     bif eqI z2.2.2.2.1 0 then
      bif ltI 0 z2.2.1 then
       bif ltI 1 z2.2.2.1 then
        some (true, ())
       else aB (f32 ((z2.1, (z2.2.1, z2.2.2.1)), ())) fun y3 =>
       bif !(eqI z2.2.2.2.1 0) then
        aB (f33 ((z2.1, (z2.2.1, z2.2.2.1)), ())) fun y4 =>
        bif eqI (y3.1.length : Int) 0 then
         bif eqI y3.2.1 z2.2.2.2.1 then
          bif eqI y4.1 0 then
           some (eqI y4.2.1 z2.2.2.2.1, ())
          else some (false, ())
         else some (false, ())
        else some (false, ())
       else bif eqI y3.2.1 0 then
        bif ltI 0 (y3.1.length : Int) then
         bif ltI 0 z2.2.1 then
          some (true, ())
         else some (eqI (y3.1.length : Int) 1, ())
        else some (false, ())
       else some (false, ())
      else aB (f32 ((z2.1, (z2.2.1, z2.2.2.1)), ())) fun y5 =>
      bif !(eqI z2.2.2.2.1 0) then
       aB (f33 ((z2.1, (z2.2.1, z2.2.2.1)), ())) fun y6 =>
       bif eqI (y5.1.length : Int) 0 then
        bif eqI y5.2.1 z2.2.2.2.1 then
         bif eqI y6.1 0 then
          some (eqI y6.2.1 z2.2.2.2.1, ())
         else some (false, ())
        else some (false, ())
       else some (false, ())
      else bif eqI y5.2.1 0 then
       bif ltI 0 (y5.1.length : Int) then
        bif ltI 0 z2.2.1 then
         some (true, ())
        else some (eqI (y5.1.length : Int) 1, ())
       else some (false, ())
      else some (false, ())
     else aB (f32 ((z2.1, (z2.2.1, z2.2.2.1)), ())) fun y7 =>
     bif !(eqI z2.2.2.2.1 0) then
      aB (f33 ((z2.1, (z2.2.1, z2.2.2.1)), ())) fun y8 =>
      bif eqI (y7.1.length : Int) 0 then
       bif eqI y7.2.1 z2.2.2.2.1 then
        bif eqI y8.1 0 then
         some (eqI y8.2.1 z2.2.2.2.1, ())
        else some (false, ())
       else some (false, ())
      else some (false, ())
     else bif eqI y7.2.1 0 then
      bif ltI 0 (y7.1.length : Int) then
       bif ltI 0 z2.2.1 then
        some (true, ())
       else some (eqI (y7.1.length : Int) 1, ())
      else some (false, ())
     else some (false, ())
    else bif ltI v1 0 then
     aB (hX (v0, v1, v2, 3, 1, 0, ())) fun z9 =>
     bif eqI z9.2.2.2.1 0 then
      bif ltI 0 z9.2.1 then
       bif ltI 1 z9.2.2.1 then
        some (true, ())
       else aB (f32 ((z9.1, (z9.2.1, z9.2.2.1)), ())) fun y10 =>
       bif !(eqI z9.2.2.2.1 0) then
        aB (f33 ((z9.1, (z9.2.1, z9.2.2.1)), ())) fun y11 =>
        bif eqI (y10.1.length : Int) 0 then
         bif eqI y10.2.1 z9.2.2.2.1 then
          bif eqI y11.1 0 then
           some (eqI y11.2.1 z9.2.2.2.1, ())
          else some (false, ())
         else some (false, ())
        else some (false, ())
       else bif eqI y10.2.1 0 then
        bif ltI 0 (y10.1.length : Int) then
         bif ltI 0 z9.2.1 then
          some (true, ())
         else some (eqI (y10.1.length : Int) 1, ())
        else some (false, ())
       else some (false, ())
      else aB (f32 ((z9.1, (z9.2.1, z9.2.2.1)), ())) fun y12 =>
      bif !(eqI z9.2.2.2.1 0) then
       aB (f33 ((z9.1, (z9.2.1, z9.2.2.1)), ())) fun y13 =>
       bif eqI (y12.1.length : Int) 0 then
        bif eqI y12.2.1 z9.2.2.2.1 then
         bif eqI y13.1 0 then
          some (eqI y13.2.1 z9.2.2.2.1, ())
         else some (false, ())
        else some (false, ())
       else some (false, ())
      else bif eqI y12.2.1 0 then
       bif ltI 0 (y12.1.length : Int) then
        bif ltI 0 z9.2.1 then
         some (true, ())
        else some (eqI (y12.1.length : Int) 1, ())
       else some (false, ())
      else some (false, ())
     else aB (f32 ((z9.1, (z9.2.1, z9.2.2.1)), ())) fun y14 =>
     bif !(eqI z9.2.2.2.1 0) then
      aB (f33 ((z9.1, (z9.2.1, z9.2.2.1)), ())) fun y15 =>
      bif eqI (y14.1.length : Int) 0 then
       bif eqI y14.2.1 z9.2.2.2.1 then
        bif eqI y15.1 0 then
         some (eqI y15.2.1 z9.2.2.2.1, ())
        else some (false, ())
       else some (false, ())
      else some (false, ())
     else bif eqI y14.2.1 0 then
      bif ltI 0 (y14.1.length : Int) then
       bif ltI 0 z9.2.1 then
        some (true, ())
       else some (eqI (y14.1.length : Int) 1, ())
      else some (false, ())
     else some (false, ())
    else bif ltI 4 v1 then
     aB (hX (v0, v1, v2, 3, 1, 0, ())) fun z16 =>
     bif eqI z16.2.2.2.1 0 then
      bif ltI 0 z16.2.1 then
       bif ltI 1 z16.2.2.1 then
        some (true, ())
       else aB (f32 ((z16.1, (z16.2.1, z16.2.2.1)), ())) fun y17 =>
       bif !(eqI z16.2.2.2.1 0) then
        aB (f33 ((z16.1, (z16.2.1, z16.2.2.1)), ())) fun y18 =>
        bif eqI (y17.1.length : Int) 0 then
         bif eqI y17.2.1 z16.2.2.2.1 then
          bif eqI y18.1 0 then
           some (eqI y18.2.1 z16.2.2.2.1, ())
          else some (false, ())
         else some (false, ())
        else some (false, ())
       else bif eqI y17.2.1 0 then
        bif ltI 0 (y17.1.length : Int) then
         bif ltI 0 z16.2.1 then
          some (true, ())
         else some (eqI (y17.1.length : Int) 1, ())
        else some (false, ())
       else some (false, ())
      else aB (f32 ((z16.1, (z16.2.1, z16.2.2.1)), ())) fun y19 =>
      bif !(eqI z16.2.2.2.1 0) then
       aB (f33 ((z16.1, (z16.2.1, z16.2.2.1)), ())) fun y20 =>
       bif eqI (y19.1.length : Int) 0 then
        bif eqI y19.2.1 z16.2.2.2.1 then
         bif eqI y20.1 0 then
          some (eqI y20.2.1 z16.2.2.2.1, ())
         else some (false, ())
        else some (false, ())
       else some (false, ())
      else bif eqI y19.2.1 0 then
       bif ltI 0 (y19.1.length : Int) then
        bif ltI 0 z16.2.1 then
         some (true, ())
        else some (eqI (y19.1.length : Int) 1, ())
       else some (false, ())
      else some (false, ())
     else aB (f32 ((z16.1, (z16.2.1, z16.2.2.1)), ())) fun y21 =>
     bif !(eqI z16.2.2.2.1 0) then
      aB (f33 ((z16.1, (z16.2.1, z16.2.2.1)), ())) fun y22 =>
      bif eqI (y21.1.length : Int) 0 then
       bif eqI y21.2.1 z16.2.2.2.1 then
        bif eqI y22.1 0 then
         some (eqI y22.2.1 z16.2.2.2.1, ())
        else some (false, ())
       else some (false, ())
      else some (false, ())
     else bif eqI y21.2.1 0 then
      bif ltI 0 (y21.1.length : Int) then
       bif ltI 0 z16.2.1 then
        some (true, ())
       else some (eqI (y21.1.length : Int) 1, ())
      else some (false, ())
     else some (false, ())
    else bif ltI v2 0 then
     aB (hX (v0, v1, v2, 3, 1, 0, ())) fun z23 =>
     bif eqI z23.2.2.2.1 0 then
      bif ltI 0 z23.2.1 then
       bif ltI 1 z23.2.2.1 then
        some (true, ())
       else aB (f32 ((z23.1, (z23.2.1, z23.2.2.1)), ())) fun y24 =>
       bif !(eqI z23.2.2.2.1 0) then
        aB (f33 ((z23.1, (z23.2.1, z23.2.2.1)), ())) fun y25 =>
        bif eqI (y24.1.length : Int) 0 then
         bif eqI y24.2.1 z23.2.2.2.1 then
          bif eqI y25.1 0 then
           some (eqI y25.2.1 z23.2.2.2.1, ())
          else some (false, ())
         else some (false, ())
        else some (false, ())
       else bif eqI y24.2.1 0 then
        bif ltI 0 (y24.1.length : Int) then
         bif ltI 0 z23.2.1 then
          some (true, ())
         else some (eqI (y24.1.length : Int) 1, ())
        else some (false, ())
       else some (false, ())
      else aB (f32 ((z23.1, (z23.2.1, z23.2.2.1)), ())) fun y26 =>
      bif !(eqI z23.2.2.2.1 0) then
       aB (f33 ((z23.1, (z23.2.1, z23.2.2.1)), ())) fun y27 =>
       bif eqI (y26.1.length : Int) 0 then
        bif eqI y26.2.1 z23.2.2.2.1 then
         bif eqI y27.1 0 then
          some (eqI y27.2.1 z23.2.2.2.1, ())
         else some (false, ())
        else some (false, ())
       else some (false, ())
      else bif eqI y26.2.1 0 then
       bif ltI 0 (y26.1.length : Int) then
        bif ltI 0 z23.2.1 then
         some (true, ())
        else some (eqI (y26.1.length : Int) 1, ())
       else some (false, ())
      else some (false, ())
     else aB (f32 ((z23.1, (z23.2.1, z23.2.2.1)), ())) fun y28 =>
     bif !(eqI z23.2.2.2.1 0) then
      aB (f33 ((z23.1, (z23.2.1, z23.2.2.1)), ())) fun y29 =>
      bif eqI (y28.1.length : Int) 0 then
       bif eqI y28.2.1 z23.2.2.2.1 then
        bif eqI y29.1 0 then
         some (eqI y29.2.1 z23.2.2.2.1, ())
        else some (false, ())
       else some (false, ())
      else some (false, ())
     else bif eqI y28.2.1 0 then
      bif ltI 0 (y28.1.length : Int) then
       bif ltI 0 z23.2.1 then
        some (true, ())
       else some (eqI (y28.1.length : Int) 1, ())
      else some (false, ())
     else some (false, ())
    else aB (hX (v0, v1, v2, 0, 1, 0, ())) fun z30 =>
    bif eqI z30.2.2.2.1 0 then
     bif ltI 0 z30.2.1 then
      bif ltI 1 z30.2.2.1 then
       some (true, ())
      else aB (f32 ((z30.1, (z30.2.1, z30.2.2.1)), ())) fun y31 =>
      bif !(eqI z30.2.2.2.1 0) then
       aB (f33 ((z30.1, (z30.2.1, z30.2.2.1)), ())) fun y32 =>
       bif eqI (y31.1.length : Int) 0 then
        bif eqI y31.2.1 z30.2.2.2.1 then
         bif eqI y32.1 0 then
          some (eqI y32.2.1 z30.2.2.2.1, ())
         else some (false, ())
        else some (false, ())
       else some (false, ())
      else bif eqI y31.2.1 0 then
       bif ltI 0 (y31.1.length : Int) then
        bif ltI 0 z30.2.1 then
         some (true, ())
        else some (eqI (y31.1.length : Int) 1, ())
       else some (false, ())
      else some (false, ())
     else aB (f32 ((z30.1, (z30.2.1, z30.2.2.1)), ())) fun y33 =>
     bif !(eqI z30.2.2.2.1 0) then
      aB (f33 ((z30.1, (z30.2.1, z30.2.2.1)), ())) fun y34 =>
      bif eqI (y33.1.length : Int) 0 then
       bif eqI y33.2.1 z30.2.2.2.1 then
        bif eqI y34.1 0 then
         some (eqI y34.2.1 z30.2.2.2.1, ())
        else some (false, ())
       else some (false, ())
      else some (false, ())
     else bif eqI y33.2.1 0 then
      bif ltI 0 (y33.1.length : Int) then
       bif ltI 0 z30.2.1 then
        some (true, ())
       else some (eqI (y33.1.length : Int) 1, ())
      else some (false, ())
     else some (false, ())
    else aB (f32 ((z30.1, (z30.2.1, z30.2.2.1)), ())) fun y35 =>
    bif !(eqI z30.2.2.2.1 0) then
     aB (f33 ((z30.1, (z30.2.1, z30.2.2.1)), ())) fun y36 =>
     bif eqI (y35.1.length : Int) 0 then
      bif eqI y35.2.1 z30.2.2.2.1 then
       bif eqI y36.1 0 then
        some (eqI y36.2.1 z30.2.2.2.1, ())
       else some (false, ())
      else some (false, ())
     else some (false, ())
    else bif eqI y35.2.1 0 then
     bif ltI 0 (y35.1.length : Int) then
      bif ltI 0 z30.2.1 then
       some (true, ())
      else some (eqI (y35.1.length : Int) 1, ())
     else some (false, ())
    else some (false, ())
   else bif ltI v1 0 then
    aB (hX (v0, v1, v2, 3, 1, 0, ())) fun z37 =>
    bif eqI z37.2.2.2.1 0 then
     bif ltI 0 z37.2.1 then
      bif ltI 1 z37.2.2.1 then
       some (true, ())
      else aB (f32 ((z37.1, (z37.2.1, z37.2.2.1)), ())) fun y38 =>
      bif !(eqI z37.2.2.2.1 0) then
       aB (f33 ((z37.1, (z37.2.1, z37.2.2.1)), ())) fun y39 =>
       bif eqI (y38.1.length : Int) 0 then
        bif eqI y38.2.1 z37.2.2.2.1 then
         bif eqI y39.1 0 then
          some (eqI y39.2.1 z37.2.2.2.1, ())
         else some (false, ())
        else some (false, ())
       else some (false, ())
      else bif eqI y38.2.1 0 then
       bif ltI 0 (y38.1.length : Int) then
        bif ltI 0 z37.2.1 then
         some (true, ())
        else some (eqI (y38.1.length : Int) 1, ())
       else some (false, ())
      else some (false, ())
     else aB (f32 ((z37.1, (z37.2.1, z37.2.2.1)), ())) fun y40 =>
     bif !(eqI z37.2.2.2.1 0) then
      aB (f33 ((z37.1, (z37.2.1, z37.2.2.1)), ())) fun y41 =>
      bif eqI (y40.1.length : Int) 0 then
       bif eqI y40.2.1 z37.2.2.2.1 then
        bif eqI y41.1 0 then
         some (eqI y41.2.1 z37.2.2.2.1, ())
        else some (false, ())
       else some (false, ())
      else some (false, ())
     else bif eqI y40.2.1 0 then
      bif ltI 0 (y40.1.length : Int) then
       bif ltI 0 z37.2.1 then
        some (true, ())
       else some (eqI (y40.1.length : Int) 1, ())
      else some (false, ())
     else some (false, ())
    else aB (f32 ((z37.1, (z37.2.1, z37.2.2.1)), ())) fun y42 =>
    bif !(eqI z37.2.2.2.1 0) then
     aB (f33 ((z37.1, (z37.2.1, z37.2.2.1)), ())) fun y43 =>
     bif eqI (y42.1.length : Int) 0 then
      bif eqI y42.2.1 z37.2.2.2.1 then
       bif eqI y43.1 0 then
        some (eqI y43.2.1 z37.2.2.2.1, ())
       else some (false, ())
      else some (false, ())
     else some (false, ())
    else bif eqI y42.2.1 0 then
     bif ltI 0 (y42.1.length : Int) then
      bif ltI 0 z37.2.1 then
       some (true, ())
      else some (eqI (y42.1.length : Int) 1, ())
     else some (false, ())
    else some (false, ())
   else bif ltI 4 v1 then
    aB (hX (v0, v1, v2, 3, 1, 0, ())) fun z44 =>
    bif eqI z44.2.2.2.1 0 then
     bif ltI 0 z44.2.1 then
      bif ltI 1 z44.2.2.1 then
       some (true, ())
      else aB (f32 ((z44.1, (z44.2.1, z44.2.2.1)), ())) fun y45 =>
      bif !(eqI z44.2.2.2.1 0) then
       aB (f33 ((z44.1, (z44.2.1, z44.2.2.1)), ())) fun y46 =>
       bif eqI (y45.1.length : Int) 0 then
        bif eqI y45.2.1 z44.2.2.2.1 then
         bif eqI y46.1 0 then
          some (eqI y46.2.1 z44.2.2.2.1, ())
         else some (false, ())
        else some (false, ())
       else some (false, ())
      else bif eqI y45.2.1 0 then
       bif ltI 0 (y45.1.length : Int) then
        bif ltI 0 z44.2.1 then
         some (true, ())
        else some (eqI (y45.1.length : Int) 1, ())
       else some (false, ())
      else some (false, ())
     else aB (f32 ((z44.1, (z44.2.1, z44.2.2.1)), ())) fun y47 =>
     bif !(eqI z44.2.2.2.1 0) then
      aB (f33 ((z44.1, (z44.2.1, z44.2.2.1)), ())) fun y48 =>
      bif eqI (y47.1.length : Int) 0 then
       bif eqI y47.2.1 z44.2.2.2.1 then
        bif eqI y48.1 0 then
         some (eqI y48.2.1 z44.2.2.2.1, ())
        else some (false, ())
       else some (false, ())
      else some (false, ())
     else bif eqI y47.2.1 0 then
      bif ltI 0 (y47.1.length : Int) then
       bif ltI 0 z44.2.1 then
        some (true, ())
       else some (eqI (y47.1.length : Int) 1, ())
      else some (false, ())
     else some (false, ())
    else aB (f32 ((z44.1, (z44.2.1, z44.2.2.1)), ())) fun y49 =>
    bif !(eqI z44.2.2.2.1 0) then
     aB (f33 ((z44.1, (z44.2.1, z44.2.2.1)), ())) fun y50 =>
     bif eqI (y49.1.length : Int) 0 then
      bif eqI y49.2.1 z44.2.2.2.1 then
       bif eqI y50.1 0 then
        some (eqI y50.2.1 z44.2.2.2.1, ())
       else some (false, ())
      else some (false, ())
     else some (false, ())
    else bif eqI y49.2.1 0 then
     bif ltI 0 (y49.1.length : Int) then
      bif ltI 0 z44.2.1 then
       some (true, ())
      else some (eqI (y49.1.length : Int) 1, ())
     else some (false, ())
    else some (false, ())
   else bif ltI v2 0 then
    aB (hX (v0, v1, v2, 3, 1, 0, ())) fun z51 =>
    bif eqI z51.2.2.2.1 0 then
     bif ltI 0 z51.2.1 then
      bif ltI 1 z51.2.2.1 then
       some (true, ())
      else aB (f32 ((z51.1, (z51.2.1, z51.2.2.1)), ())) fun y52 =>
      bif !(eqI z51.2.2.2.1 0) then
       aB (f33 ((z51.1, (z51.2.1, z51.2.2.1)), ())) fun y53 =>
       bif eqI (y52.1.length : Int) 0 then
        bif eqI y52.2.1 z51.2.2.2.1 then
         bif eqI y53.1 0 then
          some (eqI y53.2.1 z51.2.2.2.1, ())
         else some (false, ())
        else some (false, ())
       else some (false, ())
      else bif eqI y52.2.1 0 then
       bif ltI 0 (y52.1.length : Int) then
        bif ltI 0 z51.2.1 then
         some (true, ())
        else some (eqI (y52.1.length : Int) 1, ())
       else some (false, ())
      else some (false, ())
     else aB (f32 ((z51.1, (z51.2.1, z51.2.2.1)), ())) fun y54 =>
     bif !(eqI z51.2.2.2.1 0) then
      aB (f33 ((z51.1, (z51.2.1, z51.2.2.1)), ())) fun y55 =>
      bif eqI (y54.1.length : Int) 0 then
       bif eqI y54.2.1 z51.2.2.2.1 then
        bif eqI y55.1 0 then
         some (eqI y55.2.1 z51.2.2.2.1, ())
        else some (false, ())
       else some (false, ())
      else some (false, ())
     else bif eqI y54.2.1 0 then
      bif ltI 0 (y54.1.length : Int) then
       bif ltI 0 z51.2.1 then
        some (true, ())
       else some (eqI (y54.1.length : Int) 1, ())
      else some (false, ())
     else some (false, ())
    else aB (f32 ((z51.1, (z51.2.1, z51.2.2.1)), ())) fun y56 =>
    bif !(eqI z51.2.2.2.1 0) then
     aB (f33 ((z51.1, (z51.2.1, z51.2.2.1)), ())) fun y57 =>
     bif eqI (y56.1.length : Int) 0 then
      bif eqI y56.2.1 z51.2.2.2.1 then
       bif eqI y57.1 0 then
        some (eqI y57.2.1 z51.2.2.2.1, ())
       else some (false, ())
      else some (false, ())
     else some (false, ())
    else bif eqI y56.2.1 0 then
     bif ltI 0 (y56.1.length : Int) then
      bif ltI 0 z51.2.1 then
       some (true, ())
      else some (eqI (y56.1.length : Int) 1, ())
     else some (false, ())
    else some (false, ())
   else aB (hX (v0, v1, v2, 0, 1, 0, ())) fun z58 =>
   bif eqI z58.2.2.2.1 0 then
    bif ltI 0 z58.2.1 then
     bif ltI 1 z58.2.2.1 then
      some (true, ())
     else aB (f32 ((z58.1, (z58.2.1, z58.2.2.1)), ())) fun y59 =>
     bif !(eqI z58.2.2.2.1 0) then
      aB (f33 ((z58.1, (z58.2.1, z58.2.2.1)), ())) fun y60 =>
      bif eqI (y59.1.length : Int) 0 then
       bif eqI y59.2.1 z58.2.2.2.1 then
        bif eqI y60.1 0 then
         some (eqI y60.2.1 z58.2.2.2.1, ())
        else some (false, ())
       else some (false, ())
      else some (false, ())
     else bif eqI y59.2.1 0 then
      bif ltI 0 (y59.1.length : Int) then
       bif ltI 0 z58.2.1 then
        some (true, ())
       else some (eqI (y59.1.length : Int) 1, ())
      else some (false, ())
     else some (false, ())
    else aB (f32 ((z58.1, (z58.2.1, z58.2.2.1)), ())) fun y61 =>
    bif !(eqI z58.2.2.2.1 0) then
     aB (f33 ((z58.1, (z58.2.1, z58.2.2.1)), ())) fun y62 =>
     bif eqI (y61.1.length : Int) 0 then
      bif eqI y61.2.1 z58.2.2.2.1 then
       bif eqI y62.1 0 then
        some (eqI y62.2.1 z58.2.2.2.1, ())
       else some (false, ())
      else some (false, ())
     else some (false, ())
    else bif eqI y61.2.1 0 then
     bif ltI 0 (y61.1.length : Int) then
      bif ltI 0 z58.2.1 then
       some (true, ())
      else some (eqI (y61.1.length : Int) 1, ())
     else some (false, ())
    else some (false, ())
   else aB (f32 ((z58.1, (z58.2.1, z58.2.2.1)), ())) fun y63 =>
   bif !(eqI z58.2.2.2.1 0) then
    aB (f33 ((z58.1, (z58.2.1, z58.2.2.1)), ())) fun y64 =>
    bif eqI (y63.1.length : Int) 0 then
     bif eqI y63.2.1 z58.2.2.2.1 then
      bif eqI y64.1 0 then
       some (eqI y64.2.1 z58.2.2.2.1, ())
      else some (false, ())
     else some (false, ())
    else some (false, ())
   else bif eqI y63.2.1 0 then
    bif ltI 0 (y63.1.length : Int) then
     bif ltI 0 z58.2.1 then
      some (true, ())
     else some (eqI (y63.1.length : Int) 1, ())
    else some (false, ())
   else some (false, ())
  else some (false, ())
noncomputable def c10 : Code := aR Tryz.f10
abbrev E10 : Env := bF [e12, e32, e33]
theorem aPU : aW Tryz.prog E10 := aU ⟨aT0, aNQ, aW2, trivial⟩
noncomputable def aFU : Code := eJ c10 0
def aWN (id : Nat) : Option aO := bif Nat.beq id 10 then some ⟨RW, Q2, hX⟩ else none
theorem aMP : ∀ x, eA Tryz.prog E10 121 (aC Tryz.f10) aWN aFU RW Q2 x = nW x := by
 rintro ⟨v0, v1, v2, v7, v8, v9, ⟨⟩⟩
 kernel_rfl
theorem aUP : aE aFU = [] := by kernel_rfl
theorem aMI : aF aFU = 10 := by kernel_rfl
theorem aQG : cA Tryz.prog 121 aFU ⟨RW, Q2, hX⟩ := by
 exact cN aPU.callee aM.mixed _ (aD aUP trivial) aMP
theorem aRL : aE c10 = [aFU] := by kernel_rfl
theorem aWV : ∀ x, bH Tryz.prog E10 Tryz.f10 (aC Tryz.f10) aWN c10 [.int .i64, .int .i64, .int .i64] [.bool] x = f10 x := by
 rintro ⟨v0, v1, v2, ⟨⟩⟩
 kernel_rfl
theorem aZD : bW Tryz.prog 10 [.int .i64, .int .i64, .int .i64] [.bool] f10 := by
 exact aX aM aPU Tryz.func10 (c := c10) (by kernel_rfl) (aQ := aC Tryz.f10) (lt := aWN) (aD aRL ⟨cT aMI rfl aQG, trivial⟩) aWV
end Go.PM
set_option linter.unusedSimpArgs false
set_option linter.unusedVariables false
namespace Go.PM
open Go Go.RowKit Go.Proofs
set_option maxRecDepth 100000
def Zn (n : Int) : ByteArray := ⟨(Lib.itoa n).toArray⟩
theorem aZV {n : Int} (h : n.natAbs < 10 ^ 20) : qY n = Zn n := aE8 h
/-! whole -/
theorem aZU (n : Int) (h1 : -9223372036854775808 ≤ n) (h2 : n < 9223372036854775808) : fJ (n, ()) = some (Zn n, ()) := by
 unfold fJ k7
 have e1 : ltI n (-9223372036854775808) = false := by rw [bA]; simp; omega
 have e2 : ltI 9223372036854775807 n = false := by rw [bA]; simp; omega
 simp only [e1, e2, Bool.not_false, Bool.and_self, cond_true, cQ, aZV (n := n) (by omega)]
end Go.PM
set_option linter.unusedSimpArgs false
set_option linter.unusedVariables false
namespace Go.Lz
abbrev V := Nat → Int
inductive Sp (k : Nat) (M : Nat → V) : V → Prop
 | zero : Sp k M (fun _ => 0)
 | add {v : V} (j : Nat) (t : Int) : j < k → Sp k M v → Sp k M (fun i => v i + t * M j i)

theorem Sp.mem {k : Nat} {M : Nat → V} {j : Nat} (h : j < k) : Sp k M (M j) := by
 have := Sp.add j 1 h (Sp.zero (k := k) (M := M))
 simpa using this
theorem Sp.comb {k : Nat} {M : Nat → V} {u v : V} (t : Int) (hu : Sp k M u) (hv : Sp k M v) : Sp k M (fun i => u i + t * v i) := by
 induction hv with
 | zero => simpa using hu
 | add j s hj _ ih =>
  have := Sp.add j (t * s) hj ih
  refine cast (congrArg (Sp k M) ?_) this
  funext i
  grind
theorem Sp.smul {k : Nat} {M : Nat → V} {v : V} (t : Int) (hv : Sp k M v) : Sp k M (fun i => t * v i) := by
 have := Sp.comb t Sp.zero hv
 simpa using this
theorem Sp.sub {k : Nat} {M : Nat → V} {u v : V} (hu : Sp k M u) (hv : Sp k M v) : Sp k M (fun i => u i - v i) := by
 have := Sp.comb (-1) hu hv
 refine cast (congrArg (Sp k M) ?_) this
 funext i
 grind
theorem Sp.trans {k k' : Nat} {M M' : Nat → V} (h : ∀ j, j < k → Sp k' M' (M j)) {v : V} (hv : Sp k M v) : Sp k' M' v := by
 induction hv with
 | zero => exact .zero
 | add j t hj _ ih => exact Sp.comb t ih (h j hj)
theorem Sp.aE1 {k : Nat} {M : Nat → V} {x : Nat} (h : ∀ j, j < k → M j x = 0) {v : V} (hv : Sp k M v) : v x = 0 := by
 induction hv with
 | zero => rfl
 | add j t hj _ ih => simp only [ih, h j hj, Int.mul_zero, Int.add_zero]
def Same (k : Nat) (M : Nat → V) (k' : Nat) (M' : Nat → V) : Prop := ∀ v, Sp k M v ↔ Sp k' M' v
theorem Same.refl (k : Nat) (M : Nat → V) : Same k M k M := fun _ => Iff.rfl
theorem Same.symm {k k' : Nat} {M M' : Nat → V} (h : Same k M k' M') : Same k' M' k M := fun v => (h v).symm
theorem Same.trans {k k' k'' : Nat} {M M' M'' : Nat → V} (h : Same k M k' M') (g : Same k' M' k'' M'') : Same k M k'' M'' := fun v => (h v).trans (g v)
theorem Same.of {k k' : Nat} {M M' : Nat → V} (h : ∀ j, j < k → Sp k' M' (M j)) (g : ∀ j, j < k' → Sp k M (M' j)) : Same k M k' M' := fun _ => ⟨Sp.trans h, Sp.trans g⟩
theorem Sp.first {k : Nat} {M : Nat → V} {v : V} (h : Sp (k + 1) M v) : ∃ t u, Sp k (fun i => M (i + 1)) u ∧ v = fun i => u i + t * M 0 i := by
 induction h with
 | zero => exact ⟨0, fun _ => 0, .zero, by funext i; simp⟩
 | add j s hj _ ih =>
  obtain ⟨t, u, hu, rfl⟩ := ih
  cases j with
  | zero => exact ⟨t + s, u, hu, by funext i; grind⟩
  | succ j => exact ⟨t, _, Sp.add j s (by omega) hu, by funext i; grind⟩
structure Hn (k : Nat) (M : Nat → V) (c : Nat → Nat) : Prop where
 inc : ∀ i j, i < j → j < k → c i < c j
 low : ∀ i, i < k → ∀ x, x < c i → M i x = 0
 pos : ∀ i, i < k → 0 < M i (c i)
 red : ∀ i j, i < j → j < k → 0 ≤ M i (c j) ∧ M i (c j) < M j (c j)

theorem Hn.tail {k : Nat} {M : Nat → V} {c : Nat → Nat} (h : Hn (k + 1) M c) : Hn k (fun i => M (i + 1)) (fun i => c (i + 1)) where
 inc := fun i j hij hj => h.inc _ _ (by omega) (by omega)
 low := fun i hi => h.low _ (by omega)
 pos := fun i hi => h.pos _ (by omega)
 red := fun i j hij hj => h.red _ _ (by omega) (by omega)
theorem Hn.aZL {k : Nat} {M : Nat → V} {c : Nat → Nat} (h : Hn (k + 1) M c) {u : V} (hu : Sp k (fun i => M (i + 1)) u) {x : Nat} (hx : x ≤ c 0) : u x = 0 :=
 Sp.aE1 (fun j hj => h.low (j + 1) (by omega) x (by have := h.inc 0 (j + 1) (by omega) (by omega); omega)) hu

theorem Hn.small : ∀ {k : Nat} {M : Nat → V} {c : Nat → Nat}, Hn k M c → ∀ {v : V}, Sp k M v → (∀ i, i < k → -(M i (c i)) < v (c i) ∧ v (c i) < M i (c i)) → v = fun _ => 0
 | 0, M, c, h, v, hv, _ => by
  cases hv with
  | zero => rfl
  | add j t hj _ => omega
 | k + 1, M, c, h, v, hv, hs => by
  obtain ⟨t, u, hu, rfl⟩ := hv.first
  have h0 := h.aZL hu (Nat.le_refl _)
  have hp := h.pos 0 (by omega)
  have hs0 := hs 0 (by omega)
  simp only [h0, Int.zero_add] at hs0
  have ht : t = 0 := by
   rcases Int.lt_trichotomy t 0 with h1 | h1 | h1
   ·have : t * M 0 (c 0) ≤ (-1) * M 0 (c 0) := Int.mul_le_mul_of_nonneg_right (by omega) (by omega)
    omega
   ·exact h1
   ·have : 1 * M 0 (c 0) ≤ t * M 0 (c 0) := Int.mul_le_mul_of_nonneg_right (by omega) (by omega)
    omega
  subst ht
  have e : (fun i => u i + 0 * M 0 i) = u := by funext i; simp
  rw [e] at hs ⊢
  exact Hn.small h.tail hu fun i hi => hs (i + 1) (by omega)

def up (M : Nat → V) (i : Nat) (r : V) : Nat → V := fun j => if j = i then r else M j
theorem aOL {k d : Nat} (M : Nat → V) (hd : d ≤ k) (h : ∀ i, d ≤ i → i < k → M i = fun _ => 0) : Same k M d M := by
 refine Same.of (fun j hj => ?_) (fun j hj => Sp.mem (by omega))
 rcases Nat.lt_or_ge j d with h1 | h1
 ·exact Sp.mem h1
 ·rw [h j h1 hj]; exact .zero

structure Fo (k : Nat) (M0 M : Nat → V) (d c : Nat) (p : Nat → Nat) : Prop where
 le : d ≤ k
 same : Same k M0 k M
 inc : ∀ i j, i < j → j < d → p i < p j
 lt : ∀ i, i < d → p i < c
 low : ∀ i, i < d → ∀ x, x < p i → M i x = 0
 pos : ∀ i, i < d → 0 < M i (p i)
 red : ∀ i j, i < j → j < d → 0 ≤ M i (p j) ∧ M i (p j) < M j (p j)
 rest : ∀ i, d ≤ i → i < k → ∀ x, x < c → M i x = 0

theorem Fo.start (k : Nat) (M : Nat → V) : Fo k M M 0 0 (fun _ => 0) where
 le := Nat.zero_le _
 same := Same.refl _ _
 inc := fun i j _ h => by omega
 lt := fun i h => by omega
 low := fun i h => by omega
 pos := fun i h => by omega
 red := fun i j _ h => by omega
 rest := fun i _ _ x h => by omega
section
variable {k d c : Nat} {M0 M : Nat → V} {p : Nat → Nat}
theorem Fo.hn (h : Fo k M0 M d c p) (hz : d = k ∨ ∀ i, i < k → ∀ x, c ≤ x → M i x = 0) : Hn d M p ∧ Same k M0 d M := by
 refine ⟨⟨h.inc, h.low, h.pos, h.red⟩, h.same.trans ?_⟩
 rcases hz with rfl | hz
 ·exact Same.refl _ _
 ·refine aOL M h.le fun i h1 h2 => ?_
  funext x
  rcases Nat.lt_or_ge x c with h3 | h3
  ·exact h.rest i h1 h2 x h3
  ·exact hz i h2 x h3
end
def dot : Nat → V → V → Int
 | 0, _, _ => 0
 | n + 1, a, b => dot n a b + a n * b n
theorem HW (a b : V) : ∀ n, dot n a b = dot n b a
 | 0 => rfl
 | n + 1 => by rw [dot, dot, HW a b n, Int.mul_comm]
theorem aG4 (u v b : V) (t : Int) : ∀ n, dot n (fun i => u i + t * v i) b = dot n u b + t * dot n v b
 | 0 => by simp [dot]
 | n + 1 => by
  rw [dot, dot, dot, aG4 u v b t n]
  grind
theorem aE3 (b : V) : ∀ n, dot n (fun _ => 0) b = 0
 | 0 => rfl
 | n + 1 => by rw [dot, aE3 b n]; simp
def Ker (n m : Nat) (A : Nat → V) (y : V) : Prop := (∀ c, n ≤ c → y c = 0) ∧ ∀ x, x < m → dot n y (A x) = 0
theorem Ker.span {n m : Nat} {A : Nat → V} {y : V} (h : Ker n m A y) {v : V} (hv : Sp m A v) : dot n y v = 0 := by
 induction hv with
 | zero => rw [HW]; exact aE3 _ _
 | add j t hj _ ih => rw [HW, aG4, HW _ y, ih, HW _ y, h.2 j hj]; simp
theorem Ker.aJP {n m : Nat} {A : Nat → V} {y : V} (h1 : ∀ c, n ≤ c → y c = 0) (h2 : ∀ v, Sp m A v → dot n y v = 0) : Ker n m A y := ⟨h1, fun x hx => h2 _ (Sp.mem hx)⟩
theorem Ker.same {n m m' : Nat} {A A' : Nat → V} (h : Same m A m' A') {y : V} : Ker n m A y ↔ Ker n m' A' y :=
 ⟨fun g => .aJP g.1 fun v hv => g.span ((h v).2 hv), fun g => .aJP g.1 fun v hv => g.span ((h v).1 hv)⟩
theorem IJ (a : Int) {m : Int} (h : m < 0) : m < a.fmod m ∧ a.fmod m ≤ 0 := by
 have h1 := Int.neg_fmod_neg (-a) (-m)
 rw [Int.neg_neg, Int.neg_neg] at h1
 have h2 := Int.fmod_nonneg_of_pos (-a) (show 0 < -m by omega)
 have h3 := Int.fmod_lt_of_pos (-a) (show 0 < -m by omega)
 omega
theorem aPV (a m : Int) (hm : m ≠ 0) : (a.fdiv m).natAbs * m.natAbs ≤ a.natAbs + m.natAbs := by
 have h1 := Int.fmod_def a m
 have h2 : (m * a.fdiv m).natAbs = (a.fdiv m).natAbs * m.natAbs := by rw [Int.natAbs_mul, Nat.mul_comm]
 rcases Int.lt_or_gt_of_ne hm with h | h
 ·have h3 := IJ a h
  omega
 ·have h3 := Int.fmod_nonneg_of_pos a h
  have h4 := Int.fmod_lt_of_pos a h
  omega
theorem aGF (a m : Int) (hm : m ≠ 0) : (a.fmod m).natAbs < m.natAbs := by
 rcases Int.lt_or_gt_of_ne hm with h | h
 ·have h3 := IJ a h
  omega
 ·have h3 := Int.fmod_nonneg_of_pos a h
  have h4 := Int.fmod_lt_of_pos a h
  omega
theorem aGJ (a m : Int) : a - a.fdiv m * m = a.fmod m := by
 rw [Int.fmod_def, Int.mul_comm]
theorem aPT {a b q : Int} {E Q : Nat} (ha : a.natAbs ≤ E) (hb : b.natAbs ≤ E) (hq : q.natAbs ≤ Q) : (a - q * b).natAbs ≤ E + Q * E := by
 have h1 : (q * b).natAbs = q.natAbs * b.natAbs := Int.natAbs_mul _ _
 have h2 : q.natAbs * b.natAbs ≤ Q * E := Nat.mul_le_mul hq hb
 omega

def Wi (k : Nat) (M : Nat → V) (d c E A : Nat) : Prop := ∀ i, d ≤ i → i < k → (∀ x, (M i x).natAbs ≤ E) ∧ (M i c).natAbs ≤ A
def Rd (k : Nat) (M M' : Nat → V) (d c : Nat) : Prop := M' d = M d ∧ ∀ i, d < i → i < k → M' i = fun x => M i x - (M i c).fdiv (M d c) * M d x

theorem Rd.aN6 {k d c E A : Nat} {M M' : Nat → V} (h : Rd k M M' d c) (hw : Wi k M d c E A) (hk : d < k) (hm : M d c ≠ 0) (hA : (M d c).natAbs ≤ A) :
  ∃ E', Wi k M' d c E' (M d c).natAbs ∧ E' * (M d c).natAbs ≤ 3 * (E * A) := by
 have hmp : 0 < (M d c).natAbs := by omega
 refine ⟨E + (A / (M d c).natAbs + 1) * E, fun i h1 h2 => ?_, ?_⟩
 ·by_cases e : i = d
  ·subst e
   rw [h.1]
   refine ⟨fun x => ?_, Nat.le_refl _⟩
   have := (hw i h1 h2).1 x
   exact Nat.le_trans this (Nat.le_add_right _ _)
  ·have hr := h.2 i (by omega) h2
   have hq : ((M i c).fdiv (M d c)).natAbs ≤ A / (M d c).natAbs + 1 := by
    have h3 := aPV (M i c) (M d c) hm
    have h4 := (hw i h1 h2).2
    have h5 : ((M i c).fdiv (M d c)).natAbs ≤ (A + (M d c).natAbs) / (M d c).natAbs := by
     rw [Nat.le_div_iff_mul_le hmp]
     omega
    rwa [Nat.add_div_right _ hmp] at h5
   rw [hr]
   refine ⟨fun x => aPT ((hw i h1 h2).1 x) ((hw d (Nat.le_refl _) hk).1 x) hq, ?_⟩
   dsimp only
   rw [aGJ]
   exact Nat.le_of_lt (aGF _ _ hm)
 ·have h1 : A / (M d c).natAbs * (M d c).natAbs ≤ A := Nat.div_mul_le_self _ _
  generalize A / (M d c).natAbs = q at h1
  generalize (M d c).natAbs = m at *
  have h2 : (E + (q + 1) * E) * m = 2 * (E * m) + E * (q * m) := by grind
  have h3 : E * (q * m) ≤ E * A := Nat.mul_le_mul_left _ h1
  have h4 : E * m ≤ E * A := Nat.mul_le_mul_left _ hA
  omega

structure Bt (k : Nat) (M : Nat → V) (d c C : Nat) : Prop where
 dk : d < k
 ex : ∃ E, Wi k M d c E (M d c).natAbs ∧ ∃ i, d < i ∧ i < k ∧ M i c ≠ 0 ∧ E * (M d c).natAbs ^ 3 * (M i c).natAbs ≤ C
 piv : M d c ≠ 0
 sign : ∀ i, d < i → i < k → (M i c).natAbs < (M d c).natAbs ∧ (0 < M d c → 0 ≤ M i c) ∧ (M d c < 0 → M i c ≤ 0)

theorem Rd.sign {k d c : Nat} {M M' : Nat → V} (h : Rd k M M' d c) (hm : M d c ≠ 0) : ∀ i, d < i → i < k → M' i c = (M i c).fmod (M d c) ∧ (M' i c).natAbs < (M' d c).natAbs ∧ (0 < M' d c → 0 ≤ M' i c) ∧ (M' d c < 0 → M' i c ≤ 0) := by
 intro i h1 h2
 have e : M' i c = (M i c).fmod (M d c) := by
  rw [h.2 i h1 h2]
  exact aGJ _ _
 rw [e, h.1]
 exact ⟨rfl, aGF _ _ hm, fun hp => Int.fmod_nonneg_of_pos _ hp, fun hn => (IJ _ hn).2⟩
theorem Rd.first {k d c E A : Nat} {M M' : Nat → V} (h : Rd k M M' d c) (hw : Wi k M d c E A) (hk : d < k) (hm : M d c ≠ 0) :
  ((∀ i, d < i → i < k → M' i c = 0) ∧ Wi k M' d c (3 * (E * A)) A) ∨ Bt k M' d c (3 * (E * A) * A ^ 3) := by
 have hA := (hw d (Nat.le_refl _) hk).2
 have hmp : 0 < (M d c).natAbs := by omega
 obtain ⟨E', h1, h2⟩ := h.aN6 hw hk hm hA
 have hs := h.sign hm
 by_cases hz : ∀ i, d < i → i < k → M' i c = 0
 ·refine .inl ⟨hz, fun i g1 g2 => ⟨fun x => ?_, ?_⟩⟩
  ·have a1 := (h1 i g1 g2).1 x
   have a2 : E' * 1 ≤ E' * (M d c).natAbs := Nat.mul_le_mul_left _ hmp
   omega
  ·exact Nat.le_trans (h1 i g1 g2).2 hA
 ·refine .inr ⟨hk, ⟨E', by rw [h.1]; exact h1, ?_⟩, by rw [h.1]; exact hm, fun i g1 g2 => (hs i g1 g2).2⟩
  obtain ⟨i, hi⟩ := Classical.not_forall.1 hz
  obtain ⟨g1, hi⟩ := Classical.not_forall.1 hi
  obtain ⟨g2, g3⟩ := Classical.not_forall.1 hi
  refine ⟨i, g1, g2, g3, ?_⟩
  have a1 := (hs i g1 g2).2.1
  rw [h.1] at a1 ⊢
  have a2 : (M d c).natAbs ^ 2 * (M' i c).natAbs ≤ A ^ 2 * A := Nat.mul_le_mul (Nat.pow_le_pow_left hA 2) (by omega)
  have a3 : E' * (M d c).natAbs * ((M d c).natAbs ^ 2 * (M' i c).natAbs) ≤ 3 * (E * A) * (A ^ 2 * A) := Nat.mul_le_mul h2 a2
  have e1 : E' * (M d c).natAbs ^ 3 * (M' i c).natAbs = E' * (M d c).natAbs * ((M d c).natAbs ^ 2 * (M' i c).natAbs) := by grind
  have e2 : 3 * (E * A) * A ^ 3 = 3 * (E * A) * (A ^ 2 * A) := by grind
  omega
theorem Hn.aR8 {k : Nat} {M : Nat → V} {p : Nat → Nat} (h : Hn k M p) {v : V} (hv : Sp k M v) (hz : ∀ i, i < k → v (p i) = 0) : v = fun _ => 0 :=
 h.small hv fun i hi => by
  have := h.pos i hi
  have := hz i hi
  omega
theorem Hn.shift {k : Nat} {M : Nat → V} {p : Nat → Nat} (h : Hn k M p) (j : Nat) (hj : j ≤ k) : Hn (k - j) (fun i => M (j + i)) (fun i => p (j + i)) where
 inc := fun a b hab hb => h.inc _ _ (by omega) (by omega)
 low := fun i hi => h.low _ (by omega)
 pos := fun i hi => h.pos _ (by omega)
 red := fun a b hab hb => h.red _ _ (by omega) (by omega)
def aMJ : Nat → (Nat → Int) → Nat
 | 0, _ => 0
 | n + 1, f => aMJ n f + (f n).natAbs
def UK : Nat → (Nat → Int) → Int
 | 0, _ => 0
 | n + 1, f => UK n f + f n
theorem aFZ : ∀ (n : Nat) (f : Nat → Int), (UK n f).natAbs ≤ aMJ n f
 | 0, _ => Nat.le_refl _
 | n + 1, f => by
  have := aFZ n f
  rw [UK, aMJ]
  omega
theorem aIQ {n : Nat} {f : Nat → Int} {B : Nat} (h : ∀ i, i < n → (f i).natAbs ≤ B) : aMJ n f ≤ n * B := by
 induction n with
 | zero => simp [aMJ]
 | succ n ih =>
  have h1 := ih (fun i hi => h i (by omega))
  have h2 := h n (by omega)
  rw [aMJ, Nat.succ_mul]
  omega
theorem Sp.UK {k : Nat} {M : Nat → V} {U : Nat → V} {t : Nat → Int} : ∀ n, (∀ j, j < n → Sp k M (U j)) → Sp k M (fun x => Lz.UK n fun j => t j * U j x)
 | 0, _ => .zero
 | n + 1, h => Sp.comb (t n) (Sp.UK n fun j hj => h j (by omega)) (h n (by omega))
end Go.Lz
set_option linter.unusedSimpArgs false
set_option linter.unusedVariables false
namespace Go.PM
open Go Go.RowKit Go.Proofs Go.Lz
set_option maxRecDepth 100000
def Zr (n : Nat) (v : V) : List ByteArray := (List.range n).map fun i => Zn (v i)
theorem aL2 (n : Nat) (v : V) : (Zr n v).length = n := by simp [Zr]
theorem aUV {n i : Nat} (v : V) (h : i < n) (d : ByteArray) : (Zr n v).getD i d = Zn (v i) := by simp [Zr, List.getD, h]
theorem getD_set_ne {α : Type} (A : List α) {j k : Nat} (x d : α) (h : j ≠ k) : (A.set j x).getD k d = A.getD k d := by simp [List.getD, List.getElem?_set_ne h]
theorem aJU {α : Type} {A : List α} {j : Nat} {x : α} (d : α) (h : A[j]? = some x) : A.getD j d = x := by simp [List.getD, h]

theorem aPL {α : Type} {pre l : List α} {o t : Nat} (h : pre.length = o) (d : α) : (pre ++ l).getD (o + t) d = l.getD t d := by
 subst h
 simp [List.getD, List.getElem?_append_right (Nat.le_add_right _ _)]
end Go.PM
set_option linter.unusedSimpArgs false
set_option linter.unusedVariables false
namespace Go.PM
open Go Go.RowKit Go.Proofs Go.Lz
set_option maxRecDepth 100000
structure aKR (o k n : Nat) (m : List (Nat × Nat × Nat)) (A : List (List ByteArray)) (J : Nat → Nat) (M : Nat → V) : Prop where
 ml : m = (List.range k).map fun i => (J i, o, n)
 at_ : ∀ i, i < k → ∃ pre : List ByteArray, pre.length = o ∧ A[J i]? = some (pre ++ Zr n (M i))
 inj : ∀ i j, i < k → j < k → J i = J j → i = j
section
variable {o k n : Nat} {m : List (Nat × Nat × Nat)} {A : List (List ByteArray)} {J : Nat → Nat} {M : Nat → V}
theorem aKR.len (h : aKR o k n m A J M) : m.length = k := by rw [h.ml]; simp
theorem aKR.jQ (h : aKR o k n m A J M) {i : Nat} (hi : i < k) : jQ A (J i) = o + n := by
 obtain ⟨pre, h1, h2⟩ := h.at_ i hi
 rw [PM.jQ, aJU _ h2, List.length_append, aL2, h1]
theorem aKR.oL (h : aKR o k n m A J M) {i c : Nat} (hi : i < k) (hc : c < n) : oL A (J i) (o + c) ByteArray.empty = Zn (M i c) := by
 obtain ⟨pre, h1, h2⟩ := h.at_ i hi
 rw [PM.oL, aJU _ h2, aPL h1, aUV _ hc]
end
end Go.PM
set_option linter.unusedSimpArgs false
set_option linter.unusedVariables false
namespace Go.PM
open Go Go.RowKit Go.Proofs Go.Lz
set_option maxRecDepth 100000
theorem aS9 (r : List Int) (hl : r.length ≤ 1048576) (hr : ∀ a ∈ r, -9223372036854775808 ≤ a ∧ a < 9223372036854775808) :
  kC ([], r, (r.length : Int), 0, ()) = some (r.map Zn, ()) := by
 have key := J9 (step := gO) (N := 2 ^ 64) (fun t => ((r.take t).map Zn, r, (r.length : Int), (t : Int), ())) r.length (r.map Zn, ()) (by omega) (fun t ht => ?_) ?_
 ·exact key
 ·have e1 : ltI (t : Int) (r.length : Int) = true := by rw [bA]; exact decide_eq_true (by omega)
  have e2 : bD (t : Int) r.length = true := by rw [vO]; exact decide_eq_true (by omega)
  have e3 : ((t : Nat) : Int).toNat = t := Int.toNat_natCast _
  have e4 : r.getD t 0 = r[t] := by simp [List.getD, ht]
  obtain ⟨b1, b2⟩ := hr r[t] (List.getElem_mem ht)
  have e5 := aZU r[t] b1 b2
  have e6 : Nat.ble [Zn r[t]].length 1048576 = true := rfl
  have e7 : Nat.ble ((r.take t).map Zn).length 1048576 = true := by rw [pX, List.length_map, List.length_take]; exact decide_eq_true (by omega)
  have e8 := BV t (by omega)
  have e9 : (r.take t).map Zn ++ [Zn r[t]] = (r.take (t + 1)).map Zn := by
   rw [List.take_succ_eq_append_getElem ht, List.map_append]; rfl
  simp only [gO, e1, e2, e3, e4, e5, cQ, e6, e7, cond_true, e8, e9]
 ·have e1 : ltI (r.length : Int) (r.length : Int) = false := by rw [bA]; exact decide_eq_false (by omega)
  simp only [gO, e1, cond_false, List.take_length]
theorem aCB (r : List Int) (hl : r.length ≤ 64) (hr : ∀ a ∈ r, a.natAbs ≤ 1000000000) : mP (r, ()) = some (0, ()) := by
 have key := J9 (step := bM) (N := 2 ^ 64) (fun t => (r, (), (r.length : Int), (t : Int), ())) r.length (.inr ()) (by omega) (fun t ht => ?_) ?_
 ·have key : bZ bM (2 ^ 64) (r, (), (r.length : Int), 0, ()) = some (.inr ()) := key
  have e1 : ltI 64 (r.length : Int) = false := by rw [bA]; exact decide_eq_false (by omega)
  have e2 : ltI (-1) 0 = true := by decide
  simp only [mP, e1, cond_false, cE, dB, dJ, key, cQ, aAV, e2, Bool.not_true]
 ·have e1 : ltI (t : Int) (r.length : Int) = true := by rw [bA]; exact decide_eq_true (by omega)
  have e2 : bD (t : Int) r.length = true := by rw [vO]; exact decide_eq_true (by omega)
  have e3 : ((t : Nat) : Int).toNat = t := Int.toNat_natCast _
  have e4 : r.getD t 0 = r[t] := by simp [List.getD, ht]
  have b := hr r[t] (List.getElem_mem ht)
  have e5 : ltI r[t] (-1000000000) = false := by rw [bA]; exact decide_eq_false (by omega)
  have e6 : ltI 1000000000 r[t] = false := by rw [bA]; exact decide_eq_false (by omega)
  have e7 := BV t (by omega)
  simp only [bM, e1, e2, e3, e4, tM, DW, e5, e6, cQ, Bool.not_false, cond_true, cond_false, e7]
 ·have e1 : ltI (r.length : Int) (r.length : Int) = false := by rw [bA]; exact decide_eq_false (by omega)
  simp only [bM, e1, cond_false]
end Go.PM
set_option linter.unusedSimpArgs false
set_option linter.unusedVariables false
namespace Go.PM
open Go Go.RowKit Go.Proofs Go.Lz
set_option maxRecDepth 100000
def red (M : Nat → V) (p : Nat → Nat) : Nat → V → V
 | 0, u => u
 | t + 1, u => fun x => red M p t u x - (red M p t u (p t)).fdiv (M t (p t)) * M t x
section
variable {d n : Nat} {M : Nat → V} {p : Nat → Nat}
end
section
variable {d n : Nat} {M : Nat → V} {p : Nat → Nat}
end
end Go.PM
set_option linter.unusedSimpArgs false
set_option linter.unusedVariables false
namespace Go.Lz
theorem Sp.none {M : Nat → V} {v : V} (h : Sp 0 M v) : v = fun _ => 0 := by
 funext x
 exact Sp.aE1 (x := x) (fun j hj => by omega) h
theorem Sp.one {M : Nat → V} {v : V} (h : Sp 1 M v) : ∃ a : Int, v = fun x => a * M 0 x := by
 obtain ⟨t, u, hu, rfl⟩ := h.first
 have := hu.none
 subst this
 exact ⟨t, by funext x; simp⟩
theorem Sp.two {M : Nat → V} {v : V} (h : Sp 2 M v) : ∃ a b : Int, v = fun x => a * M 0 x + b * M 1 x := by
 obtain ⟨t, u, hu, rfl⟩ := h.first
 obtain ⟨s, rfl⟩ := hu.one
 exact ⟨t, s, by funext x; simp only [Nat.zero_add]; omega⟩
theorem Sp.aON {M : Nat → V} (a b : Int) : Sp 2 M (fun x => a * M 0 x + b * M 1 x) :=
 Sp.comb b (Sp.smul a (Sp.mem (by decide))) (Sp.mem (by decide))

structure Piv (d : Nat) (M : Nat → V) (p : Nat → Nat) (U : Nat → V) (D : Int) (C : Nat) : Prop where
 sp : ∀ j, j < d → Sp d M (U j)
 off : ∀ i j, i < d → j < d → i ≠ j → U j (p i) = 0
 at_ : ∀ j, j < d → U j (p j) = D
 ne : D ≠ 0
 le : ∀ j, j < d → ∀ x, (U j x).natAbs ≤ C
theorem VG {a b : Int} {E : Nat} (h1 : a.natAbs ≤ E) (h2 : b.natAbs ≤ E) : (a * b).natAbs ≤ E * E := by
 rw [Int.natAbs_mul]; exact Nat.mul_le_mul h1 h2
theorem Piv.ex {d : Nat} {M N : Nat → V} {p : Nat → Nat} {E : Nat} (h : Hn d M p) (hs : Same 2 N d M) (hd : d ≤ 2) (hE : ∀ i, i < 2 → ∀ x, (N i x).natAbs ≤ E) (h1 : 1 ≤ E) : ∃ U D, Piv d M p U D (2 * (E * E)) := by
 have h0 := fun j (hj : j < 2) => (hs _).1 (Sp.mem (M := N) hj)
 have hEE : E ≤ E * E := Nat.le_mul_of_pos_left E (by omega)
 rcases (by omega : d = 0 ∨ d = 1 ∨ d = 2) with rfl | rfl | rfl
 ·exact ⟨fun _ _ => 0, 1, fun j hj => by omega, fun i j hi => by omega, fun j hj => by omega, by decide, fun j hj => by omega⟩
 ·obtain ⟨a, b, hab⟩ := ((hs _).2 (Sp.mem (M := M) (show 0 < 1 by decide))).two
  have hp := h.pos 0 (by decide)
  have : N 0 (p 0) ≠ 0 ∨ N 1 (p 0) ≠ 0 := by
   by_cases h2 : N 0 (p 0) = 0
   ·by_cases h3 : N 1 (p 0) = 0
    ·have := congrFun hab (p 0)
     simp only [h2, h3, Int.mul_zero] at this
     omega
    ·exact .inr h3
   ·exact .inl h2
  rcases this with h2 | h2
  ·refine ⟨fun _ => N 0, N 0 (p 0), fun j hj => h0 0 (by decide), fun i j hi hj hne => by omega, fun j hj => ?_, h2, fun j hj x => ?_⟩
   ·have : j = 0 := by omega
    subst this; rfl
   ·have := hE 0 (by decide) x; omega
  ·refine ⟨fun _ => N 1, N 1 (p 0), fun j hj => h0 1 (by decide), fun i j hi hj hne => by omega, fun j hj => ?_, h2, fun j hj x => ?_⟩
   ·have : j = 0 := by omega
    subst this; rfl
   ·have := hE 1 (by decide) x; omega
 ·obtain ⟨a, b, hab⟩ := ((hs _).2 (Sp.mem (M := M) (show 0 < 2 by decide))).two
  obtain ⟨c, e, hce⟩ := ((hs _).2 (Sp.mem (M := M) (show 1 < 2 by decide))).two
  have q0 := h.pos 0 (by decide)
  have q1 := h.pos 1 (by decide)
  have q2 := h.low 1 (by decide) (p 0) (h.inc 0 1 (by decide) (by decide))
  have w1 := congrFun hab (p 0)
  have w2 := congrFun hab (p 1)
  have w3 := congrFun hce (p 0)
  have w4 := congrFun hce (p 1)
  have hD : N 0 (p 0) * N 1 (p 1) - N 0 (p 1) * N 1 (p 0) ≠ 0 := by
   intro hz
   have : M 0 (p 0) * M 1 (p 1) - M 0 (p 1) * M 1 (p 0) = (a * e - b * c) * (N 0 (p 0) * N 1 (p 1) - N 0 (p 1) * N 1 (p 0)) := by
    rw [w1, w2, w3, w4]; grind
   rw [hz, q2] at this
   have := Int.mul_pos q0 q1
   omega
  refine ⟨fun j => if j = 0 then fun x => N 1 (p 1) * N 0 x + -(N 0 (p 1)) * N 1 x else fun x => -(N 1 (p 0)) * N 0 x + N 0 (p 0) * N 1 x, N 0 (p 0) * N 1 (p 1) - N 0 (p 1) * N 1 (p 0), fun j hj => ?_, fun i j hi hj hne => ?_, fun j hj => ?_, hD, fun j hj x => ?_⟩
  ·rcases (by omega : j = 0 ∨ j = 1) with rfl | rfl
   ·exact (hs _).1 (Sp.aON _ _)
   ·exact (hs _).1 (Sp.aON _ _)
  ·rcases (by omega : (i = 0 ∧ j = 1) ∨ (i = 1 ∧ j = 0)) with ⟨rfl, rfl⟩ | ⟨rfl, rfl⟩
   ·simp; grind
   ·simp; grind
  ·rcases (by omega : j = 0 ∨ j = 1) with rfl | rfl
   ·simp; grind
   ·simp; grind
  ·have b1 := VG (hE 1 (by decide) (p 1)) (hE 0 (by decide) x)
   have b2 := VG (hE 0 (by decide) (p 1)) (hE 1 (by decide) x)
   have b3 := VG (hE 1 (by decide) (p 0)) (hE 0 (by decide) x)
   have b4 := VG (hE 0 (by decide) (p 0)) (hE 1 (by decide) x)
   rcases (by omega : j = 0 ∨ j = 1) with rfl | rfl
   ·simp only [if_pos, Int.neg_mul]; omega
   ·simp only [if_neg (show ¬ 1 = 0 by decide), Int.neg_mul]; omega
theorem Piv.row {d : Nat} {M : Nat → V} {p : Nat → Nat} {U : Nat → V} {D : Int} {C : Nat} (h : Hn d M p) (k : Piv d M p U D C) {s : V} (hs : Sp d M s) (x : Nat) : D * s x = UK d fun j => s (p j) * U j x := by
 have hz := h.aR8 (v := fun x => D * s x - UK d fun j => s (p j) * U j x) (Sp.sub (Sp.smul D hs) (Sp.UK d k.sp)) (fun l hl => by
  have : ∀ n, n ≤ d → (UK n fun j => s (p j) * U j (p l)) = if l < n then D * s (p l) else 0 := by
   intro n
   induction n with
   | zero => intro _; rfl
   | succ n ih =>
    intro hn
    rw [UK, ih (by omega)]
    by_cases e : l = n
    ·subst e
     rw [if_neg (Nat.lt_irrefl _), if_pos (Nat.lt_succ_self _), k.at_ l hl]
     grind
    ·rw [k.off l n hl (by omega) e]
     by_cases e1 : l < n
     ·have e2 : l < n + 1 := by omega
      rw [if_pos e1, if_pos e2]; simp
     ·have e2 : ¬ l < n + 1 := by omega
      rw [if_neg e1, if_neg e2]; simp
  rw [this d (Nat.le_refl _), if_pos hl]
  omega)
 have := congrFun hz x
 omega
theorem Piv.rest {d : Nat} {M : Nat → V} {p : Nat → Nat} {U : Nat → V} {D : Int} {C : Nat} (h : Hn d M p) (k : Piv d M p U D C) {u v : V} (hs : Sp d M fun x => u x - v x) {W B : Nat} (hu : ∀ x, (u x).natAbs ≤ W) (hv : ∀ i, i < d → (v (p i)).natAbs ≤ B) (x : Nat) :
  (v x).natAbs ≤ W + d * ((W + B) * C) := by
 have h1 := k.row h hs x
 have h2 : (UK d fun j => (u (p j) - v (p j)) * U j x).natAbs ≤ d * ((W + B) * C) := by
  refine Nat.le_trans (aFZ _ _) (aIQ fun j hj => ?_)
  rw [Int.natAbs_mul]
  refine Nat.mul_le_mul ?_ (k.le j hj x)
  have := hu (p j)
  have := hv j hj
  omega
 have h3 : (u x - v x).natAbs ≤ (D * (u x - v x)).natAbs := by
  rw [Int.natAbs_mul]
  exact Nat.le_mul_of_pos_left _ (by have := k.ne; omega)
 rw [h1] at h3
 have := hu x
 omega
end Go.Lz
set_option linter.unusedSimpArgs false
set_option linter.unusedVariables false
namespace Go.PM
open Go Go.RowKit Go.Proofs Go.Lz
set_option maxRecDepth 100000
theorem aN8 (a : Int) : f98 (a, ()) = some (false, ()) := by
 unfold f98; dsimp only
 simp [hM]
theorem aW3 (a b : Int) : f74 (a, b, ()) = some (if a < b then -1 else if b < a then 1 else 0, ()) := by
 unfold f74; dsimp only
 rw [aN8, cQ, aN8, cQ]
 simp only [cond_false, bA, jT]
 by_cases h1 : a < b
 ·rw [if_pos h1, if_pos h1]
 ·rw [if_neg h1, if_neg h1]
  by_cases h2 : b < a
  ·rw [if_pos h2, if_pos h2]
  ·rw [if_neg h2, if_neg h2]
theorem aT1 (l m : List Int) (hl : l.length ≤ 9223372036854775806) (hm : m.length ≤ 9223372036854775806) : f57 (l, m, ()) = some (cmpL l m, ()) := by
 have hloop : OR (l, m, l, (l.length : Int), 0, ()) = some (((List.range l.length).findSome? fun i => (R7 l m i).map fun y => .inl (y, ())).getD (.inr (l, m, ()))) := by
  refine VS (N := 2 ^ 64) (step := JU) (fun i => (l, m, l, (l.length : Int), (i : Int), ())) (fun i => (R7 l m i).map fun y => .inl (y, ())) l.length (.inr (l, m, ())) (by omega) ?_ ?_
  ·intro i hi
   simp only [JU, bA, hM, vO, U8, jT, Int.toNat_natCast]
   rw [if_pos (by omega), if_pos (by omega), aW3, cQ, BV i (by omega)]
   by_cases h2 : i < m.length
   ·rw [if_neg (by omega), if_pos (by omega)]
    by_cases h3 : l.getD i 0 < m.getD i 0
    ·have hc : R7 l m i = some (-1) := by unfold R7; rw [if_neg (fun h => h h2), if_pos h3]
     rw [hc, if_pos h3, if_pos (by decide)]; rfl
    ·by_cases h4 : m.getD i 0 < l.getD i 0
     ·have hc : R7 l m i = some 1 := by unfold R7; rw [if_neg (fun h => h h2), if_neg h3, if_pos h4]
      rw [hc, if_neg h3, if_pos h4, if_pos (by decide)]; rfl
     ·have hc : R7 l m i = none := by unfold R7; rw [if_neg (fun h => h h2), if_neg h3, if_neg h4]
      rw [hc, if_neg h3, if_neg h4, if_neg (by decide)]; rfl
   ·have hc : R7 l m i = some 1 := by unfold R7; rw [if_pos h2]
    rw [hc, if_pos (by omega)]; rfl
  ·simp only [JU, bA, jT]
   rw [if_neg (by omega)]
 have hfind := (aL9 l m 0).resolve_right (by omega)
 rw [Nat.sub_zero, ← List.range_eq_range'] at hfind
 simp only [List.drop_zero] at hfind
 unfold f57; dsimp only
 rw [hloop, cQ, OW, ← hfind]
 cases (List.range l.length).findSome? (R7 l m) with
 | some y => rfl
 | none =>
  simp only [Option.map_none, Option.getD_none, aAV, bA, jT]
  by_cases h : l.length < m.length
  ·rw [if_pos h, if_pos (by omega)]
  ·rw [if_neg h, if_neg (by omega)]
theorem aNG (l m : List Int) (hl : l.length ≤ 9223372036854775806) (hm : m.length ≤ 9223372036854775806) : f35 (l, m, ()) = some (cmpL l m, ()) := by
 unfold f35; dsimp only
 rw [aT1 l m hl hm, cQ]
abbrev key (l : Lay) : List Int × List Int := (l.2.2.1, l.2.2.2)
theorem aU8 {a b : Lay} (ha : ShL a) (hb : ShL b) : f48 (a, b, ()) = some (aIW (key a) (key b), ()) := by
 obtain ⟨k, o, r, u⟩ := a
 obtain ⟨k', o', r', u'⟩ := b
 obtain ⟨-, a1, a2⟩ := ha
 obtain ⟨-, b1, b2⟩ := hb
 dsimp only at a1 a2 b1 b2
 unfold f48 aIW key; dsimp only
 rw [aNG r r' (by omega) (by omega), cQ, aNG u u' (by omega) (by omega)]
 simp only [hM, U8, jT, cQ]
 by_cases h : cmpL r r' = 0
 ·rw [if_neg (not_not_intro h), if_neg (not_not_intro h)]
 ·rw [if_pos h, if_pos h]
theorem aTF.sh {B : Int} {l : Lay} (h : aTF B l) : ShL l := ⟨by have := h.len; omega, by have := h.len; have := h.right; omega, by have := h.len; have := h.up; omega⟩
end Go.PM
set_option linter.unusedSimpArgs false
set_option linter.unusedVariables false
namespace Go.PM
open Go Go.RowKit Go.Proofs Go.Lz
set_option maxRecDepth 100000
theorem aOY {σ τ : Type} {step : σ → Option (σ ⊕ τ)} {N : Nat} {Z : τ → Prop} (I : Nat → σ → Prop) (m : Nat) (x : σ) (hN : m < N) (h0 : I 0 x)
  (h : ∀ i y, i < m → I i y → ∃ y', step y = some (.inl y') ∧ I (i + 1) y') (he : ∀ y, I m y → ∃ z, step y = some (.inr z) ∧ Z z) : ∃ z, bZ step N x = some z ∧ Z z := by
 suffices H : ∀ k i y, i + k = m → I i y → ∃ z, bZ step (k + 1 + (N - m - 1)) y = some z ∧ Z z by
  have := H m 0 x (Nat.zero_add m) h0
  rwa [show m + 1 + (N - m - 1) = N by omega] at this
 intro k
 induction k with
 | zero =>
  intro i y hi hy
  have hi : i = m := by omega
  subst hi
  obtain ⟨z, e1, e2⟩ := he y hy
  rw [show 0 + 1 + (N - i - 1) = (N - i - 1) + 1 by omega, jV, e1]
  exact ⟨z, rfl, e2⟩
 | succ k ih =>
  intro i y hi hy
  obtain ⟨y', e1, e2⟩ := h i y (by omega) hy
  rw [show k + 1 + 1 + (N - m - 1) = (k + 1 + (N - m - 1)) + 1 by omega, jV, e1]
  exact ih (i + 1) y' (by omega) e2
theorem RR : ∀ (f u : Nat) (acc : List UInt8), (EA f u acc).length ≤ f + acc.length
 | 0, u, acc => by simp [EA]
 | f + 1, u, acc => by
  rw [EA]
  cases h : Nat.blt u 10 with
  | true => rw [cond_true]; simp; omega
  | false =>
   rw [cond_false]
   have := RR f (u / 10) (UInt8.ofNat (48 + u % 10) :: acc)
   rw [List.length_cons] at this
   omega
theorem aII (n : Int) : (qY n).data.toList.length ≤ 21 := by
 cases n with
 | ofNat u =>
  show (EA 20 u []).length ≤ 21
  have := RR 20 u []
  simp at this; omega
 | negSucc u =>
  show (45 :: EA 20 (u + 1) []).length ≤ 21
  have := RR 20 (u + 1) []
  simp at this ⊢; omega
theorem aAJ (sep : List UInt8) : ∀ (l : List ByteArray), (∀ x ∈ l, x.data.toList.length ≤ 21) → (r5 l sep).length ≤ l.length * (21 + sep.length)
 | [], _ => by simp [r5]
 | [x], h => by
  have := h x (by simp)
  simp only [r5, List.length_singleton, Nat.one_mul]
  omega
 | x :: y :: r, h => by
  have h1 := h x (by simp)
  have h2 := aAJ sep (y :: r) fun z hz => h z (by simp [hz])
  rw [r5, List.length_append, List.length_append, List.length_cons, Nat.add_mul]
  omega
def aIB (r : List Int) : ByteArray := ((ByteArray.mk #[91]) ++ ⟨(r5 (r.map qY) [32]).toArray⟩) ++ (ByteArray.mk #[62])
theorem aKE {B : Int} {r : List Int} (hl : r.length ≤ 64) (hr : Sm B r) (hB : B ≤ 1000000000) : uL (r, true, ()) = some (aIB r, 0, ()) ∧ (aIB r).size ≤ 10000 := by
 have hck : mP (r, ()) = some (0, ()) := aCB r hl fun a ha => by have := hr a ha; omega
 have hloop : pA (true, [], r, (r.length : Int), 0, ()) = some (true, r.map qY, ()) := by
  have hz : r.map qY = (r.take r.length).map qY := by rw [List.take_length]
  rw [hz]
  refine J9 (N := 2 ^ 64) (step := pK) (fun i => (true, (r.take i).map qY, r, (r.length : Int), (i : Int), ())) r.length _ (by omega) ?_ ?_
  ·intro i hi
   have ha := hr _ (aFC hi)
   have hit : k7 (r.getD i 0, ()) = some (qY (r.getD i 0), ()) := by
    unfold k7
    dsimp only
    rw [bA, bA, decide_eq_false (by omega), decide_eq_false (by omega)]
    rfl
   simp only [pK, bA, vO, pX, jT, Int.toNat_natCast]
   rw [if_pos (by omega), if_pos (by omega), hit, cQ, if_pos (by simp), if_pos (by simp; omega), BV i (by omega), List.take_succ_eq_append_getElem hi, List.map_append]
   have : r.getD i 0 = r[i] := by simp [List.getD_eq_getElem?_getD, hi]
   rw [this]
   rfl
  ·simp only [pK, bA, jT]
   rw [if_neg (by omega)]
 have hj : (r5 (r.map qY) [32]).length ≤ 64 * 22 := by
  have h1 := aAJ [32] (r.map qY) fun x hx => by
   obtain ⟨a, -, rfl⟩ := List.mem_map.1 hx
   exact aII a
  rw [List.length_map] at h1
  have h2 : r.length * (21 + [(32 : UInt8)].length) ≤ 64 * 22 := Nat.mul_le_mul hl (by decide)
  exact Nat.le_trans h1 h2
 have hjoin : lH (r.map qY, ByteArray.mk #[32], ()) = some (⟨(r5 (r.map qY) [32]).toArray⟩, ()) := by
  unfold lH
  show (bif Nat.ble _ 1048576 && Nat.ble (r5 (r.map qY) [32]).length 1048576 then _ else none) = _
  rw [pX, pX, List.length_map, decide_eq_true (by omega), decide_eq_true (by omega)]
  rfl
 have hs1 : (⟨(r5 (r.map qY) [32]).toArray⟩ : ByteArray).size ≤ 1408 := hj
 have hs2 : ((ByteArray.mk #[91]) ++ ⟨(r5 (r.map qY) [32]).toArray⟩ : ByteArray).size ≤ 1409 := by
  rw [ByteArray.size_append]
  have : (ByteArray.mk #[91]).size = 1 := rfl
  omega
 have hs3 : (ByteArray.mk #[62]).size = 1 := rfl
 have hs4 : (ByteArray.mk #[91]).size = 1 := rfl
 refine ⟨?_, ?_⟩
 ·unfold uL
  dsimp only
  rw [hck, cQ]
  show (aB (pA (true, [], r, (r.length : Int), 0, ())) _) = _
  rw [hloop, cQ]
  show (aB (lH (r.map qY, ByteArray.mk #[32], ())) _) = _
  rw [hjoin, cQ]
  show (bif Nat.ble _ 9223372036854775807 then bif Nat.ble _ 9223372036854775807 then _ else none else none) = _
  rw [pX, pX, decide_eq_true (by rw [hs4]; show 1 + (⟨(r5 (r.map qY) [32]).toArray⟩ : ByteArray).size ≤ _; omega), decide_eq_true (by rw [hs3]; show ((ByteArray.mk #[91]) ++ ⟨(r5 (r.map qY) [32]).toArray⟩ : ByteArray).size + 1 ≤ _; omega)]
  rfl
 ·unfold aIB
  rw [ByteArray.size_append]
  omega
structure BL (k : Int) (r : Nat) (B : Int) (l : Lay) : Prop where
 kind : l.1 = k
 org : l.2.1 = List.replicate r 0
 rl : l.2.2.1.length = r
 ul : l.2.2.2.length = r
 rs : Sm B l.2.2.1
 us : Sm B l.2.2.2
theorem BL.sh {k : Int} {r : Nat} {B : Int} {l : Lay} (h : BL k r B l) (hr : r ≤ 4) : ShL l := ⟨by rw [h.org]; simp; omega, by rw [h.rl]; omega, by rw [h.ul]; omega⟩
theorem BL.mono {k : Int} {r : Nat} {B C : Int} {l : Lay} (h : BL k r B l) (hBC : B ≤ C) : BL k r C l := ⟨h.kind, h.org, h.rl, h.ul, fun v hv => by have := h.rs v hv; omega, fun v hv => by have := h.us v hv; omega⟩
theorem BL.trn {k : Int} {r : Nat} {B : Int} {l : Lay} {g : S4} (h : BL k r B l) (hg : P7 g) (hB : B ≤ 1000000000) : BL k r (2 * B) (trn l g) :=
 ⟨h.kind, h.org, by show (mx _ _ _ _).length = _; rw [aAK]; exact h.rl, by show (mx _ _ _ _).length = _; rw [aAK]; exact h.rl, aGG hg.1 hg.2.2.1 h.rs h.us (by rw [h.rl, h.ul]) hB, aGG hg.2.1 hg.2.2.2 h.rs h.us (by rw [h.rl, h.ul]) hB⟩
theorem aMZ {k : Int} {r : Nat} {B : Int} {l b : Lay} (hl : BL k r B l) (hr : r ≤ 4) (hB : B ≤ 1000000000) {g : S4} (hg : P7 g) (hb : BL k r (2 * B) b)
  (v1 : Ty.den (.prod (.int .i64) (.prod (.int .i64) (.int .i64)))) (v2 : List Lay) (v3 v4 : Int) (v7 : List Lay) (v8 v24 v25 v28 v29 : Int) (n : List (Int × Int)) (A : List (List ByteArray)) :
  N7 (v1, v2, v3, v4, (), v7, v8, l, b, v24, v25, v28, v29, (n, ()), A, ()) (g, ()) = some (.inl (v1, v2, v3, v4, (), v7, v8, l, (if aIW (key (Go.PM.trn l g)) (key b) < 0 then Go.PM.trn l g else b), v24, v25, v28, v29, (n, ()), A, ())) := by
 have h40 : f40 (l, g, ()) = some (Go.PM.trn l g, ()) := aW5 g (by rw [hl.org]; simp; omega) (by rw [hl.rl, hl.ul]) (by rw [hl.rl]; omega)
 show (aB (f40 (l, g, ())) _) = _
 rw [h40, cQ]
 show (aB (f48 (Go.PM.trn l g, b, ())) _) = _
 rw [aU8 ((hl.trn hg hB).sh hr) (hb.sh hr), cQ]
 show (bif ltI (aIW (key (Go.PM.trn l g)) (key b)) 0 then _ else _) = _
 rw [bA, jT]
 by_cases hc : aIW (key (Go.PM.trn l g)) (key b) < 0
 ·rw [if_pos hc, if_pos hc]
 ·rw [if_neg hc, if_neg hc]
def aAD (l : Lay) : List S4 → Lay → Lay
 | [], b => b
 | g :: L, b => aAD l L (if aIW (key (trn l g)) (key b) < 0 then trn l g else b)
theorem aJQ {k : Int} {r : Nat} {B : Int} {l : Lay} (hl : BL k r B l) (hr : r ≤ 4) (hB : B ≤ 1000000000)
  (v1 : Ty.den (.prod (.int .i64) (.prod (.int .i64) (.int .i64)))) (v2 : List Lay) (v3 v4 : Int) (v7 : List Lay) (v8 v24 v25 v28 v29 : Int) (n : List (Int × Int)) (A : List (List ByteArray)) :
  ∀ (L : List S4), (∀ g ∈ L, P7 g) → ∀ b, BL k r (2 * B) b → BL k r (2 * B) (aAD l L b) ∧
   NB N7 (aTP C8 MY) (L.map fun e => (e, ())) (v1, v2, v3, v4, (), v7, v8, l, b, v24, v25, v28, v29, (n, ()), A, ()) = some (v1, v2, v3, v4, (), v7, v8, aAD l L b, v24, v25, v28, v29, A, ())
 | [], _, b, hb => ⟨hb, rfl⟩
 | g :: L, hL, b, hb => by
  have hg := hL g (by simp)
  rw [List.map_cons, NB, aMZ hl hr hB hg hb]
  refine aJQ hl hr hB v1 v2 v3 v4 v7 v8 v24 v25 v28 v29 n A L (fun x hx => hL x (by simp [hx])) _ ?_
  by_cases hc : aIW (key (Go.PM.trn l g)) (key b) < 0
  ·rw [if_pos hc]; exact hl.trn hg hB
  ·rw [if_neg hc]; exact hb
theorem aMH {k : Int} {r : Nat} {B : Int} {l : Lay} (hl : BL k r B l) (hr : r ≤ 4) (hB0 : 0 ≤ B) (hB : B ≤ 1000000000)
  (v1 : Ty.den (.prod (.int .i64) (.prod (.int .i64) (.int .i64)))) (v2 : List Lay) (v3 v4 : Int) (v7 : List Lay) (v8 v24 v25 v28 v29 : Int) (A : List (List ByteArray)) :
  BL k r (2 * B) (aAD l (xV k) l) ∧ EF (v1, v2, v3, v4, (), v7, v8, l, l, v24, v25, v28, v29, (FP k, ()), A, ()) = some (v1, v2, v3, v4, (), v7, v8, aAD l (xV k) l, v24, v25, v28, v29, A, ()) := by
 have hf := aLM k
 have hu : ∀ g ∈ xV k, P7 g := fun g hg => aSB hg
 have h := aJQ hl hr hB v1 v2 v3 v4 v7 v8 v24 v25 v28 v29 (FP k) A (xV k) hu l (hl.mono (by omega))
 refine ⟨h.1, ?_⟩
 unfold EF aB1
 have hff : (fun x => JF (aC1 x)) (v1, v2, v3, v4, (), v7, v8, l, l, v24, v25, v28, v29, (FP k, ()), A, ()) = _ := hf
 rw [hff]
 exact h.2
theorem aNV {k m i B : Int} {r : Nat} (hr : r ≤ 4) (hm0 : 0 ≤ m) (hm : r = 0 ∨ m ≤ B) (hB0 : 0 ≤ B) (hB : B ≤ 100000) (hi : 0 ≤ i ∧ i ≤ 1000000000) :
  ∃ l, f52 ((k, ((r : Int), m)), i, ()) = some (l, ()) ∧ l.length = r ∧ Sm B l := by
 have hloop : ∃ z, JP (i, (k, ((r : Int), m)), List.replicate r 0, ((r : Int) - 1), ()) = some z ∧ (z.1.length = r ∧ Sm B z.1) := by
  refine aOY (N := 2 ^ 64) (step := IH) (fun t y => ∃ v l, y = (v, (k, ((r : Int), m)), l, ((r : Int) - 1 - t), ()) ∧ (0 ≤ v ∧ v ≤ 1000000000) ∧ l.length = r ∧ Sm B l) r _ (by omega) ⟨i, List.replicate r 0, by simp, hi, by simp, fun v hv => ?_⟩ ?_ ?_
  ·have := (List.mem_replicate.1 hv).2; omega
  ·rintro t y ht ⟨v, l, rfl, hv, hl, hs⟩
   have hm : m ≤ B := by rcases hm with h | h; omega; exact h
   have w1 : aK .i64 (2 * m) = 2 * m := wrap64 (by omega) (by omega)
   have w2 : aK .i64 (2 * m + 1) = 2 * m + 1 := wrap64 (by omega) (by omega)
   have hd : 0 ≤ v.tdiv (2 * m + 1) ∧ v.tdiv (2 * m + 1) ≤ 1000000000 := by
    rw [Int.tdiv_eq_ediv_of_nonneg hv.1]
    exact ⟨Int.ediv_nonneg hv.1 (by omega), Int.le_trans (Int.ediv_le_self _ hv.1) hv.2⟩
   have hmo : 0 ≤ v.tmod (2 * m + 1) ∧ v.tmod (2 * m + 1) < 2 * m + 1 := by
    rw [Int.tmod_eq_emod_of_nonneg hv.1]
    exact ⟨Int.emod_nonneg _ (by omega), Int.emod_lt_of_pos _ (by omega)⟩
   have w3 : aK .i64 (v.tdiv (2 * m + 1)) = v.tdiv (2 * m + 1) := wrap64 (by omega) (by omega)
   have w4 : aK .i64 (v.tmod (2 * m + 1) - m) = v.tmod (2 * m + 1) - m := wrap64 (by omega) (by omega)
   have w5 : aK .i64 ((r : Int) - 1 - t - 1) = (r : Int) - 1 - ((t + 1 : Nat) : Int) := by rw [wrap64 (by omega) (by omega)]; omega
   refine ⟨(v.tdiv (2 * m + 1), (k, ((r : Int), m)), l.set ((r : Int) - 1 - t).toNat (v.tmod (2 * m + 1) - m), ((r : Int) - 1 - ((t + 1 : Nat) : Int)), ()), ?_, _, _, rfl, hd, by simp [hl], fun x hx => ?_⟩
   ·simp only [IH, bA, vO, hM, iZ, w1, w2, w3, w4, w5]
    rw [decide_eq_false (show ¬ ((r : Int) - 1 - t < 0) by omega), decide_eq_false (show ¬ (2 * m + 1 = 0) by omega), decide_eq_true (show 0 ≤ (r : Int) - 1 - t ∧ (r : Int) - 1 - t < l.length by omega), decide_eq_true (show ((r : Int) - 1 - t).toNat < l.length by omega)]
    rfl
   ·rcases List.mem_or_eq_of_mem_set hx with h | rfl
    ·exact hs x h
    ·omega
  ·rintro y ⟨v, l, rfl, hv, hl, hs⟩
   refine ⟨(l, ()), ?_, hl, hs⟩
   simp only [IH, bA]
   rw [decide_eq_true (show (r : Int) - 1 - r < 0 by omega)]
   rfl
 obtain ⟨⟨l, ⟨⟩⟩, e1, e2, e3⟩ := hloop
 refine ⟨l, ?_, e2, e3⟩
 unfold f52
 dsimp only
 rw [bA, bA, bA, decide_eq_false (show ¬ ((r : Int) < 0) by omega), decide_eq_false (show ¬ ((r : Int) < r) by omega), decide_eq_false (show ¬ (1048576 < (r : Int)) by omega), Int.toNat_natCast, wrap64 (by omega) (by omega)]
 show (aB (JP (i, (k, ((r : Int), m)), List.replicate r 0, ((r : Int) - 1), ())) _) = _
 rw [e1, cQ]
def aJD (l : Lay) : ByteArray := aIB l.2.2.1 ++ aIB l.2.2.2
theorem aTH {k : Int} {r : Nat} {B : Int} {l : Lay} (h : BL k r B l) (hr : r ≤ 4) (hB : B ≤ 1000000000) : f53 (l, ()) = some (aJD l, ()) := by
 obtain ⟨h1, g1⟩ := aKE (r := l.2.2.1) (by rw [h.rl]; omega) h.rs hB
 obtain ⟨h2, g2⟩ := aKE (r := l.2.2.2) (by rw [h.ul]; omega) h.us hB
 unfold f53
 dsimp only
 rw [h1, cQ, h2, cQ]
 show (bif Nat.ble ((aIB l.2.2.1).size + (aIB l.2.2.2).size) 9223372036854775807 then _ else none) = _
 rw [pX, decide_eq_true (by omega)]
 rfl
structure AI (k : Int) (r : Nat) (B : Int) (c : Nat) (a : List Lay × List ByteArray) : Prop where
 bl : ∀ x ∈ a.1, BL k r B x
 len : a.1.length ≤ c
 nil : a.1 = [] → a.2 = []
 pos : 0 < c → a.1 ≠ []
def U5 (a : List Lay × List ByteArray) (l : Lay) : List Lay × List ByteArray := bif MQ a.2 (aJD l) then a else (a.1 ++ [l], aI3 a.2 (aJD l))
theorem AI.step {k : Int} {r : Nat} {B : Int} {c : Nat} {a : List Lay × List ByteArray} (h : AI k r B c a) {l : Lay} (hl : BL k r B l) : AI k r B (c + 1) (U5 a l) := by
 unfold U5
 cases hh : MQ a.2 (aJD l) with
 | true =>
  refine ⟨h.bl, Nat.le_succ_of_le h.len, h.nil, fun _ h0 => ?_⟩
  have h0 : a.1 = [] := h0
  rw [h.nil h0] at hh
  cases hh
 | false =>
  refine ⟨fun x hx => ?_, ?_, fun h0 => ?_, fun _ h0 => ?_⟩
  ·rcases List.mem_append.1 hx with hx | hx
   ·exact h.bl x hx
   ·rw [List.mem_singleton.1 hx]; exact hl
  ·have := h.len
   show (a.1 ++ [l]).length ≤ _
   rw [List.length_append, List.length_singleton]; omega
  ·have h0 : a.1 ++ [l] = [] := h0
   simp at h0
  ·have h0 : a.1 ++ [l] = [] := h0
   simp at h0
theorem aHH {k m B : Int} {r : Nat} (hr : r ≤ 4) (hm0 : 0 ≤ m) (hm : r = 0 ∨ m ≤ B) (hB0 : 0 ≤ B) (hB : B ≤ 100000) (v2 : List Lay) (v3 v4 v24 v25 : Int) {i n : Int} (hi : 0 ≤ i ∧ i ≤ 1000000000) {j : Nat} (hj : (j : Int) < n) (hn : n ≤ 1000000)
  {c : Nat} (hc : c ≤ 1000000) {a : List Lay × List ByteArray} (ha : AI k r (2 * B) c a) : ∃ a', AI k r (2 * B) (c + 1) a' ∧
  OQ ((k, ((r : Int), m)), v2, v3, v4, (), a.1, i, v24, v25, n, (j : Int), [a.2], ()) = some (.inl ((k, ((r : Int), m)), v2, v3, v4, (), a'.1, i, v24, v25, n, ((j + 1 : Nat) : Int), [a'.2], ())) := by
 obtain ⟨x, e1, x1, x2⟩ := aNV (k := k) (i := i) hr hm0 hm hB0 hB hi
 obtain ⟨y, e2, y1, y2⟩ := aNV (k := k) (i := (j : Int)) hr hm0 hm hB0 hB (by omega)
 have hl : BL k r B (k, List.replicate r 0, x, y) := ⟨rfl, rfl, x1, y1, x2, y2⟩
 obtain ⟨hb, e3⟩ := aMH hl hr hB0 (by omega) (k, ((r : Int), m)) v2 v3 v4 a.1 i v24 v25 n (j : Int) [a.2]
 have e4 := aTH hb hr (by omega)
 generalize aAD (k, List.replicate r 0, x, y) (xV k) (k, List.replicate r 0, x, y) = b at hb e3 e4
 refine ⟨U5 a b, ha.step hb, ?_⟩
 show (bif ltI (j : Int) n then bif !(ltI (r : Int) 0) then bif !(ltI (r : Int) (r : Int)) then bif !(ltI 1048576 (r : Int)) then aB (f52 ((k, ((r : Int), m)), i, ())) _ else none else none else none else _) = _
 rw [bA, bA, bA, bA, decide_eq_true hj, decide_eq_false (show ¬ ((r : Int) < 0) by omega), decide_eq_false (show ¬ ((r : Int) < r) by omega), decide_eq_false (show ¬ (1048576 < (r : Int)) by omega)]
 show (aB (f52 ((k, ((r : Int), m)), i, ())) _) = _
 rw [e1, cQ]
 show (aB (f52 ((k, ((r : Int), m)), (j : Int), ())) _) = _
 rw [e2, cQ]
 show (aB (f38 (k, ())) _) = _
 rw [aXB, cQ]
 show (aB (EF ((k, ((r : Int), m)), v2, v3, v4, (), a.1, i, (k, List.replicate r 0, x, y), (k, List.replicate r 0, x, y), v24, v25, n, (j : Int), (FP k, ()), [a.2], ())) _) = _
 rw [e3, cQ]
 show (aB (f53 (b, ())) _) = _
 rw [e4, cQ]
 unfold U5
 show (bif MQ a.2 (aJD b) then (some (Sum.inl ((k, ((r : Int), m)), v2, v3, v4, (), a.1, i, v24, v25, n, aK .i64 ((j : Int) + 1), [a.2], ())) : Option (Shape.den JD ⊕ aT MV)) else (bif Nat.ble a.1.length 1048576 then (some (Sum.inl ((k, ((r : Int), m)), v2, v3, v4, (), a.1 ++ [b], i, v24, v25, n, aK .i64 ((j : Int) + 1), [aI3 a.2 (aJD b)], ())) : Option (Shape.den JD ⊕ aT MV)) else none)) = _
 rw [BV j (by omega)]
 cases hh : MQ a.2 (aJD b) with
 | true => rfl
 | false =>
  have := ha.len
  rw [pX, decide_eq_true (by omega)]
  rfl
theorem aIN {k m B : Int} {r : Nat} (hr : r ≤ 4) (hm0 : 0 ≤ m) (hm : r = 0 ∨ m ≤ B) (hB0 : 0 ≤ B) (hB : B ≤ 100000) (v2 : List Lay) (v3 v4 v24 v25 : Int) {i : Int} {n : Nat} (hi : 0 ≤ i ∧ i ≤ 1000000000) (hn : n ≤ 1000)
  {c : Nat} (hc : c + n ≤ 1000000) {a : List Lay × List ByteArray} (ha : AI k r (2 * B) c a) : ∃ a', AI k r (2 * B) (c + n) a' ∧
  DZ ((k, ((r : Int), m)), v2, v3, v4, (), a.1, i, v24, v25, (n : Int), 0, [a.2], ()) = some ((k, ((r : Int), m)), v2, v3, v4, (), a'.1, v24, v25, [a'.2], ()) := by
 have h := aOY (N := 2 ^ 64) (step := OQ) (Z := fun z => ∃ a', AI k r (2 * B) (c + n) a' ∧ z = ((k, ((r : Int), m)), v2, v3, v4, (), a'.1, v24, v25, [a'.2], ()))
  (fun t y => ∃ a', AI k r (2 * B) (c + t) a' ∧ y = ((k, ((r : Int), m)), v2, v3, v4, (), a'.1, i, v24, v25, (n : Int), (t : Int), [a'.2], ())) n ((k, ((r : Int), m)), v2, v3, v4, (), a.1, i, v24, v25, (n : Int), 0, [a.2], ()) (by omega) ⟨a, ha, rfl⟩ ?_ ?_
 ·obtain ⟨z, e1, a', h1, rfl⟩ := h
  exact ⟨a', h1, e1⟩
 ·rintro t y ht ⟨a', h1, rfl⟩
  obtain ⟨a2, h2, e2⟩ := aHH hr hm0 hm hB0 hB v2 v3 v4 v24 v25 (i := i) (n := (n : Int)) hi (j := t) (by omega) (by omega) (c := c + t) (by omega) h1
  exact ⟨_, e2, a2, h2, rfl⟩
 ·rintro y ⟨a', h1, rfl⟩
  refine ⟨_, ?_, a', h1, rfl⟩
  show (bif ltI (n : Int) (n : Int) then _ else _) = _
  rw [bA, decide_eq_false (by omega)]
  rfl
theorem aI9 {k m B : Int} {r : Nat} (hr : r ≤ 4) (hm0 : 0 ≤ m) (hm : r = 0 ∨ m ≤ B) (hB0 : 0 ≤ B) (hB : B ≤ 100000) {n : Nat} (hn : n ≤ 1000) : ∃ a', AI k r (2 * B) (n * n) a' ∧
  ID ((k, ((r : Int), m)), [], 0, (n : Int), (), [], (n : Int), 0, [[]], ()) = some (a'.1, [a'.2], ()) := by
 have h := aOY (N := 2 ^ 64) (step := WB) (Z := fun z => ∃ a', AI k r (2 * B) (n * n) a' ∧ z = (a'.1, [a'.2], ()))
  (fun t y => ∃ a', AI k r (2 * B) (t * n) a' ∧ y = ((k, ((r : Int), m)), [], 0, (n : Int), (), a'.1, (n : Int), (t : Int), [a'.2], ())) n ((k, ((r : Int), m)), [], 0, (n : Int), (), [], (n : Int), 0, [[]], ()) (by omega)
  ⟨([], []), ⟨fun x hx => (by cases hx), Nat.zero_le _, fun _ => rfl, fun h => absurd h (by simp)⟩, rfl⟩ ?_ ?_
 ·obtain ⟨z, e1, a', h1, rfl⟩ := h
  exact ⟨a', h1, e1⟩
 ·rintro t y ht ⟨a', h1, rfl⟩
  have hcc : t * n + n ≤ 1000000 := by
   have : (t + 1) * n ≤ 1000 * 1000 := Nat.mul_le_mul (by omega) hn
   rw [Nat.add_mul, Nat.one_mul] at this
   omega
  obtain ⟨a2, h2, e2⟩ := aIN hr hm0 hm hB0 hB [] 0 (n : Int) (n : Int) (t : Int) (i := (t : Int)) (n := n) (by omega) hn hcc h1
  refine ⟨_, ?_, a2, by rw [Nat.add_mul, Nat.one_mul]; exact h2, rfl⟩
  show (bif ltI (t : Int) (n : Int) then aB (DZ ((k, ((r : Int), m)), [], 0, (n : Int), (), a'.1, (t : Int), (n : Int), (t : Int), (n : Int), 0, [a'.2], ())) _ else _) = _
  rw [bA, decide_eq_true (by omega)]
  show (aB (DZ ((k, ((r : Int), m)), [], 0, (n : Int), (), a'.1, (t : Int), (n : Int), (t : Int), (n : Int), 0, [a'.2], ())) _) = _
  rw [e2, cQ]
  show (some (Sum.inl ((k, ((r : Int), m)), [], 0, (n : Int), (), a2.1, (n : Int), aK .i64 ((t : Int) + 1), [a2.2], ())) : Option (Shape.den MN ⊕ aT QX)) = _
  rw [BV t (by omega)]
 ·rintro y ⟨a', h1, rfl⟩
  refine ⟨_, ?_, a', h1, rfl⟩
  show (bif ltI (n : Int) (n : Int) then _ else _) = _
  rw [bA, decide_eq_false (by omega)]
  rfl
theorem aW7 {k m B : Int} {r : Nat} (hr : r ≤ 4) (hm0 : 0 ≤ m) (hm : r = 0 ∨ m ≤ B) (hB0 : 0 ≤ B) (hB : B ≤ 100000) {n : Nat} (hn0 : 0 < n) (hn : n ≤ 1000) (h51 : f51 ((k, ((r : Int), m)), ()) = some ((n : Int), 0, ())) :
  ∃ l, f32 ((k, ((r : Int), m)), ()) = some (l, 0, ()) ∧ 0 < l.length ∧ l.length ≤ n * n := by
 obtain ⟨a, ha, e1⟩ := aI9 (k := k) hr hm0 hm hB0 hB hn
 have hnn : 0 < n * n := Nat.mul_pos hn0 hn0
 have hne := ha.pos hnn
 have hlen := ha.len
 have hle : n * n ≤ 1000 * 1000 := Nat.mul_le_mul hn hn
 have hl0 : 0 < a.1.length := List.length_pos_iff.2 hne
 refine ⟨ZJ ltL a.1, ?_, by rw [TI]; exact hl0, by rw [TI]; exact hlen⟩
 unfold f32
 dsimp only
 rw [h51, cQ]
 show (aB (ID ((k, ((r : Int), m)), [], 0, (n : Int), (), [], (n : Int), 0, [[]], ())) _) = _
 rw [e1, cQ]
 show (aB (SM LC ltL a.1) _) = _
 have hs : SM LC ltL a.1 = some (ZJ ltL a.1) := by
  unfold SM
  have h1 : a.1.all (LC a.1) = true := by
   rw [List.all_eq_true]
   intro x hx
   have bx := ha.bl x hx
   cases hy : a.1 with
   | nil => exact absurd hy hne
   | cons y q =>
    have b_y := ha.bl y (by rw [hy]; simp)
    unfold LC
    dsimp only
    rw [decide_eq_true (show x.1 = y.1 by rw [bx.kind, b_y.kind]), decide_eq_true (show x.2.1 = y.2.1 by rw [bx.org, b_y.org]), pX, pX, decide_eq_true (show x.2.2.1.length ≤ 1048576 by rw [bx.rl]; omega), decide_eq_true (show x.2.2.2.length ≤ 1048576 by rw [bx.ul]; omega)]
    rfl
  rw [h1, iZ, iZ, decide_eq_true hl0, decide_eq_true (show a.1.length < 4611686018427387904 by omega)]
  rfl
 rw [hs, cQ]
end Go.PM
