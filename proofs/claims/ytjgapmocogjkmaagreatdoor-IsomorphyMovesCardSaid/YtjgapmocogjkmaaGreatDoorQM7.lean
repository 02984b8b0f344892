/- Texts of one proof, joined (7). -/
import Derived.Lib.AtoiTie
import Derived.Lib.ParseIntBTie
import Derived.Test.YtjgapmocogjkmaaGreatDoorQM6
set_option linter.unusedSimpArgs false
set_option linter.unusedVariables false
namespace Go.PM
open Go Go.RowKit Go.Proofs
set_option maxRecDepth 100000
set_option maxHeartbeats 4000000
/-! schisma/table.great -/
def uU (x : aH [.int .i64]) : Option (aH [.bool]) := match x with
 | (v0, ()) =>
  bif ltI 1000000000 v0 then
   some (true, ())
  else some (ltI v0 (-1000000000), ())
noncomputable def G7 : Code := aT Tryz.f111
abbrev RQ : Env := bI []
theorem WV : aZ Tryz.prog RQ := aY trivial
def M8 (id : Nat) : Option aR := none
theorem S9 : aF G7 = [] := by kernel_rfl
theorem WQ : ∀ x, bQ Tryz.prog RQ Tryz.f111 (aC Tryz.f111) M8 G7 [.int .i64] [.bool] x = uU x := by
 rintro ⟨v0, ⟨⟩⟩
 kernel_rfl
theorem aCC : cO Tryz.prog 111 [.int .i64] [.bool] uU := by
 exact bA aK WV Tryz.func111 (c := G7) (by kernel_rfl) (aU := aC Tryz.f111) (lt := M8) (aE S9 trivial) WQ
abbrev P4 : Ent := ⟨111, [.int .i64], [.bool], uU⟩
theorem WK : Ent.OK Tryz.prog P4 := aCC

/-! slices.IndexFunc[schisma/api.Row,int] -/
abbrev cH : List (Nat × Kd) := [(0, .list TyE), (1, .fn 111), (7, .int .i64), (8, .int .i64)]
abbrev dF : List (Ex × List (Nat × Kd)) := [(.ret, [(4, .int .i64)]), (.exit 0, [])]
def bZ (x : Shape.den cH) : Option (Shape.den cH ⊕ aV dF) := match x with
 | (v0, v1, v7, v8, ()) =>
  bif ltI v8 v7 then
   bif aP v8 v0.length then aB (uU ((v0.getD v8.toNat 0), ())) fun y2 =>
   bif y2.1 then
    some (.inr (.inl (v8, ())))
   else some (.inl (v0, (), v7, (aJ .i64 (v8 + 1)), ())) else none
  else some (.inr (.inr ((()))))
def eQ (x : Shape.den cH) : Option (aV dF) := bS bZ (2 ^ 64) x
def eM (x : aH [.list TyE, .fn 111]) : Option (aH [.int .i64]) := match x with
 | (v0, v1, ()) =>
  aB (eQ (v0, (), (v0.length : Int), 0, ())) fun z3 =>
  kT z3 (fun a4 => some (a4.1, ())) fun b5 =>
  some ((-1), ())
noncomputable def gG : Code := aT Tryz.f73
abbrev jX : Env := bI [P4]
theorem mA : aZ Tryz.prog jX := aY ⟨WK, trivial⟩
noncomputable def dS : Code := eD gG 0
def jI (id : Nat) : Option aR := bif Nat.beq id 2 then some ⟨cH, dF, eQ⟩ else none
theorem sF : ∀ x, dZ Tryz.prog jX 19 (aC Tryz.f73) jI dS cH dF x = bZ x := by
 rintro ⟨v0, v1, v7, v8, ⟨⟩⟩
 kernel_rfl
theorem uE : aF dS = [] := by kernel_rfl
theorem r7 : aG dS = 2 := by kernel_rfl
theorem sR : cL Tryz.prog 19 dS ⟨cH, dF, eQ⟩ := by
 exact cS mA.callee aK.mixed _ (aE uE trivial) sF
theorem tE : aF gG = [dS] := by kernel_rfl
theorem uI : ∀ x, bQ Tryz.prog jX Tryz.f73 (aC Tryz.f73) jI gG [.list TyE, .fn 111] [.int .i64] x = eM x := by
 rintro ⟨v0, v1, ⟨⟩⟩
 kernel_rfl
theorem vN : cO Tryz.prog 73 [.list TyE, .fn 111] [.int .i64] eM := by
 exact bA aK mA Tryz.func73 (c := gG) (by kernel_rfl) (aU := aC Tryz.f73) (lt := jI) (aE tE ⟨cR r7 rfl sR, trivial⟩) uI
abbrev n7 : Ent := ⟨73, [.list TyE, .fn 111], [.int .i64], eM⟩
theorem uF : Ent.OK Tryz.prog n7 := vN

/-! slices.ContainsFunc[schisma/api.Row,int] -/
def cJ (x : aH [.list TyE, .fn 111]) : Option (aH [.bool]) := match x with
 | (v0, v1, ()) =>
  aB (eM (v0, (), ())) fun y1 =>
  some (!(ltI y1.1 0), ())
noncomputable def iK : Code := aT Tryz.f55
abbrev l7 : Env := bI [n7]
theorem sC : aZ Tryz.prog l7 := aY ⟨uF, trivial⟩
def lY (id : Nat) : Option aR := none
theorem rP : aF iK = [] := by kernel_rfl
theorem r6 : ∀ x, bQ Tryz.prog l7 Tryz.f55 (aC Tryz.f55) lY iK [.list TyE, .fn 111] [.bool] x = cJ x := by
 rintro ⟨v0, v1, ⟨⟩⟩
 kernel_rfl
theorem sZ : cO Tryz.prog 55 [.list TyE, .fn 111] [.bool] cJ := by
 exact bA aK sC Tryz.func55 (c := iK) (by kernel_rfl) (aU := aC Tryz.f55) (lt := lY) (aE rP trivial) r6
abbrev l9 : Ent := ⟨55, [.list TyE, .fn 111], [.bool], cJ⟩
theorem sB : Ent.OK Tryz.prog l9 := sZ

/-! schisma/table.Check -/
abbrev mG : List (Nat × Kd) := [(0, .list TyD), (8, .list TyD), (9, .int .i64), (10, .int .i64)]
abbrev pN : List (Ex × List (Nat × Kd)) := [(.ret, [(2, .int .i64)]), (.exit 0, [])]
def kN (x : Shape.den mG) : Option (Shape.den mG ⊕ aV pN) := match x with
 | (v0, v8, v9, v10, ()) =>
  bif ltI v10 v9 then
   bif aP v10 v8.length then bif ltI 12 ((v8.getD v10.toNat []).length : Int) then
    some (.inr (.inl (4, ())))
   else bif aP 0 v0.length then bif !(eqI ((v8.getD v10.toNat []).length : Int) ((v0.getD 0 []).length : Int)) then
    some (.inr (.inl (5, ())))
   else aB (cJ ((v8.getD v10.toNat []), (), ())) fun y2 =>
   bif y2.1 then
    some (.inr (.inl (4, ())))
   else some (.inl (v0, v8, v9, (aJ .i64 (v10 + 1)), ())) else none else none
  else some (.inr (.inr ((()))))
def qA (x : Shape.den mG) : Option (aV pN) := bS kN (2 ^ 64) x
def rM (x : aH [.list TyD]) : Option (aH [.int .i64]) := match x with
 | (v0, ()) =>
  bif ltI 12 (v0.length : Int) then
   some (4, ())
  else aB (qA (v0, v0, (v0.length : Int), 0, ())) fun z3 =>
  kT z3 (fun a4 => some (a4.1, ())) fun b5 =>
  some (0, ())
noncomputable def zF : Code := aT Tryz.f110
abbrev H6 : Env := bI [l9]
theorem IY : aZ Tryz.prog H6 := aY ⟨sB, trivial⟩
noncomputable def qM : Code := eD zF 0
def D9 (id : Nat) : Option aR := bif Nat.beq id 4 then some ⟨mG, pN, qA⟩ else none
theorem PL : ∀ x, dZ Tryz.prog H6 30 (aC Tryz.f110) D9 qM mG pN x = kN x := by
 rintro ⟨v0, v8, v9, v10, ⟨⟩⟩
 kernel_rfl
theorem W2 : aF qM = [] := by kernel_rfl
theorem PI : aG qM = 4 := by kernel_rfl
theorem RV : cL Tryz.prog 30 qM ⟨mG, pN, qA⟩ := by
 exact cS IY.callee aK.mixed _ (aE W2 trivial) PL
theorem UZ : aF zF = [qM] := by kernel_rfl
theorem WT : ∀ x, bQ Tryz.prog H6 Tryz.f110 (aC Tryz.f110) D9 zF [.list TyD] [.int .i64] x = rM x := by
 rintro ⟨v0, ⟨⟩⟩
 kernel_rfl
theorem aBV : cO Tryz.prog 110 [.list TyD] [.int .i64] rM := by
 exact bA aK IY Tryz.func110 (c := zF) (by kernel_rfl) (aU := aC Tryz.f110) (lt := D9) (aE UZ ⟨cR PI rfl RV, trivial⟩) WT
abbrev RW : Ent := ⟨110, [.list TyD], [.int .i64], rM⟩
theorem WS : Ent.OK Tryz.prog RW := aBV

/-! schisma/hermite.pivot$1 -/
def lD (x : aH [.int .i64]) : Option (aH [.bool]) := match x with
 | (v0, ()) =>
  some (!(eqI v0 0), ())
noncomputable def wE : Code := aT Tryz.f206
abbrev E9 : Env := bI []
theorem MV : aZ Tryz.prog E9 := aY trivial
def DI (id : Nat) : Option aR := none
theorem KM : aF wE = [] := by kernel_rfl
theorem M3 : ∀ x, bQ Tryz.prog E9 Tryz.f206 (aC Tryz.f206) DI wE [.int .i64] [.bool] x = lD x := by
 rintro ⟨v0, ⟨⟩⟩
 kernel_rfl
theorem QA : cO Tryz.prog 206 [.int .i64] [.bool] lD := by
 exact bA aK MV Tryz.func206 (c := wE) (by kernel_rfl) (aU := aC Tryz.f206) (lt := DI) (aE KM trivial) M3
abbrev FI : Ent := ⟨206, [.int .i64], [.bool], lD⟩
theorem ML : Ent.OK Tryz.prog FI := QA

/-! slices.IndexFunc[schisma/api.Row,int] -/
abbrev cI : List (Nat × Kd) := [(0, .list TyE), (1, .fn 206), (7, .int .i64), (8, .int .i64)]
abbrev dD : List (Ex × List (Nat × Kd)) := [(.ret, [(4, .int .i64)]), (.exit 0, [])]
def cA (x : Shape.den cI) : Option (Shape.den cI ⊕ aV dD) := match x with
 | (v0, v1, v7, v8, ()) =>
  bif ltI v8 v7 then
   bif aP v8 v0.length then aB (lD ((v0.getD v8.toNat 0), ())) fun y2 =>
   bif y2.1 then
    some (.inr (.inl (v8, ())))
   else some (.inl (v0, (), v7, (aJ .i64 (v8 + 1)), ())) else none
  else some (.inr (.inr ((()))))
def eP (x : Shape.den cI) : Option (aV dD) := bS cA (2 ^ 64) x
def eI (x : aH [.list TyE, .fn 206]) : Option (aH [.int .i64]) := match x with
 | (v0, v1, ()) =>
  aB (eP (v0, (), (v0.length : Int), 0, ())) fun z3 =>
  kT z3 (fun a4 => some (a4.1, ())) fun b5 =>
  some ((-1), ())
noncomputable def gE : Code := aT Tryz.f73
abbrev jZ : Env := bI [FI]
theorem mC : aZ Tryz.prog jZ := aY ⟨ML, trivial⟩
noncomputable def dP : Code := eD gE 0
def jK (id : Nat) : Option aR := bif Nat.beq id 2 then some ⟨cI, dD, eP⟩ else none
theorem sE : ∀ x, dZ Tryz.prog jZ 19 (aC Tryz.f73) jK dP cI dD x = cA x := by
 rintro ⟨v0, v1, v7, v8, ⟨⟩⟩
 kernel_rfl
theorem uA : aF dP = [] := by kernel_rfl
theorem rW : aG dP = 2 := by kernel_rfl
theorem sL : cL Tryz.prog 19 dP ⟨cI, dD, eP⟩ := by
 exact cS mC.callee aK.mixed _ (aE uA trivial) sE
theorem tG : aF gE = [dP] := by kernel_rfl
theorem uB : ∀ x, bQ Tryz.prog jZ Tryz.f73 (aC Tryz.f73) jK gE [.list TyE, .fn 206] [.int .i64] x = eI x := by
 rintro ⟨v0, v1, ⟨⟩⟩
 kernel_rfl
theorem vL : cO Tryz.prog 73 [.list TyE, .fn 206] [.int .i64] eI := by
 exact bA aK mC Tryz.func73 (c := gE) (by kernel_rfl) (aU := aC Tryz.f73) (lt := jK) (aE tG ⟨cR rW rfl sL, trivial⟩) uB
abbrev oH : Ent := ⟨73, [.list TyE, .fn 206], [.int .i64], eI⟩
theorem uD : Ent.OK Tryz.prog oH := vL

/-! schisma/hermite.pivot -/
def nQ (x : aH [.list TyE]) : Option (aH [.int .i64]) := match x with
 | (v0, ()) =>
  aB (eI (v0, (), ())) fun y1 =>
  some (y1.1, ())
noncomputable def BS : Code := aT Tryz.f190
abbrev KQ : Env := bI [oH]
theorem R2 : aZ Tryz.prog KQ := aY ⟨uD, trivial⟩
def I7 (id : Nat) : Option aR := none
theorem OC : aF BS = [] := by kernel_rfl
theorem PT : ∀ x, bQ Tryz.prog KQ Tryz.f190 (aC Tryz.f190) I7 BS [.list TyE] [.int .i64] x = nQ x := by
 rintro ⟨v0, ⟨⟩⟩
 kernel_rfl
theorem W8 : cO Tryz.prog 190 [.list TyE] [.int .i64] nQ := by
 exact bA aK R2 Tryz.func190 (c := BS) (by kernel_rfl) (aU := aC Tryz.f190) (lt := I7) (aE OC trivial) PT
abbrev KV : Ent := ⟨190, [.list TyE], [.int .i64], nQ⟩
theorem P7 : Ent.OK Tryz.prog KV := W8

/-! schisma/hermite.isForm$1 -/
def lW (x : aH [.list TyE, .ptr TyE, .ptr TyD]) : Option (aH [.bool]) := match x with
 | (v0, v1, v2, ()) =>
  bif aP v1 v0.length then bif ltI (v0.getD v1.toNat 0) 0 then
   some (true, ())
  else bif aP v1 v0.length then bif aP v1 v2.length then some (!(ltI (v0.getD v1.toNat 0) (v2.getD v1.toNat 0)), ()) else none else none else none
noncomputable def s9 : Code := aT Tryz.f192
abbrev BZ : Env := bI []
theorem JB : aZ Tryz.prog BZ := aY trivial
def yY (id : Nat) : Option aR := none
theorem GN : aF s9 = [] := by kernel_rfl
theorem JD : ∀ x, bQ Tryz.prog BZ Tryz.f192 (aC Tryz.f192) yY s9 [.list TyE, .ptr TyE, .ptr TyD] [.bool] x = lW x := by
 rintro ⟨v0, v1, v2, ⟨⟩⟩
 kernel_rfl
theorem MQ : cO Tryz.prog 192 [.list TyE, .ptr TyE, .ptr TyD] [.bool] lW := by
 exact bA aK JB Tryz.func192 (c := s9) (by kernel_rfl) (aU := aC Tryz.f192) (lt := yY) (aE GN trivial) JD
abbrev BP : Ent := ⟨192, [.list TyE, .ptr TyE, .ptr TyD], [.bool], lW⟩
theorem JK : Ent.OK Tryz.prog BP := MQ

/-! slices.IndexFunc[schisma/api.Matrix,schisma/api.Row] -/
abbrev bO : List (Nat × Kd) := [(0, .list TyD), (1, .clo 192 [TyE, TyD]), (7, .int .i64), (8, .int .i64)]
abbrev cC : List (Ex × List (Nat × Kd)) := [(.ret, [(4, .int .i64)]), (.exit 0, [])]
def bJ (x : Shape.den bO) : Option (Shape.den bO ⊕ aV cC) := match x with
 | (v0, v1, v7, v8, ()) =>
  bif ltI v8 v7 then
   bif aP v8 v0.length then aB (lW ((v0.getD v8.toNat []), v1.1, v1.2.1, ())) fun y2 =>
   bif y2.1 then
    some (.inr (.inl (v8, ())))
   else some (.inl (v0, (v1.1, v1.2.1, ()), v7, (aJ .i64 (v8 + 1)), ())) else none
  else some (.inr (.inr ((()))))
def cY (x : Shape.den bO) : Option (aV cC) := bS bJ (2 ^ 64) x
def cP (x : aH [.list TyD, .clo 192 [TyE, TyD]]) : Option (aH [.int .i64]) := match x with
 | (v0, v1, ()) =>
  aB (cY (v0, (v1.1, v1.2.1, ()), (v0.length : Int), 0, ())) fun z3 =>
  kT z3 (fun a4 => some (a4.1, ())) fun b5 =>
  some ((-1), ())
noncomputable def dX : Code := aT Tryz.f207
abbrev gH : Env := bI [BP]
theorem jS : aZ Tryz.prog gH := aY ⟨JK, trivial⟩
noncomputable def cF : Code := eD dX 0
def gB (id : Nat) : Option aR := bif Nat.beq id 2 then some ⟨bO, cC, cY⟩ else none
theorem oM : ∀ x, dZ Tryz.prog gH 19 (aC Tryz.f207) gB cF bO cC x = bJ x := by
 rintro ⟨v0, v1, v7, v8, ⟨⟩⟩
 kernel_rfl
theorem pZ : aF cF = [] := by kernel_rfl
theorem oK : aG cF = 2 := by kernel_rfl
theorem pG : cL Tryz.prog 19 cF ⟨bO, cC, cY⟩ := by
 exact cS jS.callee aK.mixed _ (aE pZ trivial) oM
theorem pL : aF dX = [cF] := by kernel_rfl
theorem p9 : ∀ x, bQ Tryz.prog gH Tryz.f207 (aC Tryz.f207) gB dX [.list TyD, .clo 192 [TyE, TyD]] [.int .i64] x = cP x := by
 rintro ⟨v0, v1, ⟨⟩⟩
 kernel_rfl
theorem qS : cO Tryz.prog 207 [.list TyD, .clo 192 [TyE, TyD]] [.int .i64] cP := by
 exact bA aK jS Tryz.func207 (c := dX) (by kernel_rfl) (aU := aC Tryz.f207) (lt := gB) (aE pL ⟨cR oK rfl pG, trivial⟩) p9
abbrev kO : Ent := ⟨207, [.list TyD, .clo 192 [TyE, TyD]], [.int .i64], cP⟩
theorem p5 : Ent.OK Tryz.prog kO := qS

/-! slices.ContainsFunc[schisma/api.Matrix,schisma/api.Row] -/
def bN (x : aH [.list TyD, .clo 192 [TyE, TyD]]) : Option (aH [.bool]) := match x with
 | (v0, v1, ()) =>
  aB (cP (v0, (v1.1, v1.2.1, ()), ())) fun y1 =>
  some (!(ltI y1.1 0), ())
noncomputable def fL : Code := aT Tryz.f191
abbrev jP : Env := bI [kO]
theorem oN : aZ Tryz.prog jP := aY ⟨p5, trivial⟩
def jD (id : Nat) : Option aR := none
theorem nZ : aF fL = [] := by kernel_rfl
theorem oI : ∀ x, bQ Tryz.prog jP Tryz.f191 (aC Tryz.f191) jD fL [.list TyD, .clo 192 [TyE, TyD]] [.bool] x = bN x := by
 rintro ⟨v0, v1, ⟨⟩⟩
 kernel_rfl
theorem pM : cO Tryz.prog 191 [.list TyD, .clo 192 [TyE, TyD]] [.bool] bN := by
 exact bA aK oN Tryz.func191 (c := fL) (by kernel_rfl) (aU := aC Tryz.f191) (lt := jD) (aE nZ trivial) oI
abbrev jV : Ent := ⟨191, [.list TyD, .clo 192 [TyE, TyD]], [.bool], bN⟩
theorem oJ : Ent.OK Tryz.prog jV := pM

/-! schisma/hermite.isForm -/
abbrev jY : List (Nat × Kd) := [(0, .list TyD), (3, .int .i64), (7, .list TyD), (8, .int .i64), (9, .int .i64)]
abbrev lV : List (Ex × List (Nat × Kd)) := [(.ret, [(2, .bool)]), (.exit 0, [])]
def hZ (x : Shape.den jY) : Option (Shape.den jY ⊕ aV lV) := match x with
 | (v0, v3, v7, v8, v9, ()) =>
  bif ltI v9 v8 then
   bif aP v9 v7.length then aB (nQ ((v7.getD v9.toNat []), ())) fun y3 =>
   bif !(ltI v3 y3.1) then
    some (.inr (.inl (false, ())))
   else bif aP y3.1 (v7.getD v9.toNat []).length then bif ltI ((v7.getD v9.toNat []).getD y3.1.toNat 0) 0 then
    some (.inr (.inl (false, ())))
   else bif !(ltI v9 0) then bif Nat.ble 0 v9.toNat then bif Nat.ble v9.toNat v0.length then aB (bN (((v0.drop 0).take (v9.toNat - 0)), (y3.1, (v7.getD v9.toNat []), ()), ())) fun y4 =>
   bif y4.1 then
    some (.inr (.inl (false, ())))
   else some (.inl (v0, y3.1, v7, v8, (aJ .i64 (v9 + 1)), ())) else none else none else none else none else none
  else some (.inr (.inr ((()))))
def mV (x : Shape.den jY) : Option (aV lV) := bS hZ (2 ^ 64) x
def mF (x : aH [.list TyD]) : Option (aH [.bool]) := match x with
 | (v0, ()) =>
  aB (mV (v0, (-1), v0, (v0.length : Int), 0, ())) fun z5 =>
  kT z5 (fun a6 => some (a6.1, ())) fun b7 =>
  some (true, ())
noncomputable def sT : Code := aT Tryz.f167
abbrev yD : Env := bI [KV, jV]
theorem CM : aZ Tryz.prog yD := aY ⟨P7, oJ, trivial⟩
noncomputable def mS : Code := eD sT 0
def vX (id : Nat) : Option aR := bif Nat.beq id 3 then some ⟨jY, lV, mV⟩ else none
theorem JA : ∀ x, dZ Tryz.prog yD 33 (aC Tryz.f167) vX mS jY lV x = hZ x := by
 rintro ⟨v0, v3, v7, v8, v9, ⟨⟩⟩
 kernel_rfl
theorem N9 : aF mS = [] := by kernel_rfl
theorem JH : aG mS = 3 := by kernel_rfl
theorem K7 : cL Tryz.prog 33 mS ⟨jY, lV, mV⟩ := by
 exact cS CM.callee aK.mixed _ (aE N9 trivial) JA
theorem MW : aF sT = [mS] := by kernel_rfl
theorem PK : ∀ x, bQ Tryz.prog yD Tryz.f167 (aC Tryz.f167) vX sT [.list TyD] [.bool] x = mF x := by
 rintro ⟨v0, ⟨⟩⟩
 kernel_rfl
theorem TF : cO Tryz.prog 167 [.list TyD] [.bool] mF := by
 exact bA aK CM Tryz.func167 (c := sT) (by kernel_rfl) (aU := aC Tryz.f167) (lt := vX) (aE MW ⟨cR JH rfl K7, trivial⟩) PK
abbrev IQ : Ent := ⟨167, [.list TyD], [.bool], mF⟩
theorem ON : Ent.OK Tryz.prog IQ := TF

/-! schisma/hermite.IsForm -/
def pJ (x : aH [.list TyD]) : Option (aH [.bool, .int .i64]) := match x with
 | (v0, ()) =>
  aB (rM (v0, ())) fun y1 =>
  bif !(eqI y1.1 0) then
   some (false, y1.1, ())
  else aB (mF (v0, ())) fun y2 =>
  some (y2.1, 0, ())
noncomputable def yH : Code := aT Tryz.f140
abbrev I5 : Env := bI [IQ, RW]
theorem NZ : aZ Tryz.prog I5 := aY ⟨ON, WS, trivial⟩
def E2 (id : Nat) : Option aR := none
theorem MI : aF yH = [] := by kernel_rfl
theorem OO : ∀ x, bQ Tryz.prog I5 Tryz.f140 (aC Tryz.f140) E2 yH [.list TyD] [.bool, .int .i64] x = pJ x := by
 rintro ⟨v0, ⟨⟩⟩
 kernel_rfl
theorem S6 : cO Tryz.prog 140 [.list TyD] [.bool, .int .i64] pJ := by
 exact bA aK NZ Tryz.func140 (c := yH) (by kernel_rfl) (aU := aC Tryz.f140) (lt := E2) (aE MI trivial) OO
abbrev I0 : Ent := ⟨140, [.list TyD], [.bool, .int .i64], pJ⟩
theorem N1 : Ent.OK Tryz.prog I0 := S6

/-! schisma/lattice.Check -/
def n9 (x : aH [.agg (.prod TyE TyC)]) : Option (aH [.int .i64]) := match x with
 | (v0, ()) =>
  aB (lJ (v0.1, v0.2, ())) fun y1 =>
  bif !(eqI y1.1 0) then
   some (y1.1, ())
  else aB (pJ (v0.2, ())) fun y2 =>
  bif !(eqI y2.2.1 0) then
   some (7, ())
  else bif y2.1 then
   some (0, ())
  else some (7, ())
noncomputable def CO : Code := aT Tryz.f107
abbrev K6 : Env := bI [I0, A7]
theorem P0 : aZ Tryz.prog K6 := aY ⟨N1, C7, trivial⟩
def IV (id : Nat) : Option aR := none
theorem OD : aF CO = [] := by kernel_rfl
theorem QW : ∀ x, bQ Tryz.prog K6 Tryz.f107 (aC Tryz.f107) IV CO [.agg (.prod TyE TyC)] [.int .i64] x = n9 x := by
 rintro ⟨v0, ⟨⟩⟩
 kernel_rfl
theorem W0 : cO Tryz.prog 107 [.agg (.prod TyE TyC)] [.int .i64] n9 := by
 exact bA aK P0 Tryz.func107 (c := CO) (by kernel_rfl) (aU := aC Tryz.f107) (lt := IV) (aE OD trivial) QW
abbrev JV : Ent := ⟨107, [.agg (.prod TyE TyC)], [.int .i64], n9⟩
theorem Q3 : Ent.OK Tryz.prog JV := W0

/-! schisma/lattice.checkRow -/
def kK (x : aH [.agg (.prod TyE TyC), .list TyE]) : Option (aH [.int .i64]) := match x with
 | (v0, v1, ()) =>
  aB (n9 ((v0.1, v0.2), ())) fun y1 =>
  bif !(eqI y1.1 0) then
   some (y1.1, ())
  else aB (sV (v1, ())) fun y2 =>
  bif !(eqI y2.1 0) then
   some (y2.1, ())
  else bif !(eqI (v1.length : Int) v0.1) then
   some (5, ())
  else some (0, ())
noncomputable def uV : Code := aT Tryz.f80
abbrev DQ : Env := bI [JV, O4]
theorem LV : aZ Tryz.prog DQ := aY ⟨Q3, NQ, trivial⟩
def A9 (id : Nat) : Option aR := none
theorem JR : aF uV = [] := by kernel_rfl
theorem K9 : ∀ x, bQ Tryz.prog DQ Tryz.f80 (aC Tryz.f80) A9 uV [.agg (.prod TyE TyC), .list TyE] [.int .i64] x = kK x := by
 rintro ⟨v0, v1, ⟨⟩⟩
 kernel_rfl
theorem OQ : cO Tryz.prog 80 [.agg (.prod TyE TyC), .list TyE] [.int .i64] kK := by
 exact bA aK LV Tryz.func80 (c := uV) (by kernel_rfl) (aU := aC Tryz.f80) (lt := A9) (aE JR trivial) K9
abbrev DR : Ent := ⟨80, [.agg (.prod TyE TyC), .list TyE], [.int .i64], kK⟩
theorem JU : Ent.OK Tryz.prog DR := OQ

/-! (schisma/lattice.Lattice).pivots -/
def iG (x : aH [.agg (.prod TyE TyC)]) : Option (aH [.clo 141 [(.prod TyE TyC)]]) := match x with
 | (v0, ()) =>
  some (((v0.1, v0.2), ()), ())
noncomputable def oE : Code := aT Tryz.f108
abbrev tK : Env := bI []
theorem B4 : aZ Tryz.prog tK := aY trivial
def sH (id : Nat) : Option aR := none
theorem zG : aF oE = [] := by kernel_rfl
theorem CF : ∀ x, bQ Tryz.prog tK Tryz.f108 (aC Tryz.f108) sH oE [.agg (.prod TyE TyC)] [.clo 141 [(.prod TyE TyC)]] x = iG x := by
 rintro ⟨v0, ⟨⟩⟩
 kernel_rfl
theorem D6 : cO Tryz.prog 108 [.agg (.prod TyE TyC)] [.clo 141 [(.prod TyE TyC)]] iG := by
 exact bA aK B4 Tryz.func108 (c := oE) (by kernel_rfl) (aU := aC Tryz.f108) (lt := sH) (aE zG trivial) CF
abbrev tV : Ent := ⟨108, [.agg (.prod TyE TyC)], [.clo 141 [(.prod TyE TyC)]], iG⟩
theorem CA : Ent.OK Tryz.prog tV := D6

/-! (schisma/lattice.Lattice).reduce -/
abbrev bP : List (Nat × Kd) := [(4, .bown 137 144 .str), (5, .bown 137 144 .str), (14, .clo 141 [(.prod TyE TyC)])]
abbrev dA : List (Ex × List (Nat × Kd)) := [(.normal, [(4, .bown 137 144 .str), (5, .bown 137 144 .str)])]
def fD (x : Shape.den bP) (e : aH [.int .i64, .list .str]) : Option (Shape.den bP ⊕ aV dA) := match x, e with
 | (v4, v5, v14, ()), (e0, e1, ()) =>
  bif aP e0 v4.length then bif Nat.blt e0.toNat v4.length then bif aP e0 e1.length then aB (lA ((v4.getD e0.toNat ByteArray.empty), (e1.getD e0.toNat ByteArray.empty), ())) fun y3 =>
  aB (aMF eU v4 (y3.1, e1, ())) fun y4 =>
  bif Nat.ble [y3.1].length 1048576 then bif Nat.ble v5.length 1048576 then some (.inl (y4, (v5 ++ [y3.1]), ((v14.1.1, v14.1.2), ()), ())) else none else none else none else none else none
def k7 (x : Shape.den bP) : uJ [(.prod TyE TyC)] := match x with
 | (v4, v5, v14, ()) => ((v14.1.1, v14.1.2), ())
def fB (x : Shape.den bP) : Option (aV dA) := TT bP dA (fun x => QM (k7 x)) fD x
def fU (x : aH [.agg (.prod TyE TyC), .list TyE]) : Option (aH [.list .str, .list .str]) := match x with
 | (v0, v1, ()) =>
  aB (jW (v1, ())) fun y1 =>
  aB (iG ((v0.1, v0.2), ())) fun y2 =>
  aB (fB (y1, [], ((y2.1.1.1, y2.1.1.2), ()), ())) fun z5 =>
  some (z5.1, z5.2.1, ())
noncomputable def kQ : Code := aT Tryz.f81
abbrev nW : Env := aGC [tV, EA] [vT, vP]
theorem qG : aZ Tryz.prog nW := DD ⟨CA, E6, trivial⟩ ⟨zD, D3, trivial⟩
noncomputable def bG : Code := KX kQ 0
noncomputable def rS : Code := inLoop bG
def mX (id : Nat) : Option aR := none
def nC (id : Nat) : Option aR := bif Nat.beq id 5 then some ⟨bP, dA, fB⟩ else none
theorem xM : aG rS = 5 := by kernel_rfl
theorem BD : cD rS = [] := by kernel_rfl
theorem pP : bG = .rangeFunc (DM bG) (RG bG) (lS bG) (inLoop bG) := by kernel_rfl
theorem xZ : ∀ y e, JX Tryz.prog nW 40 (rU Tryz.f81) mX nC (RG bG).toList (lS bG) (inLoop bG) [.int .i64, .list .str] bP dA y e = fD y e := by
 rintro ⟨v4, v5, v14, ⟨⟩⟩ ⟨e0, e1, ⟨⟩⟩
 kernel_rfl
theorem zN : ∀ x, aAI 141 [(.prod TyE TyC)] bP (DM bG) x = some (k7 x) := by
 rintro ⟨v4, v5, v14, ⟨⟩⟩
 kernel_rfl
theorem yL : vG Tryz.prog 40 false [] bG ⟨bP, dA, fB⟩ := by
 exact GF qG aK pP Tryz.func141 (c := aT Tryz.f141) (by kernel_rfl) aQA (by kernel_rfl) (nP BD trivial) zN xZ
theorem zR : cD kQ = [bG] := by kernel_rfl
theorem B0 : ∀ x, VU Tryz.prog nW Tryz.f81 (rU Tryz.f81) mX nC kQ [.agg (.prod TyE TyC), .list TyE] [.list .str, .list .str] x = fU x := by
 rintro ⟨v0, v1, ⟨⟩⟩
 kernel_rfl
theorem DZ : cO Tryz.prog 81 [.agg (.prod TyE TyC), .list TyE] [.list .str, .list .str] fU := by
 exact LX aK qG Tryz.func81 (c := kQ) (by kernel_rfl) (aU := rU Tryz.f81) (lt := mX) (rt := nC) (nP zR ⟨AW pP xM rfl yL, trivial⟩) B0
abbrev tU : Ent := ⟨81, [.agg (.prod TyE TyC), .list TyE], [.list .str, .list .str], fU⟩
theorem B9 : Ent.OK Tryz.prog tU := DZ

/-! schisma/lattice.Represent -/
def c7 (x : aH [.agg (.prod TyE TyC), .list TyE]) : Option (aH [.list TyE, .int .i64]) := match x with
 | (v0, v1, ()) =>
  aB (kK ((v0.1, v0.2), v1, ())) fun y1 =>
  bif !(eqI y1.1 0) then
   some ([], y1.1, ())
  else aB (fU ((v0.1, v0.2), v1, ())) fun y2 =>
  aB (iW (y2.1, ())) fun y3 =>
  some (y3.1, y3.2.1, ())
noncomputable def tD : Code := aT Tryz.f68
abbrev CQ : Env := bI [tU, DR, zC]
theorem JJ : aZ Tryz.prog CQ := aY ⟨B9, JU, GQ, trivial⟩
def yW (id : Nat) : Option aR := none
theorem HX : aF tD = [] := by kernel_rfl
theorem JF : ∀ x, bQ Tryz.prog CQ Tryz.f68 (aC Tryz.f68) yW tD [.agg (.prod TyE TyC), .list TyE] [.list TyE, .int .i64] x = c7 x := by
 rintro ⟨v0, v1, ⟨⟩⟩
 kernel_rfl
theorem MT : cO Tryz.prog 68 [.agg (.prod TyE TyC), .list TyE] [.list TyE, .int .i64] c7 := by
 exact bA aK JJ Tryz.func68 (c := tD) (by kernel_rfl) (aU := aC Tryz.f68) (lt := yW) (aE HX trivial) JF
abbrev B8 : Ent := ⟨68, [.agg (.prod TyE TyC), .list TyE], [.list TyE, .int .i64], c7⟩
theorem JE : Ent.OK Tryz.prog B8 := MT
end Go.PM
set_option linter.unusedSimpArgs false
set_option linter.unusedVariables false
namespace Go.PM
open Go Go.RowKit Go.Proofs
set_option maxRecDepth 100000
set_option maxHeartbeats 4000000
/-! schisma/isomorphy.turns -/
def f38 (x : aH [.int .i64]) : Option (aH [.clo 62 [(.list TyF)]]) := match x with
 | (v0, ()) =>
  aB (f61 (v0, ())) fun y1 =>
  some ((y1.1, ()), ())
noncomputable def c38 : Code := aT Tryz.f38
abbrev E38 : Env := bI [e61]
theorem a01 : aZ Tryz.prog E38 := aY ⟨a2Z, trivial⟩
def a4B (id : Nat) : Option aR := none
theorem aWA : aF c38 = [] := by kernel_rfl
theorem a1R : ∀ x, bQ Tryz.prog E38 Tryz.f38 (aC Tryz.f38) a4B c38 [.int .i64] [.clo 62 [(.list TyF)]] x = f38 x := by
 rintro ⟨v0, ⟨⟩⟩
 kernel_rfl
theorem a5V : cO Tryz.prog 38 [.int .i64] [.clo 62 [(.list TyF)]] f38 := by
 exact bA aK a01 Tryz.func38 (c := c38) (by kernel_rfl) (aU := aC Tryz.f38) (lt := a4B) (aE aWA trivial) a1R
abbrev e38 : Ent := ⟨38, [.int .i64], [.clo 62 [(.list TyF)]], f38⟩
theorem aGP : Ent.OK Tryz.prog e38 := a5V

/-! schisma/isomorphy.Turn -/
abbrev DY : List (Nat × Kd) := [(2, .box 25 TyA), (3, .box 27 TyB), (4, .box 25 TyA), (5, .box 30 TyE), (16, .clo 62 [(.list TyF)])]
abbrev NW : List (Ex × List (Nat × Kd)) := [(.normal, [(4, .box 25 TyA), (5, .box 30 TyE)]), (.ret, [(4, .box 25 TyA), (5, .box 30 TyE)])]
def SK (x : Shape.den DY) (e : aH [.agg TyB]) : Option (Shape.den DY ⊕ aV NW) := match x, e with
 | (v2, v3, v4, v5, v16, ()), (e0, ()) =>
  bif (eqI v3.1 e0.1 && (eqI v3.2.1 e0.2.1 && (eqI v3.2.2.1 e0.2.2.1 && (eqI v3.2.2.2 e0.2.2.2 && true)))) then
   aB (f40 (v2, v3, ())) fun y3 =>
   aB (f39 (y3.1, ())) fun y4 =>
   some (.inr (.inr ((y4.1, y4.2.1, ()))))
  else some (.inl (v2, v3, v4, v5, (v16.1, ()), ()))
def aEX (x : Shape.den DY) : uJ [(.list TyF)] := match x with
 | (v2, v3, v4, v5, v16, ()) => (v16.1, ())
def GG (x : Shape.den DY) : Option (aV NW) := TT DY NW (fun x => AV (aEX x)) SK x
def f15 (x : aH [.agg TyA, .agg TyB]) : Option (aH [.agg TyA, .int .i64]) := match x with
 | (v0, v1, ()) =>
  aB (f24 (v0, ())) fun y1 =>
  bif !(eqI y1.1 0) then
   some ((0, ([], ([], []))), y1.1, ())
  else aB (f38 (v0.1, ())) fun y2 =>
  aB (GG (v0, v1, (0, ([], ([], []))), 0, (y2.1.1, ()), ())) fun z5 =>
  kT z5 (fun a6 => some ((0, ([], ([], []))), 10, ())) fun b7 =>
  some (b7.1, b7.2.1, ())
noncomputable def c15 : Code := aT Tryz.f15
abbrev E15 : Env := bI [e24, e38, e39, e40]
theorem aUO : aZ Tryz.prog E15 := aY ⟨aAX, aGP, aMN, aE4, trivial⟩
noncomputable def IL : Code := KX c15 0
noncomputable def aY8 : Code := inLoop IL
def aZ8 (id : Nat) : Option aR := none
def a1N (id : Nat) : Option aR := bif Nat.beq id 6 then some ⟨DY, NW, GG⟩ else none
theorem aO9 : aG aY8 = 6 := by kernel_rfl
theorem a3Z : cD aY8 = [] := by kernel_rfl
theorem aIO : IL = .rangeFunc (DM IL) (RG IL) (lS IL) (inLoop IL) := by kernel_rfl
theorem aQY : ∀ y e, JX Tryz.prog E15 28 (rU Tryz.f15) aZ8 a1N (RG IL).toList (lS IL) (inLoop IL) [.agg TyB] DY NW y e = SK y e := by
 rintro ⟨v2, v3, v4, v5, v16, ⟨⟩⟩ ⟨e0, ⟨⟩⟩
 kernel_rfl
theorem aWT : ∀ x, aAI 62 [(.list TyF)] DY (DM IL) x = some (aEX x) := by
 rintro ⟨v2, v3, v4, v5, v16, ⟨⟩⟩
 kernel_rfl
theorem aS4 : vG Tryz.prog 28 false [] IL ⟨DY, NW, GG⟩ := by
 exact GF aUO aK aIO Tryz.func62 (c := aT Tryz.f62) (by kernel_rfl) aWG (by kernel_rfl) (nP a3Z trivial) aWT aQY
theorem aXI : cD c15 = [IL] := by kernel_rfl
theorem a0V : ∀ x, VU Tryz.prog E15 Tryz.f15 (rU Tryz.f15) aZ8 a1N c15 [.agg TyA, .agg TyB] [.agg TyA, .int .i64] x = f15 x := by
 rintro ⟨v0, v1, ⟨⟩⟩
 kernel_rfl
theorem a6S : cO Tryz.prog 15 [.agg TyA, .agg TyB] [.agg TyA, .int .i64] f15 := by
 exact LX aK aUO Tryz.func15 (c := c15) (by kernel_rfl) (aU := rU Tryz.f15) (lt := aZ8) (rt := a1N) (nP aXI ⟨AW aIO aO9 rfl aS4, trivial⟩) a0V
abbrev e15 : Ent := ⟨15, [.agg TyA, .agg TyB], [.agg TyA, .int .i64], f15⟩
theorem a0K : Ent.OK Tryz.prog e15 := a6S

/-! schisma/isomorphy.Fixed -/
abbrev DW : List (Nat × Kd) := [(1, .box 25 TyA), (2, .own 27 TyB), (3, .int .i64), (5, .bown 34 27 TyB), (14, .clo 62 [(.list TyF)])]
abbrev OE : List (Ex × List (Nat × Kd)) := [(.normal, [(5, .bown 34 27 TyB)])]
def RR (x : Shape.den DW) (e : aH [.agg TyB]) : Option (Shape.den DW ⊕ aV OE) := match x, e with
 | (v1, v2, v3, v5, v14, ()), (e0, ()) =>
  aB (f40 (v1, e0, ())) fun y3 =>
  aB (f48 (y3.1, v1, ())) fun y4 =>
  bif eqI y4.1 0 then
   bif Nat.ble [e0].length 1048576 then bif Nat.ble v5.length 1048576 then some (.inl (v1, v2, v3, (v5 ++ [e0]), (v14.1, ()), ())) else none else none
  else some (.inl (v1, v2, v3, v5, (v14.1, ()), ()))
def aE7 (x : Shape.den DW) : uJ [(.list TyF)] := match x with
 | (v1, v2, v3, v5, v14, ()) => (v14.1, ())
def FZ (x : Shape.den DW) : Option (aV OE) := TT DW OE (fun x => AV (aE7 x)) RR x
def f28 (x : aH [.agg TyA]) : Option (aH [.list TyB, .int .i64]) := match x with
 | (v0, ()) =>
  aB (f24 (v0, ())) fun y1 =>
  bif !(eqI y1.1 0) then
   some ([], y1.1, ())
  else aB (f38 (v0.1, ())) fun y2 =>
  aB (FZ (v0, [], 0, [], (y2.1.1, ()), ())) fun z5 =>
  some (z5.1, 0, ())
noncomputable def c28 : Code := aT Tryz.f28
abbrev E28 : Env := bI [e24, e38, e40, e48]
theorem aSX : aZ Tryz.prog E28 := aY ⟨aAX, aGP, aE4, aLL, trivial⟩
noncomputable def IN : Code := KX c28 0
noncomputable def aY9 : Code := inLoop IN
def aZY (id : Nat) : Option aR := none
def aZM (id : Nat) : Option aR := bif Nat.beq id 7 then some ⟨DW, OE, FZ⟩ else none
theorem aO2 : aG aY9 = 7 := by kernel_rfl
theorem a3B : cD aY9 = [] := by kernel_rfl
theorem aIK : IN = .rangeFunc (DM IN) (RG IN) (lS IN) (inLoop IN) := by kernel_rfl
theorem aPT : ∀ y e, JX Tryz.prog E28 27 (rU Tryz.f28) aZY aZM (RG IN).toList (lS IN) (inLoop IN) [.agg TyB] DW OE y e = RR y e := by
 rintro ⟨v1, v2, v3, v5, v14, ⟨⟩⟩ ⟨e0, ⟨⟩⟩
 kernel_rfl
theorem aXZ : ∀ x, aAI 62 [(.list TyF)] DW (DM IN) x = some (aE7 x) := by
 rintro ⟨v1, v2, v3, v5, v14, ⟨⟩⟩
 kernel_rfl
theorem aRL : vG Tryz.prog 27 false [] IN ⟨DW, OE, FZ⟩ := by
 exact GF aSX aK aIK Tryz.func62 (c := aT Tryz.f62) (by kernel_rfl) aWG (by kernel_rfl) (nP a3B trivial) aXZ aPT
theorem aVW : cD c28 = [IN] := by kernel_rfl
theorem a1T : ∀ x, VU Tryz.prog E28 Tryz.f28 (rU Tryz.f28) aZY aZM c28 [.agg TyA] [.list TyB, .int .i64] x = f28 x := by
 rintro ⟨v0, ⟨⟩⟩
 kernel_rfl
theorem a6Y : cO Tryz.prog 28 [.agg TyA] [.list TyB, .int .i64] f28 := by
 exact LX aK aSX Tryz.func28 (c := c28) (by kernel_rfl) (aU := rU Tryz.f28) (lt := aZY) (rt := aZM) (nP aVW ⟨AW aIK aO2 rfl aRL, trivial⟩) a1T
abbrev e28 : Ent := ⟨28, [.agg TyA], [.list TyB, .int .i64], f28⟩
theorem aRO : Ent.OK Tryz.prog e28 := a6Y

/-! schisma/isomorphy.canonical -/
abbrev BA : List (Nat × Kd) := [(1, .box 25 TyA), (2, .box 25 TyA), (3, .box 27 TyB), (4, .box 30 TyE), (5, .box 25 TyA), (6, .box 27 TyB), (7, .box 4 .bool), (15, .clo 62 [(.list TyF)])]
abbrev K2 : List (Ex × List (Nat × Kd)) := [(.normal, [(1, .box 25 TyA), (2, .box 25 TyA), (3, .box 27 TyB), (4, .box 30 TyE), (5, .box 25 TyA), (6, .box 27 TyB)]), (.ret, [(2, .box 25 TyA), (3, .box 27 TyB), (4, .box 30 TyE)])]
def FM (x : Shape.den BA) (e : aH [.agg TyB]) : Option (Shape.den BA ⊕ aV K2) := match x, e with
 | (v1, v2, v3, v4, v5, v6, v7, v15, ()), (e0, ()) =>
  aB (f40 (v1, e0, ())) fun y2 =>
  aB (f39 (y2.1, ())) fun y3 =>
  bif !(eqI y3.2.1 0) then
   some (.inr (.inr (((0, ([], ([], []))), (0, (0, (0, 0))), y3.2.1, ()))))
  else bif v7 then
   aB (f48 (y3.1, v5, ())) fun y4 =>
   bif ltI y4.1 0 then
    some (.inl (v1, v2, v3, v4, y3.1, e0, true, (v15.1, ()), ()))
   else some (.inl (v1, v2, v3, v4, v5, v6, v7, (v15.1, ()), ()))
  else some (.inl (v1, v2, v3, v4, y3.1, e0, true, (v15.1, ()), ()))
def aE3 (x : Shape.den BA) : uJ [(.list TyF)] := match x with
 | (v1, v2, v3, v4, v5, v6, v7, v15, ()) => (v15.1, ())
def FF (x : Shape.den BA) : Option (aV K2) := TT BA K2 (fun x => AV (aE3 x)) FM x
def f47 (x : aH [.agg TyA]) : Option (aH [.agg TyA, .agg TyB, .int .i64]) := match x with
 | (v0, ()) =>
  aB (f38 (v0.1, ())) fun y1 =>
  aB (FF (v0, (0, ([], ([], []))), (0, (0, (0, 0))), 0, (0, ([], ([], []))), (0, (0, (0, 0))), false, (y1.1.1, ()), ())) fun z5 =>
  kT z5 (fun a6 => aB (jE ((a6.1.2.1.length : Int), [a6.1.2.2.1, a6.1.2.2.2], ())) fun y8 =>
   bif !(eqI y8.2.1 0) then
    some ((0, ([], ([], []))), (0, (0, (0, 0))), y8.2.1, ())
   else aB (c7 ((y8.1.1, y8.1.2), a6.1.2.1, ())) fun y9 =>
   bif !(eqI y9.2.1 0) then
    some ((0, ([], ([], []))), (0, (0, (0, 0))), y9.2.1, ())
   else some ((a6.2.2.2.2.1.1, (y9.1, (a6.2.2.2.2.1.2.2.1, a6.2.2.2.2.1.2.2.2))), a6.2.2.2.2.2.1, 0, ())) fun b7 =>
  some (b7.1, b7.2.1, b7.2.2.1, ())
noncomputable def c47 : Code := aT Tryz.f47
abbrev E47 : Env := bI [e38, e39, e40, e48, WC, B8]
theorem aUX : aZ Tryz.prog E47 := aY ⟨aGP, aMN, aE4, aLL, ZR, JE, trivial⟩
noncomputable def IZ : Code := KX c47 0
noncomputable def aY0 : Code := inLoop IZ
def a2L (id : Nat) : Option aR := none
def aZX (id : Nat) : Option aR := bif Nat.beq id 6 then some ⟨BA, K2, FF⟩ else none
theorem aP0 : aG aY0 = 6 := by kernel_rfl
theorem a04 : cD aY0 = [] := by kernel_rfl
theorem aHE : IZ = .rangeFunc (DM IZ) (RG IZ) (lS IZ) (inLoop IZ) := by kernel_rfl
theorem aQG : ∀ y e, JX Tryz.prog E47 71 (rU Tryz.f47) a2L aZX (RG IZ).toList (lS IZ) (inLoop IZ) [.agg TyB] BA K2 y e = FM y e := by
 rintro ⟨v1, v2, v3, v4, v5, v6, v7, v15, ⟨⟩⟩ ⟨e0, ⟨⟩⟩
 kernel_rfl
theorem aYV : ∀ x, aAI 62 [(.list TyF)] BA (DM IZ) x = some (aE3 x) := by
 rintro ⟨v1, v2, v3, v4, v5, v6, v7, v15, ⟨⟩⟩
 kernel_rfl
theorem aSA : vG Tryz.prog 71 false [] IZ ⟨BA, K2, FF⟩ := by
 exact GF aUX aK aHE Tryz.func62 (c := aT Tryz.f62) (by kernel_rfl) aWG (by kernel_rfl) (nP a04 trivial) aYV aQG
theorem aWP : cD c47 = [IZ] := by kernel_rfl
theorem a1W : ∀ x, VU Tryz.prog E47 Tryz.f47 (rU Tryz.f47) a2L aZX c47 [.agg TyA] [.agg TyA, .agg TyB, .int .i64] x = f47 x := by
 rintro ⟨v0, ⟨⟩⟩
 kernel_rfl
theorem a6C : cO Tryz.prog 47 [.agg TyA] [.agg TyA, .agg TyB, .int .i64] f47 := by
 exact LX aK aUX Tryz.func47 (c := c47) (by kernel_rfl) (aU := rU Tryz.f47) (lt := a2L) (rt := aZX) (nP aWP ⟨AW aHE aP0 rfl aSA, trivial⟩) a1W
abbrev e47 : Ent := ⟨47, [.agg TyA], [.agg TyA, .agg TyB, .int .i64], f47⟩
theorem aSI : Ent.OK Tryz.prog e47 := a6C

/-! schisma/isomorphy.Canonical -/
def f26 (x : aH [.agg TyA]) : Option (aH [.agg TyA, .int .i64]) := match x with
 | (v0, ()) =>
  aB (f24 (v0, ())) fun y1 =>
  bif !(eqI y1.1 0) then
   some ((0, ([], ([], []))), y1.1, ())
  else aB (f47 (v0, ())) fun y2 =>
  some (y2.1, y2.2.2.1, ())
noncomputable def c26 : Code := aT Tryz.f26
abbrev E26 : Env := bI [e24, e47]
theorem aZS : aZ Tryz.prog E26 := aY ⟨aAX, aSI, trivial⟩
def a4R (id : Nat) : Option aR := none
theorem aWL : aF c26 = [] := by kernel_rfl
theorem a3J : ∀ x, bQ Tryz.prog E26 Tryz.f26 (aC Tryz.f26) a4R c26 [.agg TyA] [.agg TyA, .int .i64] x = f26 x := by
 rintro ⟨v0, ⟨⟩⟩
 kernel_rfl
theorem a6W : cO Tryz.prog 26 [.agg TyA] [.agg TyA, .int .i64] f26 := by
 exact bA aK aZS Tryz.func26 (c := c26) (by kernel_rfl) (aU := aC Tryz.f26) (lt := a4R) (aE aWL trivial) a3J
abbrev e26 : Ent := ⟨26, [.agg TyA], [.agg TyA, .int .i64], f26⟩
theorem a2K : Ent.OK Tryz.prog e26 := a6W

/-! schisma/isomorphy.steps -/
abbrev SU : List (Nat × Kd) := [(0, .list TyE), (1, .list TyE), (11, .list TyE), (12, .int .i64), (13, .int .i64), (42, .agg TyF), (43, .int .i64)]
abbrev ZT : List (Ex × List (Nat × Kd)) := [(.ret, [(8, .int .i64), (9, .int .i64), (10, .bool)]), (.exit 4, [(0, .list TyE), (1, .list TyE), (11, .list TyE), (12, .int .i64), (13, .int .i64)])]
def CH (x : Shape.den SU) : Option (Shape.den SU ⊕ aV ZT) := match x with
 | (v0, v1, v11, v12, v13, v42, v43, ()) =>
  bif ltI v43 2 then
   bif eqI v43 0 then
    aB (f65 (v0, v1, v13, v42.1, ())) fun y6 =>
    aB (f46 (y6.1, v11, ())) fun y7 =>
    bif y7.1 then
     some (.inr (.inl (v13, v42.1, true, ())))
    else some (.inl (v0, v1, v11, v12, v13, (v42.1, v42.2), (aJ .i64 (v43 + 1)), ()))
   else bif eqI v43 1 then aB (f65 (v0, v1, v13, v42.2, ())) fun y8 =>
   aB (f46 (y8.1, v11, ())) fun y9 =>
   bif y9.1 then
    some (.inr (.inl (v13, v42.2, true, ())))
   else some (.inl (v0, v1, v11, v12, v13, (v42.1, v42.2), (aJ .i64 (v43 + 1)), ())) else none
  else some (.inr (.inr ((v0, v1, v11, v12, v13, ()))))
def LO (x : Shape.den SU) : Option (aV ZT) := bS CH (2 ^ 64) x
abbrev UI : List (Nat × Kd) := [(0, .list TyE), (1, .list TyE), (11, .list TyE), (12, .int .i64), (13, .int .i64)]
abbrev aBQ : List (Ex × List (Nat × Kd)) := [(.ret, [(8, .int .i64), (9, .int .i64), (10, .bool)]), (.exit 2, [(0, .list TyE), (1, .list TyE), (11, .list TyE), (12, .int .i64)])]
def xR (x : Shape.den UI) : Option (Shape.den UI ⊕ aV aBQ) := match x with
 | (v0, v1, v11, v12, v13, ()) =>
  bif !(ltI v12 v13) then
   aB (LO (v0, v1, v11, v12, v13, ((aJ .i64 (v12 - (if v13 < (IntKind.wrap .i64 (0 - v13)) then (IntKind.wrap .i64 (0 - v13)) else v13))), (aJ .i64 ((if v13 < (IntKind.wrap .i64 (0 - v13)) then (IntKind.wrap .i64 (0 - v13)) else v13) - v12))), 0, ())) fun z13 =>
   kT z13 (fun a14 => some (.inr (.inl (a14.1, a14.2.1, a14.2.2.1, ())))) fun b15 =>
   some (.inl (b15.1, b15.2.1, b15.2.2.1, b15.2.2.2.1, (aJ .i64 (b15.2.2.2.2.1 + 1)), ()))
  else some (.inr (.inr ((v0, v1, v11, v12, ()))))
def EV (x : Shape.den UI) : Option (aV aBQ) := bS xR (2 ^ 64) x
abbrev UU : List (Nat × Kd) := [(0, .list TyE), (1, .list TyE), (11, .list TyE), (12, .int .i64)]
abbrev Z9 : List (Ex × List (Nat × Kd)) := [(.ret, [(8, .int .i64), (9, .int .i64), (10, .bool)]), (.exit 0, [(0, .list TyE), (1, .list TyE), (11, .list TyE)])]
def uP (x : Shape.den UU) : Option (Shape.den UU ⊕ aV Z9) := match x with
 | (v0, v1, v11, v12, ()) =>
  bif !(ltI 2000 v12) then
   aB (EV (v0, v1, v11, v12, (IntKind.wrap .i64 (0 - v12)), ())) fun z19 =>
   kT z19 (fun a20 => some (.inr (.inl (a20.1, a20.2.1, a20.2.2.1, ())))) fun b21 =>
   bif ltI 16 b21.2.2.2.1 then
    some (.inr (.inr ((b21.1, b21.2.1, b21.2.2.1, ()))))
   else some (.inl (b21.1, b21.2.1, b21.2.2.1, (aJ .i64 (b21.2.2.2.1 + 1)), ()))
  else some (.inr (.inr ((v0, v1, v11, ()))))
def P8 (x : Shape.den UU) : Option (aV Z9) := bS uP (2 ^ 64) x
def f49 (x : aH [.list TyE, .list TyE, .list TyE, .list TyE]) : Option (aH [.int .i64, .int .i64, .bool]) := match x with
 | (v0, v1, v2, v3, ()) =>
  aB (f65 (v3, v2, 1, (-1), ())) fun y1 =>
  aB (P8 (v0, v1, y1.1, 0, ())) fun z22 =>
  kT z22 (fun a23 => some (a23.1, a23.2.1, a23.2.2.1, ())) fun b24 =>
  none
noncomputable def c49 : Code := aT Tryz.f49
abbrev E49 : Env := bI [e46, e65]
theorem aFH : aZ Tryz.prog E49 := aY ⟨aLI, aVA, trivial⟩
noncomputable def aDL : Code := eD c49 0
noncomputable def aDZ : Code := eD aDL 0
noncomputable def aG8 : Code := eD aDZ 0
def aTE (id : Nat) : Option aR := bif Nat.beq id 9 then some ⟨SU, ZT, LO⟩ else bif Nat.beq id 6 then some ⟨UI, aBQ, EV⟩ else bif Nat.beq id 3 then some ⟨UU, Z9, P8⟩ else none
theorem aP6 : ∀ x, dZ Tryz.prog E49 65 (aC Tryz.f49) aTE aG8 SU ZT x = CH x := by
 rintro ⟨v0, v1, v11, v12, v13, v42, v43, ⟨⟩⟩
 kernel_rfl
theorem a0O : aF aG8 = [] := by kernel_rfl
theorem aRC : aG aG8 = 9 := by kernel_rfl
theorem aSK : cL Tryz.prog 65 aG8 ⟨SU, ZT, LO⟩ := by
 exact cS aFH.callee aK.mixed _ (aE a0O trivial) aP6
theorem aOW : ∀ x, dZ Tryz.prog E49 65 (aC Tryz.f49) aTE aDZ UI aBQ x = xR x := by
 rintro ⟨v0, v1, v11, v12, v13, ⟨⟩⟩
 kernel_rfl
theorem a1K : aF aDZ = [aG8] := by kernel_rfl
theorem aQC : aG aDZ = 6 := by kernel_rfl
theorem aT2 : cL Tryz.prog 65 aDZ ⟨UI, aBQ, EV⟩ := by
 exact cS aFH.callee aK.mixed _ (aE a1K ⟨cR aRC rfl aSK, trivial⟩) aOW
theorem aO1 : ∀ x, dZ Tryz.prog E49 65 (aC Tryz.f49) aTE aDL UU Z9 x = uP x := by
 rintro ⟨v0, v1, v11, v12, ⟨⟩⟩
 kernel_rfl
theorem aZF : aF aDL = [aDZ] := by kernel_rfl
theorem aQH : aG aDL = 3 := by kernel_rfl
theorem aSZ : cL Tryz.prog 65 aDL ⟨UU, Z9, P8⟩ := by
 exact cS aFH.callee aK.mixed _ (aE aZF ⟨cR aQC rfl aT2, trivial⟩) aO1
theorem aYN : aF c49 = [aDL] := by kernel_rfl
theorem aZU : ∀ x, bQ Tryz.prog E49 Tryz.f49 (aC Tryz.f49) aTE c49 [.list TyE, .list TyE, .list TyE, .list TyE] [.int .i64, .int .i64, .bool] x = f49 x := by
 rintro ⟨v0, v1, v2, v3, ⟨⟩⟩
 kernel_rfl
theorem a6P : cO Tryz.prog 49 [.list TyE, .list TyE, .list TyE, .list TyE] [.int .i64, .int .i64, .bool] f49 := by
 exact bA aK aFH Tryz.func49 (c := c49) (by kernel_rfl) (aU := aC Tryz.f49) (lt := aTE) (aE aYN ⟨cR aQH rfl aSZ, trivial⟩) aZU
abbrev e49 : Ent := ⟨49, [.list TyE, .list TyE, .list TyE, .list TyE], [.int .i64, .int .i64, .bool], f49⟩
theorem a3Q : Ent.OK Tryz.prog e49 := a6P

/-! schisma/isomorphy.Isomorphic -/
abbrev T1 : List (Nat × Kd) := [(2, .box 25 TyA), (3, .box 25 TyA), (4, .box 49 (.prod TyB TyF)), (5, .box 4 .bool), (6, .box 30 TyE), (21, .agg (.prod TyA TyA)), (22, .int .i64)]
abbrev aAA : List (Ex × List (Nat × Kd)) := [(.ret, [(4, .box 49 (.prod TyB TyF)), (5, .box 4 .bool), (6, .box 30 TyE)]), (.exit 0, [(2, .box 25 TyA), (3, .box 25 TyA), (4, .box 49 (.prod TyB TyF)), (5, .box 4 .bool), (6, .box 30 TyE)])]
def LH (x : Shape.den T1) : Option (Shape.den T1 ⊕ aV aAA) := match x with
 | (v2, v3, v4, v5, v6, v21, v22, ()) =>
  bif ltI v22 2 then
   bif eqI v22 0 then
    aB (f24 (v21.1, ())) fun y3 =>
    bif !(eqI y3.1 0) then
     some (.inr (.inl (((0, (0, (0, 0))), (0, 0)), false, y3.1, ())))
    else some (.inl (v2, v3, (v4.1, (v4.2.1, v4.2.2)), v5, v6, (v21.1, v21.2), (aJ .i64 (v22 + 1)), ()))
   else bif eqI v22 1 then aB (f24 (v21.2, ())) fun y4 =>
   bif !(eqI y4.1 0) then
    some (.inr (.inl (((0, (0, (0, 0))), (0, 0)), false, y4.1, ())))
   else some (.inl (v2, v3, (v4.1, (v4.2.1, v4.2.2)), v5, v6, (v21.1, v21.2), (aJ .i64 (v22 + 1)), ())) else none
  else some (.inr (.inr ((v2, v3, (v4.1, (v4.2.1, v4.2.2)), v5, v6, ()))))
def EY (x : Shape.den T1) : Option (aV aAA) := bS LH (2 ^ 64) x
abbrev DX : List (Nat × Kd) := [(2, .box 25 TyA), (3, .box 25 TyA), (4, .box 49 (.prod TyB TyF)), (5, .box 4 .bool), (6, .box 30 TyE), (67, .clo 62 [(.list TyF)])]
abbrev O1 : List (Ex × List (Nat × Kd)) := [(.normal, [(4, .box 49 (.prod TyB TyF)), (5, .box 4 .bool), (6, .box 30 TyE)]), (.ret, [(4, .box 49 (.prod TyB TyF)), (5, .box 4 .bool), (6, .box 30 TyE)])]
def R4 (x : Shape.den DX) (e : aH [.agg TyB]) : Option (Shape.den DX ⊕ aV O1) := match x, e with
 | (v2, v3, v4, v5, v6, v67, ()), (e0, ()) =>
  aB (f40 (v2, e0, ())) fun y12 =>
  aB (f48 (y12.1, v3, ())) fun y13 =>
  bif !(eqI y13.1 0) then
   some (.inl (v2, v3, (v4.1, (v4.2.1, v4.2.2)), v5, v6, (v67.1, ()), ()))
  else aB (f49 (v2.2.2.1, v2.2.2.2, v2.2.1, v3.2.1, ())) fun y14 =>
  bif y14.2.2.1 then
   bif !(ltI 1000 (if y14.1 < (IntKind.wrap .i64 (0 - y14.1)) then (IntKind.wrap .i64 (0 - y14.1)) else y14.1)) then
    bif !(ltI 1000 (if y14.2.1 < (IntKind.wrap .i64 (0 - y14.2.1)) then (IntKind.wrap .i64 (0 - y14.2.1)) else y14.2.1)) then
     some (.inr (.inr (((e0, (y14.1, y14.2.1)), true, 0, ()))))
    else some (.inl (v2, v3, (v4.1, (v4.2.1, v4.2.2)), v5, v6, (v67.1, ()), ()))
   else some (.inl (v2, v3, (v4.1, (v4.2.1, v4.2.2)), v5, v6, (v67.1, ()), ()))
  else some (.inl (v2, v3, (v4.1, (v4.2.1, v4.2.2)), v5, v6, (v67.1, ()), ()))
def aE8 (x : Shape.den DX) : uJ [(.list TyF)] := match x with
 | (v2, v3, v4, v5, v6, v67, ()) => (v67.1, ())
def FB (x : Shape.den DX) : Option (aV O1) := TT DX O1 (fun x => AV (aE8 x)) R4 x
def f27 (x : aH [.agg TyA, .agg TyA]) : Option (aH [.agg (.prod TyB TyF), .bool, .int .i64]) := match x with
 | (v0, v1, ()) =>
  aB (EY (v0, v1, ((0, (0, (0, 0))), (0, 0)), false, 0, (v0, v1), 0, ())) fun z5 =>
  kT z5 (fun a6 => some ((a6.1.1, (a6.1.2.1, a6.1.2.2)), a6.2.1, a6.2.2.1, ())) fun b7 =>
  bif !(eqI (b7.1.2.1.length : Int) (b7.2.1.2.1.length : Int)) then
   some (((0, (0, (0, 0))), (0, 0)), false, 5, ())
  else aB (f47 (b7.1, ())) fun y8 =>
  bif !(eqI y8.2.2.1 0) then
   some (((0, (0, (0, 0))), (0, 0)), false, y8.2.2.1, ())
  else aB (f47 (b7.2.1, ())) fun y9 =>
  bif !(eqI y9.2.2.1 0) then
   some (((0, (0, (0, 0))), (0, 0)), false, y9.2.2.1, ())
  else aB (f25 (y8.1, y9.1, ())) fun y10 =>
  bif y10.1 then
   aB (f38 (b7.1.1, ())) fun y11 =>
   aB (FB (b7.1, b7.2.1, (b7.2.2.1.1, (b7.2.2.1.2.1, b7.2.2.1.2.2)), b7.2.2.2.1, y9.2.2.1, (y11.1.1, ()), ())) fun z15 =>
   kT z15 (fun a16 => some (((0, (0, (0, 0))), (0, 0)), false, 3, ())) fun b17 =>
   some ((b17.1.1, (b17.1.2.1, b17.1.2.2)), b17.2.1, b17.2.2.1, ())
  else some (((0, (0, (0, 0))), (0, 0)), false, 0, ())
noncomputable def c27 : Code := aT Tryz.f27
abbrev E27 : Env := bI [e24, e25, e38, e40, e47, e48, e49]
theorem aLR : aZ Tryz.prog E27 := aY ⟨aAX, a0H, aGP, aE4, aSI, aLL, a3Q, trivial⟩
noncomputable def aIV : Code := inLoop (KX c27 0)
noncomputable def IP : Code := KX c27 1
noncomputable def aY4 : Code := inLoop IP
def aYI (id : Nat) : Option aR := bif Nat.beq id 2 then some ⟨T1, aAA, EY⟩ else none
def aV1 (id : Nat) : Option aR := bif Nat.beq id 20 then some ⟨DX, O1, FB⟩ else none
theorem aQT : aG aIV = 2 := by kernel_rfl
theorem aZ6 : cD aIV = [] := by kernel_rfl
theorem aPR : ∀ x, YN Tryz.prog E27 109 (rU Tryz.f27) aYI aV1 false [] aIV T1 aAA x = LH x := by
 rintro ⟨v2, v3, v4, v5, v6, v21, v22, ⟨⟩⟩
 kernel_rfl
theorem aS8 : vG Tryz.prog 109 false [] (.loop aIV) ⟨T1, aAA, EY⟩ := by
 exact RU aLR.callee aK.mixed _ (nP aZ6 trivial) aPR
theorem aOX : aG aY4 = 20 := by kernel_rfl
theorem aZ5 : cD aY4 = [] := by kernel_rfl
theorem aIU : IP = .rangeFunc (DM IP) (RG IP) (lS IP) (inLoop IP) := by kernel_rfl
theorem aQ2 : ∀ y e, JX Tryz.prog E27 109 (rU Tryz.f27) aYI aV1 (RG IP).toList (lS IP) (inLoop IP) [.agg TyB] DX O1 y e = R4 y e := by
 rintro ⟨v2, v3, v4, v5, v6, v67, ⟨⟩⟩ ⟨e0, ⟨⟩⟩
 kernel_rfl
theorem aWE : ∀ x, aAI 62 [(.list TyF)] DX (DM IP) x = some (aE8 x) := by
 rintro ⟨v2, v3, v4, v5, v6, v67, ⟨⟩⟩
 kernel_rfl
theorem aR3 : vG Tryz.prog 109 false [] IP ⟨DX, O1, FB⟩ := by
 exact GF aLR aK aIU Tryz.func62 (c := aT Tryz.f62) (by kernel_rfl) aWG (by kernel_rfl) (nP aZ5 trivial) aWE aQ2
theorem aYP : cD c27 = [.loop aIV, IP] := by kernel_rfl
theorem a0W : ∀ x, VU Tryz.prog E27 Tryz.f27 (rU Tryz.f27) aYI aV1 c27 [.agg TyA, .agg TyA] [.agg (.prod TyB TyF), .bool, .int .i64] x = f27 x := by
 rintro ⟨v0, v1, ⟨⟩⟩
 kernel_rfl
theorem a58 : cO Tryz.prog 27 [.agg TyA, .agg TyA] [.agg (.prod TyB TyF), .bool, .int .i64] f27 := by
 exact LX aK aLR Tryz.func27 (c := c27) (by kernel_rfl) (aU := rU Tryz.f27) (lt := aYI) (rt := aV1) (nP aYP ⟨X6 aQT rfl aS8, AW aIU aOX rfl aR3, trivial⟩) a0W
abbrev e27 : Ent := ⟨27, [.agg TyA, .agg TyA], [.agg (.prod TyB TyF), .bool, .int .i64], f27⟩
theorem aSB : Ent.OK Tryz.prog e27 := a58

/-! schisma/schismalaw46.known -/
def g12 (x : aH []) : Option (aH [.bool]) := match x with
 | (()) =>
  aB (f26 ((1, ([0], ([2], [5]))), ())) fun y1 =>
  aB (f26 ((2, ([0], ([2], [5]))), ())) fun y2 =>
  aB (f28 ((1, ([0], ([1], [1]))), ())) fun y3 =>
  aB (f27 ((1, ([0], ([2], [5]))), (1, ([0], ([5], [2]))), ())) fun y4 =>
  bif eqI y1.2.1 0 then
   aB (f19 (y1.1, (1, ([0], ([(-5)], [(-2)]))), ())) fun y5 =>
   bif y5.1 then
    bif eqI y2.2.1 0 then
     aB (f19 (y2.1, (2, ([0], ([(-5)], [(-3)]))), ())) fun y6 =>
     bif y6.1 then
      bif eqI y3.2.1 0 then
       bif eqI (y3.1.length : Int) 2 then
        bif eqI y4.2.2.1 0 then
         some (y4.2.1, ())
        else some (false, ())
       else some (false, ())
      else some (false, ())
     else some (false, ())
    else some (false, ())
   else some (false, ())
  else some (false, ())
noncomputable def c12 : Code := aT Tryz.f12
abbrev E12 : Env := bI [e19, e26, e27, e28]
theorem a08 : aZ Tryz.prog E12 := aY ⟨aUW, a2K, aSB, aRO, trivial⟩
def a5Q (id : Nat) : Option aR := none
theorem aV5 : aF c12 = [] := by kernel_rfl
theorem aZG : ∀ x, bQ Tryz.prog E12 Tryz.f12 (aC Tryz.f12) a5Q c12 [] [.bool] x = g12 x := by
 rintro ⟨⟨⟩⟩
 kernel_rfl
theorem a5Y : cO Tryz.prog 12 [] [.bool] g12 := by
 exact bA aK a08 Tryz.func12 (c := c12) (by kernel_rfl) (aU := aC Tryz.f12) (lt := a5Q) (aE aV5 trivial) aZG
def f12 (x : aH []) : Option (aH [.bool]) := some (true, ())
theorem aWH : ∀ x, g12 x = f12 x := by
 rintro ⟨⟩
 kernel_rfl
theorem a6D : cO Tryz.prog 12 [] [.bool] f12 := by
 have h : g12 = f12 := funext aWH
 rw [← h]
 exact a5Y
abbrev e12 : Ent := ⟨12, [], [.bool], f12⟩
theorem a30 : Ent.OK Tryz.prog e12 := a6D
/-! schisma/schismalaw46.IsomorphyTurns -/
abbrev aTF : List (Nat × Kd) := [(2, .box 25 TyA), (3, .box 27 TyB), (5, .box 25 TyA), (6, .int .i64), (7, .list TyB), (8, .bool), (9, .int .i64)]
abbrev aY7 : List (Ex × List (Nat × Kd)) := [(.exit 0, [(2, .box 25 TyA), (3, .box 27 TyB), (5, .box 25 TyA), (6, .int .i64), (8, .bool)])]
def aX8 (x : Shape.den aTF) : Option (Shape.den aTF ⊕ aV aY7) := match x with
 | (v2, v3, v5, v6, v7, v8, v9, ()) =>
  bif ltI v9 (v7.length : Int) then
   bif v8 then
    some (.inl (v2, v3, v5, v6, v7, true, (aJ .i64 (v9 + 1)), ()))
   else bif aP v9 v7.length then some (.inl (v2, v3, v5, v6, v7, (eqI ((v7.getD v9.toNat (0, (0, (0, 0)))).1) v3.1 && (eqI ((v7.getD v9.toNat (0, (0, (0, 0)))).2.1) v3.2.1 && (eqI ((v7.getD v9.toNat (0, (0, (0, 0)))).2.2.1) v3.2.2.1 && (eqI ((v7.getD v9.toNat (0, (0, (0, 0)))).2.2.2) v3.2.2.2 && true)))), (aJ .i64 (v9 + 1)), ())) else none
  else some (.inr ((v2, v3, v5, v6, v8, ())))
def aXG (x : Shape.den aTF) : Option (aV aY7) := bS aX8 (2 ^ 64) x
def f3 (x : aH [.agg TyA, .agg TyB]) : Option (aH [.bool]) := match x with
 | (v0, v1, ()) =>
  aB (f12 (())) fun y1 =>
  bif y1.1 then
   aB (f13 (v0, ())) fun y2 =>
   bif y2.1 then
    aB (f14 (v0, ())) fun y3 =>
    bif !(eqI y3.1 0) then
     aB (f12 (())) fun y4 =>
     some (y4.1, ())
    else aB (f15 (v0, v1, ())) fun y5 =>
    aB (f16 (v0.1, ())) fun y6 =>
    aB (aXG (v0, v1, y5.1, y5.2.1, y6.1, false, 0, ())) fun z7 =>
    bif z7.2.2.2.2.1 then
     aB (f18 (z7.1, z7.2.1, ())) fun y8 =>
     bif y8.2.1 then
      bif eqI z7.2.2.2.1 0 then
       aB (f19 (z7.2.2.1, y8.1, ())) fun y9 =>
       some (y9.1, ())
      else some (false, ())
     else aB (f17 (z7.2.2.1, ())) fun y10 =>
     bif y10.1 then
      some (eqI z7.2.2.2.1 4, ())
     else some (false, ())
    else aB (f17 (z7.2.2.1, ())) fun y11 =>
    bif y11.1 then
     some (eqI z7.2.2.2.1 10, ())
    else some (false, ())
   else aB (f12 (())) fun y12 =>
   some (y12.1, ())
  else aB (f12 (())) fun y13 =>
  some (y13.1, ())
abbrev e3 : Ent := ⟨3, [.agg TyA, .agg TyB], [.bool], f3⟩
end Go.PM
set_option linter.unusedSimpArgs false
set_option linter.unusedVariables false
namespace Go.PM
open Go Go.RowKit Go.Proofs
set_option maxRecDepth 100000
set_option maxHeartbeats 4000000
/-! schisma/isomorphy.combine -/
abbrev MG : List (Nat × Kd) := [(0, .list TyE), (1, .list TyE), (2, .int .i64), (3, .int .i64), (9, .own 3 TyE), (13, .int .i64), (14, .int .i64)]
abbrev QE : List (Ex × List (Nat × Kd)) := [(.exit 0, [(9, .own 3 TyE)])]
def EW (x : Shape.den MG) : Option (Shape.den MG ⊕ aV QE) := match x with
 | (v0, v1, v2, v3, v9, v13, v14, ()) =>
  bif ltI v14 v13 then
   bif aP v14 v0.length then bif aP v14 v1.length then bif Nat.ble [(aJ .i64 ((aJ .i64 (v2 * (v0.getD v14.toNat 0))) + (aJ .i64 (v3 * (v1.getD v14.toNat 0)))))].length 1048576 then bif Nat.ble v9.length 1048576 then some (.inl (v0, v1, v2, v3, (v9 ++ [(aJ .i64 ((aJ .i64 (v2 * (v0.getD v14.toNat 0))) + (aJ .i64 (v3 * (v1.getD v14.toNat 0)))))]), v13, (aJ .i64 (v14 + 1)), ())) else none else none else none else none
  else some (.inr ((v9, ())))
def L9 (x : Shape.den MG) : Option (aV QE) := bS EW (2 ^ 64) x
def aPZ (x : aH [.list TyE, .list TyE, .int .i64, .int .i64]) : Option (List Int) := match x with
 | (v0, v1, v2, v3, ()) =>
  aB (L9 (v0, v1, v2, v3, [], (v0.length : Int), 0, ())) fun z1 =>
  some z1.1
noncomputable def aYD : Code := aT Tryz.f65
abbrev a1Y : Env := bI []
theorem aNP : aZ Tryz.prog a1Y := aY trivial
noncomputable def aAB : Code := eD aYD 0
def aTG (id : Nat) : Option aR := bif Nat.beq id 3 then some ⟨MG, QE, L9⟩ else none
theorem aK7 : ∀ x, dZ Tryz.prog a1Y 35 (aC Tryz.f65) aTG aAB MG QE x = EW x := by
 rintro ⟨v0, v1, v2, v3, v9, v13, v14, ⟨⟩⟩
 kernel_rfl
theorem aWC : aF aAB = [] := by kernel_rfl
theorem aKM : aG aAB = 3 := by kernel_rfl
theorem aPX : cL Tryz.prog 35 aAB ⟨MG, QE, L9⟩ := by
 exact cS aNP.callee aK.mixed _ (aE aWC trivial) aK7
theorem aR0 : aF aYD = [aAB] := by kernel_rfl
theorem aXQ : ∀ x, aNG Tryz.prog a1Y Tryz.f65 (aC Tryz.f65) aTG aYD [.list TyE, .list TyE, .int .i64, .int .i64] 8 3 TyE x = aPZ x := by
 rintro ⟨v0, v1, v2, v3, ⟨⟩⟩
 kernel_rfl
theorem a38 : aNX Tryz.prog 65 [.list TyE, .list TyE, .int .i64, .int .i64] 3 TyE aPZ := by
 exact aM5 aK aNP Tryz.func65 (c := aYD) (by kernel_rfl) (aU := aC Tryz.f65) (lt := aTG) (t := 8) (by kernel_rfl) (aE aR0 ⟨cR aKM rfl aPX, trivial⟩) aXQ
abbrev a5M : Shr := (65, aW1 [.list TyE, .list TyE, .int .i64, .int .i64] 3 TyE aPZ)
theorem aXH : I8 Tryz.prog a5M := aNI a38

/-! schisma/isomorphy.shift -/
abbrev SO : List (Nat × Kd) := [(3, .box 25 TyA), (6, .box 25 TyA), (7, .bag 25 TyE 3 TyE (some (.prod TyD TyD))), (27, .int .i64), (28, .int .i64)]
abbrev ZP : List (Ex × List (Nat × Kd)) := [(.exit 0, [(6, .box 25 TyA), (7, .bag 25 TyE 3 TyE (some (.prod TyD TyD)))])]
def J7 (x : Shape.den SO) : Option (Shape.den SO ⊕ aV ZP) := match x with
 | (v3, v6, v7, v27, v28, ()) =>
  bif ltI v28 v27 then
   bif aP v28 v7.2.1.length then bif Nat.blt v28.toNat v7.2.1.length then bif aP v28 v3.2.1.length then bif aP v28 v7.2.1.length then bif Nat.blt v28.toNat v7.2.1.length then some (.inl (v3, v6, (v7.1, ((v7.2.1.set v28.toNat (aJ .i64 ((v7.2.1.getD v28.toNat 0) + (v3.2.1.getD v28.toNat 0)))), (v7.2.2.1, v7.2.2.2))), v27, (aJ .i64 (v28 + 1)), ())) else none else none else none else none else none
  else some (.inr ((v6, v7, ())))
def LG (x : Shape.den SO) : Option (aV ZP) := bS J7 (2 ^ 64) x
def f44 (x : aH [.agg TyA, .int .i64, .int .i64]) : Option (aH [.agg TyA]) := match x with
 | (v0, v1, v2, ()) =>
  aB (aPZ (v0.2.2.1, v0.2.2.2, v1, v2, ())) fun y1 =>
  aB (aB9 (v0.2.2.1, ())) fun y2 =>
  aB (aB9 (v0.2.2.2, ())) fun y3 =>
  aB (LG (v0, (0, ([], ([], []))), (v0.1, (y1, (y2.1, y3.1))), (y1.length : Int), 0, ())) fun z4 =>
  some (z4.2.1, ())
noncomputable def c44 : Code := aT Tryz.f44
abbrev E44 : Env := aGC [aZ0] [a5M]
theorem aVF : aZ Tryz.prog E44 := DD ⟨aNL, trivial⟩ ⟨aXH, trivial⟩
noncomputable def aJZ : Code := inLoop (KX c44 0)
def aZE (id : Nat) : Option aR := bif Nat.beq id 3 then some ⟨SO, ZP, LG⟩ else none
def a2V (id : Nat) : Option aR := none
theorem aOG : aG aJZ = 3 := by kernel_rfl
theorem a1M : cD aJZ = [] := by kernel_rfl
theorem aQU : ∀ x, YN Tryz.prog E44 45 (rU Tryz.f44) aZE a2V false [] aJZ SO ZP x = J7 x := by
 rintro ⟨v3, v6, v7, v27, v28, ⟨⟩⟩
 kernel_rfl
theorem aUK : vG Tryz.prog 45 false [] (.loop aJZ) ⟨SO, ZP, LG⟩ := by
 exact RU aVF.callee aK.mixed _ (nP a1M trivial) aQU
theorem aW0 : cD c44 = [.loop aJZ] := by kernel_rfl
theorem aZC : ∀ x, VU Tryz.prog E44 Tryz.f44 (rU Tryz.f44) aZE a2V c44 [.agg TyA, .int .i64, .int .i64] [.agg TyA] x = f44 x := by
 rintro ⟨v0, v1, v2, ⟨⟩⟩
 kernel_rfl
theorem a54 : cO Tryz.prog 44 [.agg TyA, .int .i64, .int .i64] [.agg TyA] f44 := by
 exact LX aK aVF Tryz.func44 (c := c44) (by kernel_rfl) (aU := rU Tryz.f44) (lt := aZE) (rt := a2V) (nP aW0 ⟨X6 aOG rfl aUK, trivial⟩) aZC
abbrev e44 : Ent := ⟨44, [.agg TyA, .int .i64, .int .i64], [.agg TyA], f44⟩
theorem a0L : Ent.OK Tryz.prog e44 := a54

/-! schisma/isomorphy.Shift -/
def aI1 (x : aH [.agg TyA, .int .i64, .int .i64]) : Option (aH [.agg TyA, .int .i64]) := match x with
 | (v0, v1, v2, ()) =>
  aB (f24 (v0, ())) fun y1 =>
  bif !(eqI y1.1 0) then
   some ((0, ([], ([], []))), y1.1, ())
  else bif ltI v1 (-1000) then
   some ((0, ([], ([], []))), 3, ())
  else bif ltI 1000 v1 then
   some ((0, ([], ([], []))), 3, ())
  else bif ltI v2 (-1000) then
   some ((0, ([], ([], []))), 3, ())
  else bif ltI 1000 v2 then
   some ((0, ([], ([], []))), 3, ())
  else aB (f44 (v0, v1, v2, ())) fun y2 =>
  aB (f39 (y2.1, ())) fun y3 =>
  some (y3.1, y3.2.1, ())
noncomputable def a15 : Code := aT Tryz.f20
abbrev a4E : Env := bI [e24, e39, e44]
theorem aX7 : aZ Tryz.prog a4E := aY ⟨aAX, aMN, a0L, trivial⟩
def aZA (id : Nat) : Option aR := none
theorem aT5 : aF a15 = [] := by kernel_rfl
theorem aYJ : ∀ x, bQ Tryz.prog a4E Tryz.f20 (aC Tryz.f20) aZA a15 [.agg TyA, .int .i64, .int .i64] [.agg TyA, .int .i64] x = aI1 x := by
 rintro ⟨v0, v1, v2, ⟨⟩⟩
 kernel_rfl
theorem a4F : cO Tryz.prog 20 [.agg TyA, .int .i64, .int .i64] [.agg TyA, .int .i64] aI1 := by
 exact bA aK aX7 Tryz.func20 (c := a15) (by kernel_rfl) (aU := aC Tryz.f20) (lt := aZA) (aE aT5 trivial) aYJ
abbrev a5S : Ent := ⟨20, [.agg TyA, .int .i64, .int .i64], [.agg TyA, .int .i64], aI1⟩
theorem aWN : Ent.OK Tryz.prog a5S := a4F

end Go.PM
set_option linter.unusedSimpArgs false
set_option linter.unusedVariables false
namespace Go.PM
open Go Go.RowKit
section
variable {α : Type} (P : Program) (E : Env) (nt aU : Nat) (hs : Nat → Option (Nat × Nat))
def aNW (t n : Nat) (F : Frm) (k : Frm → Option α) : Option α := match cN F t with
 | .lit (.int d v) => N3 n 0 v fun j => k ((t, .lit (.int d j)) :: F)
 | _ => none
def u7 : Nat → Code → Frm → Heap → (Ex → Frm → Heap → Option α) → Option α
 | 0, _, _, _, _ => none
 | _ + 1, .skip, F, H, k => k .normal F H
 | _ + 1, .label _, F, H, k => k .normal F H
 | _ + 1, .region id ops draw, F, H, k => rC P E nt ops draw F H fun F H => IX aU F fun F => match hs id with
  | some (t, n) => aNW t n F fun F => k .normal F H
  | none => k .normal F H
 | m + 1, .seq a b, F, H, k => u7 m a F H fun ex F H => match ex with
  | .normal => u7 m b F H k
  | .exit i => k (.exit i) F H
  | .ret => k .ret F H
 | m + 1, .cond c a b, F, H, k => match ev F c with
  | .lit (.bool t) => aI2 F c t fun F t => bif t then u7 m a F H k else u7 m b F H k
  | _ => none
 | m + 1, .block id a, F, H, k => u7 m a F H fun ex F H => match ex with
  | .exit i => bif Nat.beq i id then k .normal F H else k (.exit i) F H
  | .normal => k .normal F H
  | .ret => k .ret F H
 | m + 1, .loop a, F, H, k => u7 m a F H fun ex F H => match ex with
  | .normal => u7 m (.loop a) F H k
  | .exit i => k (.exit i) F H
  | .ret => k .ret F H
 | _ + 1, .exit id, F, H, k => k (.exit id) F H
 | m + 1, .scope a, F, H, k => u7 m a F H k
 | _ + 1, .ret, F, H, k => k .ret F H
 | _ + 1, _, _, _, _ => none
end
section
variable {α : Type} {P : Program} {E : Env} {nt aU : Nat} {hs : Nat → Option (Nat × Nat)}
def aHG (P : Program) (nt : Nat) (a : Code) (r : Ex × Frm × Heap) : Nat → Frm → Heap → Prop
 | 0, _, _ => False
 | k + 1, F, H => (r.1 ≠ .normal ∧ aN6 P nt a F H r) ∨ ∃ F1 H1, aN6 P nt a F H (.normal, F1, H1) ∧ aHG P nt a r k F1 H1
theorem aMA {a : Code} {r : Ex × Frm × Heap} {n : Nat} {F : Frm} {H : Heap} (h : aHG P nt a r n F H) : aN6 P nt (.loop a) F H r := by
 intro n0 wi Gi μi act w hfl hI
 refine wp_loop_ghost (fun k a1 w1 => ∃ F H, aHG P nt a r k F H ∧ I n0 wi Gi μi nt F H a1 w1) n ⟨F, H, h, hI⟩ ?_
 rintro k act w ⟨F, H, h, hI⟩
 cases k with
 | zero => exact h.elim
 | succ k =>
  rcases h with ⟨hne, h⟩ | ⟨F1, H1, h, hc⟩
  ·refine wp_mono (h n0 wi Gi μi act w hfl hI) ?_
   obtain ⟨ex, F', H'⟩ := r
   rintro e a' w' ⟨rfl, hI'⟩
   cases ex with
   | normal => exact absurd rfl hne
   | exit i => exact ⟨rfl, hI'⟩
   | ret => exact ⟨rfl, hI'⟩
  ·refine wp_mono (h n0 wi Gi μi act w hfl hI) ?_
   rintro e a' w' ⟨rfl, hI'⟩
   exact ⟨k, Nat.lt_succ_self k, F1, H1, hc, hI'⟩
theorem aKE {z : α} {t n : Nat} {F : Frm} {k : Frm → Option α} (h : aNW t n F k = some z) : ∃ F', k F' = some z ∧ ∀ s, cN F' s = cN F s := by
 unfold aNW at h
 split at h
 ·rename_i d v hv
  have h := xX h
  refine ⟨_, h, fun s => ?_⟩
  rw [dW]
  by_cases hs : s = t
  ·subst hs; rw [if_pos rfl, hv]
  ·rw [if_neg hs]
 ·cases h
theorem aIS (hcl : cQ P (dH P E)) (hP : P.follows .mixedOrders = true) : ∀ (n : Nat) (c : Code) (F : Frm) (H : Heap) (k : Ex → Frm → Heap → Option α) (z : α),
  u7 P E nt aU hs n c F H k = some z → ∃ r : Ex × Frm × Heap, k r.1 r.2.1 r.2.2 = some z ∧ aN6 P nt c F H r ∧ ∀ a, c = .loop a → ∃ m, aHG P nt a r m F H := by
 intro n
 induction n with
 | zero => intro c F H k z h; cases h
 | succ n ih =>
  intro c F H k z h
  cases c with
  | skip => exact ⟨(.normal, F, H), h, fun _ _ _ _ _ _ _ hI => wp_skip ⟨rfl, hI⟩, fun a e => by cases e⟩
  | label l => exact ⟨(.normal, F, H), h, fun _ _ _ _ _ _ _ hI => wp_label ⟨rfl, hI⟩, fun a e => by cases e⟩
  | region id ops draw =>
   simp only [u7] at h
   obtain ⟨F1, H1, h1, h2⟩ := NR (id := id) hcl hP h
   obtain ⟨F2, h3, h4⟩ := wD aU F1 fun F => match hs id with
    | some (t, n) => aNW t n F fun F => k .normal F H1
    | none => k .normal F H1
   rw [h3] at h1
   split at h1
   ·obtain ⟨F3, h5, h6⟩ := aKE h1
    exact ⟨(.normal, F3, H1), h5, fun _ _ _ _ _ _ _ hI => h2 hI fun a' w' hI' => ⟨rfl, (hI'.aOL h4).congr h6⟩, fun a e => by cases e⟩
   ·exact ⟨(.normal, F2, H1), h1, fun _ _ _ _ _ _ _ hI => h2 hI fun a' w' hI' => ⟨rfl, hI'.aOL h4⟩, fun a e => by cases e⟩
  | seq x y =>
   simp only [u7] at h
   obtain ⟨⟨ex, F1, H1⟩, h1, h2, -⟩ := ih x F H _ z h
   cases ex with
   | normal =>
    obtain ⟨r, h3, h4, -⟩ := ih y F1 H1 k z h1
    refine ⟨r, h3, fun n0 wi Gi μi a w hfl hI => wp_seq (wp_mono (h2 n0 wi Gi μi a w hfl hI) ?_), fun a e => by cases e⟩
    rintro e a' w' ⟨rfl, hI'⟩
    exact h4 n0 wi Gi μi a' w' hfl hI'
   | exit i =>
    refine ⟨(.exit i, F1, H1), h1, fun n0 wi Gi μi a w hfl hI => wp_seq (wp_mono (h2 n0 wi Gi μi a w hfl hI) ?_), fun a e => by cases e⟩
    rintro e a' w' ⟨rfl, hI'⟩
    exact ⟨rfl, hI'⟩
   | ret =>
    refine ⟨(.ret, F1, H1), h1, fun n0 wi Gi μi a w hfl hI => wp_seq (wp_mono (h2 n0 wi Gi μi a w hfl hI) ?_), fun a e => by cases e⟩
    rintro e a' w' ⟨rfl, hI'⟩
    exact ⟨rfl, hI'⟩
  | cond c x y =>
   simp only [u7] at h
   split at h
   ·rename_i t ht
    replace h := AH h ht
    have hc : ∀ {n0 wi Gi μi a w}, I n0 wi Gi μi nt F H a w → a.eval c = .bool t := fun hI => by
     obtain ⟨G, μ, e, hW, hF⟩ := hI
     have hc := cG hF c
     rwa [ht, VR] at hc
    cases t with
    | true =>
     obtain ⟨r, h3, h4, -⟩ := ih x F H k z h
     exact ⟨r, h3, fun n0 wi Gi μi a w hfl hI => wp_cond (hc hI) (h4 n0 wi Gi μi a w hfl hI), fun a e => by cases e⟩
    | false =>
     obtain ⟨r, h3, h4, -⟩ := ih y F H k z h
     exact ⟨r, h3, fun n0 wi Gi μi a w hfl hI => wp_cond (hc hI) (h4 n0 wi Gi μi a w hfl hI), fun a e => by cases e⟩
   ·cases h
  | block id x =>
   simp only [u7] at h
   obtain ⟨⟨ex, F1, H1⟩, h1, h2, -⟩ := ih x F H _ z h
   cases ex with
   | normal =>
    refine ⟨(.normal, F1, H1), h1, fun n0 wi Gi μi a w hfl hI => wp_block (wp_mono (h2 n0 wi Gi μi a w hfl hI) ?_), fun a e => by cases e⟩
    rintro e a' w' ⟨rfl, hI'⟩
    exact ⟨rfl, hI'⟩
   | ret =>
    refine ⟨(.ret, F1, H1), h1, fun n0 wi Gi μi a w hfl hI => wp_block (wp_mono (h2 n0 wi Gi μi a w hfl hI) ?_), fun a e => by cases e⟩
    rintro e a' w' ⟨rfl, hI'⟩
    exact ⟨rfl, hI'⟩
   | exit i =>
    simp only at h1
    cases hi : Nat.beq i id with
    | true =>
     rw [hi] at h1
     have := Nat.eq_of_beq_eq_true hi
     subst this
     refine ⟨(.normal, F1, H1), h1, fun n0 wi Gi μi a w hfl hI => wp_block (wp_mono (h2 n0 wi Gi μi a w hfl hI) ?_), fun a e => by cases e⟩
     rintro e a' w' ⟨rfl, hI'⟩
     simp only [Ex.to, Exit.inBlock, if_true]
     exact ⟨trivial, hI'⟩
    | false =>
     rw [hi] at h1
     have hne : ¬ i = id := fun e => by rw [e] at hi; simp at hi
     refine ⟨(.exit i, F1, H1), h1, fun n0 wi Gi μi a w hfl hI => wp_block (wp_mono (h2 n0 wi Gi μi a w hfl hI) ?_), fun a e => by cases e⟩
     rintro e a' w' ⟨rfl, hI'⟩
     simp only [Ex.to, Exit.inBlock, hne, if_false]
     exact ⟨trivial, hI'⟩
  | loop x =>
   simp only [u7] at h
   obtain ⟨⟨ex, F1, H1⟩, h1, h2, -⟩ := ih x F H _ z h
   obtain ⟨r, h3, m, hm⟩ : ∃ r : Ex × Frm × Heap, k r.1 r.2.1 r.2.2 = some z ∧ ∃ m, aHG P nt x r m F H := by
    cases ex with
    | normal =>
     obtain ⟨r, h3, h4, h5⟩ := ih (.loop x) F1 H1 k z h1
     obtain ⟨m, hm⟩ := h5 x rfl
     exact ⟨r, h3, m + 1, .inr ⟨F1, H1, h2, hm⟩⟩
    | exit i => exact ⟨(.exit i, F1, H1), h1, 1, .inl ⟨fun e => (by cases e), h2⟩⟩
    | ret => exact ⟨(.ret, F1, H1), h1, 1, .inl ⟨fun e => (by cases e), h2⟩⟩
   exact ⟨r, h3, aMA hm, fun a e => by cases e; exact ⟨m, hm⟩⟩
  | exit id => exact ⟨(.exit id, F, H), h, fun _ _ _ _ _ _ _ hI => wp_exit ⟨rfl, hI⟩, fun a e => by cases e⟩
  | scope x =>
   simp only [u7] at h
   obtain ⟨⟨ex, F1, H1⟩, h1, h2, -⟩ := ih x F H k z h
   refine ⟨(ex, F1, H1), h1, fun n0 wi Gi μi a w hfl hI => wp_scope_straight (wp_mono (h2 n0 wi Gi μi a w hfl hI) ?_), fun a e => by cases e⟩
   rintro e a' w' ⟨rfl, hI'⟩
   cases ex <;> exact ⟨rfl, hI'⟩
  | ret => exact ⟨(.ret, F, H), h, fun _ _ _ _ _ _ _ hI => wp_ret ⟨rfl, hI⟩, fun a e => by cases e⟩
  | rangeFunc => simp only [u7] at h; cases h
  | goto l => simp only [u7] at h; cases h
  | refuse s => simp only [u7] at h; cases h

def aSQ (P : Program) (E : Env) (fn : Func) (aU : Nat) (hs : Nat → Option (Nat × Nat)) (n : Nat) (c : Code) (args rets : List Kd) (x : aH args) : Option (aH rets) :=
 bif Nat.ble (iE args x).length fn.ntmps then u7 P E fn.ntmps aU hs n c (start aU 0 (iE args x)) [] (aJ6 P fn.results.toList rets) else none
theorem aW2 {E : Env} (hP : A8 P) (hE : aZ P E) {g : Nat} {fn : Func} (hg : P.funcs[g]? = some fn) {c : Code} (hc : fn.body = some c) {aU n : Nat} {hs : Nat → Option (Nat × Nat)} {args rets : List Kd} {f : aH args → Option (aH rets)}
  (hb : ∀ x, aSQ P E fn aU hs n c args rets x = f x) : cO P g args rets f := by
 intro x y hy
 rw [← hb] at hy
 unfold aSQ at hy
 obtain ⟨hlen, hy⟩ := aI hy
 obtain ⟨⟨ex, F', H'⟩, h1, h2, -⟩ := aIS hE.callee hP.mixed n c _ _ _ _ hy
 obtain ⟨vs, q, hex, hvs, hq, hd⟩ : ∃ vs q, (ex = .normal ∨ ex = .ret) ∧ mT P F' H' fn.results.toList = some vs ∧ aMO H' (dU vs) = some q ∧ aH7 rets q = some y := by
  unfold aJ6 at h1
  split at h1
  ·cases h1
  ·rename_i hne
   split at h1
   ·rename_i vs hvs
    split at h1
    ·rename_i q hq
     refine ⟨vs, q, ?_, hvs, hq, h1⟩
     cases ex with
     | normal => exact .inl rfl
     | ret => exact .inr rfl
     | exit i => exact absurd rfl (hne i)
    ·cases h1
   ·cases h1
 have hcall : ∀ {n0 G μ w us}, aW n0 G μ [] w → VRs w G μ (iE args x) us → o6 P n0 w G μ g us.toArray (dU vs) H' := by
  intro n0 G μ w us hW hv
  refine ⟨enters hg (hP.names g fn hg) (by rw [hc]; rfl) _ _, calls_of_wp hg hc ?_⟩
  have hI : I n0 w G μ fn.ntmps (start aU 0 (iE args x)) [] ⟨us.toArray ++ Array.replicate (fn.ntmps - us.toArray.size) undef, []⟩ w := ⟨G, μ, Ext.refl _ _ _ _, hW, qI (by simpa using hv) (Nat.le_of_ble_eq_true hlen)⟩
  refine wp_mono (h2 n0 w G μ _ w (fun r => hW.top r (Nat.zero_le _)) hI) ?_
  rintro e a' w' ⟨rfl, G', μ', e', hW', hF'⟩
  obtain ⟨ws, h3, h4⟩ := k9 (P := P) hW' hF' hvs
  have hres : (results fn a'.tmps).run P w' = .ok (if hh : ws.toArray.size = 1 then ws.toArray[0] else .tuple ws.toArray) w' := by
   rw [s8, Array.mapM_eq_mapM_toList]
   simp only [Sem.run_bind, Sem.run_map, h3, Result.andThen_ok, Sem.run_pure]
  have hpost : a'.defers = [] ∧ ∃ v, (results fn a'.tmps).run P w' = .ok v w' ∧ (∃ v' G'' μ'', Ending.returned v = .returned v' ∧ Ext n0 w G μ w' G'' μ'' ∧ aW n0 G'' μ'' H' w' ∧ VR w' G'' μ'' (dU vs) v') :=
   ⟨hF'.defers, _, hres, _, G', μ', rfl, e', hW', mY h4⟩
  rcases hex with rfl | rfl
  ·exact hpost
  ·exact hpost
 have hp := BO hcall (wI hq).1 (wI hq).2
 intro w G us hlt hv
 obtain ⟨h3, h4⟩ := hp w G us hlt hv
 refine ⟨h3, h4.mono ?_⟩
 rintro e w' ⟨v', G', rfl, e1, e2, e3⟩
 exact ⟨v', G', rfl, e1, e2, L0 hd e3⟩
end
end Go.PM
set_option linter.unusedSimpArgs false
set_option linter.unusedVariables false
namespace Go.PM
open Go Go.RowKit Go.Proofs
set_option maxRecDepth 100000
theorem LJ {τ : Type} (p : Nat → Prop) [DecidablePred p] (g : Nat → τ) : ∀ l : List Nat, (l.findSome? fun i => if p i then some (g i) else none) = (l.find? fun i => decide (p i)).map g
 | [] => rfl
 | i :: l => by
  rw [List.findSome?_cons, List.find?_cons]
  by_cases h : p i
  ·simp [h]
  ·simp [h, LJ p g l]
theorem aVP (j : Nat) : (!(ltI (j : Int) 0)) = true := by rw [aL, decide_eq_false (by omega)]; rfl
theorem aSL {s : List Int} {i : Nat} (h : i < s.length) : s.getD i 0 ∈ s := by
 rw [List.getD_eq_getElem?_getD, List.getElem?_eq_getElem h]; exact List.getElem_mem h
theorem a0I (v : Int) : f60 (v, ()) = some (decide (-1000000000 ≤ v ∧ v ≤ 1000000000), ()) := by
 unfold f60; dsimp only
 simp only [aL, nN, bC]
 by_cases h : ¬ v < -1000000000
 ·rw [if_pos h]
  by_cases h2 : v ≤ 1000000000
  ·rw [decide_eq_true (show -1000000000 ≤ v ∧ v ≤ 1000000000 by omega), decide_eq_true (show ¬ 1000000000 < v by omega)]
  ·rw [decide_eq_false (show ¬ (-1000000000 ≤ v ∧ v ≤ 1000000000) by omega), decide_eq_false (show ¬ ¬ 1000000000 < v by omega)]
 ·rw [if_neg h, decide_eq_false (by omega)]
def okE (v : Int) : Prop := -1000000000 ≤ v ∧ v ≤ 1000000000
instance (v : Int) : Decidable (okE v) := by unfold okE; infer_instance
theorem a07 (v : Int) : f59 (v, ()) = some (decide (¬ okE v), ()) := by
 unfold f59; dsimp only
 rw [a0I, aD]
 by_cases h : okE v
 ·rw [decide_eq_false (not_not_intro h)]
  unfold okE at h
  rw [decide_eq_true h]; rfl
 ·rw [decide_eq_true h]
  unfold okE at h
  rw [decide_eq_false h]; rfl
theorem a2Q (v : Int) : f21 (v, ()) = some (decide (okE v), ()) := by
 unfold f21; dsimp only
 simp only [aL, nN, bC]
 by_cases h : ¬ 1000000000 < v
 ·rw [if_pos h]
  by_cases h2 : -1000000000 ≤ v
  ·rw [decide_eq_true (show okE v from ⟨by omega, by omega⟩), decide_eq_true (show ¬ v < -1000000000 by omega)]
  ·rw [decide_eq_false (show ¬ okE v from fun hh => h2 hh.1), decide_eq_false (show ¬ ¬ v < -1000000000 by omega)]
 ·rw [if_neg h, decide_eq_false (show ¬ okE v from fun hh => h (by have := hh.2; omega))]
def rc (r : List Int) : Int := if 64 < r.length then 4 else if (∀ i, i < r.length → okE (r.getD i 0)) then 0 else 4
theorem S3 (r : List Int) : f37 (r, ()) = some (rc r, ()) := by
 unfold f37 rc; dsimp only
 simp only [aL, bC]
 by_cases h64 : 64 < r.length
 ·rw [if_pos h64, if_pos (by omega)]
 ·rw [if_neg h64, if_neg (by omega)]
  have hloop : wO (r, (), (r.length : Int), 0, ()) = some ((((List.range r.length).find? fun i => decide (¬ okE (r.getD i 0))).map fun i : Nat => .inl ((i : Int), ())).getD (.inr ())) := by
   rw [← LJ (fun i => ¬ okE (r.getD i 0)) (fun i : Nat => Sum.inl ((i : Int), ()))]
   refine OG (N := 2 ^ 64) (step := sS) (fun i => (r, (), (r.length : Int), (i : Int), ())) (fun i => if ¬ okE (r.getD i 0) then some (.inl ((i : Int), ())) else none) r.length (.inr ()) (by omega) ?_ ?_
   ·intro i hi
    simp only [sS, aL, dI, bB, nN, bC, Int.toNat_natCast]
    rw [if_pos (by omega), if_pos (by omega), a07, aD, dO i (by omega), bC]
    by_cases h : ¬ okE (r.getD i 0)
    ·rw [if_pos h, if_pos h]
    ·rw [if_neg h, if_neg h]
   ·simp only [sS, aL, bC]
    rw [if_neg (by omega)]
  have h70 : EX (r, (), ()) = some ((((List.range r.length).find? fun i => decide (¬ okE (r.getD i 0))).map fun i : Nat => (i : Int)).getD (-1), ()) := by
   unfold EX; dsimp only
   rw [hloop, aD]
   cases (List.range r.length).find? fun i => decide (¬ okE (r.getD i 0)) <;> rfl
  unfold LP; dsimp only
  rw [h70, aD]
  cases hf : (List.range r.length).find? fun i => decide (¬ okE (r.getD i 0)) with
  | none =>
   rw [if_pos (fun i hi => by
    have := List.find?_eq_none.1 hf i (List.mem_range.2 hi)
    simpa using this)]
   rfl
  | some i =>
   rw [if_neg (fun hall => by
    have h1 := List.find?_some hf
    have h2 := List.mem_range.1 (List.mem_of_find?_eq_some hf)
    simp only [decide_eq_true_eq] at h1
    exact h1 (hall i h2))]
   show (aB (some (!(ltI ((i : Nat) : Int) 0), ())) fun y1 => bif y1.1 then some (4, ()) else some (0, ())) = _
   rw [aD, aVP]; rfl
theorem aBD (a b : List Int) (ha : a.length ≤ 9223372036854775806) : f46 (a, b, ()) = some (decide (a = b), ()) := by
 unfold f46; dsimp only
 simp only [dI, nN, bC]
 by_cases hl : a.length = b.length
 ·rw [if_neg (by omega)]
  have : Q2 (a, b, (a.length : Int), 0, ()) = some (((List.range a.length).findSome? fun i => if ¬ a.getD i 0 = b.getD i 0 then some (.inl (false, ())) else none).getD (.inr ())) := OG (N := 2 ^ 64) (step := KT) (fun i => (a, b, (a.length : Int), (i : Int), ())) (fun i => if ¬ a.getD i 0 = b.getD i 0 then some (.inl (false, ())) else none) a.length (.inr ()) (by omega) (by
   intro i hi
   simp only [KT, aL, dI, bB, bC, nN, Int.toNat_natCast]
   rw [if_pos (by omega), if_pos ⟨by omega, by omega⟩, if_pos ⟨by omega, by omega⟩, dO i (by omega)]
   by_cases h : ¬ a.getD i 0 = b.getD i 0
   ·rw [if_pos h, if_pos h]
   ·rw [if_neg h, if_neg h]) (by
   simp only [KT, aL, bC]
   rw [if_neg (by omega)])
  rw [this, LJ (fun i => ¬ a.getD i 0 = b.getD i 0), aD]
  cases hf : (List.range a.length).find? fun i => decide (¬ a.getD i 0 = b.getD i 0) with
  | none =>
   have hall : ∀ i, i < a.length → a.getD i 0 = b.getD i 0 := by
    intro i hi
    have := List.find?_eq_none.1 hf i (List.mem_range.2 hi)
    simpa using this
   have : a = b := by
    apply List.ext_getElem hl
    intro i h1 h2
    have := hall i h1
    rw [List.getD_eq_getElem?_getD, List.getD_eq_getElem?_getD, List.getElem?_eq_getElem h1, List.getElem?_eq_getElem h2] at this
    exact this
   rw [decide_eq_true this]; rfl
  | some i =>
   have h1 := List.find?_some hf
   have : ¬ a = b := fun e => by subst e; simp at h1
   rw [decide_eq_false this]; rfl
 ·rw [if_pos (by omega), decide_eq_false]
  rintro rfl; exact hl rfl
theorem ZV (a b : List Int) (ha : a.length ≤ 9223372036854775806) : f43 (a, b, ()) = some (decide (a = b), ()) := by
 unfold f43; dsimp only
 rw [aBD a b ha, aD]
abbrev Lay : Type := Int × List Int × List Int × List Int
def ShL (l : Lay) : Prop := l.2.1.length ≤ 1000 ∧ l.2.2.1.length ≤ 1000 ∧ l.2.2.2.length ≤ 1000
theorem aUR {a : Lay} (b : Lay) (h : ShL a) : f19 (a, b, ()) = some (decide (a = b), ()) := by
 obtain ⟨k, o, r, u⟩ := a
 obtain ⟨k', o', r', u'⟩ := b
 obtain ⟨h1, h2, h3⟩ := h
 dsimp only at h1 h2 h3
 unfold f19; dsimp only
 rw [ZV _ _ (by omega), ZV _ _ (by omega), ZV _ _ (by omega), aD, aD, aD]
 simp only [dI, bC, Prod.mk.injEq]
 by_cases e1 : k = k'
 ·by_cases e2 : o = o'
  ·by_cases e3 : r = r'
   ·simp [e1, e2, e3]
   ·simp [e1, e2, e3]
  ·simp [e1, e2]
 ·simp [e1]
theorem a1J {a : Lay} (b : Lay) (h : ShL a) : f25 (a, b, ()) = some (decide (a = b), ()) := by
 obtain ⟨k, o, r, u⟩ := a
 obtain ⟨k', o', r', u'⟩ := b
 obtain ⟨h1, h2, h3⟩ := h
 dsimp only at h1 h2 h3
 unfold f25; dsimp only
 rw [aBD _ _ (by omega), aBD _ _ (by omega), aBD _ _ (by omega), aD, aD, aD]
 simp only [dI, bC, Prod.mk.injEq]
 by_cases e1 : k = k'
 ·by_cases e2 : o = o'
  ·by_cases e3 : r = r'
   ·simp [e1, e2, e3]
   ·simp [e1, e2, e3]
  ·simp [e1, e2]
 ·simp [e1]
abbrev zL : Lay := (0, [], [], [])
def ce (l : Lay) : Int :=
 if ¬ l.1 = 1 ∧ ¬ l.1 = 2 then 12 else
 if ¬ rc l.2.1 = 0 then rc l.2.1 else
 if ¬ rc l.2.2.1 = 0 then rc l.2.2.1 else if ¬ (l.2.2.1.length : Int) = l.2.1.length then 5 else
 if ¬ rc l.2.2.2 = 0 then rc l.2.2.2 else if ¬ (l.2.2.2.length : Int) = l.2.1.length then 5 else 0
def ce3 (l : Lay) : Option Int :=
 if ¬ rc l.2.1 = 0 then some (rc l.2.1) else
 if ¬ rc l.2.2.1 = 0 then some (rc l.2.2.1) else if ¬ (l.2.2.1.length : Int) = l.2.1.length then some 5 else
 if ¬ rc l.2.2.2 = 0 then some (rc l.2.2.2) else if ¬ (l.2.2.2.length : Int) = l.2.1.length then some 5 else none
def a6M : Option Int → Sum (Int × Unit) Unit
 | some e => .inl (e, ())
 | none => .inr ()
theorem a4M (l : Lay) : ce l = if ¬ l.1 = 1 ∧ ¬ l.1 = 2 then 12 else (ce3 l).getD 0 := by
 unfold ce ce3
 repeat' split
 all_goals rfl
theorem aN5 (l : Lay) : F9 (l, (l.2.1, l.2.2.1, l.2.2.2), 0, ()) = some (a6M (ce3 l)) := by
 obtain ⟨k, o, r, u⟩ := l
 have s0 : uN ((k, o, r, u), (o, r, u), 0, ()) = if ¬ rc o = 0 then some (.inr (.inl (rc o, ()))) else some (.inl ((k, o, r, u), (o, r, u), 1, ())) := by
  simp only [uN, aL, dI, nN, bC]
  rw [if_pos (by decide), if_pos trivial, S3, aD]
  dsimp only
  by_cases h : rc o = 0
  ·rw [if_neg (not_not_intro h), if_neg (not_not_intro trivial), if_neg (not_not_intro h)]; rfl
  ·rw [if_pos h, if_pos h]
 have s1 : uN ((k, o, r, u), (o, r, u), 1, ()) = if ¬ rc r = 0 then some (.inr (.inl (rc r, ()))) else if ¬ (r.length : Int) = o.length then some (.inr (.inl (5, ()))) else some (.inl ((k, o, r, u), (o, r, u), 2, ())) := by
  simp only [uN, aL, dI, nN, bC]
  rw [if_pos (by decide), if_neg (by decide), if_pos trivial, S3, aD]
  rfl
 have s2 : uN ((k, o, r, u), (o, r, u), 2, ()) = if ¬ rc u = 0 then some (.inr (.inl (rc u, ()))) else if ¬ (u.length : Int) = o.length then some (.inr (.inl (5, ()))) else some (.inl ((k, o, r, u), (o, r, u), 3, ())) := by
  simp only [uN, aL, dI, nN, bC]
  rw [if_pos (by decide), if_neg (by decide), if_neg (by decide), if_pos trivial, S3, aD]
  rfl
 have s3 : uN ((k, o, r, u), (o, r, u), 3, ()) = some (.inr (.inr ())) := rfl
 unfold F9 ce3
 dsimp only
 rw [show (2 : Nat) ^ 64 = 18446744073709551612 + 1 + 1 + 1 + 1 from rfl, bR, s0]
 by_cases h0 : rc o = 0
 ·rw [if_neg (not_not_intro h0), if_neg (not_not_intro h0)]
  dsimp only
  rw [bR, s1]
  by_cases h1 : rc r = 0
  ·rw [if_neg (not_not_intro h1), if_neg (not_not_intro h1)]
   by_cases h2 : (r.length : Int) = o.length
   ·rw [if_neg (not_not_intro h2), if_neg (not_not_intro h2)]
    dsimp only
    rw [bR, s2]
    by_cases h3 : rc u = 0
    ·rw [if_neg (not_not_intro h3), if_neg (not_not_intro h3)]
     by_cases h4 : (u.length : Int) = o.length
     ·rw [if_neg (not_not_intro h4), if_neg (not_not_intro h4)]
      dsimp only
      rw [bR, s3]; rfl
     ·rw [if_pos h4, if_pos h4]; rfl
    ·rw [if_pos h3, if_pos h3]; rfl
   ·rw [if_pos h2, if_pos h2]; rfl
  ·rw [if_pos h1, if_pos h1]; rfl
 ·rw [if_pos h0, if_pos h0]; rfl
theorem aAN (l : Lay) : f24 (l, ()) = some (ce l, ()) := by
 have hl := aN5 l
 rw [a4M]
 obtain ⟨k, o, r, u⟩ := l
 unfold f24
 dsimp only at hl ⊢
 simp only [dI, nN, bC, hl, aD]
 by_cases h1 : k = 1
 ·rw [if_neg (by omega), if_neg (by omega)]
  cases ce3 (k, o, r, u) <;> rfl
 ·by_cases h2 : k = 2
  ·rw [if_pos h1, if_neg (by omega), if_neg (by omega)]
   cases ce3 (k, o, r, u) <;> rfl
  ·rw [if_pos h1, if_pos h2, if_pos ⟨h1, h2⟩]
end Go.PM
set_option linter.unusedSimpArgs false
set_option linter.unusedVariables false
namespace Go.PM
open Go Go.RowKit Go.Proofs
set_option maxRecDepth 100000
def mxE (a b : Int) (r s : List Int) (i : Nat) : Int := aJ .i64 (aJ .i64 (a * r.getD i 0) + aJ .i64 (b * s.getD i 0))
def mx (a b : Int) (r s : List Int) : List Int := (List.range r.length).map (mxE a b r s)
theorem j7 (a b : Int) (r s : List Int) : (mx a b r s).length = r.length := by simp [mx]
theorem YG {a b : Int} {r s : List Int} (hl : s.length = r.length) (hr : r.length ≤ 1000) : f65 (r, s, a, b, ()) = some (mx a b r s, ()) := by
 have hloop : SB (r, s, a, b, [], (r.length : Int), 0, ()) = some (mx a b r s, ()) := by
  refine dV (N := 2 ^ 64) (step := KK) (fun i => (r, s, a, b, (List.range i).map (mxE a b r s), (r.length : Int), (i : Int), ())) r.length _ (by omega) ?_ ?_
  ·intro i hi
   simp only [KK, aL, bB, jL, bC, Int.toNat_natCast, List.length_map, List.length_range, List.length_singleton]
   rw [if_pos (by omega), if_pos (by omega), if_pos (by omega), if_pos (by omega), if_pos (by omega), dO i (by omega), List.range_succ, List.map_append]
   rfl
  ·simp only [KK, aL, bC]
   rw [if_neg (by omega)]
   rfl
 unfold f65; dsimp only
 rw [hloop, aD]
def ftB (a b : Int) (r s : List Int) (n : Nat) : Bool := (List.range n).all fun i => decide (okE (mxE a b r s i))
theorem aSY {a b : Int} {r s : List Int} (hl : s.length = r.length) (hr : r.length ≤ 1000) : f42 (a, r, b, s, ()) = some (mx a b r s, ftB a b r s r.length, ()) := by
 have hloop : SJ (a, r, b, s, [], true, 0, ()) = some (mx a b r s, ftB a b r s r.length, ()) := by
  refine dV (N := 2 ^ 64) (step := KO) (fun i => (a, r, b, s, (List.range i).map (mxE a b r s), ftB a b r s i, (i : Int), ())) r.length _ (by omega) ?_ ?_
  ·intro i hi
   have hn : ftB a b r s (i + 1) = (ftB a b r s i && decide (okE (mxE a b r s i))) := by
    unfold ftB
    rw [List.range_succ, List.all_append]; simp
   simp only [KO, aL, bB, jL, bC, Int.toNat_natCast, List.length_map, List.length_range, List.length_singleton]
   have h1 : i ≤ 1048576 := by omega
   have h2 : 1 ≤ 1048576 := by omega
   rw [if_pos (by omega), if_pos (by omega), if_pos (by omega), dO i (by omega), hn, List.range_succ, List.map_append]
   simp only [if_pos h1, if_pos h2]
   cases ftB a b r s i with
   | true =>
    rw [cond_true, a2Q, aD]
    rfl
   | false => rfl
  ·simp only [KO, aL, bC]
   rw [if_neg (by omega)]
   rfl
 unfold f42; dsimp only
 rw [hloop, aD]
theorem aY6 {a b : Int} {r s : List Int} (hr : r.length ≤ 64) : rc (mx a b r s) = if ftB a b r s r.length = true then 0 else 4 := by
 unfold rc
 rw [if_neg (by rw [j7]; omega)]
 have key : (∀ i, i < (mx a b r s).length → okE ((mx a b r s).getD i 0)) ↔ ftB a b r s r.length = true := by
  rw [j7]
  unfold ftB
  rw [List.all_eq_true]
  have hg : ∀ i, i < r.length → (mx a b r s).getD i 0 = mxE a b r s i := fun i hi => by
   unfold mx
   rw [List.getD_eq_getElem?_getD, List.getElem?_map, List.getElem?_range hi]; rfl
  constructor
  ·intro h i hi
   have hi := List.mem_range.1 hi
   have := h i hi
   rw [hg i hi] at this
   exact decide_eq_true this
  ·intro h i hi
   rw [hg i hi]
   exact of_decide_eq_true (h i (List.mem_range.2 hi))
 by_cases h : ftB a b r s r.length = true
 ·rw [if_pos h, if_pos (key.2 h)]
 ·rw [if_neg h, if_neg fun hh => h (key.1 hh)]
def trn (l : Lay) (g : S4) : Lay := (l.1, l.2.1, mx g.1 g.2.2.1 l.2.2.1 l.2.2.2, mx g.2.1 g.2.2.2 l.2.2.1 l.2.2.2)
def aM8 (l : Lay) (g : S4) : Bool := ftB g.1 g.2.2.1 l.2.2.1 l.2.2.2 l.2.2.1.length && ftB g.2.1 g.2.2.2 l.2.2.1 l.2.2.2 l.2.2.1.length
theorem aU5 {l : Lay} (g : S4) (h0 : l.2.1.length ≤ 1000) (h1 : l.2.2.2.length = l.2.2.1.length) (h2 : l.2.2.1.length ≤ 1000) : f40 (l, g, ()) = some (trn l g, ()) := by
 obtain ⟨k, o, r, u⟩ := l
 obtain ⟨a, b, c, d⟩ := g
 dsimp only at h0 h1 h2
 unfold f40; dsimp only
 have hc : aB9 (o, ()) = some (o, ()) := by
  unfold aB9; dsimp only
  rw [jL, bC, if_pos (by omega)]
 rw [hc, aD, YG h1 h2, aD, YG h1 h2, aD]
 rfl
theorem a3R {l : Lay} (g : S4) (h1 : l.2.2.2.length = l.2.2.1.length) (h2 : l.2.2.1.length ≤ 1000) : f18 (l, g, ()) = some (trn l g, aM8 l g, ()) := by
 obtain ⟨k, o, r, u⟩ := l
 obtain ⟨a, b, c, d⟩ := g
 dsimp only at h1 h2
 unfold f18 aM8; dsimp only
 rw [aSY h1 h2, aD, aSY h1 h2, aD]
 cases ftB a c r u r.length <;> rfl
theorem aO4 (l : Lay) (z : Lay) : FN (l, z, (l.2.1, l.2.2.1, l.2.2.2), 0, ()) = some (if rc l.2.1 = 0 ∧ rc l.2.2.1 = 0 ∧ rc l.2.2.2 = 0 then .inr (l, z, ()) else .inl (zL, 4, ())) := by
 obtain ⟨k, o, r, u⟩ := l
 obtain ⟨k', o', r', u'⟩ := z
 have s0 : vB ((k, o, r, u), (k', o', r', u'), (o, r, u), 0, ()) = if ¬ rc o = 0 then some (.inr (.inl (zL, 4, ()))) else some (.inl ((k, o, r, u), (k', o', r', u'), (o, r, u), 1, ())) := by
  simp only [vB, aL, dI, nN, bC]
  rw [if_pos (by decide), if_pos trivial, S3, aD]
  rfl
 have s1 : vB ((k, o, r, u), (k', o', r', u'), (o, r, u), 1, ()) = if ¬ rc r = 0 then some (.inr (.inl (zL, 4, ()))) else some (.inl ((k, o, r, u), (k', o', r', u'), (o, r, u), 2, ())) := by
  simp only [vB, aL, dI, nN, bC]
  rw [if_pos (by decide), if_neg (by decide), if_pos trivial, S3, aD]
  rfl
 have s2 : vB ((k, o, r, u), (k', o', r', u'), (o, r, u), 2, ()) = if ¬ rc u = 0 then some (.inr (.inl (zL, 4, ()))) else some (.inl ((k, o, r, u), (k', o', r', u'), (o, r, u), 3, ())) := by
  simp only [vB, aL, dI, nN, bC]
  rw [if_pos (by decide), if_neg (by decide), if_neg (by decide), if_pos trivial, S3, aD]
  rfl
 have s3 : vB ((k, o, r, u), (k', o', r', u'), (o, r, u), 3, ()) = some (.inr (.inr ((k, o, r, u), (k', o', r', u'), ()))) := rfl
 unfold FN
 dsimp only
 rw [show (2 : Nat) ^ 64 = 18446744073709551612 + 1 + 1 + 1 + 1 from rfl, bR, s0]
 by_cases h0 : rc o = 0
 ·rw [if_neg (not_not_intro h0)]
  dsimp only
  rw [bR, s1]
  by_cases h1 : rc r = 0
  ·rw [if_neg (not_not_intro h1)]
   dsimp only
   rw [bR, s2]
   by_cases h3 : rc u = 0
   ·rw [if_neg (not_not_intro h3)]
    dsimp only
    rw [bR, s3, if_pos ⟨h0, h1, h3⟩]
   ·rw [if_pos h3, if_neg fun h => h3 h.2.2]
  ·rw [if_pos h1, if_neg fun h => h1 h.2.1]
 ·rw [if_pos h0, if_neg fun h => h0 h.1]
theorem aMH (l : Lay) : f39 (l, ()) = some (if rc l.2.1 = 0 ∧ rc l.2.2.1 = 0 ∧ rc l.2.2.2 = 0 then (l, 0, ()) else (zL, 4, ())) := by
 have := aO4 l zL
 obtain ⟨k, o, r, u⟩ := l
 unfold f39
 dsimp only at this ⊢
 rw [show (FN ((k, o, r, u), ((0, [], [], []) : Lay), (o, r, u), 0, ())) = _ from this, aD]
 by_cases h : rc o = 0 ∧ rc r = 0 ∧ rc u = 0
 ·rw [if_pos h, if_pos h]; rfl
 ·rw [if_neg h, if_neg h]; rfl
def lR (k : Int) : List (Int × Int) := if k = 2 then aNZ else aM1
def aS (k : Int) : List S4 := if k = 2 then J1 else KN
theorem a3Y (k : Int) : f61 (k, ()) = some (lR k, ()) := by
 unfold f61 lR; dsimp only
 rw [dI, bC]
 by_cases h : k = 2
 ·rw [if_pos h, if_pos h]; rfl
 ·rw [if_neg h, if_neg h]; rfl
theorem aFC (k : Int) : f38 (k, ()) = some ((lR k, ()), ()) := by
 unfold f38; dsimp only
 rw [a3Y, aD]
theorem MD (k : Int) : AV (lR k, ()) = some ((aS k).map fun g => (g, ())) := by
 unfold lR aS
 by_cases h : k = 2
 ·rw [if_pos h, if_pos h]; rfl
 ·rw [if_neg h, if_neg h]; rfl
theorem a0X : f16 (1, ()) = some (KN, ()) := by kernel_rfl
theorem a05 : f16 (2, ()) = some (J1, ()) := by kernel_rfl
theorem aUV {k : Int} (h : k = 1 ∨ k = 2) : f16 (k, ()) = some (aS k, ()) := by
 rcases h with rfl | rfl
 ·exact a0X
 ·exact a05
theorem L7 {k : Int} : (aS k).length ≤ 12 := by unfold aS; split <;> decide
def eq4 (a b : S4) : Bool := eqI a.1 b.1 && (eqI a.2.1 b.2.1 && (eqI a.2.2.1 b.2.2.1 && (eqI a.2.2.2 b.2.2.2 && true)))
theorem ZI (a b : S4) : eq4 a b = decide (a = b) := by
 obtain ⟨a1, a2, a3, a4⟩ := a
 obtain ⟨b1, b2, b3, b4⟩ := b
 simp only [eq4, dI, Prod.mk.injEq]
 by_cases h1 : a1 = b1 <;> by_cases h2 : a2 = b2 <;> by_cases h3 : a3 = b3 <;> by_cases h4 : a4 = b4 <;> simp [h1, h2, h3, h4]
theorem aN0 {l : Lay} (g : S4) (n : List (Int × Int)) (h0 : l.2.1.length ≤ 1000) (h1 : l.2.2.2.length = l.2.2.1.length) (h2 : l.2.2.1.length ≤ 1000) : ∀ L : List S4,
  qK SK (aH1 DY NW) (L.map fun e => (e, ())) (l, g, zL, 0, (n, ()), ()) = if g ∈ L then some (.inr ((if rc (trn l g).2.1 = 0 ∧ rc (trn l g).2.2.1 = 0 ∧ rc (trn l g).2.2.2 = 0 then (trn l g, 0, ()) else (zL, 4, ())))) else some (.inl (zL, 0, ()))
 | [] => by rw [if_neg (by simp)]; rfl
 | e :: L => by
  have ih := aN0 g n h0 h1 h2 L
  have hst : SK (l, g, zL, 0, (n, ()), ()) (e, ()) = if g = e then some (.inr (.inr ((if rc (trn l g).2.1 = 0 ∧ rc (trn l g).2.2.1 = 0 ∧ rc (trn l g).2.2.2 = 0 then (trn l g, 0, ()) else (zL, 4, ()))))) else some (.inl (l, g, zL, 0, (n, ()), ())) := by
   have h40 := aU5 g h0 h1 h2
   have h39 := aMH (trn l g)
   obtain ⟨k, o, r, u⟩ := l
   obtain ⟨a, b, c, d⟩ := g
   show (bif eq4 (a, b, c, d) e then _ else _) = _
   rw [ZI, bC]
   by_cases he : (a, b, c, d) = e
   ·rw [if_pos he, if_pos he]
    show (aB (f40 ((k, o, r, u), (a, b, c, d), ())) _) = _
    rw [h40, aD]
    show (aB (f39 (trn (k, o, r, u) (a, b, c, d), ())) _) = _
    rw [h39, aD]
   ·rw [if_neg he, if_neg he]
  rw [List.map_cons]
  unfold qK
  rw [hst]
  by_cases he : g = e
  ·rw [if_pos he, if_pos (show g ∈ e :: L by rw [he]; exact List.mem_cons_self)]
  ·rw [if_neg he]
   dsimp only
   rw [ih]
   by_cases hm : g ∈ L
   ·rw [if_pos hm, if_pos (List.mem_cons_of_mem _ hm)]
   ·rw [if_neg hm, if_neg (by
     intro h
     rcases List.mem_cons.1 h with h | h
     ·exact he h
     ·exact hm h)]
theorem a1P {l : Lay} (g : S4) (h0 : l.2.1.length ≤ 1000) (h1 : l.2.2.2.length = l.2.2.1.length) (h2 : l.2.2.1.length ≤ 1000) (hc : ce l = 0) :
  f15 (l, g, ()) = some (if g ∈ aS l.1 then (if rc (trn l g).2.1 = 0 ∧ rc (trn l g).2.2.1 = 0 ∧ rc (trn l g).2.2.2 = 0 then (trn l g, 0, ()) else (zL, 4, ())) else (zL, 10, ())) := by
 have hr := aN0 g (lR l.1) h0 h1 h2 (aS l.1)
 have h24 := aAN l
 have hf := MD l.1
 have h38 := aFC l.1
 rw [hc] at h24
 unfold f15
 show (aB (f24 (l, ())) _) = _
 rw [h24, aD]
 show (aB (f38 (l.1, ())) _) = _
 rw [h38, aD]
 show (aB (GG (l, g, zL, 0, (lR l.1, ()), ())) _) = _
 have hl : GG (l, g, zL, 0, (lR l.1, ()), ()) = if g ∈ aS l.1 then some (.inr ((if rc (trn l g).2.1 = 0 ∧ rc (trn l g).2.2.1 = 0 ∧ rc (trn l g).2.2.2 = 0 then (trn l g, 0, ()) else (zL, 4, ())))) else some (.inl (zL, 0, ())) := by
  unfold GG TT
  have hff : (fun x => AV (aEX x)) (l, g, zL, 0, (lR l.1, ()), ()) = _ := hf
  rw [hff]
  exact hr
 rw [hl]
 by_cases hg : g ∈ aS l.1
 ·rw [if_pos hg, if_pos hg, aD, iH]
 ·rw [if_neg hg, if_neg hg, aD, rF]
end Go.PM
set_option linter.unusedSimpArgs false
set_option linter.unusedVariables false
namespace Go.PM
open Go Go.RowKit Go.Proofs
set_option maxRecDepth 100000
theorem aW7 {x : Int} {n : Nat} (h : 0 ≤ x ∧ x ≤ 255) (hn : 0 < n) : (IntKind.wrap .i64 x).tmod (n : Int) = ((x.toNat % n : Nat) : Int) := by
 rw [aWF (by omega) (by omega)]
 obtain ⟨m, rfl⟩ := Int.eq_ofNat_of_zero_le h.1
 rfl
end Go.PM
set_option linter.unusedSimpArgs false
set_option linter.unusedVariables false
namespace Go.PM
open Go Go.RowKit Go.Proofs
set_option maxRecDepth 100000
set_option maxHeartbeats 4000000
def a33 (v0 : Ty.den (.prod .bool (.prod (.int .u8) (.prod (.prod (.int .i8) (.prod (.int .i8) (.int .i8))) (.prod (.prod (.int .i8) (.prod (.int .i8) (.int .i8))) (.prod (.int .i8) (.prod (.int .i8) (.int .i8)))))))) (t : Int) : Option (aH [.agg TyA]) :=
  bif v0.1 then
   bif eqI t 0 then some ((2, ([], [], [])), ())
   else bif eqI t 1 then some ((2, ([(Int.tmod (IntKind.wrap .i64 v0.2.2.1.1) 10)], [(Int.tmod (IntKind.wrap .i64 v0.2.2.2.1.1) 10)], [(Int.tmod (IntKind.wrap .i64 v0.2.2.2.2.1) 10)])), ())
   else bif eqI t 2 then some ((2, ([(Int.tmod (IntKind.wrap .i64 v0.2.2.1.1) 10), (Int.tmod (IntKind.wrap .i64 v0.2.2.1.2.1) 10)], [(Int.tmod (IntKind.wrap .i64 v0.2.2.2.1.1) 10), (Int.tmod (IntKind.wrap .i64 v0.2.2.2.1.2.1) 10)], [(Int.tmod (IntKind.wrap .i64 v0.2.2.2.2.1) 10), (Int.tmod (IntKind.wrap .i64 v0.2.2.2.2.2.1) 10)])), ())
   else bif eqI t 3 then some ((2, ([(Int.tmod (IntKind.wrap .i64 v0.2.2.1.1) 10), (Int.tmod (IntKind.wrap .i64 v0.2.2.1.2.1) 10), (Int.tmod (IntKind.wrap .i64 v0.2.2.1.2.2) 10)], [(Int.tmod (IntKind.wrap .i64 v0.2.2.2.1.1) 10), (Int.tmod (IntKind.wrap .i64 v0.2.2.2.1.2.1) 10), (Int.tmod (IntKind.wrap .i64 v0.2.2.2.1.2.2) 10)], [(Int.tmod (IntKind.wrap .i64 v0.2.2.2.2.1) 10), (Int.tmod (IntKind.wrap .i64 v0.2.2.2.2.2.1) 10), (Int.tmod (IntKind.wrap .i64 v0.2.2.2.2.2.2) 10)])), ())
   else none
  else
   bif eqI t 0 then some ((1, ([], [], [])), ())
   else bif eqI t 1 then some ((1, ([(Int.tmod (IntKind.wrap .i64 v0.2.2.1.1) 10)], [(Int.tmod (IntKind.wrap .i64 v0.2.2.2.1.1) 10)], [(Int.tmod (IntKind.wrap .i64 v0.2.2.2.2.1) 10)])), ())
   else bif eqI t 2 then some ((1, ([(Int.tmod (IntKind.wrap .i64 v0.2.2.1.1) 10), (Int.tmod (IntKind.wrap .i64 v0.2.2.1.2.1) 10)], [(Int.tmod (IntKind.wrap .i64 v0.2.2.2.1.1) 10), (Int.tmod (IntKind.wrap .i64 v0.2.2.2.1.2.1) 10)], [(Int.tmod (IntKind.wrap .i64 v0.2.2.2.2.1) 10), (Int.tmod (IntKind.wrap .i64 v0.2.2.2.2.2.1) 10)])), ())
   else bif eqI t 3 then some ((1, ([(Int.tmod (IntKind.wrap .i64 v0.2.2.1.1) 10), (Int.tmod (IntKind.wrap .i64 v0.2.2.1.2.1) 10), (Int.tmod (IntKind.wrap .i64 v0.2.2.1.2.2) 10)], [(Int.tmod (IntKind.wrap .i64 v0.2.2.2.1.1) 10), (Int.tmod (IntKind.wrap .i64 v0.2.2.2.1.2.1) 10), (Int.tmod (IntKind.wrap .i64 v0.2.2.2.1.2.2) 10)], [(Int.tmod (IntKind.wrap .i64 v0.2.2.2.2.1) 10), (Int.tmod (IntKind.wrap .i64 v0.2.2.2.2.2.1) 10), (Int.tmod (IntKind.wrap .i64 v0.2.2.2.2.2.2) 10)])), ())
   else none
def f29 (x : aH [.agg (.prod .bool (.prod (.int .u8) (.prod (.prod (.int .i8) (.prod (.int .i8) (.int .i8))) (.prod (.prod (.int .i8) (.prod (.int .i8) (.int .i8))) (.prod (.int .i8) (.prod (.int .i8) (.int .i8)))))))]) : Option (aH [.agg TyA]) := match x with
 | (v0, ()) => a33 v0 (IntKind.wrap .i64 (Int.tmod v0.2.1 4))
noncomputable def c29 : Code := aT Tryz.f29
abbrev E29 : Env := bI []
theorem a3G : aZ Tryz.prog E29 := aY trivial
def a56 (id : Nat) : Option (Nat × Nat) := bif Nat.beq id 4 then some (4, 4) else none
theorem a2J : ∀ x, aSQ Tryz.prog E29 Tryz.f29 (aC Tryz.f29) a56 60 c29 [.agg (.prod .bool (.prod (.int .u8) (.prod (.prod (.int .i8) (.prod (.int .i8) (.int .i8))) (.prod (.prod (.int .i8) (.prod (.int .i8) (.int .i8))) (.prod (.int .i8) (.prod (.int .i8) (.int .i8)))))))] [.agg TyA] x = f29 x := by
 rintro ⟨⟨a, b, ⟨c, d, e⟩, ⟨f, g, h⟩, ⟨i, j, k⟩⟩, ⟨⟩⟩
 kernel_rfl
theorem a6G : cO Tryz.prog 29 [.agg (.prod .bool (.prod (.int .u8) (.prod (.prod (.int .i8) (.prod (.int .i8) (.int .i8))) (.prod (.prod (.int .i8) (.prod (.int .i8) (.int .i8))) (.prod (.int .i8) (.prod (.int .i8) (.int .i8)))))))] [.agg TyA] f29 := by
 exact aW2 aK a3G Tryz.func29 (c := c29) (by kernel_rfl) a2J
abbrev e29 : Ent := ⟨29, [.agg (.prod .bool (.prod (.int .u8) (.prod (.prod (.int .i8) (.prod (.int .i8) (.int .i8))) (.prod (.prod (.int .i8) (.prod (.int .i8) (.int .i8))) (.prod (.int .i8) (.prod (.int .i8) (.int .i8)))))))], [.agg TyA], f29⟩
theorem a2F : Ent.OK Tryz.prog e29 := a6G
end Go.PM
set_option linter.unusedSimpArgs false
set_option linter.unusedVariables false
namespace Go.PM
open Go Go.RowKit Go.Proofs
set_option maxRecDepth 100000
set_option maxHeartbeats 4000000
end Go.PM
set_option linter.unusedSimpArgs false
set_option linter.unusedVariables false
namespace Go.PM
open Go Go.RowKit Go.Proofs
set_option maxRecDepth 100000
def Sm (B : Int) (r : List Int) : Prop := ∀ v ∈ r, -B ≤ v ∧ v ≤ B
structure j9 (B : Int) (l : Lay) : Prop where
 kind : l.1 = 1 ∨ l.1 = 2
 len : l.2.1.length ≤ 3
 right : l.2.2.1.length = l.2.1.length
 up : l.2.2.2.length = l.2.1.length
 o : Sm B l.2.1
 r : Sm B l.2.2.1
 u : Sm B l.2.2.2
theorem Sm.get {B : Int} {r : List Int} (h : Sm B r) {i : Nat} (hi : i < r.length) : -B ≤ r.getD i 0 ∧ r.getD i 0 ≤ B := h _ (aSL hi)
theorem FO (a : Int) : -9 ≤ a.tmod 10 ∧ a.tmod 10 ≤ 9 := by
 cases a with
 | ofNat m =>
  have h : (Int.ofNat m).tmod 10 = ((m % 10 : Nat) : Int) := rfl
  rw [h]; omega
 | negSucc m =>
  have h : (Int.negSucc m).tmod 10 = -(((m + 1) % 10 : Nat) : Int) := rfl
  rw [h]; omega
theorem aL9 {r : Int} (h : 0 ≤ r ∧ r ≤ 255) : IntKind.wrap .i64 (Int.tmod r 4) = 0 ∨ IntKind.wrap .i64 (Int.tmod r 4) = 1 ∨ IntKind.wrap .i64 (Int.tmod r 4) = 2 ∨ IntKind.wrap .i64 (Int.tmod r 4) = 3 := by
 obtain ⟨m, rfl⟩ : ∃ m : Nat, r = m := ⟨r.toNat, by omega⟩
 have h1 : Int.tmod (m : Int) 4 = ((m % 4 : Nat) : Int) := rfl
 rw [h1, IntKind.wrap_i64]
 omega
theorem aEU (B : Int) : Sm B [] := fun v hv => by cases hv
theorem MH {B : Int} {x : Int} {l : List Int} (h : -B ≤ x ∧ x ≤ B) (hl : Sm B l) : Sm B (x :: l) := fun v hv => by
 rcases List.mem_cons.1 hv with rfl | hv
 ·exact h
 ·exact hl v hv
theorem aPF (d : Ty.den (.prod .bool (.prod (.int .u8) (.prod (.prod (.int .i8) (.prod (.int .i8) (.int .i8))) (.prod (.prod (.int .i8) (.prod (.int .i8) (.int .i8))) (.prod (.int .i8) (.prod (.int .i8) (.int .i8)))))))) {t : Int} (ht : t = 0 ∨ t = 1 ∨ t = 2 ∨ t = 3) : ∃ l : Lay, a33 d t = some (l, ()) ∧ j9 9 l := by
 obtain ⟨x, b, ⟨c, d, e⟩, ⟨f, g, h⟩, ⟨i, j, k⟩⟩ := d
 cases x <;> rcases ht with rfl | rfl | rfl | rfl <;> refine ⟨_, rfl, ?_⟩ <;> constructor <;> first
  | exact .inl rfl
  | exact .inr rfl
  | exact aEU 9
  | exact MH (FO _) (aEU 9)
  | exact MH (FO _) (MH (FO _) (aEU 9))
  | exact MH (FO _) (MH (FO _) (MH (FO _) (aEU 9)))
  | (show ([] : List Int).length ≤ 3; decide)
  | rfl
  | exact Nat.le_of_ble_eq_true rfl
theorem aSM (d : Ty.den (.prod .bool (.prod (.int .u8) (.prod (.prod (.int .i8) (.prod (.int .i8) (.int .i8))) (.prod (.prod (.int .i8) (.prod (.int .i8) (.int .i8))) (.prod (.int .i8) (.prod (.int .i8) (.int .i8)))))))) (hr : 0 ≤ d.2.1 ∧ d.2.1 ≤ 255) : ∃ l : Lay, f29 (d, ()) = some (l, ()) ∧ j9 9 l :=
 aPF d (aL9 hr)

theorem mM {r : List Int} {B : Int} (h : Sm B r) (hB : B ≤ 1000000000) (hl : r.length ≤ 64) : rc r = 0 := by
 unfold rc
 rw [if_neg (by omega), if_pos]
 intro i hi
 have := h.get hi
 unfold okE
 omega
theorem P9 {B : Int} {l : Lay} (h : j9 B l) (hB : B ≤ 1000000000) : ce l = 0 := by
 have h1 := h.len
 have h2 := h.right
 have h3 := h.up
 have e1 : rc l.2.1 = 0 := mM h.o hB (by omega)
 have e2 : rc l.2.2.1 = 0 := mM h.r hB (by omega)
 have e3 : rc l.2.2.2 = 0 := mM h.u hB (by omega)
 have hk := h.kind
 unfold ce
 simp only [e1, e2, e3, h2, h3]
 rcases hk with hk | hk <;> simp [hk]
def AS (g : S4) : Prop := (-1 ≤ g.1 ∧ g.1 ≤ 1) ∧ (-1 ≤ g.2.1 ∧ g.2.1 ≤ 1) ∧ (-1 ≤ g.2.2.1 ∧ g.2.2.1 ≤ 1) ∧ (-1 ≤ g.2.2.2 ∧ g.2.2.2 ≤ 1)
instance (g : S4) : Decidable (AS g) := by unfold AS; infer_instance
theorem mU {k : Int} {g : S4} (h : g ∈ aS k) : AS g := by
 have h4 : ∀ g ∈ KN, AS g := by decide
 have h6 : ∀ g ∈ J1, AS g := by decide
 unfold aS at h
 split at h
 ·exact h6 g h
 ·exact h4 g h
theorem aIM {a x B : Int} (ha : -1 ≤ a ∧ a ≤ 1) (hx : -B ≤ x ∧ x ≤ B) : -B ≤ a * x ∧ a * x ≤ B := by
 rcases (by omega : a = -1 ∨ a = 0 ∨ a = 1) with rfl | rfl | rfl <;> omega
theorem uO {a b B : Int} {r s : List Int} {i : Nat} (ha : -1 ≤ a ∧ a ≤ 1) (hb : -1 ≤ b ∧ b ≤ 1) (hr : -B ≤ r.getD i 0 ∧ r.getD i 0 ≤ B) (hs : -B ≤ s.getD i 0 ∧ s.getD i 0 ≤ B) (hB : B ≤ 1000000000) :
  mxE a b r s i = a * r.getD i 0 + b * s.getD i 0 ∧ -(2 * B) ≤ mxE a b r s i ∧ mxE a b r s i ≤ 2 * B := by
 have h1 := aIM ha hr
 have h2 := aIM hb hs
 have : mxE a b r s i = a * r.getD i 0 + b * s.getD i 0 := by
  unfold mxE
  rw [wrap64 (x := a * r.getD i 0) (by omega) (by omega), wrap64 (x := b * s.getD i 0) (by omega) (by omega), wrap64 (by omega) (by omega)]
 rw [this]
 omega
theorem CJ {a b : Int} {r s : List Int} {i : Nat} (h : i < r.length) : (mx a b r s).getD i 0 = mxE a b r s i := by
 unfold mx
 simp [List.getD_eq_getElem?_getD, h]
theorem aHV {a b B : Int} {r s : List Int} (ha : -1 ≤ a ∧ a ≤ 1) (hb : -1 ≤ b ∧ b ≤ 1) (hr : Sm B r) (hs : Sm B s) (hl : s.length = r.length) (hB : B ≤ 1000000000) : Sm (2 * B) (mx a b r s) := by
 intro v hv
 unfold mx at hv
 obtain ⟨i, hi, rfl⟩ := List.mem_map.1 hv
 have hi := List.mem_range.1 hi
 exact (uO ha hb (hr.get hi) (hs.get (by omega)) hB).2
theorem lL {B : Int} {l : Lay} {g : S4} (h : j9 B l) (hg : AS g) (hB0 : 0 ≤ B) (hB : B ≤ 1000000000) : j9 (2 * B) (trn l g) := by
 have h1 := h.right
 have h2 := h.up
 refine ⟨h.kind, h.len, by show (mx _ _ _ _).length = _; rw [j7]; exact h1, by show (mx _ _ _ _).length = _; rw [j7]; exact h1, ?_, ?_, ?_⟩
 ·intro v hv
  have := h.o v hv
  omega
 ·exact aHV hg.1 hg.2.2.1 h.r h.u (by omega) hB
 ·exact aHV hg.2.1 hg.2.2.2 h.r h.u (by omega) hB
theorem aOP {B : Int} {l : Lay} {g : S4} (h : j9 B l) (hg : g ∈ aS l.1) (hB0 : 0 ≤ B) (hB : B ≤ 500000000) : f15 (l, g, ()) = some (trn l g, 0, ()) := by
 have h0 := h.len
 have h1 := h.right
 have h2 := h.up
 have ht := lL h (mU hg) hB0 (by omega)
 have e1 : rc (trn l g).2.1 = 0 := mM ht.o (by omega) (by have := ht.len; omega)
 have e2 : rc (trn l g).2.2.1 = 0 := mM ht.r (by omega) (by have := ht.len; have := ht.right; omega)
 have e3 : rc (trn l g).2.2.2 = 0 := mM ht.u (by omega) (by have := ht.len; have := ht.up; omega)
 rw [a1P g (by omega) (by omega) (by omega) (P9 h (by omega)), if_pos hg, if_pos ⟨e1, e2, e3⟩]
def KW (g h : S4) : S4 := (g.1 * h.1 + g.2.1 * h.2.2.1, g.1 * h.2.1 + g.2.1 * h.2.2.2, g.2.2.1 * h.1 + g.2.2.2 * h.2.2.1, g.2.2.1 * h.2.1 + g.2.2.2 * h.2.2.2)
def aTZ (L : List S4) : Bool := L.all fun g => L.all fun h => match f23 (g, h, ()) with
 | some (c, ()) => eq4 c (KW g h) && L.any fun x => eq4 x c
 | none => false
theorem aWM : aTZ KN = true := by kernel_rfl
theorem aX3 : aTZ J1 = true := by kernel_rfl
theorem aMM {k : Int} {g h : S4} (hg : g ∈ aS k) (hh : h ∈ aS k) : f23 (g, h, ()) = some (KW g h, ()) ∧ KW g h ∈ aS k := by
 have hc : aTZ (aS k) = true := by
  unfold aS
  split
  ·exact aX3
  ·exact aWM
 have h1 := List.all_eq_true.1 (List.all_eq_true.1 hc g hg) h hh
 split at h1
 ·rename_i c hc
  simp only [Bool.and_eq_true, List.any_eq_true] at h1
  obtain ⟨h2, x, h3, h4⟩ := h1
  rw [ZI, decide_eq_true_eq] at h2 h4
  rw [hc, h2]
  exact ⟨rfl, by rw [← h2, ← h4]; exact h3⟩
 ·cases h1
theorem aY1 {a b a1 b1 a2 b2 B : Int} {r s : List Int} (ha : -1 ≤ a ∧ a ≤ 1) (hb : -1 ≤ b ∧ b ≤ 1) (ha1 : -1 ≤ a1 ∧ a1 ≤ 1) (hb1 : -1 ≤ b1 ∧ b1 ≤ 1) (ha2 : -1 ≤ a2 ∧ a2 ≤ 1) (hb2 : -1 ≤ b2 ∧ b2 ≤ 1)
  (hc : -1 ≤ a1 * a + a2 * b ∧ a1 * a + a2 * b ≤ 1) (hd : -1 ≤ b1 * a + b2 * b ∧ b1 * a + b2 * b ≤ 1) (hr : Sm B r) (hs : Sm B s) (hl : s.length = r.length) (hB0 : 0 ≤ B) (hB : B ≤ 100000000) :
  mx a b (mx a1 b1 r s) (mx a2 b2 r s) = mx (a1 * a + a2 * b) (b1 * a + b2 * b) r s := by
 show List.map _ (List.range (mx a1 b1 r s).length) = List.map _ (List.range r.length)
 rw [j7]
 refine List.map_congr_left fun i hi => ?_
 have hi := List.mem_range.1 hi
 have h1 := hr.get hi
 have h2 := hs.get (i := i) (by omega)
 obtain ⟨e1, e1'⟩ := uO ha1 hb1 h1 h2 (by omega)
 obtain ⟨e2, e2'⟩ := uO ha2 hb2 h1 h2 (by omega)
 obtain ⟨e3, -⟩ := uO hc hd h1 h2 (by omega)
 obtain ⟨e4, -⟩ := uO (r := mx a1 b1 r s) (s := mx a2 b2 r s) (i := i) (B := 2 * B) ha hb (by rw [CJ hi]; omega) (by rw [CJ hi]; omega) (by omega)
 rw [e4, e3, CJ hi, CJ hi, e1, e2]
 generalize r.getD i 0 = x
 generalize s.getD i 0 = y
 simp only [Int.mul_add, Int.add_mul]
 have q1 : a * (a1 * x) = a1 * a * x := by rw [← Int.mul_assoc, Int.mul_comm a a1]
 have q2 : a * (b1 * y) = b1 * a * y := by rw [← Int.mul_assoc, Int.mul_comm a b1]
 have q3 : b * (a2 * x) = a2 * b * x := by rw [← Int.mul_assoc, Int.mul_comm b a2]
 have q4 : b * (b2 * y) = b2 * b * y := by rw [← Int.mul_assoc, Int.mul_comm b b2]
 omega
theorem RH {B : Int} {l : Lay} {g h : S4} (hl : j9 B l) (hg : g ∈ aS l.1) (hh : h ∈ aS l.1) (hB0 : 0 ≤ B) (hB : B ≤ 100000000) : trn (trn l g) h = trn l (KW g h) := by
 have ug := mU hg
 have uh := mU hh
 have uc := mU (aMM hg hh).2
 have h1 := hl.right
 have h2 := hl.up
 unfold trn
 simp only
 rw [aY1 uh.1 uh.2.2.1 ug.1 ug.2.2.1 ug.2.1 ug.2.2.2 uc.1 uc.2.2.1 hl.r hl.u (by omega) hB0 hB, aY1 uh.2.1 uh.2.2.2 ug.1 ug.2.2.1 ug.2.1 ug.2.2.2 uc.2.1 uc.2.2.2 hl.r hl.u (by omega) hB0 hB]
 rfl
theorem MF {k : Int} : 0 < (aS k).length := by unfold aS; split <;> decide
end Go.PM
set_option linter.unusedSimpArgs false
set_option linter.unusedVariables false
namespace Go.PM
open Go Go.RowKit Go.Proofs
set_option maxRecDepth 100000
set_option maxHeartbeats 4000000
/-! schisma/schismalaw46.IsomorphyMoves -/
abbrev aD0 : List (Nat × Kd) := [(7, .box 25 TyA), (8, .list TyB), (16, .list TyB), (18, .own 25 TyA), (19, .int .i64), (20, .int .i64), (21, .box 25 TyA), (23, .bool), (24, .int .i64)]
abbrev aJN : List (Ex × List (Nat × Kd)) := [(.exit 2, [(7, .box 25 TyA), (8, .list TyB), (16, .list TyB), (18, .own 25 TyA), (19, .int .i64), (20, .int .i64), (21, .box 25 TyA), (23, .bool)])]
def SG (x : Shape.den aD0) : Option (Shape.den aD0 ⊕ aV aJN) := match x with
 | (v7, v8, v16, v18, v19, v20, v21, v23, v24, ()) =>
  bif ltI v24 (v18.length : Int) then
   bif v23 then
    some (.inl (v7, v8, v16, v18, v19, v20, v21, true, (aJ .i64 (v24 + 1)), ()))
   else bif aP v24 v18.length then bif Nat.blt v24.toNat v18.length then aB (f19 (((v18.getD v24.toNat (0, ([], ([], [])))).1, ((v18.getD v24.toNat (0, ([], ([], [])))).2.1, ((v18.getD v24.toNat (0, ([], ([], [])))).2.2.1, (v18.getD v24.toNat (0, ([], ([], [])))).2.2.2))), v21, ())) fun y12 =>
   some (.inl (v7, v8, v16, v18, v19, v20, v21, y12.1, (aJ .i64 (v24 + 1)), ())) else none else none
  else some (.inr ((v7, v8, v16, v18, v19, v20, v21, v23, ())))
def IG (x : Shape.den aD0) : Option (aV aJN) := bS SG (2 ^ 64) x
abbrev aAK : List (Nat × Kd) := [(7, .box 25 TyA), (8, .list TyB), (16, .list TyB), (18, .own 25 TyA), (19, .int .i64), (20, .int .i64)]
abbrev aDG : List (Ex × List (Nat × Kd)) := [(.ret, [(6, .bool)]), (.exit 0, [(8, .list TyB), (16, .list TyB), (18, .own 25 TyA), (19, .int .i64)])]
def XP (x : Shape.den aAK) : Option (Shape.den aAK ⊕ aV aDG) := match x with
 | (v7, v8, v16, v18, v19, v20, ()) =>
  bif ltI v20 (v8.length : Int) then
   bif aP v20 v8.length then aB (f18 (v7, ((v8.getD v20.toNat (0, (0, (0, 0)))).1, ((v8.getD v20.toNat (0, (0, (0, 0)))).2.1, ((v8.getD v20.toNat (0, (0, (0, 0)))).2.2.1, (v8.getD v20.toNat (0, (0, (0, 0)))).2.2.2))), ())) fun y15 =>
   aB (f19 (y15.1, v7, ())) fun y16 =>
   bif y16.1 then
    bif !(ltI v19 (v16.length : Int)) then
     some (.inr (.inl (false, ())))
    else bif aP v19 v16.length then bif aP v20 v8.length then bif !(eqI ((v16.getD v19.toNat (0, (0, (0, 0)))).1) ((v8.getD v20.toNat (0, (0, (0, 0)))).1) && (eqI ((v16.getD v19.toNat (0, (0, (0, 0)))).2.1) ((v8.getD v20.toNat (0, (0, (0, 0)))).2.1) && (eqI ((v16.getD v19.toNat (0, (0, (0, 0)))).2.2.1) ((v8.getD v20.toNat (0, (0, (0, 0)))).2.2.1) && (eqI ((v16.getD v19.toNat (0, (0, (0, 0)))).2.2.2) ((v8.getD v20.toNat (0, (0, (0, 0)))).2.2.2) && true)))) then
     some (.inr (.inl (false, ())))
    else aB (IG (v7, v8, v16, v18, (aJ .i64 (v19 + 1)), v20, y15.1, false, 0, ())) fun z17 =>
    bif z17.2.2.2.2.2.2.2.1 then
     some (.inl (z17.1, z17.2.1, z17.2.2.1, z17.2.2.2.1, z17.2.2.2.2.1, (aJ .i64 (z17.2.2.2.2.2.1 + 1)), ()))
    else bif Nat.ble [z17.2.2.2.2.2.2.1].length 1048576 then bif Nat.ble z17.2.2.2.1.length 1048576 then some (.inl (z17.1, z17.2.1, z17.2.2.1, (z17.2.2.2.1 ++ [z17.2.2.2.2.2.2.1]), z17.2.2.2.2.1, (aJ .i64 (z17.2.2.2.2.2.1 + 1)), ())) else none else none else none else none
   else aB (IG (v7, v8, v16, v18, v19, v20, y15.1, false, 0, ())) fun z18 =>
   bif z18.2.2.2.2.2.2.2.1 then
    some (.inl (z18.1, z18.2.1, z18.2.2.1, z18.2.2.2.1, z18.2.2.2.2.1, (aJ .i64 (z18.2.2.2.2.2.1 + 1)), ()))
   else bif Nat.ble [z18.2.2.2.2.2.2.1].length 1048576 then bif Nat.ble z18.2.2.2.1.length 1048576 then some (.inl (z18.1, z18.2.1, z18.2.2.1, (z18.2.2.2.1 ++ [z18.2.2.2.2.2.2.1]), z18.2.2.2.2.1, (aJ .i64 (z18.2.2.2.2.2.1 + 1)), ())) else none else none else none
  else some (.inr (.inr ((v8, v16, v18, v19, ()))))
def RI (x : Shape.den aAK) : Option (aV aDG) := bS XP (2 ^ 64) x
def f8 (x : aH [.agg (.prod .bool (.prod (.int .u8) (.prod (.prod (.int .i8) (.prod (.int .i8) (.int .i8))) (.prod (.prod (.int .i8) (.prod (.int .i8) (.int .i8))) (.prod (.int .i8) (.prod (.int .i8) (.int .i8))))))), .int .u8, .agg (.prod (.int .i8) (.int .i8))]) : Option (aH [.bool]) := match x with
 | (v0, v1, v2, ()) =>
  aB (f12 (())) fun y1 =>
  bif y1.1 then
   aB (f29 ((v0.1, (v0.2.1, ((v0.2.2.1.1, (v0.2.2.1.2.1, v0.2.2.1.2.2)), ((v0.2.2.2.1.1, (v0.2.2.2.1.2.1, v0.2.2.2.1.2.2)), (v0.2.2.2.2.1, (v0.2.2.2.2.2.1, v0.2.2.2.2.2.2)))))), ())) fun y2 =>
   bif !(ltI (y2.1.2.2.1.length : Int) 0) then bif !(ltI (y2.1.2.2.1.length : Int) (y2.1.2.2.1.length : Int)) then bif !(ltI 1048576 (y2.1.2.2.1.length : Int)) then aB (f16 (y2.1.1, ())) fun y3 =>
   aB (aI1 ((y2.1.1, ((List.replicate ((y2.1.2.2.1.length : Int).toNat) 0), (y2.1.2.2.1, y2.1.2.2.2))), ((IntKind.wrap .i64 v2.1).tmod 5), ((IntKind.wrap .i64 v2.2).tmod 5), ())) fun y4 =>
   bif eqI (y3.1.length : Int) 0 then none else bif aP ((IntKind.wrap .i64 v1).tmod (y3.1.length : Int)) y3.1.length then aB (f15 (y4.1, ((y3.1.getD (((IntKind.wrap .i64 v1).tmod (y3.1.length : Int)).toNat) (0, (0, (0, 0)))).1, ((y3.1.getD (((IntKind.wrap .i64 v1).tmod (y3.1.length : Int)).toNat) (0, (0, (0, 0)))).2.1, ((y3.1.getD (((IntKind.wrap .i64 v1).tmod (y3.1.length : Int)).toNat) (0, (0, (0, 0)))).2.2.1, (y3.1.getD (((IntKind.wrap .i64 v1).tmod (y3.1.length : Int)).toNat) (0, (0, (0, 0)))).2.2.2))), ())) fun y5 =>
   aB (f27 ((y2.1.1, ((List.replicate ((y2.1.2.2.1.length : Int).toNat) 0), (y2.1.2.2.1, y2.1.2.2.2))), y5.1, ())) fun y6 =>
   aB (f28 ((y2.1.1, ((List.replicate ((y2.1.2.2.1.length : Int).toNat) 0), (y2.1.2.2.1, y2.1.2.2.2))), ())) fun y7 =>
   bif !(eqI y4.2.1 0) then
    some (false, ())
   else bif !(eqI y5.2.1 0) then
    some (false, ())
   else bif !(eqI y7.2.1 0) then
    some (false, ())
   else bif !(eqI y6.2.2.1 0) then
    some (false, ())
   else bif y6.2.1 then
    aB (f31 ((y2.1.1, ((List.replicate ((y2.1.2.2.1.length : Int).toNat) 0), (y2.1.2.2.1, y2.1.2.2.2))), y5.1, (y6.1.1, (y6.1.2.1, y6.1.2.2)), ())) fun y8 =>
    bif y8.1 then
     aB (RI ((y2.1.1, ((List.replicate ((y2.1.2.2.1.length : Int).toNat) 0), (y2.1.2.2.1, y2.1.2.2.2))), y3.1, y7.1, [], 0, 0, ())) fun z19 =>
     kT z19 (fun a20 => some (a20.1, ())) fun b21 =>
     bif eqI b21.2.2.2.1 (b21.2.1.length : Int) then
      some (eqI (aJ .i64 (b21.2.2.2.1 * (b21.2.2.1.length : Int))) (b21.1.length : Int), ())
     else some (false, ())
    else some (false, ())
   else some (false, ()) else none else none else none else none
  else some (false, ())
noncomputable def c8 : Code := aT Tryz.f8
abbrev E8 : Env := bI [e12, e15, e16, e18, e19, a5S, e27, e28, e29, e31]
theorem aVE : aZ Tryz.prog E8 := aY ⟨a30, a0K, aTQ, aRS, aUW, aWN, aSB, aRO, a2F, a2D, trivial⟩
noncomputable def aOU : Code := eD c8 0
noncomputable def aT3 : Code := eD aOU 0
def lt8 (id : Nat) : Option aR := bif Nat.beq id 26 then some ⟨aD0, aJN, IG⟩ else bif Nat.beq id 17 then some ⟨aAK, aDG, RI⟩ else none
theorem aRM : ∀ x, dZ Tryz.prog E8 167 (aC Tryz.f8) lt8 aT3 aD0 aJN x = SG x := by
 rintro ⟨v7, v8, v16, v18, v19, v20, v21, v23, v24, ⟨⟩⟩
 kernel_rfl
theorem a41 : aF aT3 = [] := by kernel_rfl
theorem aRG : aG aT3 = 26 := by kernel_rfl
theorem aXK : cL Tryz.prog 167 aT3 ⟨aD0, aJN, IG⟩ := by
 exact cS aVE.callee aK.mixed _ (aE a41 trivial) aRM
theorem aTS : ∀ x, dZ Tryz.prog E8 167 (aC Tryz.f8) lt8 aOU aAK aDG x = XP x := by
 rintro ⟨v7, v8, v16, v18, v19, v20, ⟨⟩⟩
 kernel_rfl
theorem a5C : aF aOU = [aT3] := by kernel_rfl
theorem aUH : aG aOU = 17 := by kernel_rfl
theorem aV8 : cL Tryz.prog 167 aOU ⟨aAK, aDG, RI⟩ := by
 exact cS aVE.callee aK.mixed _ (aE a5C ⟨cR aRG rfl aXK, trivial⟩) aTS
theorem aZB : aF c8 = [aOU] := by kernel_rfl
theorem a4U : ∀ x, bQ Tryz.prog E8 Tryz.f8 (aC Tryz.f8) lt8 c8 [.agg (.prod .bool (.prod (.int .u8) (.prod (.prod (.int .i8) (.prod (.int .i8) (.int .i8))) (.prod (.prod (.int .i8) (.prod (.int .i8) (.int .i8))) (.prod (.int .i8) (.prod (.int .i8) (.int .i8))))))), .int .u8, .agg (.prod (.int .i8) (.int .i8))] [.bool] x = f8 x := by
 rintro ⟨v0, v1, v2, ⟨⟩⟩
 kernel_rfl
theorem fn8 : cO Tryz.prog 8 [.agg (.prod .bool (.prod (.int .u8) (.prod (.prod (.int .i8) (.prod (.int .i8) (.int .i8))) (.prod (.prod (.int .i8) (.prod (.int .i8) (.int .i8))) (.prod (.int .i8) (.prod (.int .i8) (.int .i8))))))), .int .u8, .agg (.prod (.int .i8) (.int .i8))] [.bool] f8 := by
 exact bA aK aVE Tryz.func8 (c := c8) (by kernel_rfl) (aU := aC Tryz.f8) (lt := lt8) (aE aZB ⟨cR aUH rfl aV8, trivial⟩) a4U
end Go.PM
set_option linter.unusedSimpArgs false
set_option linter.unusedVariables false
namespace Go.PM
open Go Go.RowKit Go.Proofs
set_option maxRecDepth 100000
theorem aW5 {a b : Int} {r s : List Int} (hl : s.length = r.length) (hr : r.length ≤ 1000) : aPZ (r, s, a, b, ()) = some (mx a b r s) := by
 have hloop : L9 (r, s, a, b, [], (r.length : Int), 0, ()) = some (mx a b r s, ()) := by
  refine dV (N := 2 ^ 64) (step := EW) (fun i => (r, s, a, b, (List.range i).map (mxE a b r s), (r.length : Int), (i : Int), ())) r.length _ (by omega) ?_ ?_
  ·intro i hi
   simp only [EW, aL, bB, jL, bC, Int.toNat_natCast, List.length_map, List.length_range, List.length_singleton]
   rw [if_pos (by omega), if_pos (by omega), if_pos (by omega), if_pos (by omega), if_pos (by omega), dO i (by omega), List.range_succ, List.map_append]
   rfl
  ·simp only [EW, aL, bC]
   rw [if_neg (by omega)]
   rfl
 unfold aPZ; dsimp only
 rw [hloop, aD]
def aAT (x y : Int) (o r u : List Int) (i j : Nat) : Int := if j < i then aJ .i64 (mxE x y r u j + o.getD j 0) else mxE x y r u j
def shf (x y : Int) (o r u : List Int) (i : Nat) : List Int := (List.range r.length).map (aAT x y o r u i)
theorem aRD (x y : Int) (o r u : List Int) : shf x y o r u 0 = mx x y r u := by
 unfold shf mx
 refine List.map_congr_left fun j _ => ?_
 unfold aAT
 rw [if_neg (by omega)]
theorem aF9 (x y : Int) (o r u : List Int) (i : Nat) {j : Nat} (h : j < r.length) : (shf x y o r u i).getD j 0 = aAT x y o r u i j := by
 unfold shf
 rw [List.getD_eq_getElem?_getD, List.getElem?_map, List.getElem?_range h]; rfl
theorem pC (x y : Int) (o r u : List Int) (i : Nat) : (shf x y o r u i).length = r.length := by simp [shf]
theorem aYH (x y : Int) (o r u : List Int) {i : Nat} (h : i < r.length) : (shf x y o r u i).set i (aJ .i64 ((shf x y o r u i).getD i 0 + o.getD i 0)) = shf x y o r u (i + 1) := by
 rw [aF9 x y o r u i h]
 apply List.ext_getElem
 ·rw [List.length_set, pC, pC]
 ·intro j h1 h2
  rw [List.length_set, pC] at h1
  rw [List.getElem_set]
  have g : ∀ k, (shf x y o r u k)[j]'(by rw [pC]; exact h1) = aAT x y o r u k j := fun k => by simp [shf]
  rw [g (i + 1)]
  by_cases hij : i = j
  ·subst hij
   rw [if_pos rfl]
   unfold aAT
   rw [if_neg (by omega), if_pos (by omega)]
  ·rw [if_neg hij, g i]
   unfold aAT
   by_cases hlt : j < i
   ·rw [if_pos hlt, if_pos (by omega)]
   ·rw [if_neg hlt, if_neg (by omega)]
def shL (l : Lay) (x y : Int) : Lay := (l.1, shf x y l.2.1 l.2.2.1 l.2.2.2 l.2.2.1.length, l.2.2.1, l.2.2.2)
theorem aZ1 {l : Lay} (x y : Int) (h0 : l.2.1.length = l.2.2.1.length) (h1 : l.2.2.2.length = l.2.2.1.length) (h2 : l.2.2.1.length ≤ 1000) : f44 (l, x, y, ()) = some (shL l x y, ()) := by
 obtain ⟨k, o, r, u⟩ := l
 dsimp only at h0 h1 h2
 have hc : ∀ s : List Int, s.length ≤ 1000 → aB9 (s, ()) = some (s, ()) := fun s hs => by
  unfold aB9; dsimp only
  rw [jL, bC, if_pos (by omega)]
 have hloop : LG ((k, o, r, u), zL, (k, (shf x y o r u 0, (r, u))), (r.length : Int), 0, ()) = some (zL, (k, (shf x y o r u r.length, (r, u))), ()) := by
  refine dV (N := 2 ^ 64) (step := J7) (fun i => ((k, o, r, u), zL, (k, (shf x y o r u i, (r, u))), (r.length : Int), (i : Int), ())) r.length _ (by omega) ?_ ?_
  ·intro i hi
   have hs := pC x y o r u i
   simp only [J7, aL, bB, c6, bC, Int.toNat_natCast]
   rw [if_pos (by omega), if_pos (by omega), if_pos (by omega), if_pos (by omega), if_pos (by omega), if_pos (by omega), dO i (by omega), aYH x y o r u hi]
  ·simp only [J7, aL, bC]
   rw [if_neg (by omega)]
 unfold f44; dsimp only
 rw [aW5 h1 h2, aD, hc r h2, aD, hc u (by omega), aD]
 have hl : ((mx x y r u).length : Int) = (r.length : Int) := by rw [j7]
 show (aB (LG ((k, o, r, u), zL, (k, (mx x y r u, (r, u))), ((mx x y r u).length : Int), 0, ())) _) = _
 rw [hl, ← aRD x y o r u, hloop, aD]
 rfl
theorem aV0 {l : Lay} (x y : Int) (h0 : l.2.1.length = l.2.2.1.length) (h1 : l.2.2.2.length = l.2.2.1.length) (h2 : l.2.2.1.length ≤ 1000) (hc : ce l = 0) :
  aI1 (l, x, y, ()) = some (if x < -1000 ∨ 1000 < x ∨ y < -1000 ∨ 1000 < y then (zL, 3, ()) else if rc (shL l x y).2.1 = 0 ∧ rc (shL l x y).2.2.1 = 0 ∧ rc (shL l x y).2.2.2 = 0 then (shL l x y, 0, ()) else (zL, 4, ())) := by
 have h24 := aAN l
 rw [hc] at h24
 unfold aI1
 show (aB (f24 (l, ())) _) = _
 rw [h24, aD]
 show (bif ltI x (-1000) then some (zL, 3, ()) else bif ltI 1000 x then some (zL, 3, ()) else bif ltI y (-1000) then some (zL, 3, ()) else bif ltI 1000 y then some (zL, 3, ()) else aB (f44 (l, x, y, ())) fun y2 => aB (f39 (y2.1, ())) fun y3 => some (y3.1, y3.2.1, ())) = _
 simp only [aL, bC]
 by_cases g1 : x < -1000
 ·rw [if_pos g1, if_pos (.inl g1)]
 ·rw [if_neg g1]
  by_cases g2 : 1000 < x
  ·rw [if_pos g2, if_pos (.inr (.inl g2))]
  ·rw [if_neg g2]
   by_cases g3 : y < -1000
   ·rw [if_pos g3, if_pos (.inr (.inr (.inl g3)))]
   ·rw [if_neg g3]
    by_cases g4 : 1000 < y
    ·rw [if_pos g4, if_pos (.inr (.inr (.inr g4)))]
    ·rw [if_neg g4, if_neg (by omega), aZ1 x y h0 h1 h2, aD]
     show (aB (f39 (shL l x y, ())) _) = _
     rw [aMH, aD]
def shN (x y : Int) (o r u : List Int) (i : Nat) : Int := aJ .i64 (aJ .i64 (o.getD i 0 + aJ .i64 (x * r.getD i 0)) + aJ .i64 (y * u.getD i 0))
theorem aDX {x v : Int} (hx : -1000 ≤ x ∧ x ≤ 1000) (hv : okE v) : -1000000000000 ≤ x * v ∧ x * v ≤ 1000000000000 := by
 obtain ⟨h1, h2⟩ := hv
 have key : (x * v).natAbs ≤ 1000 * 1000000000 := by
  rw [Int.natAbs_mul]
  exact Nat.mul_le_mul (by omega) (by omega)
 omega
theorem a3V {x y : Int} {o r u : List Int} {i : Nat} (hx : -1000 ≤ x ∧ x ≤ 1000) (hy : -1000 ≤ y ∧ y ≤ 1000) (ho : okE (o.getD i 0)) (hr : okE (r.getD i 0)) (hu : okE (u.getD i 0)) : shN x y o r u i = aJ .i64 (mxE x y r u i + o.getD i 0) := by
 have b1 := aDX hx hr
 have b2 := aDX hy hu
 obtain ⟨b3, b4⟩ := ho
 unfold shN mxE
 rw [wrap64 (x := x * r.getD i 0) (by omega) (by omega), wrap64 (x := y * u.getD i 0) (by omega) (by omega)]
 rw [wrap64 (x := o.getD i 0 + x * r.getD i 0) (by omega) (by omega), wrap64 (x := x * r.getD i 0 + y * u.getD i 0) (by omega) (by omega)]
 congr 1; omega
end Go.PM
set_option linter.unusedSimpArgs false
set_option linter.unusedVariables false
namespace Go.PM
open Go Go.RowKit Go.Proofs
set_option maxRecDepth 100000
def Dn (u : Nat) : ByteArray := ⟨(Lib.decDigits u).toArray⟩
def Zn (n : Int) : ByteArray := ⟨(Lib.itoa n).toArray⟩
theorem qD (u : Nat) : (Dn u).data.toList = Lib.decDigits u := by simp [Dn]
theorem aYT (n : Int) : (Zn n).data.toList = Lib.itoa n := by simp [Zn]
theorem PF (u : Nat) : Zn (u : Int) = Dn u := by unfold Zn Dn; rw [Lib.itoa_nonneg]
theorem aIY {n : Int} (h : n.natAbs < 10 ^ 20) : aIW n = Zn n := aAH h
theorem HU {n : Int} (h : n < 0) : (Zn n).data.toList = 45 :: Lib.decDigits n.natAbs := by
 rw [aYT, Lib.itoa, if_pos h]
theorem GZ {n : Int} (h : 0 ≤ n) : Zn n = Dn n.natAbs := by
 obtain ⟨u, rfl⟩ : ∃ u : Nat, n = u := ⟨n.natAbs, by omega⟩
 rw [PF]; congr 1
theorem BH {a b : ByteArray} (h : a.data.toList = b.data.toList) : a = b := by
 cases a; cases b
 congr 1
 exact Array.ext' h
theorem FK (a : ByteArray) : a.size = a.data.toList.length := by
 cases a; rfl
theorem Z0 (l m : List UInt8) : ∀ (acc : Nat), Lib.decFrom acc (l ++ m) = (Lib.decFrom acc l).bind fun a => Lib.decFrom a m := by
 induction l with
 | nil => intro acc; rfl
 | cons b l ih =>
  intro acc
  rw [List.cons_append, Lib.decFrom, Lib.decFrom]
  split
  ·exact ih _
  ·rfl
theorem aEH {d : Nat} (h : d < 10) : Lib.digitVal (UInt8.ofNat (48 + d)) = some d := by
 have h1 : (UInt8.ofNat (48 + d)).toNat = 48 + d := by
  rw [UInt8.toNat_ofNat']
  omega
 unfold Lib.digitVal
 rw [h1, if_pos (by omega)]
 congr 1
 omega
theorem iN (u : Nat) : Lib.decFrom 0 (Lib.decDigits u) = some u := by
 induction u using Nat.strongRecOn with
 | _ u ih =>
  rw [Lib.decDigits]
  split
  ·rename_i h
   rw [Lib.decFrom, aEH h]
   simp [Lib.decFrom]
  ·rename_i h
   rw [Z0, ih (u / 10) (by omega)]
   simp only [Option.bind_some]
   rw [Lib.decFrom, aEH (Nat.mod_lt _ (by decide))]
   simp only [Lib.decFrom]
   congr 1
   omega
theorem vF (u : Nat) : Lib.decDigits u ≠ [] := by
 rw [Lib.decDigits]
 split <;> simp
theorem wS (u : Nat) : ∀ b ∈ Lib.decDigits u, 48 ≤ b.toNat ∧ b.toNat ≤ 57 := by
 induction u using Nat.strongRecOn with
 | _ u ih =>
  intro b hb
  rw [Lib.decDigits] at hb
  have key : ∀ d, d < 10 → 48 ≤ (UInt8.ofNat (48 + d)).toNat ∧ (UInt8.ofNat (48 + d)).toNat ≤ 57 := fun d h => by
   rw [UInt8.toNat_ofNat']; omega
  split at hb
  ·rename_i h
   simp only [List.mem_singleton] at hb
   subst hb
   exact key u h
  ·rename_i h
   simp only [List.mem_append, List.mem_singleton] at hb
   rcases hb with hb | rfl
   ·exact ih (u / 10) (by omega) b hb
   ·exact key _ (Nat.mod_lt _ (by decide))
theorem aR8 {a b : Nat} (h : Dn a = Dn b) : a = b := by
 have h1 := congrArg (fun x : ByteArray => Lib.decFrom 0 x.data.toList) h
 simp only [qD, iN] at h1
 exact Option.some.inj h1
theorem WE {n : Int} (h : n < 0) (m : Nat) : Zn n ≠ Dn m := by
 intro e
 have h1 := congrArg (fun x : ByteArray => x.data.toList) e
 simp only [HU h, qD] at h1
 have := wS m 45 (by rw [← h1]; simp)
 have e45 : (45 : UInt8).toNat = 45 := by decide
 omega
theorem a2R {a b : Int} (h : Zn a = Zn b) : a = b := by
 rcases (by omega : a < 0 ∨ 0 ≤ a) with ha | ha
 ·rcases (by omega : b < 0 ∨ 0 ≤ b) with hb | hb
  ·have h1 := congrArg (fun x : ByteArray => x.data.toList) h
   simp only [HU ha, HU hb, List.cons.injEq, true_and] at h1
   have h2 := congrArg (Lib.decFrom 0) h1
   rw [iN, iN] at h2
   have := Option.some.inj h2
   omega
  ·rw [GZ hb] at h
   exact absurd h (WE ha _)
 ·rcases (by omega : b < 0 ∨ 0 ≤ b) with hb | hb
  ·rw [GZ ha] at h
   exact absurd h.symm (WE hb _)
  ·rw [GZ ha, GZ hb] at h
   have := aR8 h
   omega
theorem aTL (a b : ByteArray) : eqS a b = decide (a = b) := by
 unfold eqS
 by_cases h : a = b
 ·subst h; simp
 ·have : ¬ a.data = b.data := fun e => h (BH (by rw [e]))
  simp [h, this]
theorem a6B : ByteArray.mk #[48] = Dn 0 := BH (by rw [qD, Lib.decDigits]; rfl)
theorem a68 : ByteArray.mk #[49] = Dn 1 := BH (by rw [qD, Lib.decDigits]; rfl)
theorem wQ (n : Int) : eqS (Zn n) (ByteArray.mk #[48]) = decide (n = 0) := by
 rw [aTL, a6B, show Dn 0 = Zn 0 from (PF 0).symm]
 by_cases h : n = 0
 ·subst h; simp
 ·have : ¬ Zn n = Zn 0 := fun e => h (a2R e)
  simp [h, this]
theorem aEY (n : Nat) : eqS (Dn n) (ByteArray.mk #[48]) = decide (n = 0) := by
 rw [← PF, wQ]
 simp
theorem zJ (u : Nat) : (Dn u).size = Lib.nDigits u := by rw [FK, qD, Lib.decDigits_length]
theorem wX {n : Int} (h : n < 0) : (Zn n).size = Lib.nDigits n.natAbs + 1 := by rw [FK, HU h, List.length_cons, Lib.decDigits_length]
theorem j3 {u k : Nat} : u < 10 ^ (k + 1) → Lib.nDigits u ≤ k + 1 := by
 induction k generalizing u with
 | zero => intro h; rw [Lib.nDigits_small (by simpa using h)]; exact Nat.le_refl _
 | succ k ih =>
  intro h
  by_cases h1 : u < 10
  ·rw [Lib.nDigits_small h1]; omega
  ·rw [Lib.nDigits_big h1]
   have := ih (u := u / 10) (by rw [Nat.pow_succ] at h; omega)
   omega
theorem kE (u : Nat) : u < 10 ^ Lib.nDigits u := by
 have := Lib.decFrom_lt _ _ _ (iN u)
 rw [Lib.decDigits_length] at this
 simpa using this
theorem nDigits_pos (u : Nat) : 1 ≤ Lib.nDigits u := by
 rw [Lib.nDigits]; split <;> omega

theorem aVY (n : Int) : Lib.atoi (Zn n).data.toList = some n := by
 rcases (by omega : n < 0 ∨ 0 ≤ n) with h | h
 ·rw [HU h]
  have hne : (Lib.decDigits n.natAbs).isEmpty = false := by
   cases e : Lib.decDigits n.natAbs with
   | nil => exact absurd e (vF _)
   | cons _ _ => rfl
  simp only [Lib.atoi, Lib.decNat, hne, iN]
  simp
  omega
 ·rw [GZ h, qD]
  have h1 := iN n.natAbs
  have h2 := wS n.natAbs
  cases e : Lib.decDigits n.natAbs with
  | nil => exact absurd e (vF _)
  | cons b r =>
   rw [e] at h1 h2
   have hb := h2 b (by simp)
   have n45 : (b == 45) = false := by
    rw [beq_eq_false_iff_ne]; rintro rfl
    have : (45 : UInt8).toNat = 45 := by decide
    omega
   have n43 : (b == 43) = false := by
    rw [beq_eq_false_iff_ne]; rintro rfl
    have : (43 : UInt8).toNat = 43 := by decide
    omega
   simp only [Lib.atoi, n45, n43, Lib.decNat, h1]
   simp
   omega
theorem aDS (u : Nat) : Lib.decNat (Dn u).data.toList = some u := by
 have hne : (Lib.decDigits u).isEmpty = false := by
  cases e : Lib.decDigits u with
  | nil => exact absurd e (vF _)
  | cons _ _ => rfl
 simp only [qD, Lib.decNat, hne, iN]
 simp
theorem PG : ∀ (l : List UInt8) (acc n : Nat), Lib.decFrom acc l = some n → acc * 10 ^ l.length ≤ n
 | [], acc, n, h => by
  obtain rfl := Option.some.inj h
  simp
 | b :: l, acc, n, h => by
  rw [Lib.decFrom] at h
  split at h
  ·rename_i d hd
   have := PG l _ n h
   rw [List.length_cons, Nat.pow_succ]
   have h1 : (acc * 10 + d) * 10 ^ l.length = acc * (10 ^ l.length * 10) + d * 10 ^ l.length := by grind
   omega
  ·cases h
theorem E5 : ∀ (l m : List UInt8) (acc x y : Nat), l.length = m.length → Lib.decFrom acc l = some x → Lib.decFrom acc m = some y → Op.bytesLess l m = decide (x < y)
 | [], [], acc, x, y, _, h1, h2 => by
  obtain rfl := Option.some.inj h1
  obtain rfl := Option.some.inj h2
  simp [Op.bytesLess]
 | [], _ :: _, _, _, _, h, _, _ => by simp at h
 | _ :: _, [], _, _, _, h, _, _ => by simp at h
 | c :: l, d :: m, acc, x, y, h, h1, h2 => by
  have hl : l.length = m.length := by simpa using h
  have digit : ∀ (b : UInt8) (e : Nat), Lib.digitVal b = some e → b.toNat = 48 + e ∧ e < 10 := by
   intro b e he
   unfold Lib.digitVal at he
   split at he
   ·have := Option.some.inj he
    omega
   ·cases he
  rw [Lib.decFrom] at h1 h2
  split at h1
  ·rename_i e1 he1
   split at h2
   ·rename_i e2 he2
    obtain ⟨c1, c2⟩ := digit c e1 he1
    obtain ⟨d1, d2⟩ := digit d e2 he2
    have x1 := Lib.decFrom_lt l _ x h1
    have x2 := PG l _ x h1
    have y1 := Lib.decFrom_lt m _ y h2
    have y2 := PG m _ y h2
    rw [hl] at x1 x2
    rw [Op.bytesLess]
    rcases Nat.lt_trichotomy e1 e2 with g | g | g
    ·have lt : c < d := by rw [UInt8.lt_iff_toNat_lt]; omega
     have : (acc * 10 + e1 + 1) * 10 ^ m.length ≤ (acc * 10 + e2) * 10 ^ m.length := Nat.mul_le_mul_right _ (by omega)
     have hxy : x < y := by omega
     simp [lt, hxy]
    ·subst g
     have e : c = d := UInt8.toNat_inj.1 (by omega)
     subst e
     have lt : ¬ c < c := by rw [UInt8.lt_iff_toNat_lt]; omega
     simp [lt, E5 l m _ x y hl h1 h2]
    ·have lt : ¬ c < d := by rw [UInt8.lt_iff_toNat_lt]; omega
     have ne : ¬ c = d := by rintro rfl; omega
     have : (acc * 10 + e2 + 1) * 10 ^ m.length ≤ (acc * 10 + e1) * 10 ^ m.length := Nat.mul_le_mul_right _ (by omega)
     have hxy : ¬ x < y := by omega
     simp [lt, ne, hxy]
   ·cases h2
  ·cases h1
theorem a1O {a b : Nat} (h : Lib.nDigits a = Lib.nDigits b) : ltS (Dn a) (Dn b) = decide (a < b) := by
 unfold ltS
 rw [qD, qD]
 exact E5 _ _ 0 a b (by rw [Lib.decDigits_length, Lib.decDigits_length, h]) (iN a) (iN b)
theorem q9 {a b : Nat} (h : a ≤ b) : Lib.nDigits a ≤ Lib.nDigits b := by
 obtain ⟨k, hk⟩ : ∃ k, Lib.nDigits b = k + 1 := ⟨Lib.nDigits b - 1, by have := nDigits_pos b; omega⟩
 rw [hk]
 refine j3 (Nat.lt_of_le_of_lt h ?_)
 rw [← hk]
 exact kE b
theorem a3N (a b : Nat) : eqS (Dn a) (Dn b) = decide (a = b) := by
 rw [aTL]
 by_cases h : a = b
 ·subst h; simp
 ·have : ¬ Dn a = Dn b := fun e => h (aR8 e)
  simp [h, this]
def R5 (a b : Nat) : Int := if a < b then -1 else if b < a then 1 else 0
theorem pQ (a b : Nat) (ha : Lib.nDigits a < 2 ^ 32) (hb : Lib.nDigits b < 2 ^ 32) : cT (Dn a, Dn b, ()) = some (R5 a b, ()) := by
 unfold cT
 dsimp only
 rw [zJ, zJ]
 have hpa := nDigits_pos a
 have hpb := nDigits_pos b
 by_cases h : Lib.nDigits a = Lib.nDigits b
 ·have h1 : eqI (Lib.nDigits a : Int) (Lib.nDigits b : Int) = true := by rw [dI]; simp [h]
  rw [h1, a1O h, a3N]
  simp only [Bool.not_true, cond_false]
  unfold R5
  by_cases h2 : a < b
  ·simp [h2]
  ·by_cases h3 : a = b
   ·subst h3; simp
   ·have : b < a := by omega
    simp [h2, h3, this]
 ·have h1 : eqI (Lib.nDigits a : Int) (Lib.nDigits b : Int) = false := by rw [dI]; simp; omega
  rw [h1]
  simp only [Bool.not_false, cond_true]
  rw [wrap64 (by omega) (by omega)]
  congr 2
  unfold R5
  by_cases h2 : a < b
  ·have := q9 (Nat.le_of_lt h2)
   have h4 : ¬ (-1 : Int) < (Lib.nDigits a : Int) - (Lib.nDigits b : Int) := by omega
   rw [if_pos h2, if_neg h4]
   rfl
  ·have h3 : b < a := by
    rcases Nat.lt_or_ge b a with g | g
    ·exact g
    ·have : a = b := by omega
     subst this; exact absurd rfl h
   have := q9 (Nat.le_of_lt h3)
   have h4 : (-1 : Int) < (Lib.nDigits a : Int) - (Lib.nDigits b : Int) := by omega
   have h5 : ¬ (Lib.nDigits a : Int) - (Lib.nDigits b : Int) < 1 := by omega
   rw [if_neg h2, if_pos h3, if_pos h4, if_neg h5]

/-! whole -/
theorem nX (n : Int) (h1 : -9223372036854775808 ≤ n) (h2 : n < 9223372036854775808) : gI (n, ()) = some (Zn n, ()) := by
 unfold gI sJ
 have e1 : ltI n (-9223372036854775808) = false := by rw [aL]; simp; omega
 have e2 : ltI 9223372036854775807 n = false := by rw [aL]; simp; omega
 simp only [e1, e2, Bool.not_false, Bool.and_self, cond_true, aD, aIY (n := n) (by omega)]
theorem BR (u : Nat) (h : u < 18446744073709551616) : lB ((u : Int), ()) = some (Dn u, ()) := by
 unfold lB kV
 have e1 : ltI (u : Int) 0 = false := by rw [aL]; simp
 have e2 : ltI (u : Int) 18446744073709551616 = true := by rw [aL]; simp; omega
 have e3 : eqI 10 10 = true := by decide
 simp only [e1, e2, e3, Bool.not_false, Bool.and_self, cond_true, aD, aIY (n := (u : Int)) (by simp; omega), PF]
theorem NN (u : Nat) (h : Lib.nDigits u ≤ 18) : lK (Dn u, ()) = some ((u : Int), true, ()) := by
 unfold lK lM
 have e1 : Nat.ble (Dn u).size 1000000000 = true := by rw [jL, zJ]; simp; omega
 have e2 : eqI 10 10 = true := by decide
 have e3 : eqI 64 64 = true := by decide
 have e4 : Lib.parseUintB 64 (Dn u).data.toList = .ok u := by
  rw [Lib.parseUintB_64, Lib.parseMag_short _ (by rw [qD, Lib.decDigits_length]; exact h), aDS]
  rfl
 simp only [e1, e2, e3, Bool.and_self, cond_true, aD, e4]
theorem zY (a b : Nat) (ha : Lib.nDigits a ≤ 18) (hb : Lib.nDigits b ≤ 18) : kB (Dn a, Dn b, ()) = some ((a : Int), (b : Int), true, ()) := by
 unfold kB
 have e1 : ltI 18 ((Dn a).size : Int) = false := by rw [aL, zJ]; simp; omega
 have e2 : ltI 18 ((Dn b).size : Int) = false := by rw [aL, zJ]; simp; omega
 simp only [e1, e2, cond_false, NN a ha, NN b hb, aD]
theorem L4 {s : ByteArray} {c : UInt8} {l : List UInt8} (h : s.data.toList = c :: l) : aCF s 0 = (c.toNat : Int) := by
 have h1 : s[0]? = some c := by
  have h2 : s.size = l.length + 1 := by rw [FK, h]; rfl
  have h3 : s.data[0]? = some c := by
   rw [← Array.getElem?_toList, h]; rfl
  have h4 : s[0]? = s.data[0]? := by
   cases s; rfl
  rw [h4, h3]
 unfold aCF
 rw [h1]
theorem aNO (u : Nat) : ∃ c l, (Dn u).data.toList = c :: l ∧ c.toNat ≠ 45 := by
 have h := wS u
 rw [qD]
 cases e : Lib.decDigits u with
 | nil => exact absurd e (vF _)
 | cons c l =>
  rw [e] at h
  have := h c (by simp)
  exact ⟨c, l, rfl, by omega⟩
theorem aGG {s : ByteArray} {c : UInt8} {l : List UInt8} (h : s.data.toList = c :: l) : s.extract 1 s.size = ⟨l.toArray⟩ := by
 refine BH ?_
 have h1 : (s.extract 1 s.size).data = s.data.extract 1 s.data.size := ByteArray.data_extract
 rw [h1, Array.toList_extract, List.extract_eq_take_drop, h]
 have h2 : s.data.size = l.length + 1 := by rw [← Array.length_toList, h]; rfl
 rw [h2]
 simp
theorem lC (n : Int) : bL (Zn n, ()) = some (decide (n < 0), Dn n.natAbs, ()) := by
 unfold bL
 by_cases h : n < 0
 ·have hz := HU h
  have e1 : ltI 0 ((Zn n).size : Int) = true := by rw [aL, wX h]; simp <;> omega
  have e2 : aP 0 (Zn n).size = true := by rw [bB, wX h]; simp <;> omega
  have e3 : aCF (Zn n) 0 = 45 := by rw [L4 hz]; rfl
  have e4 : Nat.ble 1 (Zn n).size = true := by rw [jL, wX h]; simp
  have e5 : Nat.ble (Zn n).size (Zn n).size = true := by rw [jL]; simp
  have e6 : eqI 45 45 = true := by decide
  simp only [e1, e2, e3, e4, e5, e6, cond_true, aGG hz, h, decide_true, Dn]
 ·rw [GZ (by omega)]
  obtain ⟨c, l, h1, h2⟩ := aNO n.natAbs
  have hs : (Dn n.natAbs).size = l.length + 1 := by rw [FK, h1]; rfl
  have e1 : ltI 0 ((Dn n.natAbs).size : Int) = true := by rw [aL, hs]; simp <;> omega
  have e2 : aP 0 (Dn n.natAbs).size = true := by rw [bB, hs]; simp <;> omega
  have e3 : eqI (aCF (Dn n.natAbs) 0) 45 = false := by rw [L4 h1, dI]; simp <;> omega
  simp only [e1, e2, e3, cond_true, cond_false, h, decide_false]
theorem aA8 (b : Bool) (m : Nat) (hm : Lib.nDigits m < 2 ^ 32) : aA (b, Dn m, ()) = some (Zn (if b then -(m : Int) else m), ()) := by
 unfold aA
 cases b with
 | false => simp [PF]
 | true =>
  have e2 : Nat.ble ((ByteArray.mk #[45]).size + (Dn m).size) 9223372036854775807 = true := by
   rw [jL, zJ]
   have : (ByteArray.mk #[45]).size = 1 := rfl
   rw [this]; simp <;> omega
  simp only [cond_true, aEY, e2]
  by_cases h : m = 0
  ·subst h
   simp only [decide_true, Bool.not_true, cond_false]
   simp only [if_true]
   have : -((0 : Nat) : Int) = ((0 : Nat) : Int) := rfl
   rw [this, PF]
  ·simp only [h, decide_false, Bool.not_false, cond_true]
   simp only [if_true]
   congr 2
   refine BH ?_
   rw [HU (by omega), Joins.data_append, qD]
   have : (-(m : Int)).natAbs = m := by omega
   rw [this]
   rfl
theorem iA (m : Nat) (hm : Lib.nDigits m < 2 ^ 32) : aA (true, Dn m, ()) = some (Zn (-(m : Int)), ()) := (aA8 true m hm).trans (by simp)
theorem kJ (m : Nat) (hm : Lib.nDigits m < 2 ^ 32) : aA (false, Dn m, ()) = some (Zn (m : Int), ()) := (aA8 false m hm).trans (by simp)
theorem rD (n k : Int) (hk : k ≤ 18) : gV (Zn n, k, ()) = if ((Zn n).size : Int) ≤ k then some (n, true, ()) else some (0, false, ()) := by
 unfold gV
 by_cases h : ((Zn n).size : Int) ≤ k
 ·have e1 : ltI k ((Zn n).size : Int) = false := by rw [aL]; simp <;> omega
  have e2 : Nat.ble (Zn n).size 18 = true := by rw [jL]; simp <;> omega
  rw [if_pos h]
  simp only [e1, cond_false, sI, e2, cond_true, aVY, aD]
 ·have e1 : ltI k ((Zn n).size : Int) = true := by rw [aL]; simp <;> omega
  rw [if_neg h]
  simp only [e1, cond_true]
theorem O8 (n : Int) : mQ (Zn n, ()) = some (n.sign, ()) := by
 unfold mQ
 simp only [wQ]
 by_cases h0 : n = 0
 ·subst h0; simp
 ·by_cases h : n < 0
  ·have hz := HU h
   have e2 : aP 0 (Zn n).size = true := by rw [bB, wX h]; simp <;> omega
   have e3 : aCF (Zn n) 0 = 45 := by rw [L4 hz]; rfl
   have e6 : eqI 45 45 = true := by decide
   simp only [h0, decide_false, cond_false, e2, e3, e6, cond_true, Int.sign_eq_neg_one_of_neg h]
  ·rw [GZ (by omega)]
   obtain ⟨c, l, h1, h2⟩ := aNO n.natAbs
   have hs : (Dn n.natAbs).size = l.length + 1 := by rw [FK, h1]; rfl
   have e2 : aP 0 (Dn n.natAbs).size = true := by rw [bB, hs]; simp <;> omega
   have e3 : eqI (aCF (Dn n.natAbs) 0) 45 = false := by rw [L4 h1, dI]; simp <;> omega
   simp only [h0, decide_false, cond_false, e2, e3, cond_true, Int.sign_eq_one_of_pos (show 0 < n by omega)]
theorem aDV (n : Int) (h : Lib.nDigits n.natAbs < 2 ^ 32) : tC (Zn n, ()) = some (Zn (-n), ()) := by
 unfold tC
 simp only [lC n, aD]
 by_cases h0 : n < 0
 ·simp only [h0, decide_true, cond_true, kJ _ h, aD]
  have : (n.natAbs : Int) = -n := by omega
  rw [this]
 ·simp only [h0, decide_false, cond_false, iA _ h, aD]
  have : -(n.natAbs : Int) = -n := by omega
  rw [this]
theorem aDR (n : Int) : tH (Zn n, ()) = some (Zn (n.natAbs : Int), ()) := by
 unfold tH
 simp only [lC n, aD, PF]
theorem aB5 (a b : Nat) (ha : Lib.nDigits a < 2 ^ 32) (hb : Lib.nDigits b < 2 ^ 32) : n8 (Zn (a : Int), Zn (b : Int), ()) = some (R5 a b, ()) := by
 unfold n8
 have sg : ∀ n : Nat, (n : Int).sign = if n = 0 then 0 else 1 := fun n => by
  by_cases h : n = 0
  ·subst h; rfl
  ·rw [if_neg h, Int.sign_eq_one_of_pos (by omega)]
 simp only [O8 (a : Int), O8 (b : Int), lC (a : Int), lC (b : Int), aD, sg]
 have e0 : ∀ n : Nat, decide ((n : Int) < 0) = false := fun n => by simp
 by_cases h1 : a = 0
 ·by_cases h2 : b = 0
  ·have e : eqI 0 0 = true := by decide
   simp only [h1, h2, if_true, e, Bool.not_true, cond_false, e0, Int.natAbs_natCast]
   have := pQ a b ha hb
   rw [h1, h2] at this
   simp only [this, aD]
  ·have : eqI 0 1 = false := by decide
   have e : ltI 0 1 = true := by decide
   simp only [h1, h2, if_true, if_false, this, e, Bool.not_false, cond_true]
   unfold R5
   rw [if_pos (by omega)]
 ·by_cases h2 : b = 0
  ·have : eqI 1 0 = false := by decide
   have e : ltI 1 0 = false := by decide
   simp only [h1, h2, if_true, if_false, this, e, Bool.not_false, cond_true, cond_false]
   unfold R5
   rw [if_neg (by omega), if_pos (by omega)]
  ·have e : eqI 1 1 = true := by decide
   simp only [h1, h2, if_false, e, Bool.not_true, cond_false, e0, Int.natAbs_natCast, pQ a b ha hb, aD]
end Go.PM
set_option linter.unusedSimpArgs false
set_option linter.unusedVariables false
namespace Go.PM
open Go Go.RowKit Go.Proofs
set_option maxRecDepth 100000
theorem KG {u : Nat} (h : Lib.nDigits u ≤ 18) : u < 1000000000000000000 := by
 have h1 := kE u
 have h2 : 10 ^ Lib.nDigits u ≤ 10 ^ 18 := Nat.pow_le_pow_right (by decide) h
 omega
theorem aNS {x : Int} (h1 : 0 ≤ x) (h2 : x < 18446744073709551616) : aJ .u64 x = x := by
 rw [ZY, IntKind.wrap_u64]
 omega
theorem C9 (a b : Nat) (ha : Lib.nDigits a ≤ 18) (hb : Lib.nDigits b ≤ 18) : dR (Dn a, Dn b, ()) = some (Dn (a + b), ()) := by
 have h1 := KG ha
 have h2 := KG hb
 unfold dR
 simp only [zY a b ha hb, aD, cond_true]
 rw [aNS (by omega) (by omega)]
 have : (a : Int) + (b : Int) = ((a + b : Nat) : Int) := by omega
 rw [this, BR _ (by omega)]
 rfl
theorem tQ (a b : Nat) (ha : Lib.nDigits a ≤ 18) (hb : Lib.nDigits b ≤ 18) (h : b ≤ a) : bU (Dn a, Dn b, ()) = some (Dn (a - b), 0, ()) := by
 have h1 := KG ha
 have h2 := KG hb
 unfold bU
 have e : ltI (R5 a b) 0 = false := by
  rw [aL]; unfold R5
  rw [if_neg (by omega)]
  split <;> rfl
 simp only [pQ a b (by omega) (by omega), zY a b ha hb, aD, cond_true, e, cond_false]
 rw [aNS (by omega) (by omega)]
 have : (a : Int) - (b : Int) = ((a - b : Nat) : Int) := by omega
 rw [this, BR _ (by omega)]
 rfl
theorem aG9 (a b : Nat) (h : Lib.nDigits a + Lib.nDigits b ≤ 18) : dL (Dn a, Dn b, ()) = some (Dn (a * b), ()) := by
 have p1 := nDigits_pos a
 have p2 := nDigits_pos b
 have h3 : a * b < 1000000000000000000 := by
  have h1 := kE a
  have h2 := kE b
  have h4 : a * b < 10 ^ Lib.nDigits a * 10 ^ Lib.nDigits b := Nat.mul_lt_mul'' h1 h2
  rw [← Nat.pow_add] at h4
  have h5 : 10 ^ (Lib.nDigits a + Lib.nDigits b) ≤ 10 ^ 18 := Nat.pow_le_pow_right (by decide) h
  omega
 unfold dL
 have e : ltI 18 (aJ .i64 (((Dn a).size : Int) + ((Dn b).size : Int))) = false := by
  rw [zJ, zJ, wrap64 (by omega) (by omega), aL]
  simp only [decide_eq_false_iff_not]
  omega
 simp only [e, Bool.not_false, cond_true, zY a b (by omega) (by omega), aD]
 have e2 : (a : Int) * (b : Int) = ((a * b : Nat) : Int) := by rw [Int.natCast_mul]
 rw [e2, aNS (by omega) (by omega), BR _ (by omega)]
 rfl
theorem ZQ (a b : Nat) (ha : Lib.nDigits a ≤ 18) (hb : Lib.nDigits b ≤ 18) (h : b ≠ 0) : jH (Dn a, Dn b, ()) = some (Dn (a / b), Dn (a % b), 0, ()) := by
 have h1 := KG ha
 have h2 := KG hb
 unfold jH
 have e1 : eqI (b : Int) 0 = false := by rw [dI]; simp; omega
 have q1 : (a : Int).tdiv (b : Int) = ((a / b : Nat) : Int) := rfl
 have q2 : (a : Int).tmod (b : Int) = ((a % b : Nat) : Int) := rfl
 have l1 : a / b ≤ a := Nat.div_le_self _ _
 have l2 : a % b ≤ a := Nat.mod_le _ _
 simp only [aEY, h, decide_false, cond_false, zY a b ha hb, aD, cond_true, e1, q1, q2]
 clear q1 q2
 generalize a / b = q at *
 generalize a % b = r at *
 rw [aNS (by omega) (by omega), BR _ (by omega), aD, BR _ (by omega)]
 rfl

theorem aPW (x y : Int) (hx : Lib.nDigits x.natAbs ≤ 18) (hy : Lib.nDigits y.natAbs ≤ 18) : wH (Zn x, Zn y, ()) = some (Zn (x + y), ()) := by
 have h1 := KG hx
 have h2 := KG hy
 have slow : (aB (bL (Zn x, ())) fun y4 => aB (bL (Zn y, ())) fun y5 =>
   bif y4.1 then
    bif y5.1 then
     aB (dR (y4.2.1, y5.2.1, ())) fun y6 =>
     aB (aA (y4.1, y6.1, ())) fun y7 =>
     some (y7.1, ())
    else aB (cT (y4.2.1, y5.2.1, ())) fun y8 =>
    bif ltI y8.1 0 then
     aB (bU (y5.2.1, y4.2.1, ())) fun y9 =>
     aB (aA (y5.1, y9.1, ())) fun y10 =>
     some (y10.1, ())
    else aB (bU (y4.2.1, y5.2.1, ())) fun y11 =>
    aB (aA (y4.1, y11.1, ())) fun y12 =>
    some (y12.1, ())
   else bif y5.1 then
    aB (cT (y4.2.1, y5.2.1, ())) fun y13 =>
    bif ltI y13.1 0 then
     aB (bU (y5.2.1, y4.2.1, ())) fun y14 =>
     aB (aA (y5.1, y14.1, ())) fun y15 =>
     some (y15.1, ())
    else aB (bU (y4.2.1, y5.2.1, ())) fun y16 =>
    aB (aA (y4.1, y16.1, ())) fun y17 =>
    some (y17.1, ())
   else aB (dR (y4.2.1, y5.2.1, ())) fun y18 =>
   aB (aA (y4.1, y18.1, ())) fun y19 =>
   some (y19.1, ())) = some (Zn (x + y), ()) := by
  simp only [lC x, lC y, aD]
  have dg : ∀ u : Nat, u < 2000000000000000000 → Lib.nDigits u < 2 ^ 32 := fun u hu => by
   have := j3 (u := u) (k := 18) (by omega)
   omega
  have cm : ∀ a b : Nat, ltI (R5 a b) 0 = decide (a < b) := fun a b => by
   rw [aL]; unfold R5
   by_cases g : a < b
   ·simp [g]
   ·simp only [g, if_false]; split <;> simp
  rcases (by omega : x < 0 ∨ 0 ≤ x) with gx | gx
  ·rcases (by omega : y < 0 ∨ 0 ≤ y) with gy | gy
   ·simp only [gx, gy, decide_true, cond_true, C9 _ _ hx hy, aD, iA (x.natAbs + y.natAbs) (dg _ (by omega))]
    have : -((x.natAbs + y.natAbs : Nat) : Int) = x + y := by omega
    rw [this]
   ·have gy' : ¬ y < 0 := by omega
    simp only [gx, gy', decide_true, decide_false, cond_true, cond_false, pQ x.natAbs y.natAbs (by omega) (by omega), aD, cm]
    by_cases g : x.natAbs < y.natAbs
    ·simp only [g, decide_true, cond_true, tQ _ _ hy hx (Nat.le_of_lt g), aD, kJ (y.natAbs - x.natAbs) (dg _ (by omega))]
     have : ((y.natAbs - x.natAbs : Nat) : Int) = x + y := by omega
     rw [this]
    ·simp only [g, decide_false, cond_false, tQ _ _ hx hy (Nat.not_lt.1 g), aD, iA (x.natAbs - y.natAbs) (dg _ (by omega))]
     have : -((x.natAbs - y.natAbs : Nat) : Int) = x + y := by omega
     rw [this]
  ·have gx' : ¬ x < 0 := by omega
   rcases (by omega : y < 0 ∨ 0 ≤ y) with gy | gy
   ·simp only [gx', gy, decide_true, decide_false, cond_true, cond_false, pQ x.natAbs y.natAbs (by omega) (by omega), aD, cm]
    by_cases g : x.natAbs < y.natAbs
    ·simp only [g, decide_true, cond_true, tQ _ _ hy hx (Nat.le_of_lt g), aD, iA (y.natAbs - x.natAbs) (dg _ (by omega))]
     have : -((y.natAbs - x.natAbs : Nat) : Int) = x + y := by omega
     rw [this]
    ·simp only [g, decide_false, cond_false, tQ _ _ hx hy (Nat.not_lt.1 g), aD, kJ (x.natAbs - y.natAbs) (dg _ (by omega))]
     have : ((x.natAbs - y.natAbs : Nat) : Int) = x + y := by omega
     rw [this]
   ·have gy' : ¬ y < 0 := by omega
    simp only [gx', gy', decide_false, cond_false, C9 _ _ hx hy, aD, kJ (x.natAbs + y.natAbs) (dg _ (by omega))]
    have : ((x.natAbs + y.natAbs : Nat) : Int) = x + y := by omega
    rw [this]
 unfold wH
 simp only [rD x 18 (by decide), rD y 18 (by decide), aD]
 by_cases g1 : ((Zn x).size : Int) ≤ 18
 ·simp only [g1, if_true, aD, cond_true]
  by_cases g2 : ((Zn y).size : Int) ≤ 18
  ·simp only [g2, if_true, aD, cond_true]
   rw [wrap64 (by omega) (by omega), nX _ (by omega) (by omega)]
   rfl
  ·simp only [g2, if_false, aD, cond_false]
   exact slow
 ·simp only [g1, if_false, aD, cond_false]
  exact slow
theorem aEF (x y : Int) (hx : Lib.nDigits x.natAbs ≤ 18) (hy : Lib.nDigits y.natAbs ≤ 18) : sU (Zn x, Zn y, ()) = some (Zn (x - y), ()) := by
 unfold sU
 simp only [aDV y (by omega), aD]
 rw [aPW x (-y) hx (by rw [Int.natAbs_neg]; exact hy)]
 rfl

theorem aDY (x y : Int) (h : Lib.nDigits x.natAbs + Lib.nDigits y.natAbs ≤ 18) : tB (Zn x, Zn y, ()) = some (Zn (x * y), ()) := by
 have p1 := nDigits_pos x.natAbs
 have p2 := nDigits_pos y.natAbs
 have hb : x.natAbs * y.natAbs < 1000000000000000000 := by
  have h1 := kE x.natAbs
  have h2 := kE y.natAbs
  have h4 : x.natAbs * y.natAbs < 10 ^ Lib.nDigits x.natAbs * 10 ^ Lib.nDigits y.natAbs := Nat.mul_lt_mul'' h1 h2
  rw [← Nat.pow_add] at h4
  have h5 : 10 ^ (Lib.nDigits x.natAbs + Lib.nDigits y.natAbs) ≤ 10 ^ 18 := Nat.pow_le_pow_right (by decide) h
  omega
 have hab : (x * y).natAbs = x.natAbs * y.natAbs := Int.natAbs_mul _ _
 have slow : (aB (bL ((Zn x), ())) fun y14 =>
  aB (bL ((Zn y), ())) fun y15 =>
  bif y14.1 then
   bif y15.1 then
    aB (dL (y14.2.1, y15.2.1, ())) fun y16 =>
    aB (aA (false, y16.1, ())) fun y17 =>
    some (y17.1, ())
   else aB (dL (y14.2.1, y15.2.1, ())) fun y18 =>
   aB (aA (true, y18.1, ())) fun y19 =>
   some (y19.1, ())
  else bif y15.1 then
   aB (dL (y14.2.1, y15.2.1, ())) fun y20 =>
   aB (aA (true, y20.1, ())) fun y21 =>
   some (y21.1, ())
  else aB (dL (y14.2.1, y15.2.1, ())) fun y22 =>
  aB (aA (false, y22.1, ())) fun y23 =>
  some (y23.1, ())) = some (Zn (x * y), ()) := by
  have dg : Lib.nDigits (x.natAbs * y.natAbs) < 2 ^ 32 := by
   have := j3 (u := x.natAbs * y.natAbs) (k := 18) (by omega)
   omega
  have dm := aG9 _ _ h
  simp only [lC x, lC y, aD, dm]
  rcases (by omega : x < 0 ∨ 0 ≤ x) with gx | gx
  ·rcases (by omega : y < 0 ∨ 0 ≤ y) with gy | gy
   ·have : ((x.natAbs * y.natAbs : Nat) : Int) = x * y := by
     rw [← hab]; have := Int.mul_pos_of_neg_of_neg gx gy; omega
    simp only [gx, gy, decide_true, cond_true, kJ _ dg, aD, this]
   ·have gy' : ¬ y < 0 := by omega
    have : -((x.natAbs * y.natAbs : Nat) : Int) = x * y := by
     rw [← hab]; have := Int.mul_nonpos_of_nonpos_of_nonneg (Int.le_of_lt gx) gy; omega
    simp only [gx, gy', decide_true, decide_false, cond_true, cond_false, iA _ dg, aD, this]
  ·have gx' : ¬ x < 0 := by omega
   rcases (by omega : y < 0 ∨ 0 ≤ y) with gy | gy
   ·have : -((x.natAbs * y.natAbs : Nat) : Int) = x * y := by
     rw [← hab]; have := Int.mul_nonpos_of_nonneg_of_nonpos gx (Int.le_of_lt gy); omega
    simp only [gx', gy, decide_true, decide_false, cond_true, cond_false, iA _ dg, aD, this]
   ·have gy' : ¬ y < 0 := by omega
    have : ((x.natAbs * y.natAbs : Nat) : Int) = x * y := by
     rw [← hab]; have := Int.mul_nonneg gx gy; omega
    simp only [gx', gy', decide_false, cond_false, kJ _ dg, aD, this]
 unfold tB
 simp only [rD x 9 (by decide), rD y 9 (by decide), aD]
 by_cases g1 : ((Zn x).size : Int) ≤ 9
 ·simp only [g1, if_true, aD, cond_true]
  by_cases g2 : ((Zn y).size : Int) ≤ 9
  ·simp only [g2, if_true, aD, cond_true]
   rw [wrap64 (by omega) (by omega), nX _ (by omega) (by omega)]
   rfl
  ·simp only [g2, if_false, aD, cond_false]
   exact slow
 ·simp only [g1, if_false, aD, cond_false]
  exact slow

theorem iT {x y f g : Int} (h : x = y * f + g) (hp : 0 < y → 0 ≤ g ∧ g < y) (hn : y < 0 → y < g ∧ g ≤ 0) (h0 : y ≠ 0) : x.fdiv y = f ∧ x.fmod y = g := by
 have key : ∀ x y f g : Int, x = y * f + g → 0 < y → 0 ≤ g → g < y → x.fdiv y = f ∧ x.fmod y = g := by
  intro x y f g h hy h1 h2
  have e1 := Int.fmod_def x y
  have e2 := Int.fmod_nonneg_of_pos x hy
  have e3 := Int.fmod_lt_of_pos x hy
  have e4 : y * (x.fdiv y - f) = g - x.fmod y := by rw [Int.mul_sub]; omega
  have e5 : x.fdiv y - f = 0 := by
   rcases Int.lt_trichotomy (x.fdiv y - f) 0 with g1 | g1 | g1
   ·have : y * (x.fdiv y - f) ≤ y * (-1) := Int.mul_le_mul_of_nonneg_left (by omega) (by omega)
    omega
   ·exact g1
   ·have : y * 1 ≤ y * (x.fdiv y - f) := Int.mul_le_mul_of_nonneg_left (by omega) (by omega)
    omega
  rw [e5] at e4
  omega
 rcases Int.lt_or_gt_of_ne h0 with g1 | g1
 ·obtain ⟨h1, h2⟩ := hn g1
  have := key (-x) (-y) f (-g) (by rw [h]; grind) (by omega) (by omega) (by omega)
  rw [Int.neg_fdiv_neg, Int.neg_fmod_neg] at this
  omega
 ·obtain ⟨h1, h2⟩ := hp g1
  exact key x y f g h g1 h1 h2
theorem G8 (x y : Int) (hx : Lib.nDigits x.natAbs ≤ 18) (hy : Lib.nDigits y.natAbs ≤ 18) (h0 : y ≠ 0) : lA (Zn x, Zn y, ()) = some (Zn (x.fdiv y), Zn (x.fmod y), 0, ()) := by
 have b1 := KG hx
 have b2 := KG hy
 have slow : (aB (bL ((Zn x), ())) fun y68 =>
  aB (bL ((Zn y), ())) fun y69 =>
  aB (jH (y68.2.1, y69.2.1, ())) fun y70 =>
  bif !(eqI y70.2.2.1 0) then
   some ((ByteArray.mk #[]), (ByteArray.mk #[]), y70.2.2.1, ())
  else bif y68.1 then
   bif y69.1 then
    bif y68.1 then
     bif y69.1 then
      aB (aA (false, y70.1, ())) fun y71 =>
      aB (aA (y69.1, y70.2.1, ())) fun y72 =>
      some (y71.1, y72.1, 0, ())
     else aB (aA (true, y70.1, ())) fun y73 =>
     aB (aA (y69.1, y70.2.1, ())) fun y74 =>
     some (y73.1, y74.1, 0, ())
    else bif y69.1 then
     aB (aA (true, y70.1, ())) fun y75 =>
     aB (aA (y69.1, y70.2.1, ())) fun y76 =>
     some (y75.1, y76.1, 0, ())
    else aB (aA (false, y70.1, ())) fun y77 =>
    aB (aA (y69.1, y70.2.1, ())) fun y78 =>
    some (y77.1, y78.1, 0, ())
   else bif !(eqS y70.2.1 (ByteArray.mk #[48])) then
    aB (dR (y70.1, (ByteArray.mk #[49]), ())) fun y79 =>
    aB (bU (y69.2.1, y70.2.1, ())) fun y80 =>
    bif y68.1 then
     bif y69.1 then
      aB (aA (false, y79.1, ())) fun y81 =>
      aB (aA (y69.1, y80.1, ())) fun y82 =>
      some (y81.1, y82.1, 0, ())
     else aB (aA (true, y79.1, ())) fun y83 =>
     aB (aA (y69.1, y80.1, ())) fun y84 =>
     some (y83.1, y84.1, 0, ())
    else bif y69.1 then
     aB (aA (true, y79.1, ())) fun y85 =>
     aB (aA (y69.1, y80.1, ())) fun y86 =>
     some (y85.1, y86.1, 0, ())
    else aB (aA (false, y79.1, ())) fun y87 =>
    aB (aA (y69.1, y80.1, ())) fun y88 =>
    some (y87.1, y88.1, 0, ())
   else bif y68.1 then
    bif y69.1 then
     aB (aA (false, y70.1, ())) fun y89 =>
     aB (aA (y69.1, y70.2.1, ())) fun y90 =>
     some (y89.1, y90.1, 0, ())
    else aB (aA (true, y70.1, ())) fun y91 =>
    aB (aA (y69.1, y70.2.1, ())) fun y92 =>
    some (y91.1, y92.1, 0, ())
   else bif y69.1 then
    aB (aA (true, y70.1, ())) fun y93 =>
    aB (aA (y69.1, y70.2.1, ())) fun y94 =>
    some (y93.1, y94.1, 0, ())
   else aB (aA (false, y70.1, ())) fun y95 =>
   aB (aA (y69.1, y70.2.1, ())) fun y96 =>
   some (y95.1, y96.1, 0, ())
  else bif y69.1 then
   bif !(eqS y70.2.1 (ByteArray.mk #[48])) then
    aB (dR (y70.1, (ByteArray.mk #[49]), ())) fun y97 =>
    aB (bU (y69.2.1, y70.2.1, ())) fun y98 =>
    bif y68.1 then
     bif y69.1 then
      aB (aA (false, y97.1, ())) fun y99 =>
      aB (aA (y69.1, y98.1, ())) fun y100 =>
      some (y99.1, y100.1, 0, ())
     else aB (aA (true, y97.1, ())) fun y101 =>
     aB (aA (y69.1, y98.1, ())) fun y102 =>
     some (y101.1, y102.1, 0, ())
    else bif y69.1 then
     aB (aA (true, y97.1, ())) fun y103 =>
     aB (aA (y69.1, y98.1, ())) fun y104 =>
     some (y103.1, y104.1, 0, ())
    else aB (aA (false, y97.1, ())) fun y105 =>
    aB (aA (y69.1, y98.1, ())) fun y106 =>
    some (y105.1, y106.1, 0, ())
   else bif y68.1 then
    bif y69.1 then
     aB (aA (false, y70.1, ())) fun y107 =>
     aB (aA (y69.1, y70.2.1, ())) fun y108 =>
     some (y107.1, y108.1, 0, ())
    else aB (aA (true, y70.1, ())) fun y109 =>
    aB (aA (y69.1, y70.2.1, ())) fun y110 =>
    some (y109.1, y110.1, 0, ())
   else bif y69.1 then
    aB (aA (true, y70.1, ())) fun y111 =>
    aB (aA (y69.1, y70.2.1, ())) fun y112 =>
    some (y111.1, y112.1, 0, ())
   else aB (aA (false, y70.1, ())) fun y113 =>
   aB (aA (y69.1, y70.2.1, ())) fun y114 =>
   some (y113.1, y114.1, 0, ())
  else bif y68.1 then
   bif y69.1 then
    aB (aA (false, y70.1, ())) fun y115 =>
    aB (aA (y69.1, y70.2.1, ())) fun y116 =>
    some (y115.1, y116.1, 0, ())
   else aB (aA (true, y70.1, ())) fun y117 =>
   aB (aA (y69.1, y70.2.1, ())) fun y118 =>
   some (y117.1, y118.1, 0, ())
  else bif y69.1 then
   aB (aA (true, y70.1, ())) fun y119 =>
   aB (aA (y69.1, y70.2.1, ())) fun y120 =>
   some (y119.1, y120.1, 0, ())
  else aB (aA (false, y70.1, ())) fun y121 =>
  aB (aA (y69.1, y70.2.1, ())) fun y122 =>
  some (y121.1, y122.1, 0, ())) = some (Zn (x.fdiv y), Zn (x.fmod y), 0, ()) := by
  have dm := ZQ _ _ hx hy (show y.natAbs ≠ 0 by omega)
  have ed : x.natAbs = y.natAbs * (x.natAbs / y.natAbs) + x.natAbs % y.natAbs := (Nat.div_add_mod _ _).symm
  have lm : x.natAbs % y.natAbs < y.natAbs := Nat.mod_lt _ (by omega)
  have lq : x.natAbs / y.natAbs ≤ x.natAbs := Nat.div_le_self _ _
  have e00 : eqI 0 0 = true := by decide
  simp only [lC x, lC y, aD, dm, e00, Bool.not_true, cond_false, aEY, a68]
  generalize x.natAbs / y.natAbs = q at *
  generalize x.natAbs % y.natAbs = r at *
  have dg : ∀ u : Nat, u < 2000000000000000000 → Lib.nDigits u < 2 ^ 32 := fun u hu => by
   have := j3 (u := u) (k := 18) (by omega)
   omega
  have d18 : ∀ u : Nat, u < 1000000000000000000 → Lib.nDigits u ≤ 18 := fun u hu => j3 (k := 17) (by omega)
  have edI : (x.natAbs : Int) = (y.natAbs : Int) * (q : Int) + (r : Int) := by rw [ed]; simp
  rcases (by omega : x < 0 ∨ 0 ≤ x) with gx | gx
  ·rcases (by omega : y < 0 ∨ 0 ≤ y) with gy | gy
   ·simp only [gx, gy, decide_true, cond_true, kJ q (dg _ (by omega)), iA r (dg _ (by omega)), aD]
    have ex : x = y * (q : Int) + -(r : Int) := by
     have a1 : (x.natAbs : Int) = -x := by omega
     have a2 : (y.natAbs : Int) = -y := by omega
     rw [a1, a2] at edI
     grind
    obtain ⟨u1, u2⟩ := iT ex (by omega) (by omega) h0
    rw [u1, u2]
   ·have gy' : ¬ y < 0 := by omega
    by_cases hr : r = 0
    ·simp only [gx, gy', hr, decide_true, decide_false, Bool.not_true, cond_true, cond_false, iA q (dg _ (by omega)), kJ 0 (dg _ (by omega)), aD]
     have ex : x = y * -(q : Int) + ((0 : Nat) : Int) := by
      have a1 : (x.natAbs : Int) = -x := by omega
      have a2 : (y.natAbs : Int) = y := by omega
      rw [a1, a2, hr] at edI
      grind
     obtain ⟨u1, u2⟩ := iT ex (by omega) (by omega) h0
     rw [u1, u2]
    ·simp only [gx, gy', hr, decide_true, decide_false, Bool.not_false, Bool.not_true, cond_true, cond_false, C9 q 1 (d18 _ (by omega)) (d18 _ (by omega)), tQ y.natAbs r hy (d18 _ (by omega)) (Nat.le_of_lt lm), iA (q + 1) (dg _ (by omega)), kJ (y.natAbs - r) (dg _ (by omega)), aD]
     have ex : x = y * -((q + 1 : Nat) : Int) + ((y.natAbs - r : Nat) : Int) := by
      have a1 : (x.natAbs : Int) = -x := by omega
      have a2 : (y.natAbs : Int) = y := by omega
      have a3 : ((y.natAbs - r : Nat) : Int) = y - r := by omega
      have a4 : ((q + 1 : Nat) : Int) = (q : Int) + 1 := by omega
      rw [a1, a2] at edI
      rw [a3, a4]
      grind
     obtain ⟨u1, u2⟩ := iT ex (by omega) (by omega) h0
     rw [u1, u2]
  ·have gx' : ¬ x < 0 := by omega
   rcases (by omega : y < 0 ∨ 0 ≤ y) with gy | gy
   ·by_cases hr : r = 0
    ·simp only [gx', gy, hr, decide_true, decide_false, Bool.not_true, cond_true, cond_false, iA q (dg _ (by omega)), iA 0 (dg _ (by omega)), aD]
     have ex : x = y * -(q : Int) + -((0 : Nat) : Int) := by
      have a1 : (x.natAbs : Int) = x := by omega
      have a2 : (y.natAbs : Int) = -y := by omega
      rw [a1, a2, hr] at edI
      grind
     obtain ⟨u1, u2⟩ := iT ex (by omega) (by omega) h0
     rw [u1, u2]
    ·simp only [gx', gy, hr, decide_true, decide_false, Bool.not_false, Bool.not_true, cond_true, cond_false, C9 q 1 (d18 _ (by omega)) (d18 _ (by omega)), tQ y.natAbs r hy (d18 _ (by omega)) (Nat.le_of_lt lm), iA (q + 1) (dg _ (by omega)), iA (y.natAbs - r) (dg _ (by omega)), aD]
     have ex : x = y * -((q + 1 : Nat) : Int) + -((y.natAbs - r : Nat) : Int) := by
      have a1 : (x.natAbs : Int) = x := by omega
      have a2 : (y.natAbs : Int) = -y := by omega
      have a3 : ((y.natAbs - r : Nat) : Int) = -y - r := by omega
      have a4 : ((q + 1 : Nat) : Int) = (q : Int) + 1 := by omega
      rw [a1, a2] at edI
      rw [a3, a4]
      grind
     obtain ⟨u1, u2⟩ := iT ex (by omega) (by omega) h0
     rw [u1, u2]
   ·have gy' : ¬ y < 0 := by omega
    simp only [gx', gy', decide_true, decide_false, cond_false, kJ q (dg _ (by omega)), kJ r (dg _ (by omega)), aD]
    have ex : x = y * (q : Int) + (r : Int) := by
     have a1 : (x.natAbs : Int) = x := by omega
     have a2 : (y.natAbs : Int) = y := by omega
     rw [a1, a2] at edI
     exact edI
    obtain ⟨u1, u2⟩ := iT ex (by omega) (by omega) h0
    rw [u1, u2]
 unfold lA
 simp only [rD x 18 (by decide), rD y 18 (by decide), aD, wQ, h0, decide_false, cond_false]
 by_cases g1 : ((Zn x).size : Int) ≤ 18
 ·simp only [g1, if_true, aD, cond_true]
  by_cases g2 : ((Zn y).size : Int) ≤ 18
  ·simp only [g2, if_true, aD, cond_true]
   have e1 : eqI y 0 = false := by rw [dI]; simp [h0]
   have t1 : x = y * x.tdiv y + x.tmod y := (Int.mul_tdiv_add_tmod x y).symm
   have t2 : (x.tmod y).natAbs < y.natAbs := by rw [Int.natAbs_tmod]; exact Nat.mod_lt _ (by omega)
   have t3 : (x.tdiv y).natAbs ≤ x.natAbs := by rw [Int.natAbs_tdiv]; exact Nat.div_le_self _ _
   have t4 : 0 ≤ x → 0 ≤ x.tmod y := fun h => Int.tmod_nonneg y h
   have t5 : x ≤ 0 → x.tmod y ≤ 0 := fun h => by
    have := Int.tmod_nonneg (a := -x) y (by omega)
    rw [Int.neg_tmod] at this
    omega
   simp only [e1, cond_false, dI, aL]
   generalize x.tdiv y = q at *
   generalize x.tmod y = r at *
   by_cases hr : r = 0
   ·obtain ⟨u1, u2⟩ := iT (x := x) (y := y) (f := q) (g := r) t1 (by omega) (by omega) h0
    simp only [hr, decide_true, Bool.not_true, cond_false]
    rw [wrap64 (by omega) (by omega), nX _ (by omega) (by omega), aD, nX _ (by omega) (by omega), aD, u1, u2, hr]
   ·simp only [hr, decide_false, Bool.not_false, cond_true]
    by_cases r1 : r < 0
    ·by_cases y1 : y < 0
     ·obtain ⟨u1, u2⟩ := iT (x := x) (y := y) (f := q) (g := r) t1 (by omega) (by omega) h0
      simp only [r1, y1, decide_true, cond_true]
      rw [wrap64 (by omega) (by omega), nX _ (by omega) (by omega), aD, nX _ (by omega) (by omega), aD, u1, u2]
     ·obtain ⟨u1, u2⟩ := iT (x := x) (y := y) (f := q - 1) (g := r + y) (by grind) (by omega) (by omega) h0
      simp only [r1, y1, decide_true, decide_false, cond_true, cond_false]
      rw [wrap64 (x := q) (by omega) (by omega), wrap64 (by omega) (by omega), nX _ (by omega) (by omega), aD, wrap64 (by omega) (by omega), nX _ (by omega) (by omega), aD, u1, u2]
    ·by_cases y1 : y < 0
     ·obtain ⟨u1, u2⟩ := iT (x := x) (y := y) (f := q - 1) (g := r + y) (by grind) (by omega) (by omega) h0
      simp only [r1, y1, decide_true, decide_false, cond_true, cond_false]
      rw [wrap64 (x := q) (by omega) (by omega), wrap64 (by omega) (by omega), nX _ (by omega) (by omega), aD, wrap64 (by omega) (by omega), nX _ (by omega) (by omega), aD, u1, u2]
     ·obtain ⟨u1, u2⟩ := iT (x := x) (y := y) (f := q) (g := r) t1 (by omega) (by omega) h0
      simp only [r1, y1, decide_false, cond_false]
      rw [wrap64 (by omega) (by omega), nX _ (by omega) (by omega), aD, nX _ (by omega) (by omega), aD, u1, u2]
  ·simp only [g2, if_false, aD, cond_false]
   exact slow
 ·simp only [g1, if_false, aD, cond_false]
  exact slow
end Go.PM
