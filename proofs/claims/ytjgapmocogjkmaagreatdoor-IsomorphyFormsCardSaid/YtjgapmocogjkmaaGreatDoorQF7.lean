/- Texts of one proof, joined (7). -/
import Derived.Lib.AtoiTie
import Derived.Lib.ParseIntBTie
import Derived.Test.YtjgapmocogjkmaaGreatDoorQF6
set_option linter.unusedSimpArgs false
set_option linter.unusedVariables false
namespace Go.PM
open Go Go.RowKit Go.Proofs
set_option maxRecDepth 100000
set_option maxHeartbeats 4000000
/-! schisma/table.great -/
def uM (x : aH [.int .i64]) : Option (aH [.bool]) := match x with
 | (v0, ()) =>
  bif ltI 1000000000 v0 then
   some (true, ())
  else some (ltI v0 (-1000000000), ())
noncomputable def GV : Code := aS Tryz.f111
abbrev P0 : Env := bI []
theorem V0 : aY Tryz.prog P0 := aX trivial
def M6 (id : Nat) : Option aR := none
theorem S0 : aF GV = [] := by kernel_rfl
theorem VY : ∀ x, bQ Tryz.prog P0 Tryz.f111 (aC Tryz.f111) M6 GV [.int .i64] [.bool] x = uM x := by
 rintro ⟨v0, ⟨⟩⟩
 kernel_rfl
theorem aBJ : cL Tryz.prog 111 [.int .i64] [.bool] uM := by
 exact aZ aJ V0 Tryz.func111 (c := GV) (by kernel_rfl) (aT := aC Tryz.f111) (lt := M6) (aE S0 trivial) VY
abbrev Q3 : Ent := ⟨111, [.int .i64], [.bool], uM⟩
theorem VO : Ent.OK Tryz.prog Q3 := aBJ

/-! slices.IndexFunc[schisma/api.Row,int] -/
abbrev cI : List (Nat × Kd) := [(0, .list TyE), (1, .fn 111), (7, .int .i64), (8, .int .i64)]
abbrev dC : List (Ex × List (Nat × Kd)) := [(.ret, [(4, .int .i64)]), (.exit 0, [])]
def bZ (x : Shape.den cI) : Option (Shape.den cI ⊕ aU dC) := match x with
 | (v0, v1, v7, v8, ()) =>
  bif ltI v8 v7 then
   bif aQ v8 v0.length then aB (uM ((v0.getD v8.toNat 0), ())) fun y2 =>
   bif y2.1 then
    some (.inr (.inl (v8, ())))
   else some (.inl (v0, (), v7, (aL .i64 (v8 + 1)), ())) else none
  else some (.inr (.inr ((()))))
def eK (x : Shape.den cI) : Option (aU dC) := bU bZ (2 ^ 64) x
def dX (x : aH [.list TyE, .fn 111]) : Option (aH [.int .i64]) := match x with
 | (v0, v1, ()) =>
  aB (eK (v0, (), (v0.length : Int), 0, ())) fun z3 =>
  lN z3 (fun a4 => some (a4.1, ())) fun b5 =>
  some ((-1), ())
noncomputable def gK : Code := aS Tryz.f73
abbrev jZ : Env := bI [Q3]
theorem l3 : aY Tryz.prog jZ := aX ⟨VO, trivial⟩
noncomputable def dK : Code := fB gK 0
def jG (id : Nat) : Option aR := bif Nat.beq id 2 then some ⟨cI, dC, eK⟩ else none
theorem rM : ∀ x, eU Tryz.prog jZ 19 (aC Tryz.f73) jG dK cI dC x = bZ x := by
 rintro ⟨v0, v1, v7, v8, ⟨⟩⟩
 kernel_rfl
theorem tZ : aF dK = [] := by kernel_rfl
theorem r7 : aG dK = 2 := by kernel_rfl
theorem sI : cU Tryz.prog 19 dK ⟨cI, dC, eK⟩ := by
 exact cW l3.callee aJ.mixed _ (aE tZ trivial) rM
theorem s9 : aF gK = [dK] := by kernel_rfl
theorem uE : ∀ x, bQ Tryz.prog jZ Tryz.f73 (aC Tryz.f73) jG gK [.list TyE, .fn 111] [.int .i64] x = dX x := by
 rintro ⟨v0, v1, ⟨⟩⟩
 kernel_rfl
theorem vF : cL Tryz.prog 73 [.list TyE, .fn 111] [.int .i64] dX := by
 exact aZ aJ l3 Tryz.func73 (c := gK) (by kernel_rfl) (aT := aC Tryz.f73) (lt := jG) (aE s9 ⟨cX r7 rfl sI, trivial⟩) uE
abbrev nH : Ent := ⟨73, [.list TyE, .fn 111], [.int .i64], dX⟩
theorem tW : Ent.OK Tryz.prog nH := vF

/-! slices.ContainsFunc[schisma/api.Row,int] -/
def cG (x : aH [.list TyE, .fn 111]) : Option (aH [.bool]) := match x with
 | (v0, v1, ()) =>
  aB (dX (v0, (), ())) fun y1 =>
  some (!(ltI y1.1 0), ())
noncomputable def iJ : Code := aS Tryz.f55
abbrev l4 : Env := bI [nH]
theorem rO : aY Tryz.prog l4 := aX ⟨tW, trivial⟩
def lJ (id : Nat) : Option aR := none
theorem qV : aF iJ = [] := by kernel_rfl
theorem rV : ∀ x, bQ Tryz.prog l4 Tryz.f55 (aC Tryz.f55) lJ iJ [.list TyE, .fn 111] [.bool] x = cG x := by
 rintro ⟨v0, v1, ⟨⟩⟩
 kernel_rfl
theorem tA : cL Tryz.prog 55 [.list TyE, .fn 111] [.bool] cG := by
 exact aZ aJ rO Tryz.func55 (c := iJ) (by kernel_rfl) (aT := aC Tryz.f55) (lt := lJ) (aE qV trivial) rV
abbrev lY : Ent := ⟨55, [.list TyE, .fn 111], [.bool], cG⟩
theorem rR : Ent.OK Tryz.prog lY := tA

/-! schisma/table.Check -/
abbrev mC : List (Nat × Kd) := [(0, .list TyD), (8, .list TyD), (9, .int .i64), (10, .int .i64)]
abbrev pD : List (Ex × List (Nat × Kd)) := [(.ret, [(2, .int .i64)]), (.exit 0, [])]
def kJ (x : Shape.den mC) : Option (Shape.den mC ⊕ aU pD) := match x with
 | (v0, v8, v9, v10, ()) =>
  bif ltI v10 v9 then
   bif aQ v10 v8.length then bif ltI 12 ((v8.getD v10.toNat []).length : Int) then
    some (.inr (.inl (4, ())))
   else bif aQ 0 v0.length then bif !(eqI ((v8.getD v10.toNat []).length : Int) ((v0.getD 0 []).length : Int)) then
    some (.inr (.inl (5, ())))
   else aB (cG ((v8.getD v10.toNat []), (), ())) fun y2 =>
   bif y2.1 then
    some (.inr (.inl (4, ())))
   else some (.inl (v0, v8, v9, (aL .i64 (v10 + 1)), ())) else none else none
  else some (.inr (.inr ((()))))
def p6 (x : Shape.den mC) : Option (aU pD) := bU kJ (2 ^ 64) x
def rD (x : aH [.list TyD]) : Option (aH [.int .i64]) := match x with
 | (v0, ()) =>
  bif ltI 12 (v0.length : Int) then
   some (4, ())
  else aB (p6 (v0, v0, (v0.length : Int), 0, ())) fun z3 =>
  lN z3 (fun a4 => some (a4.1, ())) fun b5 =>
  some (0, ())
noncomputable def zQ : Code := aS Tryz.f110
abbrev F9 : Env := bI [lY]
theorem H9 : aY Tryz.prog F9 := aX ⟨rR, trivial⟩
noncomputable def qB : Code := fB zQ 0
def DT (id : Nat) : Option aR := bif Nat.beq id 4 then some ⟨mC, pD, p6⟩ else none
theorem NU : ∀ x, eU Tryz.prog F9 30 (aC Tryz.f110) DT qB mC pD x = kJ x := by
 rintro ⟨v0, v8, v9, v10, ⟨⟩⟩
 kernel_rfl
theorem WM : aF qB = [] := by kernel_rfl
theorem NH : aG qB = 4 := by kernel_rfl
theorem QK : cU Tryz.prog 30 qB ⟨mC, pD, p6⟩ := by
 exact cW H9.callee aJ.mixed _ (aE WM trivial) NU
theorem TC : aF zQ = [qB] := by kernel_rfl
theorem V2 : ∀ x, bQ Tryz.prog F9 Tryz.f110 (aC Tryz.f110) DT zQ [.list TyD] [.int .i64] x = rD x := by
 rintro ⟨v0, ⟨⟩⟩
 kernel_rfl
theorem aBL : cL Tryz.prog 110 [.list TyD] [.int .i64] rD := by
 exact aZ aJ H9 Tryz.func110 (c := zQ) (by kernel_rfl) (aT := aC Tryz.f110) (lt := DT) (aE TC ⟨cX NH rfl QK, trivial⟩) V2
abbrev QP : Ent := ⟨110, [.list TyD], [.int .i64], rD⟩
theorem V8 : Ent.OK Tryz.prog QP := aBL

/-! schisma/hermite.pivot$1 -/
def k9 (x : aH [.int .i64]) : Option (aH [.bool]) := match x with
 | (v0, ()) =>
  some (!(eqI v0 0), ())
noncomputable def vV : Code := aS Tryz.f206
abbrev FT : Env := bI []
theorem L8 : aY Tryz.prog FT := aX trivial
def C6 (id : Nat) : Option aR := none
theorem JZ : aF vV = [] := by kernel_rfl
theorem MF : ∀ x, bQ Tryz.prog FT Tryz.f206 (aC Tryz.f206) C6 vV [.int .i64] [.bool] x = k9 x := by
 rintro ⟨v0, ⟨⟩⟩
 kernel_rfl
theorem PN : cL Tryz.prog 206 [.int .i64] [.bool] k9 := by
 exact aZ aJ L8 Tryz.func206 (c := vV) (by kernel_rfl) (aT := aC Tryz.f206) (lt := C6) (aE JZ trivial) MF
abbrev EZ : Ent := ⟨206, [.int .i64], [.bool], k9⟩
theorem LW : Ent.OK Tryz.prog EZ := PN

/-! slices.IndexFunc[schisma/api.Row,int] -/
abbrev cJ : List (Nat × Kd) := [(0, .list TyE), (1, .fn 206), (7, .int .i64), (8, .int .i64)]
abbrev dA : List (Ex × List (Nat × Kd)) := [(.ret, [(4, .int .i64)]), (.exit 0, [])]
def cA (x : Shape.den cJ) : Option (Shape.den cJ ⊕ aU dA) := match x with
 | (v0, v1, v7, v8, ()) =>
  bif ltI v8 v7 then
   bif aQ v8 v0.length then aB (k9 ((v0.getD v8.toNat 0), ())) fun y2 =>
   bif y2.1 then
    some (.inr (.inl (v8, ())))
   else some (.inl (v0, (), v7, (aL .i64 (v8 + 1)), ())) else none
  else some (.inr (.inr ((()))))
def eL (x : Shape.den cJ) : Option (aU dA) := bU cA (2 ^ 64) x
def eI (x : aH [.list TyE, .fn 206]) : Option (aH [.int .i64]) := match x with
 | (v0, v1, ()) =>
  aB (eL (v0, (), (v0.length : Int), 0, ())) fun z3 =>
  lN z3 (fun a4 => some (a4.1, ())) fun b5 =>
  some ((-1), ())
noncomputable def gE : Code := aS Tryz.f73
abbrev jX : Env := bI [EZ]
theorem lX : aY Tryz.prog jX := aX ⟨LW, trivial⟩
noncomputable def dL : Code := fB gE 0
def jH (id : Nat) : Option aR := bif Nat.beq id 2 then some ⟨cJ, dA, eL⟩ else none
theorem rZ : ∀ x, eU Tryz.prog jX 19 (aC Tryz.f73) jH dL cJ dA x = cA x := by
 rintro ⟨v0, v1, v7, v8, ⟨⟩⟩
 kernel_rfl
theorem tX : aF dL = [] := by kernel_rfl
theorem rX : aG dL = 2 := by kernel_rfl
theorem r9 : cU Tryz.prog 19 dL ⟨cJ, dA, eL⟩ := by
 exact cW lX.callee aJ.mixed _ (aE tX trivial) rZ
theorem sZ : aF gE = [dL] := by kernel_rfl
theorem uA : ∀ x, bQ Tryz.prog jX Tryz.f73 (aC Tryz.f73) jH gE [.list TyE, .fn 206] [.int .i64] x = eI x := by
 rintro ⟨v0, v1, ⟨⟩⟩
 kernel_rfl
theorem vD : cL Tryz.prog 73 [.list TyE, .fn 206] [.int .i64] eI := by
 exact aZ aJ lX Tryz.func73 (c := gE) (by kernel_rfl) (aT := aC Tryz.f73) (lt := jH) (aE sZ ⟨cX rX rfl r9, trivial⟩) uA
abbrev nO : Ent := ⟨73, [.list TyE, .fn 206], [.int .i64], eI⟩
theorem uB : Ent.OK Tryz.prog nO := vD

/-! schisma/hermite.pivot -/
def nU (x : aH [.list TyE]) : Option (aH [.int .i64]) := match x with
 | (v0, ()) =>
  aB (eI (v0, (), ())) fun y1 =>
  some (y1.1, ())
noncomputable def BP : Code := aS Tryz.f190
abbrev JK : Env := bI [nO]
theorem PR : aY Tryz.prog JK := aX ⟨uB, trivial⟩
def IN (id : Nat) : Option aR := none
theorem OP : aF BP = [] := by kernel_rfl
theorem P9 : ∀ x, bQ Tryz.prog JK Tryz.f190 (aC Tryz.f190) IN BP [.list TyE] [.int .i64] x = nU x := by
 rintro ⟨v0, ⟨⟩⟩
 kernel_rfl
theorem WG : cL Tryz.prog 190 [.list TyE] [.int .i64] nU := by
 exact aZ aJ PR Tryz.func190 (c := BP) (by kernel_rfl) (aT := aC Tryz.f190) (lt := IN) (aE OP trivial) P9
abbrev JG : Ent := ⟨190, [.list TyE], [.int .i64], nU⟩
theorem PT : Ent.OK Tryz.prog JG := WG

/-! schisma/hermite.isForm$1 -/
def lK (x : aH [.list TyE, .ptr TyE, .ptr TyD]) : Option (aH [.bool]) := match x with
 | (v0, v1, v2, ()) =>
  bif aQ v1 v0.length then bif ltI (v0.getD v1.toNat 0) 0 then
   some (true, ())
  else bif aQ v1 v0.length then bif aQ v1 v2.length then some (!(ltI (v0.getD v1.toNat 0) (v2.getD v1.toNat 0)), ()) else none else none else none
noncomputable def sT : Code := aS Tryz.f192
abbrev B6 : Env := bI []
theorem I1 : aY Tryz.prog B6 := aX trivial
def yS (id : Nat) : Option aR := none
theorem G8 : aF sT = [] := by kernel_rfl
theorem I7 : ∀ x, bQ Tryz.prog B6 Tryz.f192 (aC Tryz.f192) yS sT [.list TyE, .ptr TyE, .ptr TyD] [.bool] x = lK x := by
 rintro ⟨v0, v1, v2, ⟨⟩⟩
 kernel_rfl
theorem LY : cL Tryz.prog 192 [.list TyE, .ptr TyE, .ptr TyD] [.bool] lK := by
 exact aZ aJ I1 Tryz.func192 (c := sT) (by kernel_rfl) (aT := aC Tryz.f192) (lt := yS) (aE G8 trivial) I7
abbrev AV : Ent := ⟨192, [.list TyE, .ptr TyE, .ptr TyD], [.bool], lK⟩
theorem JE : Ent.OK Tryz.prog AV := LY

/-! slices.IndexFunc[schisma/api.Matrix,schisma/api.Row] -/
abbrev bO : List (Nat × Kd) := [(0, .list TyD), (1, .clo 192 [TyE, TyD]), (7, .int .i64), (8, .int .i64)]
abbrev cB : List (Ex × List (Nat × Kd)) := [(.ret, [(4, .int .i64)]), (.exit 0, [])]
def bJ (x : Shape.den bO) : Option (Shape.den bO ⊕ aU cB) := match x with
 | (v0, v1, v7, v8, ()) =>
  bif ltI v8 v7 then
   bif aQ v8 v0.length then aB (lK ((v0.getD v8.toNat []), v1.1, v1.2.1, ())) fun y2 =>
   bif y2.1 then
    some (.inr (.inl (v8, ())))
   else some (.inl (v0, (v1.1, v1.2.1, ()), v7, (aL .i64 (v8 + 1)), ())) else none
  else some (.inr (.inr ((()))))
def cV (x : Shape.den bO) : Option (aU cB) := bU bJ (2 ^ 64) x
def cO (x : aH [.list TyD, .clo 192 [TyE, TyD]]) : Option (aH [.int .i64]) := match x with
 | (v0, v1, ()) =>
  aB (cV (v0, (v1.1, v1.2.1, ()), (v0.length : Int), 0, ())) fun z3 =>
  lN z3 (fun a4 => some (a4.1, ())) fun b5 =>
  some ((-1), ())
noncomputable def dT : Code := aS Tryz.f207
abbrev gG : Env := bI [AV]
theorem jN : aY Tryz.prog gG := aX ⟨JE, trivial⟩
noncomputable def cE : Code := fB dT 0
def gA (id : Nat) : Option aR := bif Nat.beq id 2 then some ⟨bO, cB, cV⟩ else none
theorem oD : ∀ x, eU Tryz.prog gG 19 (aC Tryz.f207) gA cE bO cB x = bJ x := by
 rintro ⟨v0, v1, v7, v8, ⟨⟩⟩
 kernel_rfl
theorem pS : aF cE = [] := by kernel_rfl
theorem oC : aG cE = 2 := by kernel_rfl
theorem o6 : cU Tryz.prog 19 cE ⟨bO, cB, cV⟩ := by
 exact cW jN.callee aJ.mixed _ (aE pS trivial) oD
theorem pG : aF dT = [cE] := by kernel_rfl
theorem pV : ∀ x, bQ Tryz.prog gG Tryz.f207 (aC Tryz.f207) gA dT [.list TyD, .clo 192 [TyE, TyD]] [.int .i64] x = cO x := by
 rintro ⟨v0, v1, ⟨⟩⟩
 kernel_rfl
theorem qP : cL Tryz.prog 207 [.list TyD, .clo 192 [TyE, TyD]] [.int .i64] cO := by
 exact aZ aJ jN Tryz.func207 (c := dT) (by kernel_rfl) (aT := aC Tryz.f207) (lt := gA) (aE pG ⟨cX oC rfl o6, trivial⟩) pV
abbrev kH : Ent := ⟨207, [.list TyD, .clo 192 [TyE, TyD]], [.int .i64], cO⟩
theorem pP : Ent.OK Tryz.prog kH := qP

/-! slices.ContainsFunc[schisma/api.Matrix,schisma/api.Row] -/
def bN (x : aH [.list TyD, .clo 192 [TyE, TyD]]) : Option (aH [.bool]) := match x with
 | (v0, v1, ()) =>
  aB (cO (v0, (v1.1, v1.2.1, ()), ())) fun y1 =>
  some (!(ltI y1.1 0), ())
noncomputable def fL : Code := aS Tryz.f191
abbrev jO : Env := bI [kH]
theorem oF : aY Tryz.prog jO := aX ⟨pP, trivial⟩
def iZ (id : Nat) : Option aR := none
theorem nJ : aF fL = [] := by kernel_rfl
theorem oE : ∀ x, bQ Tryz.prog jO Tryz.f191 (aC Tryz.f191) iZ fL [.list TyD, .clo 192 [TyE, TyD]] [.bool] x = bN x := by
 rintro ⟨v0, v1, ⟨⟩⟩
 kernel_rfl
theorem pC : cL Tryz.prog 191 [.list TyD, .clo 192 [TyE, TyD]] [.bool] bN := by
 exact aZ aJ oF Tryz.func191 (c := fL) (by kernel_rfl) (aT := aC Tryz.f191) (lt := iZ) (aE nJ trivial) oE
abbrev jP : Ent := ⟨191, [.list TyD, .clo 192 [TyE, TyD]], [.bool], bN⟩
theorem oB : Ent.OK Tryz.prog jP := pC

/-! schisma/hermite.isForm -/
abbrev jS : List (Nat × Kd) := [(0, .list TyD), (3, .int .i64), (7, .list TyD), (8, .int .i64), (9, .int .i64)]
abbrev lO : List (Ex × List (Nat × Kd)) := [(.ret, [(2, .bool)]), (.exit 0, [])]
def iF (x : Shape.den jS) : Option (Shape.den jS ⊕ aU lO) := match x with
 | (v0, v3, v7, v8, v9, ()) =>
  bif ltI v9 v8 then
   bif aQ v9 v7.length then aB (nU ((v7.getD v9.toNat []), ())) fun y3 =>
   bif !(ltI v3 y3.1) then
    some (.inr (.inl (false, ())))
   else bif aQ y3.1 (v7.getD v9.toNat []).length then bif ltI ((v7.getD v9.toNat []).getD y3.1.toNat 0) 0 then
    some (.inr (.inl (false, ())))
   else bif !(ltI v9 0) then bif Nat.ble 0 v9.toNat then bif Nat.ble v9.toNat v0.length then aB (bN (((v0.drop 0).take (v9.toNat - 0)), (y3.1, (v7.getD v9.toNat []), ()), ())) fun y4 =>
   bif y4.1 then
    some (.inr (.inl (false, ())))
   else some (.inl (v0, y3.1, v7, v8, (aL .i64 (v9 + 1)), ())) else none else none else none else none else none
  else some (.inr (.inr ((()))))
def mH (x : Shape.den jS) : Option (aU lO) := bU iF (2 ^ 64) x
def l9 (x : aH [.list TyD]) : Option (aH [.bool]) := match x with
 | (v0, ()) =>
  aB (mH (v0, (-1), v0, (v0.length : Int), 0, ())) fun z5 =>
  lN z5 (fun a6 => some (a6.1, ())) fun b7 =>
  some (true, ())
noncomputable def sL : Code := aS Tryz.f167
abbrev yD : Env := bI [JG, jP]
theorem B5 : aY Tryz.prog yD := aX ⟨PT, oB, trivial⟩
noncomputable def mG : Code := fB sL 0
def wC (id : Nat) : Option aR := bif Nat.beq id 3 then some ⟨jS, lO, mH⟩ else none
theorem JD : ∀ x, eU Tryz.prog yD 33 (aC Tryz.f167) wC mG jS lO x = iF x := by
 rintro ⟨v0, v3, v7, v8, v9, ⟨⟩⟩
 kernel_rfl
theorem NB : aF mG = [] := by kernel_rfl
theorem I0 : aG mG = 3 := by kernel_rfl
theorem KX : cU Tryz.prog 33 mG ⟨jS, lO, mH⟩ := by
 exact cW B5.callee aJ.mixed _ (aE NB trivial) JD
theorem MB : aF sL = [mG] := by kernel_rfl
theorem NP : ∀ x, bQ Tryz.prog yD Tryz.f167 (aC Tryz.f167) wC sL [.list TyD] [.bool] x = l9 x := by
 rintro ⟨v0, ⟨⟩⟩
 kernel_rfl
theorem TX : cL Tryz.prog 167 [.list TyD] [.bool] l9 := by
 exact aZ aJ B5 Tryz.func167 (c := sL) (by kernel_rfl) (aT := aC Tryz.f167) (lt := wC) (aE MB ⟨cX I0 rfl KX, trivial⟩) NP
abbrev IW : Ent := ⟨167, [.list TyD], [.bool], l9⟩
theorem N9 : Ent.OK Tryz.prog IW := TX

/-! schisma/hermite.IsForm -/
def pH (x : aH [.list TyD]) : Option (aH [.bool, .int .i64]) := match x with
 | (v0, ()) =>
  aB (rD (v0, ())) fun y1 =>
  bif !(eqI y1.1 0) then
   some (false, y1.1, ())
  else aB (l9 (v0, ())) fun y2 =>
  some (y2.1, 0, ())
noncomputable def yK : Code := aS Tryz.f140
abbrev IA : Env := bI [IW, QP]
theorem NN : aY Tryz.prog IA := aX ⟨N9, V8, trivial⟩
def EN (id : Nat) : Option aR := none
theorem L6 : aF yK = [] := by kernel_rfl
theorem ON : ∀ x, bQ Tryz.prog IA Tryz.f140 (aC Tryz.f140) EN yK [.list TyD] [.bool, .int .i64] x = pH x := by
 rintro ⟨v0, ⟨⟩⟩
 kernel_rfl
theorem S8 : cL Tryz.prog 140 [.list TyD] [.bool, .int .i64] pH := by
 exact aZ aJ NN Tryz.func140 (c := yK) (by kernel_rfl) (aT := aC Tryz.f140) (lt := EN) (aE L6 trivial) ON
abbrev IK : Ent := ⟨140, [.list TyD], [.bool, .int .i64], pH⟩
theorem NT : Ent.OK Tryz.prog IK := S8

/-! schisma/lattice.Check -/
def nM (x : aH [.agg (.prod TyE TyC)]) : Option (aH [.int .i64]) := match x with
 | (v0, ()) =>
  aB (lG (v0.1, v0.2, ())) fun y1 =>
  bif !(eqI y1.1 0) then
   some (y1.1, ())
  else aB (pH (v0.2, ())) fun y2 =>
  bif !(eqI y2.2.1 0) then
   some (7, ())
  else bif y2.1 then
   some (0, ())
  else some (7, ())
noncomputable def BS : Code := aS Tryz.f107
abbrev JI : Env := bI [IK, BX]
theorem QO : aY Tryz.prog JI := aX ⟨NT, DE, trivial⟩
def IL (id : Nat) : Option aR := none
theorem OO : aF BS = [] := by kernel_rfl
theorem O6 : ∀ x, bQ Tryz.prog JI Tryz.f107 (aC Tryz.f107) IL BS [.agg (.prod TyE TyC)] [.int .i64] x = nM x := by
 rintro ⟨v0, ⟨⟩⟩
 kernel_rfl
theorem VN : cL Tryz.prog 107 [.agg (.prod TyE TyC)] [.int .i64] nM := by
 exact aZ aJ QO Tryz.func107 (c := BS) (by kernel_rfl) (aT := aC Tryz.f107) (lt := IL) (aE OO trivial) O6
abbrev KB : Ent := ⟨107, [.agg (.prod TyE TyC)], [.int .i64], nM⟩
theorem PL : Ent.OK Tryz.prog KB := VN

/-! schisma/lattice.checkRow -/
def kL (x : aH [.agg (.prod TyE TyC), .list TyE]) : Option (aH [.int .i64]) := match x with
 | (v0, v1, ()) =>
  aB (nM ((v0.1, v0.2), ())) fun y1 =>
  bif !(eqI y1.1 0) then
   some (y1.1, ())
  else aB (sM (v1, ())) fun y2 =>
  bif !(eqI y2.1 0) then
   some (y2.1, ())
  else bif !(eqI (v1.length : Int) v0.1) then
   some (5, ())
  else some (0, ())
noncomputable def uH : Code := aS Tryz.f80
abbrev C8 : Env := bI [KB, OE]
theorem KD : aY Tryz.prog C8 := aX ⟨PL, MV, trivial⟩
def CD (id : Nat) : Option aR := none
theorem I2 : aF uH = [] := by kernel_rfl
theorem JX : ∀ x, bQ Tryz.prog C8 Tryz.f80 (aC Tryz.f80) CD uH [.agg (.prod TyE TyC), .list TyE] [.int .i64] x = kL x := by
 rintro ⟨v0, v1, ⟨⟩⟩
 kernel_rfl
theorem NM : cL Tryz.prog 80 [.agg (.prod TyE TyC), .list TyE] [.int .i64] kL := by
 exact aZ aJ KD Tryz.func80 (c := uH) (by kernel_rfl) (aT := aC Tryz.f80) (lt := CD) (aE I2 trivial) JX
abbrev DG : Ent := ⟨80, [.agg (.prod TyE TyC), .list TyE], [.int .i64], kL⟩
theorem JW : Ent.OK Tryz.prog DG := NM

/-! (schisma/lattice.Lattice).pivots -/
def iE (x : aH [.agg (.prod TyE TyC)]) : Option (aH [.clo 141 [(.prod TyE TyC)]]) := match x with
 | (v0, ()) =>
  some (((v0.1, v0.2), ()), ())
noncomputable def nY : Code := aS Tryz.f108
abbrev tQ : Env := bI []
theorem AX : aY Tryz.prog tQ := aX trivial
def sH (id : Nat) : Option aR := none
theorem zJ : aF nY = [] := by kernel_rfl
theorem AP : ∀ x, bQ Tryz.prog tQ Tryz.f108 (aC Tryz.f108) sH nY [.agg (.prod TyE TyC)] [.clo 141 [(.prod TyE TyC)]] x = iE x := by
 rintro ⟨v0, ⟨⟩⟩
 kernel_rfl
theorem D6 : cL Tryz.prog 108 [.agg (.prod TyE TyC)] [.clo 141 [(.prod TyE TyC)]] iE := by
 exact aZ aJ AX Tryz.func108 (c := nY) (by kernel_rfl) (aT := aC Tryz.f108) (lt := sH) (aE zJ trivial) AP
abbrev tU : Ent := ⟨108, [.agg (.prod TyE TyC)], [.clo 141 [(.prod TyE TyC)]], iE⟩
theorem AW : Ent.OK Tryz.prog tU := D6

/-! (schisma/lattice.Lattice).reduce -/
abbrev bP : List (Nat × Kd) := [(4, .bown 137 144 .str), (5, .bown 137 144 .str), (14, .clo 141 [(.prod TyE TyC)])]
abbrev cZ : List (Ex × List (Nat × Kd)) := [(.normal, [(4, .bown 137 144 .str), (5, .bown 137 144 .str)])]
def fA (x : Shape.den bP) (e : aH [.int .i64, .list .str]) : Option (Shape.den bP ⊕ aU cZ) := match x, e with
 | (v4, v5, v14, ()), (e0, e1, ()) =>
  bif aQ e0 v4.length then bif Nat.blt e0.toNat v4.length then bif aQ e0 e1.length then aB (kZ ((v4.getD e0.toNat ByteArray.empty), (e1.getD e0.toNat ByteArray.empty), ())) fun y3 =>
  aB (aJA eO v4 (y3.1, e1, ())) fun y4 =>
  bif Nat.ble [y3.1].length 1048576 then bif Nat.ble v5.length 1048576 then some (.inl (y4, (v5 ++ [y3.1]), ((v14.1.1, v14.1.2), ()), ())) else none else none else none else none else none
def kT (x : Shape.den bP) : uC [(.prod TyE TyC)] := match x with
 | (v4, v5, v14, ()) => ((v14.1.1, v14.1.2), ())
def eX (x : Shape.den bP) : Option (aU cZ) := ZF bP cZ (fun x => QZ (kT x)) fA x
def fT (x : aH [.agg (.prod TyE TyC), .list TyE]) : Option (aH [.list .str, .list .str]) := match x with
 | (v0, v1, ()) =>
  aB (jW (v1, ())) fun y1 =>
  aB (iE ((v0.1, v0.2), ())) fun y2 =>
  aB (eX (y1, [], ((y2.1.1.1, y2.1.1.2), ()), ())) fun z5 =>
  some (z5.1, z5.2.1, ())
noncomputable def kE : Code := aS Tryz.f81
abbrev nG : Env := aD1 [tU, D1] [vW, vM]
theorem qF : aY Tryz.prog nG := CU ⟨AW, FJ, trivial⟩ ⟨yU, DY, trivial⟩
noncomputable def bF : Code := KF kE 0
noncomputable def rJ : Code := inLoop bF
def mT (id : Nat) : Option aR := none
def mW (id : Nat) : Option aR := bif Nat.beq id 5 then some ⟨bP, cZ, eX⟩ else none
theorem xG : aG rJ = 5 := by kernel_rfl
theorem BD : cC rJ = [] := by kernel_rfl
theorem pB : bF = .rangeFunc (C4 bF) (RC bF) (lC bF) (inLoop bF) := by kernel_rfl
theorem xP : ∀ y e, K0 Tryz.prog nG 40 (rL Tryz.f81) mT mW (RC bF).toList (lC bF) (inLoop bF) [.int .i64, .list .str] bP cZ y e = fA y e := by
 rintro ⟨v4, v5, v14, ⟨⟩⟩ ⟨e0, e1, ⟨⟩⟩
 kernel_rfl
theorem zA : ∀ x, ZG 141 [(.prod TyE TyC)] bP (C4 bF) x = some (kT x) := by
 rintro ⟨v4, v5, v14, ⟨⟩⟩
 kernel_rfl
theorem yE : uR Tryz.prog 40 false [] bF ⟨bP, cZ, eX⟩ := by
 exact E9 qF aJ pB Tryz.func141 (c := aS Tryz.f141) (by kernel_rfl) aNE (by kernel_rfl) (nC BD trivial) zA xP
theorem zS : cC kE = [bF] := by kernel_rfl
theorem B8 : ∀ x, UJ Tryz.prog nG Tryz.f81 (rL Tryz.f81) mT mW kE [.agg (.prod TyE TyC), .list TyE] [.list .str, .list .str] x = fT x := by
 rintro ⟨v0, v1, ⟨⟩⟩
 kernel_rfl
theorem DP : cL Tryz.prog 81 [.agg (.prod TyE TyC), .list TyE] [.list .str, .list .str] fT := by
 exact LR aJ qF Tryz.func81 (c := kE) (by kernel_rfl) (aT := rL Tryz.f81) (lt := mT) (rt := mW) (nC zS ⟨CI pB xG rfl yE, trivial⟩) B8
abbrev tM : Ent := ⟨81, [.agg (.prod TyE TyC), .list TyE], [.list .str, .list .str], fT⟩
theorem B1 : Ent.OK Tryz.prog tM := DP

/-! schisma/lattice.Represent -/
def bC (x : aH [.agg (.prod TyE TyC), .list TyE]) : Option (aH [.list TyE, .int .i64]) := match x with
 | (v0, v1, ()) =>
  aB (kL ((v0.1, v0.2), v1, ())) fun y1 =>
  bif !(eqI y1.1 0) then
   some ([], y1.1, ())
  else aB (fT ((v0.1, v0.2), v1, ())) fun y2 =>
  aB (iU (y2.1, ())) fun y3 =>
  some (y3.1, y3.2.1, ())
noncomputable def sN : Code := aS Tryz.f68
abbrev BM : Env := bI [tM, DG, yW]
theorem JA : aY Tryz.prog BM := aX ⟨B1, JW, HV, trivial⟩
def yX (id : Nat) : Option aR := none
theorem HW : aF sN = [] := by kernel_rfl
theorem I8 : ∀ x, bQ Tryz.prog BM Tryz.f68 (aC Tryz.f68) yX sN [.agg (.prod TyE TyC), .list TyE] [.list TyE, .int .i64] x = bC x := by
 rintro ⟨v0, v1, ⟨⟩⟩
 kernel_rfl
theorem ME : cL Tryz.prog 68 [.agg (.prod TyE TyC), .list TyE] [.list TyE, .int .i64] bC := by
 exact aZ aJ JA Tryz.func68 (c := sN) (by kernel_rfl) (aT := aC Tryz.f68) (lt := yX) (aE HW trivial) I8
abbrev sR : Ent := ⟨68, [.agg (.prod TyE TyC), .list TyE], [.list TyE, .int .i64], bC⟩
theorem vL : Ent.OK Tryz.prog sR := ME
end Go.PM
set_option linter.unusedSimpArgs false
set_option linter.unusedVariables false
namespace Go.PM
open Go Go.RowKit Go.Proofs
set_option maxRecDepth 100000
set_option maxHeartbeats 4000000
/-! schisma/isomorphy.turns -/
def f38 (x : aH [.int .i64]) : Option (aH [.clo 62 [(.list TyF)]]) := match x with
 | (v0, ()) =>
  aB (f61 (v0, ())) fun y1 =>
  some ((y1.1, ()), ())
noncomputable def c38 : Code := aS Tryz.f38
abbrev E38 : Env := bI [e61]
theorem aYQ : aY Tryz.prog E38 := aX ⟨aZZ, trivial⟩
def a30 (id : Nat) : Option aR := none
theorem aWT : aF c38 = [] := by kernel_rfl
theorem a2C : ∀ x, bQ Tryz.prog E38 Tryz.f38 (aC Tryz.f38) a30 c38 [.int .i64] [.clo 62 [(.list TyF)]] x = f38 x := by
 rintro ⟨v0, ⟨⟩⟩
 kernel_rfl
theorem a4O : cL Tryz.prog 38 [.int .i64] [.clo 62 [(.list TyF)]] f38 := by
 exact aZ aJ aYQ Tryz.func38 (c := c38) (by kernel_rfl) (aT := aC Tryz.f38) (lt := a30) (aE aWT trivial) a2C
abbrev e38 : Ent := ⟨38, [.int .i64], [.clo 62 [(.list TyF)]], f38⟩
theorem aEU : Ent.OK Tryz.prog e38 := a4O

/-! schisma/isomorphy.Turn -/
abbrev ED : List (Nat × Kd) := [(2, .box 25 TyA), (3, .box 27 TyB), (4, .box 25 TyA), (5, .box 30 TyE), (16, .clo 62 [(.list TyF)])]
abbrev NJ : List (Ex × List (Nat × Kd)) := [(.normal, [(4, .box 25 TyA), (5, .box 30 TyE)]), (.ret, [(4, .box 25 TyA), (5, .box 30 TyE)])]
def PZ (x : Shape.den ED) (e : aH [.agg TyB]) : Option (Shape.den ED ⊕ aU NJ) := match x, e with
 | (v2, v3, v4, v5, v16, ()), (e0, ()) =>
  bif (eqI v3.1 e0.1 && (eqI v3.2.1 e0.2.1 && (eqI v3.2.2.1 e0.2.2.1 && (eqI v3.2.2.2 e0.2.2.2 && true)))) then
   aB (f40 (v2, v3, ())) fun y3 =>
   aB (f39 (y3.1, ())) fun y4 =>
   some (.inr (.inr ((y4.1, y4.2.1, ()))))
  else some (.inl (v2, v3, v4, v5, (v16.1, ()), ()))
def aER (x : Shape.den ED) : uC [(.list TyF)] := match x with
 | (v2, v3, v4, v5, v16, ()) => (v16.1, ())
def FQ (x : Shape.den ED) : Option (aU NJ) := ZF ED NJ (fun x => GD (aER x)) PZ x
def f15 (x : aH [.agg TyA, .agg TyB]) : Option (aH [.agg TyA, .int .i64]) := match x with
 | (v0, v1, ()) =>
  aB (f24 (v0, ())) fun y1 =>
  bif !(eqI y1.1 0) then
   some ((0, ([], ([], []))), y1.1, ())
  else aB (f38 (v0.1, ())) fun y2 =>
  aB (FQ (v0, v1, (0, ([], ([], []))), 0, (y2.1.1, ()), ())) fun z5 =>
  lN z5 (fun a6 => some ((0, ([], ([], []))), 10, ())) fun b7 =>
  some (b7.1, b7.2.1, ())
noncomputable def c15 : Code := aS Tryz.f15
abbrev E15 : Env := bI [e24, e38, e39, e40]
theorem aRF : aY Tryz.prog E15 := aX ⟨aAM, aEU, aJH, aEW, trivial⟩
noncomputable def IJ : Code := KF c15 0
noncomputable def aXR : Code := inLoop IJ
def a1Q (id : Nat) : Option aR := none
def a1X (id : Nat) : Option aR := bif Nat.beq id 6 then some ⟨ED, NJ, FQ⟩ else none
theorem aOS : aG aXR = 6 := by kernel_rfl
theorem a0T : cC aXR = [] := by kernel_rfl
theorem aI6 : IJ = .rangeFunc (C4 IJ) (RC IJ) (lC IJ) (inLoop IJ) := by kernel_rfl
theorem aPF : ∀ y e, K0 Tryz.prog E15 28 (rL Tryz.f15) a1Q a1X (RC IJ).toList (lC IJ) (inLoop IJ) [.agg TyB] ED NJ y e = PZ y e := by
 rintro ⟨v2, v3, v4, v5, v16, ⟨⟩⟩ ⟨e0, ⟨⟩⟩
 kernel_rfl
theorem aVO : ∀ x, ZG 62 [(.list TyF)] ED (C4 IJ) x = some (aER x) := by
 rintro ⟨v2, v3, v4, v5, v16, ⟨⟩⟩
 kernel_rfl
theorem aT7 : uR Tryz.prog 28 false [] IJ ⟨ED, NJ, FQ⟩ := by
 exact E9 aRF aJ aI6 Tryz.func62 (c := aS Tryz.f62) (by kernel_rfl) aWM (by kernel_rfl) (nC a0T trivial) aVO aPF
theorem aUH : cC c15 = [IJ] := by kernel_rfl
theorem a1O : ∀ x, UJ Tryz.prog E15 Tryz.f15 (rL Tryz.f15) a1Q a1X c15 [.agg TyA, .agg TyB] [.agg TyA, .int .i64] x = f15 x := by
 rintro ⟨v0, v1, ⟨⟩⟩
 kernel_rfl
theorem a4U : cL Tryz.prog 15 [.agg TyA, .agg TyB] [.agg TyA, .int .i64] f15 := by
 exact LR aJ aRF Tryz.func15 (c := c15) (by kernel_rfl) (aT := rL Tryz.f15) (lt := a1Q) (rt := a1X) (nC aUH ⟨CI aI6 aOS rfl aT7, trivial⟩) a1O
abbrev e15 : Ent := ⟨15, [.agg TyA, .agg TyB], [.agg TyA, .int .i64], f15⟩
theorem aXW : Ent.OK Tryz.prog e15 := a4U

/-! schisma/isomorphy.Fixed -/
abbrev GR : List (Nat × Kd) := [(1, .box 25 TyA), (2, .own 27 TyB), (3, .int .i64), (5, .bown 34 27 TyB), (14, .clo 62 [(.list TyF)])]
abbrev S9 : List (Ex × List (Nat × Kd)) := [(.normal, [(5, .bown 34 27 TyB)])]
def aIC (x : Shape.den GR) (e : aH [.agg TyB]) : Option (Shape.den GR ⊕ aU S9) := match x, e with
 | (v1, v2, v3, v5, v14, ()), (e0, ()) =>
  aB (f40 (v1, e0, ())) fun y3 =>
  aB (f48 (y3.1, v1, ())) fun y4 =>
  bif eqI y4.1 0 then
   bif Nat.ble [e0].length 1048576 then bif Nat.ble v5.length 1048576 then some (.inl (v1, v2, v3, (v5 ++ [e0]), (v14.1, ()), ())) else none else none
  else some (.inl (v1, v2, v3, v5, (v14.1, ()), ()))
def aM0 (x : Shape.den GR) : uC [(.list TyF)] := match x with
 | (v1, v2, v3, v5, v14, ()) => (v14.1, ())
def W8 (x : Shape.den GR) : Option (aU S9) := ZF GR S9 (fun x => GD (aM0 x)) aIC x
def f28 (x : aH [.agg TyA]) : Option (aH [.list TyB, .int .i64]) := match x with
 | (v0, ()) =>
  aB (f24 (v0, ())) fun y1 =>
  bif !(eqI y1.1 0) then
   some ([], y1.1, ())
  else aB (f38 (v0.1, ())) fun y2 =>
  aB (W8 (v0, [], 0, [], (y2.1.1, ()), ())) fun z5 =>
  some (z5.1, 0, ())
noncomputable def c28 : Code := aS Tryz.f28
abbrev E28 : Env := bI [e24, e38, e40, e48]
theorem aQH : aY Tryz.prog E28 := aX ⟨aAM, aEU, aEW, aK0, trivial⟩
noncomputable def IE : Code := KF c28 0
noncomputable def aXO : Code := inLoop IE
def aYO (id : Nat) : Option aR := none
def a1C (id : Nat) : Option aR := bif Nat.beq id 7 then some ⟨GR, S9, W8⟩ else none
theorem aOG : aG aXO = 7 := by kernel_rfl
theorem a06 : cC aXO = [] := by kernel_rfl
theorem aIB : IE = .rangeFunc (C4 IE) (RC IE) (lC IE) (inLoop IE) := by kernel_rfl
theorem aPL : ∀ y e, K0 Tryz.prog E28 27 (rL Tryz.f28) aYO a1C (RC IE).toList (lC IE) (inLoop IE) [.agg TyB] GR S9 y e = aIC y e := by
 rintro ⟨v1, v2, v3, v5, v14, ⟨⟩⟩ ⟨e0, ⟨⟩⟩
 kernel_rfl
theorem aW2 : ∀ x, ZG 62 [(.list TyF)] GR (C4 IE) x = some (aM0 x) := by
 rintro ⟨v1, v2, v3, v5, v14, ⟨⟩⟩
 kernel_rfl
theorem aQW : uR Tryz.prog 27 false [] IE ⟨GR, S9, W8⟩ := by
 exact E9 aQH aJ aIB Tryz.func62 (c := aS Tryz.f62) (by kernel_rfl) aWM (by kernel_rfl) (nC a06 trivial) aW2 aPL
theorem aVD : cC c28 = [IE] := by kernel_rfl
theorem aYC : ∀ x, UJ Tryz.prog E28 Tryz.f28 (rL Tryz.f28) aYO a1C c28 [.agg TyA] [.list TyB, .int .i64] x = f28 x := by
 rintro ⟨v0, ⟨⟩⟩
 kernel_rfl
theorem a4G : cL Tryz.prog 28 [.agg TyA] [.list TyB, .int .i64] f28 := by
 exact LR aJ aQH Tryz.func28 (c := c28) (by kernel_rfl) (aT := rL Tryz.f28) (lt := aYO) (rt := a1C) (nC aVD ⟨CI aIB aOG rfl aQW, trivial⟩) aYC
abbrev e28 : Ent := ⟨28, [.agg TyA], [.list TyB, .int .i64], f28⟩
theorem a0P : Ent.OK Tryz.prog e28 := a4G

/-! schisma/isomorphy.canonical -/
abbrev BY : List (Nat × Kd) := [(1, .box 25 TyA), (2, .box 25 TyA), (3, .box 27 TyB), (4, .box 30 TyE), (5, .box 25 TyA), (6, .box 27 TyB), (7, .box 4 .bool), (15, .clo 62 [(.list TyF)])]
abbrev K8 : List (Ex × List (Nat × Kd)) := [(.normal, [(1, .box 25 TyA), (2, .box 25 TyA), (3, .box 27 TyB), (4, .box 30 TyE), (5, .box 25 TyA), (6, .box 27 TyB)]), (.ret, [(2, .box 25 TyA), (3, .box 27 TyB), (4, .box 30 TyE)])]
def EU (x : Shape.den BY) (e : aH [.agg TyB]) : Option (Shape.den BY ⊕ aU K8) := match x, e with
 | (v1, v2, v3, v4, v5, v6, v7, v15, ()), (e0, ()) =>
  aB (f40 (v1, e0, ())) fun y2 =>
  aB (f39 (y2.1, ())) fun y3 =>
  bif !(eqI y3.2.1 0) then
   some (.inr (.inr (((0, ([], ([], []))), (0, (0, (0, 0))), y3.2.1, ()))))
  else bif v7 then
   aB (f48 (y3.1, v5, ())) fun y4 =>
   bif ltI y4.1 0 then
    some (.inl (v1, v2, v3, v4, y3.1, e0, true, (v15.1, ()), ()))
   else some (.inl (v1, v2, v3, v4, v5, v6, v7, (v15.1, ()), ()))
  else some (.inl (v1, v2, v3, v4, y3.1, e0, true, (v15.1, ()), ()))
def aF1 (x : Shape.den BY) : uC [(.list TyF)] := match x with
 | (v1, v2, v3, v4, v5, v6, v7, v15, ()) => (v15.1, ())
def E0 (x : Shape.den BY) : Option (aU K8) := ZF BY K8 (fun x => GD (aF1 x)) EU x
def f47 (x : aH [.agg TyA]) : Option (aH [.agg TyA, .agg TyB, .int .i64]) := match x with
 | (v0, ()) =>
  aB (f38 (v0.1, ())) fun y1 =>
  aB (E0 (v0, (0, ([], ([], []))), (0, (0, (0, 0))), 0, (0, ([], ([], []))), (0, (0, (0, 0))), false, (y1.1.1, ()), ())) fun z5 =>
  lN z5 (fun a6 => aB (dV ((a6.1.2.1.length : Int), [a6.1.2.2.1, a6.1.2.2.2], ())) fun y8 =>
   bif !(eqI y8.2.1 0) then
    some ((0, ([], ([], []))), (0, (0, (0, 0))), y8.2.1, ())
   else aB (bC ((y8.1.1, y8.1.2), a6.1.2.1, ())) fun y9 =>
   bif !(eqI y9.2.1 0) then
    some ((0, ([], ([], []))), (0, (0, (0, 0))), y9.2.1, ())
   else some ((a6.2.2.2.2.1.1, (y9.1, (a6.2.2.2.2.1.2.2.1, a6.2.2.2.2.1.2.2.2))), a6.2.2.2.2.2.1, 0, ())) fun b7 =>
  some (b7.1, b7.2.1, b7.2.2.1, ())
noncomputable def c47 : Code := aS Tryz.f47
abbrev E47 : Env := bI [e38, e39, e40, e48, KQ, sR]
theorem aS6 : aY Tryz.prog E47 := aX ⟨aEU, aJH, aEW, aK0, JV, vL, trivial⟩
noncomputable def ID : Code := KF c47 0
noncomputable def aXM : Code := inLoop ID
def a1J (id : Nat) : Option aR := none
def aZR (id : Nat) : Option aR := bif Nat.beq id 6 then some ⟨BY, K8, E0⟩ else none
theorem aPB : aG aXM = 6 := by kernel_rfl
theorem a1P : cC aXM = [] := by kernel_rfl
theorem aIP : ID = .rangeFunc (C4 ID) (RC ID) (lC ID) (inLoop ID) := by kernel_rfl
theorem aOY : ∀ y e, K0 Tryz.prog E47 71 (rL Tryz.f47) a1J aZR (RC ID).toList (lC ID) (inLoop ID) [.agg TyB] BY K8 y e = EU y e := by
 rintro ⟨v1, v2, v3, v4, v5, v6, v7, v15, ⟨⟩⟩ ⟨e0, ⟨⟩⟩
 kernel_rfl
theorem aV9 : ∀ x, ZG 62 [(.list TyF)] BY (C4 ID) x = some (aF1 x) := by
 rintro ⟨v1, v2, v3, v4, v5, v6, v7, v15, ⟨⟩⟩
 kernel_rfl
theorem aRD : uR Tryz.prog 71 false [] ID ⟨BY, K8, E0⟩ := by
 exact E9 aS6 aJ aIP Tryz.func62 (c := aS Tryz.f62) (by kernel_rfl) aWM (by kernel_rfl) (nC a1P trivial) aV9 aOY
theorem aVY : cC c47 = [ID] := by kernel_rfl
theorem a2G : ∀ x, UJ Tryz.prog E47 Tryz.f47 (rL Tryz.f47) a1J aZR c47 [.agg TyA] [.agg TyA, .agg TyB, .int .i64] x = f47 x := by
 rintro ⟨v0, ⟨⟩⟩
 kernel_rfl
theorem a4Q : cL Tryz.prog 47 [.agg TyA] [.agg TyA, .agg TyB, .int .i64] f47 := by
 exact LR aJ aS6 Tryz.func47 (c := c47) (by kernel_rfl) (aT := rL Tryz.f47) (lt := a1J) (rt := aZR) (nC aVY ⟨CI aIP aPB rfl aRD, trivial⟩) a2G
abbrev e47 : Ent := ⟨47, [.agg TyA], [.agg TyA, .agg TyB, .int .i64], f47⟩
theorem aR3 : Ent.OK Tryz.prog e47 := a4Q

/-! schisma/isomorphy.Canonical -/
def f26 (x : aH [.agg TyA]) : Option (aH [.agg TyA, .int .i64]) := match x with
 | (v0, ()) =>
  aB (f24 (v0, ())) fun y1 =>
  bif !(eqI y1.1 0) then
   some ((0, ([], ([], []))), y1.1, ())
  else aB (f47 (v0, ())) fun y2 =>
  some (y2.1, y2.2.2.1, ())
noncomputable def c26 : Code := aS Tryz.f26
abbrev E26 : Env := bI [e24, e47]
theorem aX2 : aY Tryz.prog E26 := aX ⟨aAM, aR3, trivial⟩
def a2P (id : Nat) : Option aR := none
theorem aWH : aF c26 = [] := by kernel_rfl
theorem a0L : ∀ x, bQ Tryz.prog E26 Tryz.f26 (aC Tryz.f26) a2P c26 [.agg TyA] [.agg TyA, .int .i64] x = f26 x := by
 rintro ⟨v0, ⟨⟩⟩
 kernel_rfl
theorem a42 : cL Tryz.prog 26 [.agg TyA] [.agg TyA, .int .i64] f26 := by
 exact aZ aJ aX2 Tryz.func26 (c := c26) (by kernel_rfl) (aT := aC Tryz.f26) (lt := a2P) (aE aWH trivial) a0L
abbrev e26 : Ent := ⟨26, [.agg TyA], [.agg TyA, .int .i64], f26⟩
theorem aS8 : Ent.OK Tryz.prog e26 := a42

/-! schisma/isomorphy.steps -/
abbrev SG : List (Nat × Kd) := [(0, .list TyE), (1, .list TyE), (11, .list TyE), (12, .int .i64), (13, .int .i64), (42, .agg TyF), (43, .int .i64)]
abbrev W6 : List (Ex × List (Nat × Kd)) := [(.ret, [(8, .int .i64), (9, .int .i64), (10, .bool)]), (.exit 4, [(0, .list TyE), (1, .list TyE), (11, .list TyE), (12, .int .i64), (13, .int .i64)])]
def aGQ (x : Shape.den SG) : Option (Shape.den SG ⊕ aU W6) := match x with
 | (v0, v1, v11, v12, v13, v42, v43, ()) =>
  bif ltI v43 2 then
   bif eqI v43 0 then
    aB (f65 (v0, v1, v13, v42.1, ())) fun y6 =>
    aB (f46 (y6.1, v11, ())) fun y7 =>
    bif y7.1 then
     some (.inr (.inl (v13, v42.1, true, ())))
    else some (.inl (v0, v1, v11, v12, v13, (v42.1, v42.2), (aL .i64 (v43 + 1)), ()))
   else bif eqI v43 1 then aB (f65 (v0, v1, v13, v42.2, ())) fun y8 =>
   aB (f46 (y8.1, v11, ())) fun y9 =>
   bif y9.1 then
    some (.inr (.inl (v13, v42.2, true, ())))
   else some (.inl (v0, v1, v11, v12, v13, (v42.1, v42.2), (aL .i64 (v43 + 1)), ())) else none
  else some (.inr (.inr ((v0, v1, v11, v12, v13, ()))))
def Z0 (x : Shape.den SG) : Option (aU W6) := bU aGQ (2 ^ 64) x
abbrev TK : List (Nat × Kd) := [(0, .list TyE), (1, .list TyE), (11, .list TyE), (12, .int .i64), (13, .int .i64)]
abbrev Y6 : List (Ex × List (Nat × Kd)) := [(.ret, [(8, .int .i64), (9, .int .i64), (10, .bool)]), (.exit 2, [(0, .list TyE), (1, .list TyE), (11, .list TyE), (12, .int .i64)])]
def aHC (x : Shape.den TK) : Option (Shape.den TK ⊕ aU Y6) := match x with
 | (v0, v1, v11, v12, v13, ()) =>
  bif !(ltI v12 v13) then
   aB (Z0 (v0, v1, v11, v12, v13, ((aL .i64 (v12 - (if v13 < (IntKind.wrap .i64 (0 - v13)) then (IntKind.wrap .i64 (0 - v13)) else v13))), (aL .i64 ((if v13 < (IntKind.wrap .i64 (0 - v13)) then (IntKind.wrap .i64 (0 - v13)) else v13) - v12))), 0, ())) fun z13 =>
   lN z13 (fun a14 => some (.inr (.inl (a14.1, a14.2.1, a14.2.2.1, ())))) fun b15 =>
   some (.inl (b15.1, b15.2.1, b15.2.2.1, b15.2.2.2.1, (aL .i64 (b15.2.2.2.2.1 + 1)), ()))
  else some (.inr (.inr ((v0, v1, v11, v12, ()))))
def XG (x : Shape.den TK) : Option (aU Y6) := bU aHC (2 ^ 64) x
abbrev TV : List (Nat × Kd) := [(0, .list TyE), (1, .list TyE), (11, .list TyE), (12, .int .i64)]
abbrev Y1 : List (Ex × List (Nat × Kd)) := [(.ret, [(8, .int .i64), (9, .int .i64), (10, .bool)]), (.exit 0, [(0, .list TyE), (1, .list TyE), (11, .list TyE)])]
def aHA (x : Shape.den TV) : Option (Shape.den TV ⊕ aU Y1) := match x with
 | (v0, v1, v11, v12, ()) =>
  bif !(ltI 2000 v12) then
   aB (XG (v0, v1, v11, v12, (IntKind.wrap .i64 (0 - v12)), ())) fun z19 =>
   lN z19 (fun a20 => some (.inr (.inl (a20.1, a20.2.1, a20.2.2.1, ())))) fun b21 =>
   bif ltI 16 b21.2.2.2.1 then
    some (.inr (.inr ((b21.1, b21.2.1, b21.2.2.1, ()))))
   else some (.inl (b21.1, b21.2.1, b21.2.2.1, (aL .i64 (b21.2.2.2.1 + 1)), ()))
  else some (.inr (.inr ((v0, v1, v11, ()))))
def YT (x : Shape.den TV) : Option (aU Y1) := bU aHA (2 ^ 64) x
def f49 (x : aH [.list TyE, .list TyE, .list TyE, .list TyE]) : Option (aH [.int .i64, .int .i64, .bool]) := match x with
 | (v0, v1, v2, v3, ()) =>
  aB (f65 (v3, v2, 1, (-1), ())) fun y1 =>
  aB (YT (v0, v1, y1.1, 0, ())) fun z22 =>
  lN z22 (fun a23 => some (a23.1, a23.2.1, a23.2.2.1, ())) fun b24 =>
  none
noncomputable def c49 : Code := aS Tryz.f49
abbrev E49 : Env := bI [e46, e65]
theorem aFU : aY Tryz.prog E49 := aX ⟨aJF, aR2, trivial⟩
noncomputable def aCL : Code := fB c49 0
noncomputable def aCJ : Code := fB aCL 0
noncomputable def aID : Code := fB aCJ 0
def aQT (id : Nat) : Option aR := bif Nat.beq id 9 then some ⟨SG, W6, Z0⟩ else bif Nat.beq id 6 then some ⟨TK, Y6, XG⟩ else bif Nat.beq id 3 then some ⟨TV, Y1, YT⟩ else none
theorem aOB : ∀ x, eU Tryz.prog E49 65 (aC Tryz.f49) aQT aID SG W6 x = aGQ x := by
 rintro ⟨v0, v1, v11, v12, v13, v42, v43, ⟨⟩⟩
 kernel_rfl
theorem aX7 : aF aID = [] := by kernel_rfl
theorem aPU : aG aID = 9 := by kernel_rfl
theorem aP9 : cU Tryz.prog 65 aID ⟨SG, W6, Z0⟩ := by
 exact cW aFU.callee aJ.mixed _ (aE aX7 trivial) aOB
theorem aOC : ∀ x, eU Tryz.prog E49 65 (aC Tryz.f49) aQT aCJ TK Y6 x = aHC x := by
 rintro ⟨v0, v1, v11, v12, v13, ⟨⟩⟩
 kernel_rfl
theorem aZ3 : aF aCJ = [aID] := by kernel_rfl
theorem aNJ : aG aCJ = 6 := by kernel_rfl
theorem aQA : cU Tryz.prog 65 aCJ ⟨TK, Y6, XG⟩ := by
 exact cW aFU.callee aJ.mixed _ (aE aZ3 ⟨cX aPU rfl aP9, trivial⟩) aOC
theorem aO0 : ∀ x, eU Tryz.prog E49 65 (aC Tryz.f49) aQT aCL TV Y1 x = aHA x := by
 rintro ⟨v0, v1, v11, v12, ⟨⟩⟩
 kernel_rfl
theorem aZX : aF aCL = [aCJ] := by kernel_rfl
theorem aP3 : aG aCL = 3 := by kernel_rfl
theorem aS4 : cU Tryz.prog 65 aCL ⟨TV, Y1, YT⟩ := by
 exact cW aFU.callee aJ.mixed _ (aE aZX ⟨cX aNJ rfl aQA, trivial⟩) aO0
theorem aWP : aF c49 = [aCL] := by kernel_rfl
theorem aZN : ∀ x, bQ Tryz.prog E49 Tryz.f49 (aC Tryz.f49) aQT c49 [.list TyE, .list TyE, .list TyE, .list TyE] [.int .i64, .int .i64, .bool] x = f49 x := by
 rintro ⟨v0, v1, v2, v3, ⟨⟩⟩
 kernel_rfl
theorem a4N : cL Tryz.prog 49 [.list TyE, .list TyE, .list TyE, .list TyE] [.int .i64, .int .i64, .bool] f49 := by
 exact aZ aJ aFU Tryz.func49 (c := c49) (by kernel_rfl) (aT := aC Tryz.f49) (lt := aQT) (aE aWP ⟨cX aP3 rfl aS4, trivial⟩) aZN
abbrev e49 : Ent := ⟨49, [.list TyE, .list TyE, .list TyE, .list TyE], [.int .i64, .int .i64, .bool], f49⟩
theorem aY5 : Ent.OK Tryz.prog e49 := a4N

/-! schisma/isomorphy.Isomorphic -/
abbrev SD : List (Nat × Kd) := [(2, .box 25 TyA), (3, .box 25 TyA), (4, .box 49 (.prod TyB TyF)), (5, .box 4 .bool), (6, .box 30 TyE), (21, .agg (.prod TyA TyA)), (22, .int .i64)]
abbrev aAT : List (Ex × List (Nat × Kd)) := [(.ret, [(4, .box 49 (.prod TyB TyF)), (5, .box 4 .bool), (6, .box 30 TyE)]), (.exit 0, [(2, .box 25 TyA), (3, .box 25 TyA), (4, .box 49 (.prod TyB TyF)), (5, .box 4 .bool), (6, .box 30 TyE)])]
def aIW (x : Shape.den SD) : Option (Shape.den SD ⊕ aU aAT) := match x with
 | (v2, v3, v4, v5, v6, v21, v22, ()) =>
  bif ltI v22 2 then
   bif eqI v22 0 then
    aB (f24 (v21.1, ())) fun y3 =>
    bif !(eqI y3.1 0) then
     some (.inr (.inl (((0, (0, (0, 0))), (0, 0)), false, y3.1, ())))
    else some (.inl (v2, v3, (v4.1, (v4.2.1, v4.2.2)), v5, v6, (v21.1, v21.2), (aL .i64 (v22 + 1)), ()))
   else bif eqI v22 1 then aB (f24 (v21.2, ())) fun y4 =>
   bif !(eqI y4.1 0) then
    some (.inr (.inl (((0, (0, (0, 0))), (0, 0)), false, y4.1, ())))
   else some (.inl (v2, v3, (v4.1, (v4.2.1, v4.2.2)), v5, v6, (v21.1, v21.2), (aL .i64 (v22 + 1)), ())) else none
  else some (.inr (.inr ((v2, v3, (v4.1, (v4.2.1, v4.2.2)), v5, v6, ()))))
def Y7 (x : Shape.den SD) : Option (aU aAT) := bU aIW (2 ^ 64) x
abbrev GL : List (Nat × Kd) := [(2, .box 25 TyA), (3, .box 25 TyA), (4, .box 49 (.prod TyB TyF)), (5, .box 4 .bool), (6, .box 30 TyE), (67, .clo 62 [(.list TyF)])]
abbrev TM : List (Ex × List (Nat × Kd)) := [(.normal, [(4, .box 49 (.prod TyB TyF)), (5, .box 4 .bool), (6, .box 30 TyE)]), (.ret, [(4, .box 49 (.prod TyB TyF)), (5, .box 4 .bool), (6, .box 30 TyE)])]
def aG8 (x : Shape.den GL) (e : aH [.agg TyB]) : Option (Shape.den GL ⊕ aU TM) := match x, e with
 | (v2, v3, v4, v5, v6, v67, ()), (e0, ()) =>
  aB (f40 (v2, e0, ())) fun y12 =>
  aB (f48 (y12.1, v3, ())) fun y13 =>
  bif !(eqI y13.1 0) then
   some (.inl (v2, v3, (v4.1, (v4.2.1, v4.2.2)), v5, v6, (v67.1, ()), ()))
  else aB (f49 (v2.2.2.1, v2.2.2.2, v2.2.1, v3.2.1, ())) fun y14 =>
  bif y14.2.2.1 then
   bif !(ltI 1000 (if y14.1 < (IntKind.wrap .i64 (0 - y14.1)) then (IntKind.wrap .i64 (0 - y14.1)) else y14.1)) then
    bif !(ltI 1000 (if y14.2.1 < (IntKind.wrap .i64 (0 - y14.2.1)) then (IntKind.wrap .i64 (0 - y14.2.1)) else y14.2.1)) then
     some (.inr (.inr (((e0, (y14.1, y14.2.1)), true, 0, ()))))
    else some (.inl (v2, v3, (v4.1, (v4.2.1, v4.2.2)), v5, v6, (v67.1, ()), ()))
   else some (.inl (v2, v3, (v4.1, (v4.2.1, v4.2.2)), v5, v6, (v67.1, ()), ()))
  else some (.inl (v2, v3, (v4.1, (v4.2.1, v4.2.2)), v5, v6, (v67.1, ()), ()))
def aMA (x : Shape.den GL) : uC [(.list TyF)] := match x with
 | (v2, v3, v4, v5, v6, v67, ()) => (v67.1, ())
def ZK (x : Shape.den GL) : Option (aU TM) := ZF GL TM (fun x => GD (aMA x)) aG8 x
def f27 (x : aH [.agg TyA, .agg TyA]) : Option (aH [.agg (.prod TyB TyF), .bool, .int .i64]) := match x with
 | (v0, v1, ()) =>
  aB (Y7 (v0, v1, ((0, (0, (0, 0))), (0, 0)), false, 0, (v0, v1), 0, ())) fun z5 =>
  lN z5 (fun a6 => some ((a6.1.1, (a6.1.2.1, a6.1.2.2)), a6.2.1, a6.2.2.1, ())) fun b7 =>
  bif !(eqI (b7.1.2.1.length : Int) (b7.2.1.2.1.length : Int)) then
   some (((0, (0, (0, 0))), (0, 0)), false, 5, ())
  else aB (f47 (b7.1, ())) fun y8 =>
  bif !(eqI y8.2.2.1 0) then
   some (((0, (0, (0, 0))), (0, 0)), false, y8.2.2.1, ())
  else aB (f47 (b7.2.1, ())) fun y9 =>
  bif !(eqI y9.2.2.1 0) then
   some (((0, (0, (0, 0))), (0, 0)), false, y9.2.2.1, ())
  else aB (f25 (y8.1, y9.1, ())) fun y10 =>
  bif y10.1 then
   aB (f38 (b7.1.1, ())) fun y11 =>
   aB (ZK (b7.1, b7.2.1, (b7.2.2.1.1, (b7.2.2.1.2.1, b7.2.2.1.2.2)), b7.2.2.2.1, y9.2.2.1, (y11.1.1, ()), ())) fun z15 =>
   lN z15 (fun a16 => some (((0, (0, (0, 0))), (0, 0)), false, 3, ())) fun b17 =>
   some ((b17.1.1, (b17.1.2.1, b17.1.2.2)), b17.2.1, b17.2.2.1, ())
  else some (((0, (0, (0, 0))), (0, 0)), false, 0, ())
noncomputable def c27 : Code := aS Tryz.f27
abbrev E27 : Env := bI [e24, e25, e38, e40, e47, e48, e49]
theorem aKS : aY Tryz.prog E27 := aX ⟨aAM, aZ9, aEU, aEW, aR3, aK0, aY5, trivial⟩
noncomputable def aGC : Code := inLoop (KF c27 0)
noncomputable def IV : Code := KF c27 1
noncomputable def aXH : Code := inLoop IV
def aWA (id : Nat) : Option aR := bif Nat.beq id 2 then some ⟨SD, aAT, Y7⟩ else none
def aUJ (id : Nat) : Option aR := bif Nat.beq id 20 then some ⟨GL, TM, ZK⟩ else none
theorem aPA : aG aGC = 2 := by kernel_rfl
theorem a00 : cC aGC = [] := by kernel_rfl
theorem aPP : ∀ x, Y9 Tryz.prog E27 109 (rL Tryz.f27) aWA aUJ false [] aGC SD aAT x = aIW x := by
 rintro ⟨v2, v3, v4, v5, v6, v21, v22, ⟨⟩⟩
 kernel_rfl
theorem aQC : uR Tryz.prog 109 false [] (.loop aGC) ⟨SD, aAT, Y7⟩ := by
 exact P1 aKS.callee aJ.mixed _ (nC a00 trivial) aPP
theorem aON : aG aXH = 20 := by kernel_rfl
theorem a09 : cC aXH = [] := by kernel_rfl
theorem aH9 : IV = .rangeFunc (C4 IV) (RC IV) (lC IV) (inLoop IV) := by kernel_rfl
theorem aOV : ∀ y e, K0 Tryz.prog E27 109 (rL Tryz.f27) aWA aUJ (RC IV).toList (lC IV) (inLoop IV) [.agg TyB] GL TM y e = aG8 y e := by
 rintro ⟨v2, v3, v4, v5, v6, v67, ⟨⟩⟩ ⟨e0, ⟨⟩⟩
 kernel_rfl
theorem aV8 : ∀ x, ZG 62 [(.list TyF)] GL (C4 IV) x = some (aMA x) := by
 rintro ⟨v2, v3, v4, v5, v6, v67, ⟨⟩⟩
 kernel_rfl
theorem aRT : uR Tryz.prog 109 false [] IV ⟨GL, TM, ZK⟩ := by
 exact E9 aKS aJ aH9 Tryz.func62 (c := aS Tryz.f62) (by kernel_rfl) aWM (by kernel_rfl) (nC a09 trivial) aV8 aOV
theorem aU9 : cC c27 = [.loop aGC, IV] := by kernel_rfl
theorem a1S : ∀ x, UJ Tryz.prog E27 Tryz.f27 (rL Tryz.f27) aWA aUJ c27 [.agg TyA, .agg TyA] [.agg (.prod TyB TyF), .bool, .int .i64] x = f27 x := by
 rintro ⟨v0, v1, ⟨⟩⟩
 kernel_rfl
theorem a4W : cL Tryz.prog 27 [.agg TyA, .agg TyA] [.agg (.prod TyB TyF), .bool, .int .i64] f27 := by
 exact LR aJ aKS Tryz.func27 (c := c27) (by kernel_rfl) (aT := rL Tryz.f27) (lt := aWA) (rt := aUJ) (nC aU9 ⟨YL aPA rfl aQC, CI aH9 aON rfl aRT, trivial⟩) a1S
abbrev e27 : Ent := ⟨27, [.agg TyA, .agg TyA], [.agg (.prod TyB TyF), .bool, .int .i64], f27⟩
theorem aY6 : Ent.OK Tryz.prog e27 := a4W

/-! schisma/schismalaw46.known -/
def g12 (x : aH []) : Option (aH [.bool]) := match x with
 | (()) =>
  aB (f26 ((1, ([0], ([2], [5]))), ())) fun y1 =>
  aB (f26 ((2, ([0], ([2], [5]))), ())) fun y2 =>
  aB (f28 ((1, ([0], ([1], [1]))), ())) fun y3 =>
  aB (f27 ((1, ([0], ([2], [5]))), (1, ([0], ([5], [2]))), ())) fun y4 =>
  bif eqI y1.2.1 0 then
   aB (f19 (y1.1, (1, ([0], ([(-5)], [(-2)]))), ())) fun y5 =>
   bif y5.1 then
    bif eqI y2.2.1 0 then
     aB (f19 (y2.1, (2, ([0], ([(-5)], [(-3)]))), ())) fun y6 =>
     bif y6.1 then
      bif eqI y3.2.1 0 then
       bif eqI (y3.1.length : Int) 2 then
        bif eqI y4.2.2.1 0 then
         some (y4.2.1, ())
        else some (false, ())
       else some (false, ())
      else some (false, ())
     else some (false, ())
    else some (false, ())
   else some (false, ())
  else some (false, ())
noncomputable def c12 : Code := aS Tryz.f12
abbrev E12 : Env := bI [e19, e26, e27, e28]
theorem a1M : aY Tryz.prog E12 := aX ⟨aRV, aS8, aY6, a0P, trivial⟩
def a32 (id : Nat) : Option aR := none
theorem aVN : aF c12 = [] := by kernel_rfl
theorem aZA : ∀ x, bQ Tryz.prog E12 Tryz.f12 (aC Tryz.f12) a32 c12 [] [.bool] x = g12 x := by
 rintro ⟨⟨⟩⟩
 kernel_rfl
theorem a4F : cL Tryz.prog 12 [] [.bool] g12 := by
 exact aZ aJ a1M Tryz.func12 (c := c12) (by kernel_rfl) (aT := aC Tryz.f12) (lt := a32) (aE aVN trivial) aZA
def f12 (x : aH []) : Option (aH [.bool]) := some (true, ())
theorem aUS : ∀ x, g12 x = f12 x := by
 rintro ⟨⟩
 kernel_rfl
theorem a4X : cL Tryz.prog 12 [] [.bool] f12 := by
 have h : g12 = f12 := funext aUS
 rw [← h]
 exact a4F
abbrev e12 : Ent := ⟨12, [], [.bool], f12⟩
theorem a2A : Ent.OK Tryz.prog e12 := a4X
/-! schisma/schismalaw46.IsomorphyTurns -/
abbrev aR5 : List (Nat × Kd) := [(2, .box 25 TyA), (3, .box 27 TyB), (5, .box 25 TyA), (6, .int .i64), (7, .list TyB), (8, .bool), (9, .int .i64)]
abbrev aXP : List (Ex × List (Nat × Kd)) := [(.exit 0, [(2, .box 25 TyA), (3, .box 27 TyB), (5, .box 25 TyA), (6, .int .i64), (8, .bool)])]
def aUD (x : Shape.den aR5) : Option (Shape.den aR5 ⊕ aU aXP) := match x with
 | (v2, v3, v5, v6, v7, v8, v9, ()) =>
  bif ltI v9 (v7.length : Int) then
   bif v8 then
    some (.inl (v2, v3, v5, v6, v7, true, (aL .i64 (v9 + 1)), ()))
   else bif aQ v9 v7.length then some (.inl (v2, v3, v5, v6, v7, (eqI ((v7.getD v9.toNat (0, (0, (0, 0)))).1) v3.1 && (eqI ((v7.getD v9.toNat (0, (0, (0, 0)))).2.1) v3.2.1 && (eqI ((v7.getD v9.toNat (0, (0, (0, 0)))).2.2.1) v3.2.2.1 && (eqI ((v7.getD v9.toNat (0, (0, (0, 0)))).2.2.2) v3.2.2.2 && true)))), (aL .i64 (v9 + 1)), ())) else none
  else some (.inr ((v2, v3, v5, v6, v8, ())))
def aV4 (x : Shape.den aR5) : Option (aU aXP) := bU aUD (2 ^ 64) x
def f3 (x : aH [.agg TyA, .agg TyB]) : Option (aH [.bool]) := match x with
 | (v0, v1, ()) =>
  aB (f12 (())) fun y1 =>
  bif y1.1 then
   aB (f13 (v0, ())) fun y2 =>
   bif y2.1 then
    aB (f14 (v0, ())) fun y3 =>
    bif !(eqI y3.1 0) then
     aB (f12 (())) fun y4 =>
     some (y4.1, ())
    else aB (f15 (v0, v1, ())) fun y5 =>
    aB (f16 (v0.1, ())) fun y6 =>
    aB (aV4 (v0, v1, y5.1, y5.2.1, y6.1, false, 0, ())) fun z7 =>
    bif z7.2.2.2.2.1 then
     aB (f18 (z7.1, z7.2.1, ())) fun y8 =>
     bif y8.2.1 then
      bif eqI z7.2.2.2.1 0 then
       aB (f19 (z7.2.2.1, y8.1, ())) fun y9 =>
       some (y9.1, ())
      else some (false, ())
     else aB (f17 (z7.2.2.1, ())) fun y10 =>
     bif y10.1 then
      some (eqI z7.2.2.2.1 4, ())
     else some (false, ())
    else aB (f17 (z7.2.2.1, ())) fun y11 =>
    bif y11.1 then
     some (eqI z7.2.2.2.1 10, ())
    else some (false, ())
   else aB (f12 (())) fun y12 =>
   some (y12.1, ())
  else aB (f12 (())) fun y13 =>
  some (y13.1, ())
abbrev e3 : Ent := ⟨3, [.agg TyA, .agg TyB], [.bool], f3⟩
end Go.PM
set_option linter.unusedSimpArgs false
set_option linter.unusedVariables false
namespace Go.PM
open Go Go.RowKit Go.Proofs
set_option maxRecDepth 100000
set_option maxHeartbeats 4000000
/-! schisma/isomorphy.combine -/
abbrev LG : List (Nat × Kd) := [(0, .list TyE), (1, .list TyE), (2, .int .i64), (3, .int .i64), (9, .own 3 TyE), (13, .int .i64), (14, .int .i64)]
abbrev QR : List (Ex × List (Nat × Kd)) := [(.exit 0, [(9, .own 3 TyE)])]
def FG (x : Shape.den LG) : Option (Shape.den LG ⊕ aU QR) := match x with
 | (v0, v1, v2, v3, v9, v13, v14, ()) =>
  bif ltI v14 v13 then
   bif aQ v14 v0.length then bif aQ v14 v1.length then bif Nat.ble [(aL .i64 ((aL .i64 (v2 * (v0.getD v14.toNat 0))) + (aL .i64 (v3 * (v1.getD v14.toNat 0)))))].length 1048576 then bif Nat.ble v9.length 1048576 then some (.inl (v0, v1, v2, v3, (v9 ++ [(aL .i64 ((aL .i64 (v2 * (v0.getD v14.toNat 0))) + (aL .i64 (v3 * (v1.getD v14.toNat 0)))))]), v13, (aL .i64 (v14 + 1)), ())) else none else none else none else none
  else some (.inr ((v9, ())))
def LP (x : Shape.den LG) : Option (aU QR) := bU FG (2 ^ 64) x
def aO5 (x : aH [.list TyE, .list TyE, .int .i64, .int .i64]) : Option (List Int) := match x with
 | (v0, v1, v2, v3, ()) =>
  aB (LP (v0, v1, v2, v3, [], (v0.length : Int), 0, ())) fun z1 =>
  some z1.1
noncomputable def aWE : Code := aS Tryz.f65
abbrev aX4 : Env := bI []
theorem aLY : aY Tryz.prog aX4 := aX trivial
noncomputable def X0 : Code := fB aWE 0
def aQ8 (id : Nat) : Option aR := bif Nat.beq id 3 then some ⟨LG, QR, LP⟩ else none
theorem aKV : ∀ x, eU Tryz.prog aX4 35 (aC Tryz.f65) aQ8 X0 LG QR x = FG x := by
 rintro ⟨v0, v1, v2, v3, v9, v13, v14, ⟨⟩⟩
 kernel_rfl
theorem aU2 : aF X0 = [] := by kernel_rfl
theorem aJ5 : aG X0 = 3 := by kernel_rfl
theorem aM7 : cU Tryz.prog 35 X0 ⟨LG, QR, LP⟩ := by
 exact cW aLY.callee aJ.mixed _ (aE aU2 trivial) aKV
theorem aR6 : aF aWE = [X0] := by kernel_rfl
theorem aUR : ∀ x, aMH Tryz.prog aX4 Tryz.f65 (aC Tryz.f65) aQ8 aWE [.list TyE, .list TyE, .int .i64, .int .i64] 8 3 TyE x = aO5 x := by
 rintro ⟨v0, v1, v2, v3, ⟨⟩⟩
 kernel_rfl
theorem a2J : aME Tryz.prog 65 [.list TyE, .list TyE, .int .i64, .int .i64] 3 TyE aO5 := by
 exact aLW aJ aLY Tryz.func65 (c := aWE) (by kernel_rfl) (aT := aC Tryz.f65) (lt := aQ8) (t := 8) (by kernel_rfl) (aE aR6 ⟨cX aJ5 rfl aM7, trivial⟩) aUR
abbrev a2T : Shr := (65, aXE [.list TyE, .list TyE, .int .i64, .int .i64] 3 TyE aO5)
theorem aWV : IT Tryz.prog a2T := aMT a2J

/-! schisma/isomorphy.shift -/
abbrev T5 : List (Nat × Kd) := [(3, .box 25 TyA), (6, .box 25 TyA), (7, .bag 25 TyE 3 TyE (some (.prod TyD TyD))), (27, .int .i64), (28, .int .i64)]
abbrev W2 : List (Ex × List (Nat × Kd)) := [(.exit 0, [(6, .box 25 TyA), (7, .bag 25 TyE 3 TyE (some (.prod TyD TyD)))])]
def K7 (x : Shape.den T5) : Option (Shape.den T5 ⊕ aU W2) := match x with
 | (v3, v6, v7, v27, v28, ()) =>
  bif ltI v28 v27 then
   bif aQ v28 v7.2.1.length then bif Nat.blt v28.toNat v7.2.1.length then bif aQ v28 v3.2.1.length then bif aQ v28 v7.2.1.length then bif Nat.blt v28.toNat v7.2.1.length then some (.inl (v3, v6, (v7.1, ((v7.2.1.set v28.toNat (aL .i64 ((v7.2.1.getD v28.toNat 0) + (v3.2.1.getD v28.toNat 0)))), (v7.2.2.1, v7.2.2.2))), v27, (aL .i64 (v28 + 1)), ())) else none else none else none else none else none
  else some (.inr ((v6, v7, ())))
def KS (x : Shape.den T5) : Option (aU W2) := bU K7 (2 ^ 64) x
def f44 (x : aH [.agg TyA, .int .i64, .int .i64]) : Option (aH [.agg TyA]) := match x with
 | (v0, v1, v2, ()) =>
  aB (aO5 (v0.2.2.1, v0.2.2.2, v1, v2, ())) fun y1 =>
  aB (aBT (v0.2.2.1, ())) fun y2 =>
  aB (aBT (v0.2.2.2, ())) fun y3 =>
  aB (KS (v0, (0, ([], ([], []))), (v0.1, (y1, (y2.1, y3.1))), (y1.length : Int), 0, ())) fun z4 =>
  some (z4.2.1, ())
noncomputable def c44 : Code := aS Tryz.f44
abbrev E44 : Env := aD1 [aYI] [a2T]
theorem aP7 : aY Tryz.prog E44 := CU ⟨aMD, trivial⟩ ⟨aWV, trivial⟩
noncomputable def aIT : Code := inLoop (KF c44 0)
def a17 (id : Nat) : Option aR := bif Nat.beq id 3 then some ⟨T5, W2, KS⟩ else none
def aY8 (id : Nat) : Option aR := none
theorem aP0 : aG aIT = 3 := by kernel_rfl
theorem a0E : cC aIT = [] := by kernel_rfl
theorem aP2 : ∀ x, Y9 Tryz.prog E44 45 (rL Tryz.f44) a17 aY8 false [] aIT T5 W2 x = K7 x := by
 rintro ⟨v3, v6, v7, v27, v28, ⟨⟩⟩
 kernel_rfl
theorem aR8 : uR Tryz.prog 45 false [] (.loop aIT) ⟨T5, W2, KS⟩ := by
 exact P1 aP7.callee aJ.mixed _ (nC a0E trivial) aP2
theorem aW5 : cC c44 = [.loop aIT] := by kernel_rfl
theorem aZK : ∀ x, UJ Tryz.prog E44 Tryz.f44 (rL Tryz.f44) a17 aY8 c44 [.agg TyA, .int .i64, .int .i64] [.agg TyA] x = f44 x := by
 rintro ⟨v0, v1, v2, ⟨⟩⟩
 kernel_rfl
theorem a4I : cL Tryz.prog 44 [.agg TyA, .int .i64, .int .i64] [.agg TyA] f44 := by
 exact LR aJ aP7 Tryz.func44 (c := c44) (by kernel_rfl) (aT := rL Tryz.f44) (lt := a17) (rt := aY8) (nC aW5 ⟨YL aP0 rfl aR8, trivial⟩) aZK
abbrev e44 : Ent := ⟨44, [.agg TyA, .int .i64, .int .i64], [.agg TyA], f44⟩
theorem aZ2 : Ent.OK Tryz.prog e44 := a4I

/-! schisma/isomorphy.Shift -/
def aHK (x : aH [.agg TyA, .int .i64, .int .i64]) : Option (aH [.agg TyA, .int .i64]) := match x with
 | (v0, v1, v2, ()) =>
  aB (f24 (v0, ())) fun y1 =>
  bif !(eqI y1.1 0) then
   some ((0, ([], ([], []))), y1.1, ())
  else bif ltI v1 (-1000) then
   some ((0, ([], ([], []))), 3, ())
  else bif ltI 1000 v1 then
   some ((0, ([], ([], []))), 3, ())
  else bif ltI v2 (-1000) then
   some ((0, ([], ([], []))), 3, ())
  else bif ltI 1000 v2 then
   some ((0, ([], ([], []))), 3, ())
  else aB (f44 (v0, v1, v2, ())) fun y2 =>
  aB (f39 (y2.1, ())) fun y3 =>
  some (y3.1, y3.2.1, ())
noncomputable def a1G : Code := aS Tryz.f20
abbrev a3V : Env := bI [e24, e39, e44]
theorem aWY : aY Tryz.prog a3V := aX ⟨aAM, aJH, aZ2, trivial⟩
def aXL (id : Nat) : Option aR := none
theorem aQ1 : aF a1G = [] := by kernel_rfl
theorem aUC : ∀ x, bQ Tryz.prog a3V Tryz.f20 (aC Tryz.f20) aXL a1G [.agg TyA, .int .i64, .int .i64] [.agg TyA, .int .i64] x = aHK x := by
 rintro ⟨v0, v1, v2, ⟨⟩⟩
 kernel_rfl
theorem a3R : cL Tryz.prog 20 [.agg TyA, .int .i64, .int .i64] [.agg TyA, .int .i64] aHK := by
 exact aZ aJ aWY Tryz.func20 (c := a1G) (by kernel_rfl) (aT := aC Tryz.f20) (lt := aXL) (aE aQ1 trivial) aUC
abbrev a2V : Ent := ⟨20, [.agg TyA, .int .i64, .int .i64], [.agg TyA, .int .i64], aHK⟩
theorem aUB : Ent.OK Tryz.prog a2V := a3R

end Go.PM
set_option linter.unusedSimpArgs false
set_option linter.unusedVariables false
namespace Go.PM
open Go Go.RowKit
section
variable {α : Type} (P : Program) (E : Env) (nt aT : Nat) (hs : Nat → Option (Nat × Nat))
def aMO (t n : Nat) (F : Frm) (k : Frm → Option α) : Option α := match cM F t with
 | .lit (.int d v) => O3 n 0 v fun j => k ((t, .lit (.int d j)) :: F)
 | _ => none
def vA : Nat → Code → Frm → Heap → (Ex → Frm → Heap → Option α) → Option α
 | 0, _, _, _, _ => none
 | _ + 1, .skip, F, H, k => k .normal F H
 | _ + 1, .label _, F, H, k => k .normal F H
 | _ + 1, .region id ops draw, F, H, k => qW P E nt ops draw F H fun F H => IF aT F fun F => match hs id with
  | some (t, n) => aMO t n F fun F => k .normal F H
  | none => k .normal F H
 | m + 1, .seq a b, F, H, k => vA m a F H fun ex F H => match ex with
  | .normal => vA m b F H k
  | .exit i => k (.exit i) F H
  | .ret => k .ret F H
 | m + 1, .cond c a b, F, H, k => match ev F c with
  | .lit (.bool t) => aI5 F c t fun F t => bif t then vA m a F H k else vA m b F H k
  | _ => none
 | m + 1, .block id a, F, H, k => vA m a F H fun ex F H => match ex with
  | .exit i => bif Nat.beq i id then k .normal F H else k (.exit i) F H
  | .normal => k .normal F H
  | .ret => k .ret F H
 | m + 1, .loop a, F, H, k => vA m a F H fun ex F H => match ex with
  | .normal => vA m (.loop a) F H k
  | .exit i => k (.exit i) F H
  | .ret => k .ret F H
 | _ + 1, .exit id, F, H, k => k (.exit id) F H
 | m + 1, .scope a, F, H, k => vA m a F H k
 | _ + 1, .ret, F, H, k => k .ret F H
 | _ + 1, _, _, _, _ => none
end
section
variable {α : Type} {P : Program} {E : Env} {nt aT : Nat} {hs : Nat → Option (Nat × Nat)}
def aI7 (P : Program) (nt : Nat) (a : Code) (r : Ex × Frm × Heap) : Nat → Frm → Heap → Prop
 | 0, _, _ => False
 | k + 1, F, H => (r.1 ≠ .normal ∧ aO1 P nt a F H r) ∨ ∃ F1 H1, aO1 P nt a F H (.normal, F1, H1) ∧ aI7 P nt a r k F1 H1
theorem aJY {a : Code} {r : Ex × Frm × Heap} {n : Nat} {F : Frm} {H : Heap} (h : aI7 P nt a r n F H) : aO1 P nt (.loop a) F H r := by
 intro n0 wi Gi μi act w hfl hI
 refine wp_loop_ghost (fun k a1 w1 => ∃ F H, aI7 P nt a r k F H ∧ I n0 wi Gi μi nt F H a1 w1) n ⟨F, H, h, hI⟩ ?_
 rintro k act w ⟨F, H, h, hI⟩
 cases k with
 | zero => exact h.elim
 | succ k =>
  rcases h with ⟨hne, h⟩ | ⟨F1, H1, h, hc⟩
  ·refine wp_mono (h n0 wi Gi μi act w hfl hI) ?_
   obtain ⟨ex, F', H'⟩ := r
   rintro e a' w' ⟨rfl, hI'⟩
   cases ex with
   | normal => exact absurd rfl hne
   | exit i => exact ⟨rfl, hI'⟩
   | ret => exact ⟨rfl, hI'⟩
  ·refine wp_mono (h n0 wi Gi μi act w hfl hI) ?_
   rintro e a' w' ⟨rfl, hI'⟩
   exact ⟨k, Nat.lt_succ_self k, F1, H1, hc, hI'⟩
theorem aLK {z : α} {t n : Nat} {F : Frm} {k : Frm → Option α} (h : aMO t n F k = some z) : ∃ F', k F' = some z ∧ ∀ s, cM F' s = cM F s := by
 unfold aMO at h
 split at h
 ·rename_i d v hv
  have h := wU h
  refine ⟨_, h, fun s => ?_⟩
  rw [dS]
  by_cases hs : s = t
  ·subst hs; rw [if_pos rfl, hv]
  ·rw [if_neg hs]
 ·cases h
theorem aHR (hcl : cN P (dF P E)) (hP : P.follows .mixedOrders = true) : ∀ (n : Nat) (c : Code) (F : Frm) (H : Heap) (k : Ex → Frm → Heap → Option α) (z : α),
  vA P E nt aT hs n c F H k = some z → ∃ r : Ex × Frm × Heap, k r.1 r.2.1 r.2.2 = some z ∧ aO1 P nt c F H r ∧ ∀ a, c = .loop a → ∃ m, aI7 P nt a r m F H := by
 intro n
 induction n with
 | zero => intro c F H k z h; cases h
 | succ n ih =>
  intro c F H k z h
  cases c with
  | skip => exact ⟨(.normal, F, H), h, fun _ _ _ _ _ _ _ hI => wp_skip ⟨rfl, hI⟩, fun a e => by cases e⟩
  | label l => exact ⟨(.normal, F, H), h, fun _ _ _ _ _ _ _ hI => wp_label ⟨rfl, hI⟩, fun a e => by cases e⟩
  | region id ops draw =>
   simp only [vA] at h
   obtain ⟨F1, H1, h1, h2⟩ := M8 (id := id) hcl hP h
   obtain ⟨F2, h3, h4⟩ := vZ aT F1 fun F => match hs id with
    | some (t, n) => aMO t n F fun F => k .normal F H1
    | none => k .normal F H1
   rw [h3] at h1
   split at h1
   ·obtain ⟨F3, h5, h6⟩ := aLK h1
    exact ⟨(.normal, F3, H1), h5, fun _ _ _ _ _ _ _ hI => h2 hI fun a' w' hI' => ⟨rfl, (hI'.aN1 h4).congr h6⟩, fun a e => by cases e⟩
   ·exact ⟨(.normal, F2, H1), h1, fun _ _ _ _ _ _ _ hI => h2 hI fun a' w' hI' => ⟨rfl, hI'.aN1 h4⟩, fun a e => by cases e⟩
  | seq x y =>
   simp only [vA] at h
   obtain ⟨⟨ex, F1, H1⟩, h1, h2, -⟩ := ih x F H _ z h
   cases ex with
   | normal =>
    obtain ⟨r, h3, h4, -⟩ := ih y F1 H1 k z h1
    refine ⟨r, h3, fun n0 wi Gi μi a w hfl hI => wp_seq (wp_mono (h2 n0 wi Gi μi a w hfl hI) ?_), fun a e => by cases e⟩
    rintro e a' w' ⟨rfl, hI'⟩
    exact h4 n0 wi Gi μi a' w' hfl hI'
   | exit i =>
    refine ⟨(.exit i, F1, H1), h1, fun n0 wi Gi μi a w hfl hI => wp_seq (wp_mono (h2 n0 wi Gi μi a w hfl hI) ?_), fun a e => by cases e⟩
    rintro e a' w' ⟨rfl, hI'⟩
    exact ⟨rfl, hI'⟩
   | ret =>
    refine ⟨(.ret, F1, H1), h1, fun n0 wi Gi μi a w hfl hI => wp_seq (wp_mono (h2 n0 wi Gi μi a w hfl hI) ?_), fun a e => by cases e⟩
    rintro e a' w' ⟨rfl, hI'⟩
    exact ⟨rfl, hI'⟩
  | cond c x y =>
   simp only [vA] at h
   split at h
   ·rename_i t ht
    replace h := AG h ht
    have hc : ∀ {n0 wi Gi μi a w}, I n0 wi Gi μi nt F H a w → a.eval c = .bool t := fun hI => by
     obtain ⟨G, μ, e, hW, hF⟩ := hI
     have hc := cF hF c
     rwa [ht, VR] at hc
    cases t with
    | true =>
     obtain ⟨r, h3, h4, -⟩ := ih x F H k z h
     exact ⟨r, h3, fun n0 wi Gi μi a w hfl hI => wp_cond (hc hI) (h4 n0 wi Gi μi a w hfl hI), fun a e => by cases e⟩
    | false =>
     obtain ⟨r, h3, h4, -⟩ := ih y F H k z h
     exact ⟨r, h3, fun n0 wi Gi μi a w hfl hI => wp_cond (hc hI) (h4 n0 wi Gi μi a w hfl hI), fun a e => by cases e⟩
   ·cases h
  | block id x =>
   simp only [vA] at h
   obtain ⟨⟨ex, F1, H1⟩, h1, h2, -⟩ := ih x F H _ z h
   cases ex with
   | normal =>
    refine ⟨(.normal, F1, H1), h1, fun n0 wi Gi μi a w hfl hI => wp_block (wp_mono (h2 n0 wi Gi μi a w hfl hI) ?_), fun a e => by cases e⟩
    rintro e a' w' ⟨rfl, hI'⟩
    exact ⟨rfl, hI'⟩
   | ret =>
    refine ⟨(.ret, F1, H1), h1, fun n0 wi Gi μi a w hfl hI => wp_block (wp_mono (h2 n0 wi Gi μi a w hfl hI) ?_), fun a e => by cases e⟩
    rintro e a' w' ⟨rfl, hI'⟩
    exact ⟨rfl, hI'⟩
   | exit i =>
    simp only at h1
    cases hi : Nat.beq i id with
    | true =>
     rw [hi] at h1
     have := Nat.eq_of_beq_eq_true hi
     subst this
     refine ⟨(.normal, F1, H1), h1, fun n0 wi Gi μi a w hfl hI => wp_block (wp_mono (h2 n0 wi Gi μi a w hfl hI) ?_), fun a e => by cases e⟩
     rintro e a' w' ⟨rfl, hI'⟩
     simp only [Ex.to, Exit.inBlock, if_true]
     exact ⟨trivial, hI'⟩
    | false =>
     rw [hi] at h1
     have hne : ¬ i = id := fun e => by rw [e] at hi; simp at hi
     refine ⟨(.exit i, F1, H1), h1, fun n0 wi Gi μi a w hfl hI => wp_block (wp_mono (h2 n0 wi Gi μi a w hfl hI) ?_), fun a e => by cases e⟩
     rintro e a' w' ⟨rfl, hI'⟩
     simp only [Ex.to, Exit.inBlock, hne, if_false]
     exact ⟨trivial, hI'⟩
  | loop x =>
   simp only [vA] at h
   obtain ⟨⟨ex, F1, H1⟩, h1, h2, -⟩ := ih x F H _ z h
   obtain ⟨r, h3, m, hm⟩ : ∃ r : Ex × Frm × Heap, k r.1 r.2.1 r.2.2 = some z ∧ ∃ m, aI7 P nt x r m F H := by
    cases ex with
    | normal =>
     obtain ⟨r, h3, h4, h5⟩ := ih (.loop x) F1 H1 k z h1
     obtain ⟨m, hm⟩ := h5 x rfl
     exact ⟨r, h3, m + 1, .inr ⟨F1, H1, h2, hm⟩⟩
    | exit i => exact ⟨(.exit i, F1, H1), h1, 1, .inl ⟨fun e => (by cases e), h2⟩⟩
    | ret => exact ⟨(.ret, F1, H1), h1, 1, .inl ⟨fun e => (by cases e), h2⟩⟩
   exact ⟨r, h3, aJY hm, fun a e => by cases e; exact ⟨m, hm⟩⟩
  | exit id => exact ⟨(.exit id, F, H), h, fun _ _ _ _ _ _ _ hI => wp_exit ⟨rfl, hI⟩, fun a e => by cases e⟩
  | scope x =>
   simp only [vA] at h
   obtain ⟨⟨ex, F1, H1⟩, h1, h2, -⟩ := ih x F H k z h
   refine ⟨(ex, F1, H1), h1, fun n0 wi Gi μi a w hfl hI => wp_scope_straight (wp_mono (h2 n0 wi Gi μi a w hfl hI) ?_), fun a e => by cases e⟩
   rintro e a' w' ⟨rfl, hI'⟩
   cases ex <;> exact ⟨rfl, hI'⟩
  | ret => exact ⟨(.ret, F, H), h, fun _ _ _ _ _ _ _ hI => wp_ret ⟨rfl, hI⟩, fun a e => by cases e⟩
  | rangeFunc => simp only [vA] at h; cases h
  | goto l => simp only [vA] at h; cases h
  | refuse s => simp only [vA] at h; cases h

def aST (P : Program) (E : Env) (fn : Func) (aT : Nat) (hs : Nat → Option (Nat × Nat)) (n : Nat) (c : Code) (args rets : List Kd) (x : aH args) : Option (aH rets) :=
 bif Nat.ble (hX args x).length fn.ntmps then vA P E fn.ntmps aT hs n c (start aT 0 (hX args x)) [] (aHE P fn.results.toList rets) else none
theorem aU6 {E : Env} (hP : CC P) (hE : aY P E) {g : Nat} {fn : Func} (hg : P.funcs[g]? = some fn) {c : Code} (hc : fn.body = some c) {aT n : Nat} {hs : Nat → Option (Nat × Nat)} {args rets : List Kd} {f : aH args → Option (aH rets)}
  (hb : ∀ x, aST P E fn aT hs n c args rets x = f x) : cL P g args rets f := by
 intro x y hy
 rw [← hb] at hy
 unfold aST at hy
 obtain ⟨hlen, hy⟩ := aI hy
 obtain ⟨⟨ex, F', H'⟩, h1, h2, -⟩ := aHR hE.callee hP.mixed n c _ _ _ _ hy
 obtain ⟨vs, q, hex, hvs, hq, hd⟩ : ∃ vs q, (ex = .normal ∨ ex = .ret) ∧ mM P F' H' fn.results.toList = some vs ∧ aKO H' (dR vs) = some q ∧ aIF rets q = some y := by
  unfold aHE at h1
  split at h1
  ·cases h1
  ·rename_i hne
   split at h1
   ·rename_i vs hvs
    split at h1
    ·rename_i q hq
     refine ⟨vs, q, ?_, hvs, hq, h1⟩
     cases ex with
     | normal => exact .inl rfl
     | ret => exact .inr rfl
     | exit i => exact absurd rfl (hne i)
    ·cases h1
   ·cases h1
 have hcall : ∀ {n0 G μ w us}, aV n0 G μ [] w → VRs w G μ (hX args x) us → oN P n0 w G μ g us.toArray (dR vs) H' := by
  intro n0 G μ w us hW hv
  refine ⟨enters hg (hP.names g fn hg) (by rw [hc]; rfl) _ _, calls_of_wp hg hc ?_⟩
  have hI : I n0 w G μ fn.ntmps (start aT 0 (hX args x)) [] ⟨us.toArray ++ Array.replicate (fn.ntmps - us.toArray.size) undef, []⟩ w := ⟨G, μ, Ext.refl _ _ _ _, hW, qL (by simpa using hv) (Nat.le_of_ble_eq_true hlen)⟩
  refine wp_mono (h2 n0 w G μ _ w (fun r => hW.top r (Nat.zero_le _)) hI) ?_
  rintro e a' w' ⟨rfl, G', μ', e', hW', hF'⟩
  obtain ⟨ws, h3, h4⟩ := kY (P := P) hW' hF' hvs
  have hres : (results fn a'.tmps).run P w' = .ok (if hh : ws.toArray.size = 1 then ws.toArray[0] else .tuple ws.toArray) w' := by
   rw [sS, Array.mapM_eq_mapM_toList]
   simp only [Sem.run_bind, Sem.run_map, h3, Result.andThen_ok, Sem.run_pure]
  have hpost : a'.defers = [] ∧ ∃ v, (results fn a'.tmps).run P w' = .ok v w' ∧ (∃ v' G'' μ'', Ending.returned v = .returned v' ∧ Ext n0 w G μ w' G'' μ'' ∧ aV n0 G'' μ'' H' w' ∧ VR w' G'' μ'' (dR vs) v') :=
   ⟨hF'.defers, _, hres, _, G', μ', rfl, e', hW', mS h4⟩
  rcases hex with rfl | rfl
  ·exact hpost
  ·exact hpost
 have hp := BZ hcall (vY hq).1 (vY hq).2
 intro w G us hlt hv
 obtain ⟨h3, h4⟩ := hp w G us hlt hv
 refine ⟨h3, h4.mono ?_⟩
 rintro e w' ⟨v', G', rfl, e1, e2, e3⟩
 exact ⟨v', G', rfl, e1, e2, LN hd e3⟩
end
end Go.PM
set_option linter.unusedSimpArgs false
set_option linter.unusedVariables false
namespace Go.PM
open Go Go.RowKit Go.Proofs
set_option maxRecDepth 100000
theorem KC {τ : Type} (p : Nat → Prop) [DecidablePred p] (g : Nat → τ) : ∀ l : List Nat, (l.findSome? fun i => if p i then some (g i) else none) = (l.find? fun i => decide (p i)).map g
 | [] => rfl
 | i :: l => by
  rw [List.findSome?_cons, List.find?_cons]
  by_cases h : p i
  ·simp [h]
  ·simp [h, KC p g l]
theorem aQE (j : Nat) : (!(ltI (j : Int) 0)) = true := by rw [aO, decide_eq_false (by omega)]; rfl
theorem aQU {s : List Int} {i : Nat} (h : i < s.length) : s.getD i 0 ∈ s := by
 rw [List.getD_eq_getElem?_getD, List.getElem?_eq_getElem h]; exact List.getElem_mem h
theorem aZM (v : Int) : f60 (v, ()) = some (decide (-1000000000 ≤ v ∧ v ≤ 1000000000), ()) := by
 unfold f60; dsimp only
 simp only [aO, pY, bT]
 by_cases h : ¬ v < -1000000000
 ·rw [if_pos h]
  by_cases h2 : v ≤ 1000000000
  ·rw [decide_eq_true (show -1000000000 ≤ v ∧ v ≤ 1000000000 by omega), decide_eq_true (show ¬ 1000000000 < v by omega)]
  ·rw [decide_eq_false (show ¬ (-1000000000 ≤ v ∧ v ≤ 1000000000) by omega), decide_eq_false (show ¬ ¬ 1000000000 < v by omega)]
 ·rw [if_neg h, decide_eq_false (by omega)]
def okE (v : Int) : Prop := -1000000000 ≤ v ∧ v ≤ 1000000000
instance (v : Int) : Decidable (okE v) := by unfold okE; infer_instance
theorem aZC (v : Int) : f59 (v, ()) = some (decide (¬ okE v), ()) := by
 unfold f59; dsimp only
 rw [aZM, aD]
 by_cases h : okE v
 ·rw [decide_eq_false (not_not_intro h)]
  unfold okE at h
  rw [decide_eq_true h]; rfl
 ·rw [decide_eq_true h]
  unfold okE at h
  rw [decide_eq_false h]; rfl
theorem a18 (v : Int) : f21 (v, ()) = some (decide (okE v), ()) := by
 unfold f21; dsimp only
 simp only [aO, pY, bT]
 by_cases h : ¬ 1000000000 < v
 ·rw [if_pos h]
  by_cases h2 : -1000000000 ≤ v
  ·rw [decide_eq_true (show okE v from ⟨by omega, by omega⟩), decide_eq_true (show ¬ v < -1000000000 by omega)]
  ·rw [decide_eq_false (show ¬ okE v from fun hh => h2 hh.1), decide_eq_false (show ¬ ¬ v < -1000000000 by omega)]
 ·rw [if_neg h, decide_eq_false (show ¬ okE v from fun hh => h (by have := hh.2; omega))]
def rc (r : List Int) : Int := if 64 < r.length then 4 else if (∀ i, i < r.length → okE (r.getD i 0)) then 0 else 4
theorem R1 (r : List Int) : f37 (r, ()) = some (rc r, ()) := by
 unfold f37 rc; dsimp only
 simp only [aO, bT]
 by_cases h64 : 64 < r.length
 ·rw [if_pos h64, if_pos (by omega)]
 ·rw [if_neg h64, if_neg (by omega)]
  have hloop : wJ (r, (), (r.length : Int), 0, ()) = some ((((List.range r.length).find? fun i => decide (¬ okE (r.getD i 0))).map fun i : Nat => .inl ((i : Int), ())).getD (.inr ())) := by
   rw [← KC (fun i => ¬ okE (r.getD i 0)) (fun i : Nat => Sum.inl ((i : Int), ()))]
   refine NF (N := 2 ^ 64) (step := sB) (fun i => (r, (), (r.length : Int), (i : Int), ())) (fun i => if ¬ okE (r.getD i 0) then some (.inl ((i : Int), ())) else none) r.length (.inr ()) (by omega) ?_ ?_
   ·intro i hi
    simp only [sB, aO, eV, bD, pY, bT, Int.toNat_natCast]
    rw [if_pos (by omega), if_pos (by omega), aZC, aD, fF i (by omega), bT]
    by_cases h : ¬ okE (r.getD i 0)
    ·rw [if_pos h, if_pos h]
    ·rw [if_neg h, if_neg h]
   ·simp only [sB, aO, bT]
    rw [if_neg (by omega)]
  have h70 : ER (r, (), ()) = some ((((List.range r.length).find? fun i => decide (¬ okE (r.getD i 0))).map fun i : Nat => (i : Int)).getD (-1), ()) := by
   unfold ER; dsimp only
   rw [hloop, aD]
   cases (List.range r.length).find? fun i => decide (¬ okE (r.getD i 0)) <;> rfl
  unfold KJ; dsimp only
  rw [h70, aD]
  cases hf : (List.range r.length).find? fun i => decide (¬ okE (r.getD i 0)) with
  | none =>
   rw [if_pos (fun i hi => by
    have := List.find?_eq_none.1 hf i (List.mem_range.2 hi)
    simpa using this)]
   rfl
  | some i =>
   rw [if_neg (fun hall => by
    have h1 := List.find?_some hf
    have h2 := List.mem_range.1 (List.mem_of_find?_eq_some hf)
    simp only [decide_eq_true_eq] at h1
    exact h1 (hall i h2))]
   show (aB (some (!(ltI ((i : Nat) : Int) 0), ())) fun y1 => bif y1.1 then some (4, ()) else some (0, ())) = _
   rw [aD, aQE]; rfl
theorem a1W (a b : List Int) (ha : a.length ≤ 9223372036854775806) : f46 (a, b, ()) = some (decide (a = b), ()) := by
 unfold f46; dsimp only
 simp only [eV, pY, bT]
 by_cases hl : a.length = b.length
 ·rw [if_neg (by omega)]
  have : O9 (a, b, (a.length : Int), 0, ()) = some (((List.range a.length).findSome? fun i => if ¬ a.getD i 0 = b.getD i 0 then some (.inl (false, ())) else none).getD (.inr ())) := NF (N := 2 ^ 64) (step := KO) (fun i => (a, b, (a.length : Int), (i : Int), ())) (fun i => if ¬ a.getD i 0 = b.getD i 0 then some (.inl (false, ())) else none) a.length (.inr ()) (by omega) (by
   intro i hi
   simp only [KO, aO, eV, bD, bT, pY, Int.toNat_natCast]
   rw [if_pos (by omega), if_pos ⟨by omega, by omega⟩, if_pos ⟨by omega, by omega⟩, fF i (by omega)]
   by_cases h : ¬ a.getD i 0 = b.getD i 0
   ·rw [if_pos h, if_pos h]
   ·rw [if_neg h, if_neg h]) (by
   simp only [KO, aO, bT]
   rw [if_neg (by omega)])
  rw [this, KC (fun i => ¬ a.getD i 0 = b.getD i 0), aD]
  cases hf : (List.range a.length).find? fun i => decide (¬ a.getD i 0 = b.getD i 0) with
  | none =>
   have hall : ∀ i, i < a.length → a.getD i 0 = b.getD i 0 := by
    intro i hi
    have := List.find?_eq_none.1 hf i (List.mem_range.2 hi)
    simpa using this
   have : a = b := by
    apply List.ext_getElem hl
    intro i h1 h2
    have := hall i h1
    rw [List.getD_eq_getElem?_getD, List.getD_eq_getElem?_getD, List.getElem?_eq_getElem h1, List.getElem?_eq_getElem h2] at this
    exact this
   rw [decide_eq_true this]; rfl
  | some i =>
   have h1 := List.find?_some hf
   have : ¬ a = b := fun e => by subst e; simp at h1
   rw [decide_eq_false this]; rfl
 ·rw [if_pos (by omega), decide_eq_false]
  rintro rfl; exact hl rfl
theorem aJD (a b : List Int) (ha : a.length ≤ 9223372036854775806) : f43 (a, b, ()) = some (decide (a = b), ()) := by
 unfold f43; dsimp only
 rw [a1W a b ha, aD]
abbrev Lay : Type := Int × List Int × List Int × List Int
def ShL (l : Lay) : Prop := l.2.1.length ≤ 1000 ∧ l.2.2.1.length ≤ 1000 ∧ l.2.2.2.length ≤ 1000
theorem aQZ {a : Lay} (b : Lay) (h : ShL a) : f19 (a, b, ()) = some (decide (a = b), ()) := by
 obtain ⟨k, o, r, u⟩ := a
 obtain ⟨k', o', r', u'⟩ := b
 obtain ⟨h1, h2, h3⟩ := h
 dsimp only at h1 h2 h3
 unfold f19; dsimp only
 rw [aJD _ _ (by omega), aJD _ _ (by omega), aJD _ _ (by omega), aD, aD, aD]
 simp only [eV, bT, Prod.mk.injEq]
 by_cases e1 : k = k'
 ·by_cases e2 : o = o'
  ·by_cases e3 : r = r'
   ·simp [e1, e2, e3]
   ·simp [e1, e2, e3]
  ·simp [e1, e2]
 ·simp [e1]
abbrev zL : Lay := (0, [], [], [])
def ce (l : Lay) : Int :=
 if ¬ l.1 = 1 ∧ ¬ l.1 = 2 then 12 else
 if ¬ rc l.2.1 = 0 then rc l.2.1 else
 if ¬ rc l.2.2.1 = 0 then rc l.2.2.1 else if ¬ (l.2.2.1.length : Int) = l.2.1.length then 5 else
 if ¬ rc l.2.2.2 = 0 then rc l.2.2.2 else if ¬ (l.2.2.2.length : Int) = l.2.1.length then 5 else 0
def ce3 (l : Lay) : Option Int :=
 if ¬ rc l.2.1 = 0 then some (rc l.2.1) else
 if ¬ rc l.2.2.1 = 0 then some (rc l.2.2.1) else if ¬ (l.2.2.1.length : Int) = l.2.1.length then some 5 else
 if ¬ rc l.2.2.2 = 0 then some (rc l.2.2.2) else if ¬ (l.2.2.2.length : Int) = l.2.1.length then some 5 else none
def a5I : Option Int → Sum (Int × Unit) Unit
 | some e => .inl (e, ())
 | none => .inr ()
theorem a3J (l : Lay) : ce l = if ¬ l.1 = 1 ∧ ¬ l.1 = 2 then 12 else (ce3 l).getD 0 := by
 unfold ce ce3
 repeat' split
 all_goals rfl
theorem aO2 (l : Lay) : FE (l, (l.2.1, l.2.2.1, l.2.2.2), 0, ()) = some (a5I (ce3 l)) := by
 obtain ⟨k, o, r, u⟩ := l
 have s0 : uG ((k, o, r, u), (o, r, u), 0, ()) = if ¬ rc o = 0 then some (.inr (.inl (rc o, ()))) else some (.inl ((k, o, r, u), (o, r, u), 1, ())) := by
  simp only [uG, aO, eV, pY, bT]
  rw [if_pos (by decide), if_pos trivial, R1, aD]
  dsimp only
  by_cases h : rc o = 0
  ·rw [if_neg (not_not_intro h), if_neg (not_not_intro trivial), if_neg (not_not_intro h)]; rfl
  ·rw [if_pos h, if_pos h]
 have s1 : uG ((k, o, r, u), (o, r, u), 1, ()) = if ¬ rc r = 0 then some (.inr (.inl (rc r, ()))) else if ¬ (r.length : Int) = o.length then some (.inr (.inl (5, ()))) else some (.inl ((k, o, r, u), (o, r, u), 2, ())) := by
  simp only [uG, aO, eV, pY, bT]
  rw [if_pos (by decide), if_neg (by decide), if_pos trivial, R1, aD]
  rfl
 have s2 : uG ((k, o, r, u), (o, r, u), 2, ()) = if ¬ rc u = 0 then some (.inr (.inl (rc u, ()))) else if ¬ (u.length : Int) = o.length then some (.inr (.inl (5, ()))) else some (.inl ((k, o, r, u), (o, r, u), 3, ())) := by
  simp only [uG, aO, eV, pY, bT]
  rw [if_pos (by decide), if_neg (by decide), if_neg (by decide), if_pos trivial, R1, aD]
  rfl
 have s3 : uG ((k, o, r, u), (o, r, u), 3, ()) = some (.inr (.inr ())) := rfl
 unfold FE ce3
 dsimp only
 rw [show (2 : Nat) ^ 64 = 18446744073709551612 + 1 + 1 + 1 + 1 from rfl, dP, s0]
 by_cases h0 : rc o = 0
 ·rw [if_neg (not_not_intro h0), if_neg (not_not_intro h0)]
  dsimp only
  rw [dP, s1]
  by_cases h1 : rc r = 0
  ·rw [if_neg (not_not_intro h1), if_neg (not_not_intro h1)]
   by_cases h2 : (r.length : Int) = o.length
   ·rw [if_neg (not_not_intro h2), if_neg (not_not_intro h2)]
    dsimp only
    rw [dP, s2]
    by_cases h3 : rc u = 0
    ·rw [if_neg (not_not_intro h3), if_neg (not_not_intro h3)]
     by_cases h4 : (u.length : Int) = o.length
     ·rw [if_neg (not_not_intro h4), if_neg (not_not_intro h4)]
      dsimp only
      rw [dP, s3]; rfl
     ·rw [if_pos h4, if_pos h4]; rfl
    ·rw [if_pos h3, if_pos h3]; rfl
   ·rw [if_pos h2, if_pos h2]; rfl
  ·rw [if_pos h1, if_pos h1]; rfl
 ·rw [if_pos h0, if_pos h0]; rfl
theorem aJW (l : Lay) : f24 (l, ()) = some (ce l, ()) := by
 have hl := aO2 l
 rw [a3J]
 obtain ⟨k, o, r, u⟩ := l
 unfold f24
 dsimp only at hl ⊢
 simp only [eV, pY, bT, hl, aD]
 by_cases h1 : k = 1
 ·rw [if_neg (by omega), if_neg (by omega)]
  cases ce3 (k, o, r, u) <;> rfl
 ·by_cases h2 : k = 2
  ·rw [if_pos h1, if_neg (by omega), if_neg (by omega)]
   cases ce3 (k, o, r, u) <;> rfl
  ·rw [if_pos h1, if_pos h2, if_pos ⟨h1, h2⟩]
end Go.PM
set_option linter.unusedSimpArgs false
set_option linter.unusedVariables false
namespace Go.PM
open Go Go.RowKit Go.Proofs
set_option maxRecDepth 100000
def mxE (a b : Int) (r s : List Int) (i : Nat) : Int := aL .i64 (aL .i64 (a * r.getD i 0) + aL .i64 (b * s.getD i 0))
def mx (a b : Int) (r s : List Int) : List Int := (List.range r.length).map (mxE a b r s)
theorem nI (a b : Int) (r s : List Int) : (mx a b r s).length = r.length := by simp [mx]
theorem aRA {a b : Int} {r s : List Int} (hl : s.length = r.length) (hr : r.length ≤ 1000) : f65 (r, s, a, b, ()) = some (mx a b r s, ()) := by
 have hloop : Q4 (r, s, a, b, [], (r.length : Int), 0, ()) = some (mx a b r s, ()) := by
  refine fJ (N := 2 ^ 64) (step := KG) (fun i => (r, s, a, b, (List.range i).map (mxE a b r s), (r.length : Int), (i : Int), ())) r.length _ (by omega) ?_ ?_
  ·intro i hi
   simp only [KG, aO, bD, kI, bT, Int.toNat_natCast, List.length_map, List.length_range, List.length_singleton]
   rw [if_pos (by omega), if_pos (by omega), if_pos (by omega), if_pos (by omega), if_pos (by omega), fF i (by omega), List.range_succ, List.map_append]
   rfl
  ·simp only [KG, aO, bT]
   rw [if_neg (by omega)]
   rfl
 unfold f65; dsimp only
 rw [hloop, aD]
def ftB (a b : Int) (r s : List Int) (n : Nat) : Bool := (List.range n).all fun i => decide (okE (mxE a b r s i))
theorem aT9 {a b : Int} {r s : List Int} (hl : s.length = r.length) (hr : r.length ≤ 1000) : f42 (a, r, b, s, ()) = some (mx a b r s, ftB a b r s r.length, ()) := by
 have hloop : Q6 (a, r, b, s, [], true, 0, ()) = some (mx a b r s, ftB a b r s r.length, ()) := by
  refine fJ (N := 2 ^ 64) (step := JJ) (fun i => (a, r, b, s, (List.range i).map (mxE a b r s), ftB a b r s i, (i : Int), ())) r.length _ (by omega) ?_ ?_
  ·intro i hi
   have hn : ftB a b r s (i + 1) = (ftB a b r s i && decide (okE (mxE a b r s i))) := by
    unfold ftB
    rw [List.range_succ, List.all_append]; simp
   simp only [JJ, aO, bD, kI, bT, Int.toNat_natCast, List.length_map, List.length_range, List.length_singleton]
   have h1 : i ≤ 1048576 := by omega
   have h2 : 1 ≤ 1048576 := by omega
   rw [if_pos (by omega), if_pos (by omega), if_pos (by omega), fF i (by omega), hn, List.range_succ, List.map_append]
   simp only [if_pos h1, if_pos h2]
   cases ftB a b r s i with
   | true =>
    rw [cond_true, a18, aD]
    rfl
   | false => rfl
  ·simp only [JJ, aO, bT]
   rw [if_neg (by omega)]
   rfl
 unfold f42; dsimp only
 rw [hloop, aD]
theorem aXK {a b : Int} {r s : List Int} (hr : r.length ≤ 64) : rc (mx a b r s) = if ftB a b r s r.length = true then 0 else 4 := by
 unfold rc
 rw [if_neg (by rw [nI]; omega)]
 have key : (∀ i, i < (mx a b r s).length → okE ((mx a b r s).getD i 0)) ↔ ftB a b r s r.length = true := by
  rw [nI]
  unfold ftB
  rw [List.all_eq_true]
  have hg : ∀ i, i < r.length → (mx a b r s).getD i 0 = mxE a b r s i := fun i hi => by
   unfold mx
   rw [List.getD_eq_getElem?_getD, List.getElem?_map, List.getElem?_range hi]; rfl
  constructor
  ·intro h i hi
   have hi := List.mem_range.1 hi
   have := h i hi
   rw [hg i hi] at this
   exact decide_eq_true this
  ·intro h i hi
   rw [hg i hi]
   exact of_decide_eq_true (h i (List.mem_range.2 hi))
 by_cases h : ftB a b r s r.length = true
 ·rw [if_pos h, if_pos (key.2 h)]
 ·rw [if_neg h, if_neg fun hh => h (key.1 hh)]
def trn (l : Lay) (g : S4) : Lay := (l.1, l.2.1, mx g.1 g.2.2.1 l.2.2.1 l.2.2.2, mx g.2.1 g.2.2.2 l.2.2.1 l.2.2.2)
def aMW (l : Lay) (g : S4) : Bool := ftB g.1 g.2.2.1 l.2.2.1 l.2.2.2 l.2.2.1.length && ftB g.2.1 g.2.2.2 l.2.2.1 l.2.2.2 l.2.2.1.length
theorem aTH {l : Lay} (g : S4) (h0 : l.2.1.length ≤ 1000) (h1 : l.2.2.2.length = l.2.2.1.length) (h2 : l.2.2.1.length ≤ 1000) : f40 (l, g, ()) = some (trn l g, ()) := by
 obtain ⟨k, o, r, u⟩ := l
 obtain ⟨a, b, c, d⟩ := g
 dsimp only at h0 h1 h2
 unfold f40; dsimp only
 have hc : aBT (o, ()) = some (o, ()) := by
  unfold aBT; dsimp only
  rw [kI, bT, if_pos (by omega)]
 rw [hc, aD, aRA h1 h2, aD, aRA h1 h2, aD]
 rfl
theorem a19 {l : Lay} (g : S4) (h1 : l.2.2.2.length = l.2.2.1.length) (h2 : l.2.2.1.length ≤ 1000) : f18 (l, g, ()) = some (trn l g, aMW l g, ()) := by
 obtain ⟨k, o, r, u⟩ := l
 obtain ⟨a, b, c, d⟩ := g
 dsimp only at h1 h2
 unfold f18 aMW; dsimp only
 rw [aT9 h1 h2, aD, aT9 h1 h2, aD]
 cases ftB a c r u r.length <;> rfl
theorem aOH (l : Lay) (z : Lay) : FX (l, z, (l.2.1, l.2.2.1, l.2.2.2), 0, ()) = some (if rc l.2.1 = 0 ∧ rc l.2.2.1 = 0 ∧ rc l.2.2.2 = 0 then .inr (l, z, ()) else .inl (zL, 4, ())) := by
 obtain ⟨k, o, r, u⟩ := l
 obtain ⟨k', o', r', u'⟩ := z
 have s0 : u6 ((k, o, r, u), (k', o', r', u'), (o, r, u), 0, ()) = if ¬ rc o = 0 then some (.inr (.inl (zL, 4, ()))) else some (.inl ((k, o, r, u), (k', o', r', u'), (o, r, u), 1, ())) := by
  simp only [u6, aO, eV, pY, bT]
  rw [if_pos (by decide), if_pos trivial, R1, aD]
  rfl
 have s1 : u6 ((k, o, r, u), (k', o', r', u'), (o, r, u), 1, ()) = if ¬ rc r = 0 then some (.inr (.inl (zL, 4, ()))) else some (.inl ((k, o, r, u), (k', o', r', u'), (o, r, u), 2, ())) := by
  simp only [u6, aO, eV, pY, bT]
  rw [if_pos (by decide), if_neg (by decide), if_pos trivial, R1, aD]
  rfl
 have s2 : u6 ((k, o, r, u), (k', o', r', u'), (o, r, u), 2, ()) = if ¬ rc u = 0 then some (.inr (.inl (zL, 4, ()))) else some (.inl ((k, o, r, u), (k', o', r', u'), (o, r, u), 3, ())) := by
  simp only [u6, aO, eV, pY, bT]
  rw [if_pos (by decide), if_neg (by decide), if_neg (by decide), if_pos trivial, R1, aD]
  rfl
 have s3 : u6 ((k, o, r, u), (k', o', r', u'), (o, r, u), 3, ()) = some (.inr (.inr ((k, o, r, u), (k', o', r', u'), ()))) := rfl
 unfold FX
 dsimp only
 rw [show (2 : Nat) ^ 64 = 18446744073709551612 + 1 + 1 + 1 + 1 from rfl, dP, s0]
 by_cases h0 : rc o = 0
 ·rw [if_neg (not_not_intro h0)]
  dsimp only
  rw [dP, s1]
  by_cases h1 : rc r = 0
  ·rw [if_neg (not_not_intro h1)]
   dsimp only
   rw [dP, s2]
   by_cases h3 : rc u = 0
   ·rw [if_neg (not_not_intro h3)]
    dsimp only
    rw [dP, s3, if_pos ⟨h0, h1, h3⟩]
   ·rw [if_pos h3, if_neg fun h => h3 h.2.2]
  ·rw [if_pos h1, if_neg fun h => h1 h.2.1]
 ·rw [if_pos h0, if_neg fun h => h0 h.1]
theorem aK6 (l : Lay) : f39 (l, ()) = some (if rc l.2.1 = 0 ∧ rc l.2.2.1 = 0 ∧ rc l.2.2.2 = 0 then (l, 0, ()) else (zL, 4, ())) := by
 have := aOH l zL
 obtain ⟨k, o, r, u⟩ := l
 unfold f39
 dsimp only at this ⊢
 rw [show (FX ((k, o, r, u), ((0, [], [], []) : Lay), (o, r, u), 0, ())) = _ from this, aD]
 by_cases h : rc o = 0 ∧ rc r = 0 ∧ rc u = 0
 ·rw [if_pos h, if_pos h]; rfl
 ·rw [if_neg h, if_neg h]; rfl
def sW (k : Int) : List (Int × Int) := if k = 2 then aMG else aMK
def bG (k : Int) : List S4 := if k = 2 then NV else OH
theorem aXZ (k : Int) : f61 (k, ()) = some (sW k, ()) := by
 unfold f61 sW; dsimp only
 rw [eV, bT]
 by_cases h : k = 2
 ·rw [if_pos h, if_pos h]; rfl
 ·rw [if_neg h, if_neg h]; rfl
theorem aSC (k : Int) : f38 (k, ()) = some ((sW k, ()), ()) := by
 unfold f38; dsimp only
 rw [aXZ, aD]
theorem aC4 (k : Int) : GD (sW k, ()) = some ((bG k).map fun g => (g, ())) := by
 unfold sW bG
 by_cases h : k = 2
 ·rw [if_pos h, if_pos h]; rfl
 ·rw [if_neg h, if_neg h]; rfl
theorem a1R : f16 (1, ()) = some (OH, ()) := by kernel_rfl
theorem a10 : f16 (2, ()) = some (NV, ()) := by kernel_rfl
theorem aTG {k : Int} (h : k = 1 ∨ k = 2) : f16 (k, ()) = some (bG k, ()) := by
 rcases h with rfl | rfl
 ·exact a1R
 ·exact a10
theorem aOJ {k : Int} : (bG k).length ≤ 12 := by unfold bG; split <;> decide
def eq4 (a b : S4) : Bool := eqI a.1 b.1 && (eqI a.2.1 b.2.1 && (eqI a.2.2.1 b.2.2.1 && (eqI a.2.2.2 b.2.2.2 && true)))
theorem aJP (a b : S4) : eq4 a b = decide (a = b) := by
 obtain ⟨a1, a2, a3, a4⟩ := a
 obtain ⟨b1, b2, b3, b4⟩ := b
 simp only [eq4, eV, Prod.mk.injEq]
 by_cases h1 : a1 = b1 <;> by_cases h2 : a2 = b2 <;> by_cases h3 : a3 = b3 <;> by_cases h4 : a4 = b4 <;> simp [h1, h2, h3, h4]
theorem aLP {l : Lay} (g : S4) (n : List (Int × Int)) (h0 : l.2.1.length ≤ 1000) (h1 : l.2.2.2.length = l.2.2.1.length) (h2 : l.2.2.1.length ≤ 1000) : ∀ L : List S4,
  vX PZ (aM3 ED NJ) (L.map fun e => (e, ())) (l, g, zL, 0, (n, ()), ()) = if g ∈ L then some (.inr ((if rc (trn l g).2.1 = 0 ∧ rc (trn l g).2.2.1 = 0 ∧ rc (trn l g).2.2.2 = 0 then (trn l g, 0, ()) else (zL, 4, ())))) else some (.inl (zL, 0, ()))
 | [] => by rw [if_neg (by simp)]; rfl
 | e :: L => by
  have ih := aLP g n h0 h1 h2 L
  have hst : PZ (l, g, zL, 0, (n, ()), ()) (e, ()) = if g = e then some (.inr (.inr ((if rc (trn l g).2.1 = 0 ∧ rc (trn l g).2.2.1 = 0 ∧ rc (trn l g).2.2.2 = 0 then (trn l g, 0, ()) else (zL, 4, ()))))) else some (.inl (l, g, zL, 0, (n, ()), ())) := by
   have h40 := aTH g h0 h1 h2
   have h39 := aK6 (trn l g)
   obtain ⟨k, o, r, u⟩ := l
   obtain ⟨a, b, c, d⟩ := g
   show (bif eq4 (a, b, c, d) e then _ else _) = _
   rw [aJP, bT]
   by_cases he : (a, b, c, d) = e
   ·rw [if_pos he, if_pos he]
    show (aB (f40 ((k, o, r, u), (a, b, c, d), ())) _) = _
    rw [h40, aD]
    show (aB (f39 (trn (k, o, r, u) (a, b, c, d), ())) _) = _
    rw [h39, aD]
   ·rw [if_neg he, if_neg he]
  rw [List.map_cons]
  unfold vX
  rw [hst]
  by_cases he : g = e
  ·rw [if_pos he, if_pos (show g ∈ e :: L by rw [he]; exact List.mem_cons_self)]
  ·rw [if_neg he]
   dsimp only
   rw [ih]
   by_cases hm : g ∈ L
   ·rw [if_pos hm, if_pos (List.mem_cons_of_mem _ hm)]
   ·rw [if_neg hm, if_neg (by
     intro h
     rcases List.mem_cons.1 h with h | h
     ·exact he h
     ·exact hm h)]
theorem aYG {l : Lay} (g : S4) (h0 : l.2.1.length ≤ 1000) (h1 : l.2.2.2.length = l.2.2.1.length) (h2 : l.2.2.1.length ≤ 1000) (hc : ce l = 0) :
  f15 (l, g, ()) = some (if g ∈ bG l.1 then (if rc (trn l g).2.1 = 0 ∧ rc (trn l g).2.2.1 = 0 ∧ rc (trn l g).2.2.2 = 0 then (trn l g, 0, ()) else (zL, 4, ())) else (zL, 10, ())) := by
 have hr := aLP g (sW l.1) h0 h1 h2 (bG l.1)
 have h24 := aJW l
 have hf := aC4 l.1
 have h38 := aSC l.1
 rw [hc] at h24
 unfold f15
 show (aB (f24 (l, ())) _) = _
 rw [h24, aD]
 show (aB (f38 (l.1, ())) _) = _
 rw [h38, aD]
 show (aB (FQ (l, g, zL, 0, (sW l.1, ()), ())) _) = _
 have hl : FQ (l, g, zL, 0, (sW l.1, ()), ()) = if g ∈ bG l.1 then some (.inr ((if rc (trn l g).2.1 = 0 ∧ rc (trn l g).2.2.1 = 0 ∧ rc (trn l g).2.2.2 = 0 then (trn l g, 0, ()) else (zL, 4, ())))) else some (.inl (zL, 0, ())) := by
  unfold FQ ZF
  have hff : (fun x => GD (aER x)) (l, g, zL, 0, (sW l.1, ()), ()) = _ := hf
  rw [hff]
  exact hr
 rw [hl]
 by_cases hg : g ∈ bG l.1
 ·rw [if_pos hg, if_pos hg, aD, nZ]
 ·rw [if_neg hg, if_neg hg, aD, LL]
end Go.PM
set_option linter.unusedSimpArgs false
set_option linter.unusedVariables false
namespace Go.PM
open Go Go.RowKit Go.Proofs
set_option maxRecDepth 100000
theorem aVR {x : Int} {n : Nat} (h : 0 ≤ x ∧ x ≤ 255) (hn : 0 < n) : (IntKind.wrap .i64 x).tmod (n : Int) = ((x.toNat % n : Nat) : Int) := by
 rw [aVZ (by omega) (by omega)]
 obtain ⟨m, rfl⟩ := Int.eq_ofNat_of_zero_le h.1
 rfl
end Go.PM
set_option linter.unusedSimpArgs false
set_option linter.unusedVariables false
namespace Go.PM
open Go Go.RowKit Go.Proofs
set_option maxRecDepth 100000
set_option maxHeartbeats 4000000
def a2R (v0 : Ty.den (.prod .bool (.prod (.int .u8) (.prod (.prod (.int .i8) (.prod (.int .i8) (.int .i8))) (.prod (.prod (.int .i8) (.prod (.int .i8) (.int .i8))) (.prod (.int .i8) (.prod (.int .i8) (.int .i8)))))))) (t : Int) : Option (aH [.agg TyA]) :=
  bif v0.1 then
   bif eqI t 0 then some ((2, ([], [], [])), ())
   else bif eqI t 1 then some ((2, ([(Int.tmod (IntKind.wrap .i64 v0.2.2.1.1) 10)], [(Int.tmod (IntKind.wrap .i64 v0.2.2.2.1.1) 10)], [(Int.tmod (IntKind.wrap .i64 v0.2.2.2.2.1) 10)])), ())
   else bif eqI t 2 then some ((2, ([(Int.tmod (IntKind.wrap .i64 v0.2.2.1.1) 10), (Int.tmod (IntKind.wrap .i64 v0.2.2.1.2.1) 10)], [(Int.tmod (IntKind.wrap .i64 v0.2.2.2.1.1) 10), (Int.tmod (IntKind.wrap .i64 v0.2.2.2.1.2.1) 10)], [(Int.tmod (IntKind.wrap .i64 v0.2.2.2.2.1) 10), (Int.tmod (IntKind.wrap .i64 v0.2.2.2.2.2.1) 10)])), ())
   else bif eqI t 3 then some ((2, ([(Int.tmod (IntKind.wrap .i64 v0.2.2.1.1) 10), (Int.tmod (IntKind.wrap .i64 v0.2.2.1.2.1) 10), (Int.tmod (IntKind.wrap .i64 v0.2.2.1.2.2) 10)], [(Int.tmod (IntKind.wrap .i64 v0.2.2.2.1.1) 10), (Int.tmod (IntKind.wrap .i64 v0.2.2.2.1.2.1) 10), (Int.tmod (IntKind.wrap .i64 v0.2.2.2.1.2.2) 10)], [(Int.tmod (IntKind.wrap .i64 v0.2.2.2.2.1) 10), (Int.tmod (IntKind.wrap .i64 v0.2.2.2.2.2.1) 10), (Int.tmod (IntKind.wrap .i64 v0.2.2.2.2.2.2) 10)])), ())
   else none
  else
   bif eqI t 0 then some ((1, ([], [], [])), ())
   else bif eqI t 1 then some ((1, ([(Int.tmod (IntKind.wrap .i64 v0.2.2.1.1) 10)], [(Int.tmod (IntKind.wrap .i64 v0.2.2.2.1.1) 10)], [(Int.tmod (IntKind.wrap .i64 v0.2.2.2.2.1) 10)])), ())
   else bif eqI t 2 then some ((1, ([(Int.tmod (IntKind.wrap .i64 v0.2.2.1.1) 10), (Int.tmod (IntKind.wrap .i64 v0.2.2.1.2.1) 10)], [(Int.tmod (IntKind.wrap .i64 v0.2.2.2.1.1) 10), (Int.tmod (IntKind.wrap .i64 v0.2.2.2.1.2.1) 10)], [(Int.tmod (IntKind.wrap .i64 v0.2.2.2.2.1) 10), (Int.tmod (IntKind.wrap .i64 v0.2.2.2.2.2.1) 10)])), ())
   else bif eqI t 3 then some ((1, ([(Int.tmod (IntKind.wrap .i64 v0.2.2.1.1) 10), (Int.tmod (IntKind.wrap .i64 v0.2.2.1.2.1) 10), (Int.tmod (IntKind.wrap .i64 v0.2.2.1.2.2) 10)], [(Int.tmod (IntKind.wrap .i64 v0.2.2.2.1.1) 10), (Int.tmod (IntKind.wrap .i64 v0.2.2.2.1.2.1) 10), (Int.tmod (IntKind.wrap .i64 v0.2.2.2.1.2.2) 10)], [(Int.tmod (IntKind.wrap .i64 v0.2.2.2.2.1) 10), (Int.tmod (IntKind.wrap .i64 v0.2.2.2.2.2.1) 10), (Int.tmod (IntKind.wrap .i64 v0.2.2.2.2.2.2) 10)])), ())
   else none
def f29 (x : aH [.agg (.prod .bool (.prod (.int .u8) (.prod (.prod (.int .i8) (.prod (.int .i8) (.int .i8))) (.prod (.prod (.int .i8) (.prod (.int .i8) (.int .i8))) (.prod (.int .i8) (.prod (.int .i8) (.int .i8)))))))]) : Option (aH [.agg TyA]) := match x with
 | (v0, ()) => a2R v0 (IntKind.wrap .i64 (Int.tmod v0.2.1 4))
noncomputable def c29 : Code := aS Tryz.f29
abbrev E29 : Env := bI []
theorem aX1 : aY Tryz.prog E29 := aX trivial
def a4K (id : Nat) : Option (Nat × Nat) := bif Nat.beq id 4 then some (4, 4) else none
theorem aZO : ∀ x, aST Tryz.prog E29 Tryz.f29 (aC Tryz.f29) a4K 60 c29 [.agg (.prod .bool (.prod (.int .u8) (.prod (.prod (.int .i8) (.prod (.int .i8) (.int .i8))) (.prod (.prod (.int .i8) (.prod (.int .i8) (.int .i8))) (.prod (.int .i8) (.prod (.int .i8) (.int .i8)))))))] [.agg TyA] x = f29 x := by
 rintro ⟨⟨a, b, ⟨c, d, e⟩, ⟨f, g, h⟩, ⟨i, j, k⟩⟩, ⟨⟩⟩
 kernel_rfl
theorem a5D : cL Tryz.prog 29 [.agg (.prod .bool (.prod (.int .u8) (.prod (.prod (.int .i8) (.prod (.int .i8) (.int .i8))) (.prod (.prod (.int .i8) (.prod (.int .i8) (.int .i8))) (.prod (.int .i8) (.prod (.int .i8) (.int .i8)))))))] [.agg TyA] f29 := by
 exact aU6 aJ aX1 Tryz.func29 (c := c29) (by kernel_rfl) aZO
abbrev e29 : Ent := ⟨29, [.agg (.prod .bool (.prod (.int .u8) (.prod (.prod (.int .i8) (.prod (.int .i8) (.int .i8))) (.prod (.prod (.int .i8) (.prod (.int .i8) (.int .i8))) (.prod (.int .i8) (.prod (.int .i8) (.int .i8)))))))], [.agg TyA], f29⟩
theorem a0Z : Ent.OK Tryz.prog e29 := a5D
end Go.PM
set_option linter.unusedSimpArgs false
set_option linter.unusedVariables false
namespace Go.PM
open Go Go.RowKit Go.Proofs
set_option maxRecDepth 100000
set_option maxHeartbeats 4000000
end Go.PM
set_option linter.unusedSimpArgs false
set_option linter.unusedVariables false
namespace Go.PM
open Go Go.RowKit Go.Proofs
set_option maxRecDepth 100000
def Sm (B : Int) (r : List Int) : Prop := ∀ v ∈ r, -B ≤ v ∧ v ≤ B
structure lZ (B : Int) (l : Lay) : Prop where
 kind : l.1 = 1 ∨ l.1 = 2
 len : l.2.1.length ≤ 3
 right : l.2.2.1.length = l.2.1.length
 up : l.2.2.2.length = l.2.1.length
 o : Sm B l.2.1
 r : Sm B l.2.2.1
 u : Sm B l.2.2.2
theorem Sm.get {B : Int} {r : List Int} (h : Sm B r) {i : Nat} (hi : i < r.length) : -B ≤ r.getD i 0 ∧ r.getD i 0 ≤ B := h _ (aQU hi)
theorem E2 (a : Int) : -9 ≤ a.tmod 10 ∧ a.tmod 10 ≤ 9 := by
 cases a with
 | ofNat m =>
  have h : (Int.ofNat m).tmod 10 = ((m % 10 : Nat) : Int) := rfl
  rw [h]; omega
 | negSucc m =>
  have h : (Int.negSucc m).tmod 10 = -(((m + 1) % 10 : Nat) : Int) := rfl
  rw [h]; omega
theorem aLM {r : Int} (h : 0 ≤ r ∧ r ≤ 255) : IntKind.wrap .i64 (Int.tmod r 4) = 0 ∨ IntKind.wrap .i64 (Int.tmod r 4) = 1 ∨ IntKind.wrap .i64 (Int.tmod r 4) = 2 ∨ IntKind.wrap .i64 (Int.tmod r 4) = 3 := by
 obtain ⟨m, rfl⟩ : ∃ m : Nat, r = m := ⟨r.toNat, by omega⟩
 have h1 : Int.tmod (m : Int) 4 = ((m % 4 : Nat) : Int) := rfl
 rw [h1, IntKind.wrap_i64]
 omega
theorem aFV (B : Int) : Sm B [] := fun v hv => by cases hv
theorem LV {B : Int} {x : Int} {l : List Int} (h : -B ≤ x ∧ x ≤ B) (hl : Sm B l) : Sm B (x :: l) := fun v hv => by
 rcases List.mem_cons.1 hv with rfl | hv
 ·exact h
 ·exact hl v hv
theorem aN0 (d : Ty.den (.prod .bool (.prod (.int .u8) (.prod (.prod (.int .i8) (.prod (.int .i8) (.int .i8))) (.prod (.prod (.int .i8) (.prod (.int .i8) (.int .i8))) (.prod (.int .i8) (.prod (.int .i8) (.int .i8)))))))) {t : Int} (ht : t = 0 ∨ t = 1 ∨ t = 2 ∨ t = 3) : ∃ l : Lay, a2R d t = some (l, ()) ∧ lZ 9 l := by
 obtain ⟨x, b, ⟨c, d, e⟩, ⟨f, g, h⟩, ⟨i, j, k⟩⟩ := d
 cases x <;> rcases ht with rfl | rfl | rfl | rfl <;> refine ⟨_, rfl, ?_⟩ <;> constructor <;> first
  | exact .inl rfl
  | exact .inr rfl
  | exact aFV 9
  | exact LV (E2 _) (aFV 9)
  | exact LV (E2 _) (LV (E2 _) (aFV 9))
  | exact LV (E2 _) (LV (E2 _) (LV (E2 _) (aFV 9)))
  | (show ([] : List Int).length ≤ 3; decide)
  | rfl
  | exact Nat.le_of_ble_eq_true rfl
theorem aQ0 (d : Ty.den (.prod .bool (.prod (.int .u8) (.prod (.prod (.int .i8) (.prod (.int .i8) (.int .i8))) (.prod (.prod (.int .i8) (.prod (.int .i8) (.int .i8))) (.prod (.int .i8) (.prod (.int .i8) (.int .i8)))))))) (hr : 0 ≤ d.2.1 ∧ d.2.1 ≤ 255) : ∃ l : Lay, f29 (d, ()) = some (l, ()) ∧ lZ 9 l :=
 aN0 d (aLM hr)

theorem mK {r : List Int} {B : Int} (h : Sm B r) (hB : B ≤ 1000000000) (hl : r.length ≤ 64) : rc r = 0 := by
 unfold rc
 rw [if_neg (by omega), if_pos]
 intro i hi
 have := h.get hi
 unfold okE
 omega
theorem aDT {B : Int} {l : Lay} (h : lZ B l) (hB : B ≤ 1000000000) : ce l = 0 := by
 have h1 := h.len
 have h2 := h.right
 have h3 := h.up
 have e1 : rc l.2.1 = 0 := mK h.o hB (by omega)
 have e2 : rc l.2.2.1 = 0 := mK h.r hB (by omega)
 have e3 : rc l.2.2.2 = 0 := mK h.u hB (by omega)
 have hk := h.kind
 unfold ce
 simp only [e1, e2, e3, h2, h3]
 rcases hk with hk | hk <;> simp [hk]
def AU (g : S4) : Prop := (-1 ≤ g.1 ∧ g.1 ≤ 1) ∧ (-1 ≤ g.2.1 ∧ g.2.1 ≤ 1) ∧ (-1 ≤ g.2.2.1 ∧ g.2.2.1 ≤ 1) ∧ (-1 ≤ g.2.2.2 ∧ g.2.2.2 ≤ 1)
instance (g : S4) : Decidable (AU g) := by unfold AU; infer_instance
theorem sK {k : Int} {g : S4} (h : g ∈ bG k) : AU g := by
 have h4 : ∀ g ∈ OH, AU g := by decide
 have h6 : ∀ g ∈ NV, AU g := by decide
 unfold bG at h
 split at h
 ·exact h6 g h
 ·exact h4 g h
theorem aI3 {a x B : Int} (ha : -1 ≤ a ∧ a ≤ 1) (hx : -B ≤ x ∧ x ≤ B) : -B ≤ a * x ∧ a * x ≤ B := by
 rcases (by omega : a = -1 ∨ a = 0 ∨ a = 1) with rfl | rfl | rfl <;> omega
theorem BI {a b B : Int} {r s : List Int} {i : Nat} (ha : -1 ≤ a ∧ a ≤ 1) (hb : -1 ≤ b ∧ b ≤ 1) (hr : -B ≤ r.getD i 0 ∧ r.getD i 0 ≤ B) (hs : -B ≤ s.getD i 0 ∧ s.getD i 0 ≤ B) (hB : B ≤ 1000000000) :
  mxE a b r s i = a * r.getD i 0 + b * s.getD i 0 ∧ -(2 * B) ≤ mxE a b r s i ∧ mxE a b r s i ≤ 2 * B := by
 have h1 := aI3 ha hr
 have h2 := aI3 hb hs
 have : mxE a b r s i = a * r.getD i 0 + b * s.getD i 0 := by
  unfold mxE
  rw [wrap64 (x := a * r.getD i 0) (by omega) (by omega), wrap64 (x := b * s.getD i 0) (by omega) (by omega), wrap64 (by omega) (by omega)]
 rw [this]
 omega
theorem OU {a b : Int} {r s : List Int} {i : Nat} (h : i < r.length) : (mx a b r s).getD i 0 = mxE a b r s i := by
 unfold mx
 simp [List.getD_eq_getElem?_getD, h]
theorem aHN {a b B : Int} {r s : List Int} (ha : -1 ≤ a ∧ a ≤ 1) (hb : -1 ≤ b ∧ b ≤ 1) (hr : Sm B r) (hs : Sm B s) (hl : s.length = r.length) (hB : B ≤ 1000000000) : Sm (2 * B) (mx a b r s) := by
 intro v hv
 unfold mx at hv
 obtain ⟨i, hi, rfl⟩ := List.mem_map.1 hv
 have hi := List.mem_range.1 hi
 exact (BI ha hb (hr.get hi) (hs.get (by omega)) hB).2
theorem pA {B : Int} {l : Lay} {g : S4} (h : lZ B l) (hg : AU g) (hB0 : 0 ≤ B) (hB : B ≤ 1000000000) : lZ (2 * B) (trn l g) := by
 have h1 := h.right
 have h2 := h.up
 refine ⟨h.kind, h.len, by show (mx _ _ _ _).length = _; rw [nI]; exact h1, by show (mx _ _ _ _).length = _; rw [nI]; exact h1, ?_, ?_, ?_⟩
 ·intro v hv
  have := h.o v hv
  omega
 ·exact aHN hg.1 hg.2.2.1 h.r h.u (by omega) hB
 ·exact aHN hg.2.1 hg.2.2.2 h.r h.u (by omega) hB
theorem aNA {B : Int} {l : Lay} {g : S4} (h : lZ B l) (hg : g ∈ bG l.1) (hB0 : 0 ≤ B) (hB : B ≤ 500000000) : f15 (l, g, ()) = some (trn l g, 0, ()) := by
 have h0 := h.len
 have h1 := h.right
 have h2 := h.up
 have ht := pA h (sK hg) hB0 (by omega)
 have e1 : rc (trn l g).2.1 = 0 := mK ht.o (by omega) (by have := ht.len; omega)
 have e2 : rc (trn l g).2.2.1 = 0 := mK ht.r (by omega) (by have := ht.len; have := ht.right; omega)
 have e3 : rc (trn l g).2.2.2 = 0 := mK ht.u (by omega) (by have := ht.len; have := ht.up; omega)
 rw [aYG g (by omega) (by omega) (by omega) (aDT h (by omega)), if_pos hg, if_pos ⟨e1, e2, e3⟩]
def QE (g h : S4) : S4 := (g.1 * h.1 + g.2.1 * h.2.2.1, g.1 * h.2.1 + g.2.1 * h.2.2.2, g.2.2.1 * h.1 + g.2.2.2 * h.2.2.1, g.2.2.1 * h.2.1 + g.2.2.2 * h.2.2.2)
def aSY (L : List S4) : Bool := L.all fun g => L.all fun h => match f23 (g, h, ()) with
 | some (c, ()) => eq4 c (QE g h) && L.any fun x => eq4 x c
 | none => false
theorem aVJ : aSY OH = true := by kernel_rfl
theorem aWL : aSY NV = true := by kernel_rfl
theorem aLA {k : Int} {g h : S4} (hg : g ∈ bG k) (hh : h ∈ bG k) : f23 (g, h, ()) = some (QE g h, ()) ∧ QE g h ∈ bG k := by
 have hc : aSY (bG k) = true := by
  unfold bG
  split
  ·exact aWL
  ·exact aVJ
 have h1 := List.all_eq_true.1 (List.all_eq_true.1 hc g hg) h hh
 split at h1
 ·rename_i c hc
  simp only [Bool.and_eq_true, List.any_eq_true] at h1
  obtain ⟨h2, x, h3, h4⟩ := h1
  rw [aJP, decide_eq_true_eq] at h2 h4
  rw [hc, h2]
  exact ⟨rfl, by rw [← h2, ← h4]; exact h3⟩
 ·cases h1
theorem aXF {a b a1 b1 a2 b2 B : Int} {r s : List Int} (ha : -1 ≤ a ∧ a ≤ 1) (hb : -1 ≤ b ∧ b ≤ 1) (ha1 : -1 ≤ a1 ∧ a1 ≤ 1) (hb1 : -1 ≤ b1 ∧ b1 ≤ 1) (ha2 : -1 ≤ a2 ∧ a2 ≤ 1) (hb2 : -1 ≤ b2 ∧ b2 ≤ 1)
  (hc : -1 ≤ a1 * a + a2 * b ∧ a1 * a + a2 * b ≤ 1) (hd : -1 ≤ b1 * a + b2 * b ∧ b1 * a + b2 * b ≤ 1) (hr : Sm B r) (hs : Sm B s) (hl : s.length = r.length) (hB0 : 0 ≤ B) (hB : B ≤ 100000000) :
  mx a b (mx a1 b1 r s) (mx a2 b2 r s) = mx (a1 * a + a2 * b) (b1 * a + b2 * b) r s := by
 show List.map _ (List.range (mx a1 b1 r s).length) = List.map _ (List.range r.length)
 rw [nI]
 refine List.map_congr_left fun i hi => ?_
 have hi := List.mem_range.1 hi
 have h1 := hr.get hi
 have h2 := hs.get (i := i) (by omega)
 obtain ⟨e1, e1'⟩ := BI ha1 hb1 h1 h2 (by omega)
 obtain ⟨e2, e2'⟩ := BI ha2 hb2 h1 h2 (by omega)
 obtain ⟨e3, -⟩ := BI hc hd h1 h2 (by omega)
 obtain ⟨e4, -⟩ := BI (r := mx a1 b1 r s) (s := mx a2 b2 r s) (i := i) (B := 2 * B) ha hb (by rw [OU hi]; omega) (by rw [OU hi]; omega) (by omega)
 rw [e4, e3, OU hi, OU hi, e1, e2]
 generalize r.getD i 0 = x
 generalize s.getD i 0 = y
 simp only [Int.mul_add, Int.add_mul]
 have q1 : a * (a1 * x) = a1 * a * x := by rw [← Int.mul_assoc, Int.mul_comm a a1]
 have q2 : a * (b1 * y) = b1 * a * y := by rw [← Int.mul_assoc, Int.mul_comm a b1]
 have q3 : b * (a2 * x) = a2 * b * x := by rw [← Int.mul_assoc, Int.mul_comm b a2]
 have q4 : b * (b2 * y) = b2 * b * y := by rw [← Int.mul_assoc, Int.mul_comm b b2]
 omega
theorem aL5 {B : Int} {l : Lay} {g h : S4} (hl : lZ B l) (hg : g ∈ bG l.1) (hh : h ∈ bG l.1) (hB0 : 0 ≤ B) (hB : B ≤ 100000000) : trn (trn l g) h = trn l (QE g h) := by
 have ug := sK hg
 have uh := sK hh
 have uc := sK (aLA hg hh).2
 have h1 := hl.right
 have h2 := hl.up
 unfold trn
 simp only
 rw [aXF uh.1 uh.2.2.1 ug.1 ug.2.2.1 ug.2.1 ug.2.2.2 uc.1 uc.2.2.1 hl.r hl.u (by omega) hB0 hB, aXF uh.2.1 uh.2.2.2 ug.1 ug.2.2.1 ug.2.1 ug.2.2.2 uc.2.1 uc.2.2.2 hl.r hl.u (by omega) hB0 hB]
 rfl
theorem FH {k : Int} : 0 < (bG k).length := by unfold bG; split <;> decide
end Go.PM
set_option linter.unusedSimpArgs false
set_option linter.unusedVariables false
namespace Go.PM
open Go Go.RowKit Go.Proofs
set_option maxRecDepth 100000
set_option maxHeartbeats 4000000
/-! schisma/schismalaw46.origin -/
def f50 (x : aH [.agg TyA]) : Option (aH [.list TyE, .int .i64]) := match x with
 | (v0, ()) =>
  bif ltI 12 (v0.2.1.length : Int) then
   some ([], 3, ())
  else aB (dV ((v0.2.1.length : Int), [v0.2.2.1, v0.2.2.2], ())) fun y1 =>
  bif !(eqI y1.2.1 0) then
   some ([], y1.2.1, ())
  else aB (bC ((y1.1.1, y1.1.2), v0.2.1, ())) fun y2 =>
  some (y2.1, y2.2.1, ())
noncomputable def c50 : Code := aS Tryz.f50
abbrev E50 : Env := bI [KQ, sR]
theorem aZE : aY Tryz.prog E50 := aX ⟨JV, vL, trivial⟩
def a3P (id : Nat) : Option aR := none
theorem aUG : aF c50 = [] := by kernel_rfl
theorem aX8 : ∀ x, bQ Tryz.prog E50 Tryz.f50 (aC Tryz.f50) a3P c50 [.agg TyA] [.list TyE, .int .i64] x = f50 x := by
 rintro ⟨v0, ⟨⟩⟩
 kernel_rfl
theorem a5P : cL Tryz.prog 50 [.agg TyA] [.list TyE, .int .i64] f50 := by
 exact aZ aJ aZE Tryz.func50 (c := c50) (by kernel_rfl) (aT := aC Tryz.f50) (lt := a3P) (aE aUG trivial) aX8
abbrev e50 : Ent := ⟨50, [.agg TyA], [.list TyE, .int .i64], f50⟩
theorem a0N : Ent.OK Tryz.prog e50 := a5P

/-! schisma/schismalaw46.canonical -/
abbrev TN : List (Nat × Kd) := [(1, .box 25 TyA), (2, .box 25 TyA), (4, .list TyB), (5, .box 25 TyA), (6, .bool), (7, .int .i64)]
abbrev aAI : List (Ex × List (Nat × Kd)) := [(.exit 0, [(1, .box 25 TyA), (2, .box 25 TyA), (5, .box 25 TyA), (6, .bool)])]
def EJ (x : Shape.den TN) : Option (Shape.den TN ⊕ aU aAI) := match x with
 | (v1, v2, v4, v5, v6, v7, ()) =>
  bif ltI v7 (v4.length : Int) then
   bif aQ v7 v4.length then aB (f18 (v1, ((v4.getD v7.toNat (0, (0, (0, 0)))).1, ((v4.getD v7.toNat (0, (0, (0, 0)))).2.1, ((v4.getD v7.toNat (0, (0, (0, 0)))).2.2.1, (v4.getD v7.toNat (0, (0, (0, 0)))).2.2.2))), ())) fun y7 =>
   bif v6 then
    aB (f35 (y7.1.2.2.1, v5.2.2.1, ())) fun y8 =>
    bif eqI v7 0 then
     some (.inl (v1, v2, v4, y7.1, y7.2.1, (aL .i64 (v7 + 1)), ()))
    else bif ltI y8.1 0 then
     some (.inl (v1, v2, v4, y7.1, y7.2.1, (aL .i64 (v7 + 1)), ()))
    else bif eqI y8.1 0 then
     aB (f35 (y7.1.2.2.2, v5.2.2.2, ())) fun y9 =>
     bif ltI y9.1 0 then
      some (.inl (v1, v2, v4, y7.1, y7.2.1, (aL .i64 (v7 + 1)), ()))
     else some (.inl (v1, v2, v4, v5, y7.2.1, (aL .i64 (v7 + 1)), ()))
    else some (.inl (v1, v2, v4, v5, y7.2.1, (aL .i64 (v7 + 1)), ()))
   else aB (f35 (y7.1.2.2.1, v5.2.2.1, ())) fun y10 =>
   bif eqI v7 0 then
    some (.inl (v1, v2, v4, y7.1, false, (aL .i64 (v7 + 1)), ()))
   else bif ltI y10.1 0 then
    some (.inl (v1, v2, v4, y7.1, false, (aL .i64 (v7 + 1)), ()))
   else bif eqI y10.1 0 then
    aB (f35 (y7.1.2.2.2, v5.2.2.2, ())) fun y11 =>
    bif ltI y11.1 0 then
     some (.inl (v1, v2, v4, y7.1, false, (aL .i64 (v7 + 1)), ()))
    else some (.inl (v1, v2, v4, v5, false, (aL .i64 (v7 + 1)), ()))
   else some (.inl (v1, v2, v4, v5, false, (aL .i64 (v7 + 1)), ())) else none
  else some (.inr ((v1, v2, v5, v6, ())))
def KU (x : Shape.den TN) : Option (aU aAI) := bU EJ (2 ^ 64) x
def f30 (x : aH [.agg TyA]) : Option (aH [.agg TyA, .bool]) := match x with
 | (v0, ()) =>
  aB (f16 (v0.1, ())) fun y1 =>
  aB (KU (v0, (0, ([], ([], []))), y1.1, v0, true, 0, ())) fun z12 =>
  aB (f50 (z12.1, ())) fun y13 =>
  bif z12.2.2.2.1 then
   some ((z12.2.2.1.1, (y13.1, (z12.2.2.1.2.2.1, z12.2.2.1.2.2.2))), eqI y13.2.1 0, ())
  else some ((z12.2.2.1.1, (y13.1, (z12.2.2.1.2.2.1, z12.2.2.1.2.2.2))), false, ())
noncomputable def c30 : Code := aS Tryz.f30
abbrev E30 : Env := bI [e16, e18, e35, e50]
theorem aSS : aY Tryz.prog E30 := aX ⟨aSU, a0U, aTM, a0N, trivial⟩
noncomputable def aGK : Code := fB c30 0
def aY9 (id : Nat) : Option aR := bif Nat.beq id 5 then some ⟨TN, aAI, KU⟩ else none
theorem aP6 : ∀ x, eU Tryz.prog E30 73 (aC Tryz.f30) aY9 aGK TN aAI x = EJ x := by
 rintro ⟨v1, v2, v4, v5, v6, v7, ⟨⟩⟩
 kernel_rfl
theorem a05 : aF aGK = [] := by kernel_rfl
theorem aO3 : aG aGK = 5 := by kernel_rfl
theorem aTB : cU Tryz.prog 73 aGK ⟨TN, aAI, KU⟩ := by
 exact cW aSS.callee aJ.mixed _ (aE a05 trivial) aP6
theorem aWK : aF c30 = [aGK] := by kernel_rfl
theorem aZ1 : ∀ x, bQ Tryz.prog E30 Tryz.f30 (aC Tryz.f30) aY9 c30 [.agg TyA] [.agg TyA, .bool] x = f30 x := by
 rintro ⟨v0, ⟨⟩⟩
 kernel_rfl
theorem a4L : cL Tryz.prog 30 [.agg TyA] [.agg TyA, .bool] f30 := by
 exact aZ aJ aSS Tryz.func30 (c := c30) (by kernel_rfl) (aT := aC Tryz.f30) (lt := aY9) (aE aWK ⟨cX aO3 rfl aTB, trivial⟩) aZ1
abbrev e30 : Ent := ⟨30, [.agg TyA], [.agg TyA, .bool], f30⟩
theorem aYF : Ent.OK Tryz.prog e30 := a4L

/-! schisma/schismalaw46.IsomorphyForms -/
def f7 (x : aH [.agg (.prod .bool (.prod (.int .u8) (.prod (.prod (.int .i8) (.prod (.int .i8) (.int .i8))) (.prod (.prod (.int .i8) (.prod (.int .i8) (.int .i8))) (.prod (.int .i8) (.prod (.int .i8) (.int .i8))))))), .int .u8, .agg (.prod (.int .i8) (.int .i8))]) : Option (aH [.bool]) := match x with
 | (v0, v1, v2, ()) =>
  aB (f12 (())) fun y1 =>
  bif y1.1 then
   aB (f29 ((v0.1, (v0.2.1, ((v0.2.2.1.1, (v0.2.2.1.2.1, v0.2.2.1.2.2)), ((v0.2.2.2.1.1, (v0.2.2.2.1.2.1, v0.2.2.2.1.2.2)), (v0.2.2.2.2.1, (v0.2.2.2.2.2.1, v0.2.2.2.2.2.2)))))), ())) fun y2 =>
   aB (f26 (y2.1, ())) fun y3 =>
   aB (f30 (y2.1, ())) fun y4 =>
   bif y4.2.1 then
    bif !(eqI y3.2.1 0) then
     some (false, ())
    else aB (f19 (y3.1, y4.1, ())) fun y5 =>
    bif y5.1 then
     aB (f16 (y2.1.1, ())) fun y6 =>
     bif eqI (y6.1.length : Int) 0 then none else bif aQ ((IntKind.wrap .i64 v1).tmod (y6.1.length : Int)) y6.1.length then aB (f15 (y2.1, ((y6.1.getD (((IntKind.wrap .i64 v1).tmod (y6.1.length : Int)).toNat) (0, (0, (0, 0)))).1, ((y6.1.getD (((IntKind.wrap .i64 v1).tmod (y6.1.length : Int)).toNat) (0, (0, (0, 0)))).2.1, ((y6.1.getD (((IntKind.wrap .i64 v1).tmod (y6.1.length : Int)).toNat) (0, (0, (0, 0)))).2.2.1, (y6.1.getD (((IntKind.wrap .i64 v1).tmod (y6.1.length : Int)).toNat) (0, (0, (0, 0)))).2.2.2))), ())) fun y7 =>
     aB (aHK (y7.1, (IntKind.wrap .i64 v2.1), (IntKind.wrap .i64 v2.2), ())) fun y8 =>
     aB (f26 (y8.1, ())) fun y9 =>
     bif eqI y7.2.1 0 then
      bif eqI y8.2.1 0 then
       bif eqI y9.2.1 0 then
        aB (f19 (y9.1, y3.1, ())) fun y10 =>
        some (y10.1, ())
       else some (false, ())
      else some (false, ())
     else some (false, ()) else none
    else some (false, ())
   else some (false, ())
  else some (false, ())
noncomputable def c7 : Code := aS Tryz.f7
abbrev E7 : Env := bI [e12, e15, e16, e19, a2V, e26, e29, e30]
theorem a35 : aY Tryz.prog E7 := aX ⟨a2A, aXW, aSU, aRV, aUB, aS8, a0Z, aYF, trivial⟩
def lt7 (id : Nat) : Option aR := none
theorem aZP : aF c7 = [] := by kernel_rfl
theorem a3D : ∀ x, bQ Tryz.prog E7 Tryz.f7 (aC Tryz.f7) lt7 c7 [.agg (.prod .bool (.prod (.int .u8) (.prod (.prod (.int .i8) (.prod (.int .i8) (.int .i8))) (.prod (.prod (.int .i8) (.prod (.int .i8) (.int .i8))) (.prod (.int .i8) (.prod (.int .i8) (.int .i8))))))), .int .u8, .agg (.prod (.int .i8) (.int .i8))] [.bool] x = f7 x := by
 rintro ⟨v0, v1, v2, ⟨⟩⟩
 kernel_rfl
theorem fn7 : cL Tryz.prog 7 [.agg (.prod .bool (.prod (.int .u8) (.prod (.prod (.int .i8) (.prod (.int .i8) (.int .i8))) (.prod (.prod (.int .i8) (.prod (.int .i8) (.int .i8))) (.prod (.int .i8) (.prod (.int .i8) (.int .i8))))))), .int .u8, .agg (.prod (.int .i8) (.int .i8))] [.bool] f7 := by
 exact aZ aJ a35 Tryz.func7 (c := c7) (by kernel_rfl) (aT := aC Tryz.f7) (lt := lt7) (aE aZP trivial) a3D
end Go.PM
set_option linter.unusedSimpArgs false
set_option linter.unusedVariables false
namespace Go.PM
open Go Go.RowKit Go.Proofs
set_option maxRecDepth 100000
theorem aVH {a b : Int} {r s : List Int} (hl : s.length = r.length) (hr : r.length ≤ 1000) : aO5 (r, s, a, b, ()) = some (mx a b r s) := by
 have hloop : LP (r, s, a, b, [], (r.length : Int), 0, ()) = some (mx a b r s, ()) := by
  refine fJ (N := 2 ^ 64) (step := FG) (fun i => (r, s, a, b, (List.range i).map (mxE a b r s), (r.length : Int), (i : Int), ())) r.length _ (by omega) ?_ ?_
  ·intro i hi
   simp only [FG, aO, bD, kI, bT, Int.toNat_natCast, List.length_map, List.length_range, List.length_singleton]
   rw [if_pos (by omega), if_pos (by omega), if_pos (by omega), if_pos (by omega), if_pos (by omega), fF i (by omega), List.range_succ, List.map_append]
   rfl
  ·simp only [FG, aO, bT]
   rw [if_neg (by omega)]
   rfl
 unfold aO5; dsimp only
 rw [hloop, aD]
def aAV (x y : Int) (o r u : List Int) (i j : Nat) : Int := if j < i then aL .i64 (mxE x y r u j + o.getD j 0) else mxE x y r u j
def shf (x y : Int) (o r u : List Int) (i : Nat) : List Int := (List.range r.length).map (aAV x y o r u i)
theorem aTO (x y : Int) (o r u : List Int) : shf x y o r u 0 = mx x y r u := by
 unfold shf mx
 refine List.map_congr_left fun j _ => ?_
 unfold aAV
 rw [if_neg (by omega)]
theorem aE1 (x y : Int) (o r u : List Int) (i : Nat) {j : Nat} (h : j < r.length) : (shf x y o r u i).getD j 0 = aAV x y o r u i j := by
 unfold shf
 rw [List.getD_eq_getElem?_getD, List.getElem?_map, List.getElem?_range h]; rfl
theorem sY (x y : Int) (o r u : List Int) (i : Nat) : (shf x y o r u i).length = r.length := by simp [shf]
theorem aVG (x y : Int) (o r u : List Int) {i : Nat} (h : i < r.length) : (shf x y o r u i).set i (aL .i64 ((shf x y o r u i).getD i 0 + o.getD i 0)) = shf x y o r u (i + 1) := by
 rw [aE1 x y o r u i h]
 apply List.ext_getElem
 ·rw [List.length_set, sY, sY]
 ·intro j h1 h2
  rw [List.length_set, sY] at h1
  rw [List.getElem_set]
  have g : ∀ k, (shf x y o r u k)[j]'(by rw [sY]; exact h1) = aAV x y o r u k j := fun k => by simp [shf]
  rw [g (i + 1)]
  by_cases hij : i = j
  ·subst hij
   rw [if_pos rfl]
   unfold aAV
   rw [if_neg (by omega), if_pos (by omega)]
  ·rw [if_neg hij, g i]
   unfold aAV
   by_cases hlt : j < i
   ·rw [if_pos hlt, if_pos (by omega)]
   ·rw [if_neg hlt, if_neg (by omega)]
def shL (l : Lay) (x y : Int) : Lay := (l.1, shf x y l.2.1 l.2.2.1 l.2.2.2 l.2.2.1.length, l.2.2.1, l.2.2.2)
theorem a0R {l : Lay} (x y : Int) (h0 : l.2.1.length = l.2.2.1.length) (h1 : l.2.2.2.length = l.2.2.1.length) (h2 : l.2.2.1.length ≤ 1000) : f44 (l, x, y, ()) = some (shL l x y, ()) := by
 obtain ⟨k, o, r, u⟩ := l
 dsimp only at h0 h1 h2
 have hc : ∀ s : List Int, s.length ≤ 1000 → aBT (s, ()) = some (s, ()) := fun s hs => by
  unfold aBT; dsimp only
  rw [kI, bT, if_pos (by omega)]
 have hloop : KS ((k, o, r, u), zL, (k, (shf x y o r u 0, (r, u))), (r.length : Int), 0, ()) = some (zL, (k, (shf x y o r u r.length, (r, u))), ()) := by
  refine fJ (N := 2 ^ 64) (step := K7) (fun i => ((k, o, r, u), zL, (k, (shf x y o r u i, (r, u))), (r.length : Int), (i : Int), ())) r.length _ (by omega) ?_ ?_
  ·intro i hi
   have hs := sY x y o r u i
   simp only [K7, aO, bD, c6, bT, Int.toNat_natCast]
   rw [if_pos (by omega), if_pos (by omega), if_pos (by omega), if_pos (by omega), if_pos (by omega), if_pos (by omega), fF i (by omega), aVG x y o r u hi]
  ·simp only [K7, aO, bT]
   rw [if_neg (by omega)]
 unfold f44; dsimp only
 rw [aVH h1 h2, aD, hc r h2, aD, hc u (by omega), aD]
 have hl : ((mx x y r u).length : Int) = (r.length : Int) := by rw [nI]
 show (aB (KS ((k, o, r, u), zL, (k, (mx x y r u, (r, u))), ((mx x y r u).length : Int), 0, ())) _) = _
 rw [hl, ← aTO x y o r u, hloop, aD]
 rfl
theorem aU1 {l : Lay} (x y : Int) (h0 : l.2.1.length = l.2.2.1.length) (h1 : l.2.2.2.length = l.2.2.1.length) (h2 : l.2.2.1.length ≤ 1000) (hc : ce l = 0) :
  aHK (l, x, y, ()) = some (if x < -1000 ∨ 1000 < x ∨ y < -1000 ∨ 1000 < y then (zL, 3, ()) else if rc (shL l x y).2.1 = 0 ∧ rc (shL l x y).2.2.1 = 0 ∧ rc (shL l x y).2.2.2 = 0 then (shL l x y, 0, ()) else (zL, 4, ())) := by
 have h24 := aJW l
 rw [hc] at h24
 unfold aHK
 show (aB (f24 (l, ())) _) = _
 rw [h24, aD]
 show (bif ltI x (-1000) then some (zL, 3, ()) else bif ltI 1000 x then some (zL, 3, ()) else bif ltI y (-1000) then some (zL, 3, ()) else bif ltI 1000 y then some (zL, 3, ()) else aB (f44 (l, x, y, ())) fun y2 => aB (f39 (y2.1, ())) fun y3 => some (y3.1, y3.2.1, ())) = _
 simp only [aO, bT]
 by_cases g1 : x < -1000
 ·rw [if_pos g1, if_pos (.inl g1)]
 ·rw [if_neg g1]
  by_cases g2 : 1000 < x
  ·rw [if_pos g2, if_pos (.inr (.inl g2))]
  ·rw [if_neg g2]
   by_cases g3 : y < -1000
   ·rw [if_pos g3, if_pos (.inr (.inr (.inl g3)))]
   ·rw [if_neg g3]
    by_cases g4 : 1000 < y
    ·rw [if_pos g4, if_pos (.inr (.inr (.inr g4)))]
    ·rw [if_neg g4, if_neg (by omega), a0R x y h0 h1 h2, aD]
     show (aB (f39 (shL l x y, ())) _) = _
     rw [aK6, aD]
end Go.PM
set_option linter.unusedSimpArgs false
set_option linter.unusedVariables false
namespace Go.PM
open Go Go.RowKit Go.Proofs
set_option maxRecDepth 100000
def Dn (u : Nat) : ByteArray := ⟨(Lib.decDigits u).toArray⟩
def Zn (n : Int) : ByteArray := ⟨(Lib.itoa n).toArray⟩
theorem pZ (u : Nat) : (Dn u).data.toList = Lib.decDigits u := by simp [Dn]
theorem aXA (n : Int) : (Zn n).data.toList = Lib.itoa n := by simp [Zn]
theorem NI (u : Nat) : Zn (u : Int) = Dn u := by unfold Zn Dn; rw [Lib.itoa_nonneg]
theorem aHJ {n : Int} (h : n.natAbs < 10 ^ 20) : aGN n = Zn n := XJ h
theorem G7 {n : Int} (h : n < 0) : (Zn n).data.toList = 45 :: Lib.decDigits n.natAbs := by
 rw [aXA, Lib.itoa, if_pos h]
theorem GN {n : Int} (h : 0 ≤ n) : Zn n = Dn n.natAbs := by
 obtain ⟨u, rfl⟩ : ∃ u : Nat, n = u := ⟨n.natAbs, by omega⟩
 rw [NI]; congr 1
theorem CF {a b : ByteArray} (h : a.data.toList = b.data.toList) : a = b := by
 cases a; cases b
 congr 1
 exact Array.ext' h
theorem FF (a : ByteArray) : a.size = a.data.toList.length := by
 cases a; rfl
theorem XV (l m : List UInt8) : ∀ (acc : Nat), Lib.decFrom acc (l ++ m) = (Lib.decFrom acc l).bind fun a => Lib.decFrom a m := by
 induction l with
 | nil => intro acc; rfl
 | cons b l ih =>
  intro acc
  rw [List.cons_append, Lib.decFrom, Lib.decFrom]
  split
  ·exact ih _
  ·rfl
theorem aB8 {d : Nat} (h : d < 10) : Lib.digitVal (UInt8.ofNat (48 + d)) = some d := by
 have h1 : (UInt8.ofNat (48 + d)).toNat = 48 + d := by
  rw [UInt8.toNat_ofNat']
  omega
 unfold Lib.digitVal
 rw [h1, if_pos (by omega)]
 congr 1
 omega
theorem iP (u : Nat) : Lib.decFrom 0 (Lib.decDigits u) = some u := by
 induction u using Nat.strongRecOn with
 | _ u ih =>
  rw [Lib.decDigits]
  split
  ·rename_i h
   rw [Lib.decFrom, aB8 h]
   simp [Lib.decFrom]
  ·rename_i h
   rw [XV, ih (u / 10) (by omega)]
   simp only [Option.bind_some]
   rw [Lib.decFrom, aB8 (Nat.mod_lt _ (by decide))]
   simp only [Lib.decFrom]
   congr 1
   omega
theorem uJ (u : Nat) : Lib.decDigits u ≠ [] := by
 rw [Lib.decDigits]
 split <;> simp
theorem wN (u : Nat) : ∀ b ∈ Lib.decDigits u, 48 ≤ b.toNat ∧ b.toNat ≤ 57 := by
 induction u using Nat.strongRecOn with
 | _ u ih =>
  intro b hb
  rw [Lib.decDigits] at hb
  have key : ∀ d, d < 10 → 48 ≤ (UInt8.ofNat (48 + d)).toNat ∧ (UInt8.ofNat (48 + d)).toNat ≤ 57 := fun d h => by
   rw [UInt8.toNat_ofNat']; omega
  split at hb
  ·rename_i h
   simp only [List.mem_singleton] at hb
   subst hb
   exact key u h
  ·rename_i h
   simp only [List.mem_append, List.mem_singleton] at hb
   rcases hb with hb | rfl
   ·exact ih (u / 10) (by omega) b hb
   ·exact key _ (Nat.mod_lt _ (by decide))
theorem aS0 {a b : Nat} (h : Dn a = Dn b) : a = b := by
 have h1 := congrArg (fun x : ByteArray => Lib.decFrom 0 x.data.toList) h
 simp only [pZ, iP] at h1
 exact Option.some.inj h1
theorem UU {n : Int} (h : n < 0) (m : Nat) : Zn n ≠ Dn m := by
 intro e
 have h1 := congrArg (fun x : ByteArray => x.data.toList) e
 simp only [G7 h, pZ] at h1
 have := wN m 45 (by rw [← h1]; simp)
 have e45 : (45 : UInt8).toNat = 45 := by decide
 omega
theorem aYJ {a b : Int} (h : Zn a = Zn b) : a = b := by
 rcases (by omega : a < 0 ∨ 0 ≤ a) with ha | ha
 ·rcases (by omega : b < 0 ∨ 0 ≤ b) with hb | hb
  ·have h1 := congrArg (fun x : ByteArray => x.data.toList) h
   simp only [G7 ha, G7 hb, List.cons.injEq, true_and] at h1
   have h2 := congrArg (Lib.decFrom 0) h1
   rw [iP, iP] at h2
   have := Option.some.inj h2
   omega
  ·rw [GN hb] at h
   exact absurd h (UU ha _)
 ·rcases (by omega : b < 0 ∨ 0 ≤ b) with hb | hb
  ·rw [GN ha] at h
   exact absurd h.symm (UU hb _)
  ·rw [GN ha, GN hb] at h
   have := aS0 h
   omega
theorem aRL (a b : ByteArray) : eqS a b = decide (a = b) := by
 unfold eqS
 by_cases h : a = b
 ·subst h; simp
 ·have : ¬ a.data = b.data := fun e => h (CF (by rw [e]))
  simp [h, this]
theorem a5J : ByteArray.mk #[48] = Dn 0 := CF (by rw [pZ, Lib.decDigits]; rfl)
theorem a41 : ByteArray.mk #[49] = Dn 1 := CF (by rw [pZ, Lib.decDigits]; rfl)
theorem wM (n : Int) : eqS (Zn n) (ByteArray.mk #[48]) = decide (n = 0) := by
 rw [aRL, a5J, show Dn 0 = Zn 0 from (NI 0).symm]
 by_cases h : n = 0
 ·subst h; simp
 ·have : ¬ Zn n = Zn 0 := fun e => h (aYJ e)
  simp [h, this]
theorem aEV (n : Nat) : eqS (Dn n) (ByteArray.mk #[48]) = decide (n = 0) := by
 rw [← NI, wM]
 simp
theorem zX (u : Nat) : (Dn u).size = Lib.nDigits u := by rw [FF, pZ, Lib.decDigits_length]
theorem xM {n : Int} (h : n < 0) : (Zn n).size = Lib.nDigits n.natAbs + 1 := by rw [FF, G7 h, List.length_cons, Lib.decDigits_length]
theorem jT {u k : Nat} : u < 10 ^ (k + 1) → Lib.nDigits u ≤ k + 1 := by
 induction k generalizing u with
 | zero => intro h; rw [Lib.nDigits_small (by simpa using h)]; exact Nat.le_refl _
 | succ k ih =>
  intro h
  by_cases h1 : u < 10
  ·rw [Lib.nDigits_small h1]; omega
  ·rw [Lib.nDigits_big h1]
   have := ih (u := u / 10) (by rw [Nat.pow_succ] at h; omega)
   omega
theorem j8 (u : Nat) : u < 10 ^ Lib.nDigits u := by
 have := Lib.decFrom_lt _ _ _ (iP u)
 rw [Lib.decDigits_length] at this
 simpa using this
theorem nDigits_pos (u : Nat) : 1 ≤ Lib.nDigits u := by
 rw [Lib.nDigits]; split <;> omega

theorem aVC (n : Int) : Lib.atoi (Zn n).data.toList = some n := by
 rcases (by omega : n < 0 ∨ 0 ≤ n) with h | h
 ·rw [G7 h]
  have hne : (Lib.decDigits n.natAbs).isEmpty = false := by
   cases e : Lib.decDigits n.natAbs with
   | nil => exact absurd e (uJ _)
   | cons _ _ => rfl
  simp only [Lib.atoi, Lib.decNat, hne, iP]
  simp
  omega
 ·rw [GN h, pZ]
  have h1 := iP n.natAbs
  have h2 := wN n.natAbs
  cases e : Lib.decDigits n.natAbs with
  | nil => exact absurd e (uJ _)
  | cons b r =>
   rw [e] at h1 h2
   have hb := h2 b (by simp)
   have n45 : (b == 45) = false := by
    rw [beq_eq_false_iff_ne]; rintro rfl
    have : (45 : UInt8).toNat = 45 := by decide
    omega
   have n43 : (b == 43) = false := by
    rw [beq_eq_false_iff_ne]; rintro rfl
    have : (43 : UInt8).toNat = 43 := by decide
    omega
   simp only [Lib.atoi, n45, n43, Lib.decNat, h1]
   simp
   omega
theorem aCI (u : Nat) : Lib.decNat (Dn u).data.toList = some u := by
 have hne : (Lib.decDigits u).isEmpty = false := by
  cases e : Lib.decDigits u with
  | nil => exact absurd e (uJ _)
  | cons _ _ => rfl
 simp only [pZ, Lib.decNat, hne, iP]
 simp
theorem NC : ∀ (l : List UInt8) (acc n : Nat), Lib.decFrom acc l = some n → acc * 10 ^ l.length ≤ n
 | [], acc, n, h => by
  obtain rfl := Option.some.inj h
  simp
 | b :: l, acc, n, h => by
  rw [Lib.decFrom] at h
  split at h
  ·rename_i d hd
   have := NC l _ n h
   rw [List.length_cons, Nat.pow_succ]
   have h1 : (acc * 10 + d) * 10 ^ l.length = acc * (10 ^ l.length * 10) + d * 10 ^ l.length := by grind
   omega
  ·cases h
theorem ES : ∀ (l m : List UInt8) (acc x y : Nat), l.length = m.length → Lib.decFrom acc l = some x → Lib.decFrom acc m = some y → Op.bytesLess l m = decide (x < y)
 | [], [], acc, x, y, _, h1, h2 => by
  obtain rfl := Option.some.inj h1
  obtain rfl := Option.some.inj h2
  simp [Op.bytesLess]
 | [], _ :: _, _, _, _, h, _, _ => by simp at h
 | _ :: _, [], _, _, _, h, _, _ => by simp at h
 | c :: l, d :: m, acc, x, y, h, h1, h2 => by
  have hl : l.length = m.length := by simpa using h
  have digit : ∀ (b : UInt8) (e : Nat), Lib.digitVal b = some e → b.toNat = 48 + e ∧ e < 10 := by
   intro b e he
   unfold Lib.digitVal at he
   split at he
   ·have := Option.some.inj he
    omega
   ·cases he
  rw [Lib.decFrom] at h1 h2
  split at h1
  ·rename_i e1 he1
   split at h2
   ·rename_i e2 he2
    obtain ⟨c1, c2⟩ := digit c e1 he1
    obtain ⟨d1, d2⟩ := digit d e2 he2
    have x1 := Lib.decFrom_lt l _ x h1
    have x2 := NC l _ x h1
    have y1 := Lib.decFrom_lt m _ y h2
    have y2 := NC m _ y h2
    rw [hl] at x1 x2
    rw [Op.bytesLess]
    rcases Nat.lt_trichotomy e1 e2 with g | g | g
    ·have lt : c < d := by rw [UInt8.lt_iff_toNat_lt]; omega
     have : (acc * 10 + e1 + 1) * 10 ^ m.length ≤ (acc * 10 + e2) * 10 ^ m.length := Nat.mul_le_mul_right _ (by omega)
     have hxy : x < y := by omega
     simp [lt, hxy]
    ·subst g
     have e : c = d := UInt8.toNat_inj.1 (by omega)
     subst e
     have lt : ¬ c < c := by rw [UInt8.lt_iff_toNat_lt]; omega
     simp [lt, ES l m _ x y hl h1 h2]
    ·have lt : ¬ c < d := by rw [UInt8.lt_iff_toNat_lt]; omega
     have ne : ¬ c = d := by rintro rfl; omega
     have : (acc * 10 + e2 + 1) * 10 ^ m.length ≤ (acc * 10 + e1) * 10 ^ m.length := Nat.mul_le_mul_right _ (by omega)
     have hxy : ¬ x < y := by omega
     simp [lt, ne, hxy]
   ·cases h2
  ·cases h1
theorem aZF {a b : Nat} (h : Lib.nDigits a = Lib.nDigits b) : ltS (Dn a) (Dn b) = decide (a < b) := by
 unfold ltS
 rw [pZ, pZ]
 exact ES _ _ 0 a b (by rw [Lib.decDigits_length, Lib.decDigits_length, h]) (iP a) (iP b)
theorem qD {a b : Nat} (h : a ≤ b) : Lib.nDigits a ≤ Lib.nDigits b := by
 obtain ⟨k, hk⟩ : ∃ k, Lib.nDigits b = k + 1 := ⟨Lib.nDigits b - 1, by have := nDigits_pos b; omega⟩
 rw [hk]
 refine jT (Nat.lt_of_le_of_lt h ?_)
 rw [← hk]
 exact j8 b
theorem a2H (a b : Nat) : eqS (Dn a) (Dn b) = decide (a = b) := by
 rw [aRL]
 by_cases h : a = b
 ·subst h; simp
 ·have : ¬ Dn a = Dn b := fun e => h (aS0 e)
  simp [h, this]
def O8 (a b : Nat) : Int := if a < b then -1 else if b < a then 1 else 0
theorem pJ (a b : Nat) (ha : Lib.nDigits a < 2 ^ 32) (hb : Lib.nDigits b < 2 ^ 32) : cP (Dn a, Dn b, ()) = some (O8 a b, ()) := by
 unfold cP
 dsimp only
 rw [zX, zX]
 have hpa := nDigits_pos a
 have hpb := nDigits_pos b
 by_cases h : Lib.nDigits a = Lib.nDigits b
 ·have h1 : eqI (Lib.nDigits a : Int) (Lib.nDigits b : Int) = true := by rw [eV]; simp [h]
  rw [h1, aZF h, a2H]
  simp only [Bool.not_true, cond_false]
  unfold O8
  by_cases h2 : a < b
  ·simp [h2]
  ·by_cases h3 : a = b
   ·subst h3; simp
   ·have : b < a := by omega
    simp [h2, h3, this]
 ·have h1 : eqI (Lib.nDigits a : Int) (Lib.nDigits b : Int) = false := by rw [eV]; simp; omega
  rw [h1]
  simp only [Bool.not_false, cond_true]
  rw [wrap64 (by omega) (by omega)]
  congr 2
  unfold O8
  by_cases h2 : a < b
  ·have := qD (Nat.le_of_lt h2)
   have h4 : ¬ (-1 : Int) < (Lib.nDigits a : Int) - (Lib.nDigits b : Int) := by omega
   rw [if_pos h2, if_neg h4]
   rfl
  ·have h3 : b < a := by
    rcases Nat.lt_or_ge b a with g | g
    ·exact g
    ·have : a = b := by omega
     subst this; exact absurd rfl h
   have := qD (Nat.le_of_lt h3)
   have h4 : (-1 : Int) < (Lib.nDigits a : Int) - (Lib.nDigits b : Int) := by omega
   have h5 : ¬ (Lib.nDigits a : Int) - (Lib.nDigits b : Int) < 1 := by omega
   rw [if_neg h2, if_pos h3, if_pos h4, if_neg h5]

/-! whole -/
theorem nW (n : Int) (h1 : -9223372036854775808 ≤ n) (h2 : n < 9223372036854775808) : gF (n, ()) = some (Zn n, ()) := by
 unfold gF sJ
 have e1 : ltI n (-9223372036854775808) = false := by rw [aO]; simp; omega
 have e2 : ltI 9223372036854775807 n = false := by rw [aO]; simp; omega
 simp only [e1, e2, Bool.not_false, Bool.and_self, cond_true, aD, aHJ (n := n) (by omega)]
theorem A4 (u : Nat) (h : u < 18446744073709551616) : kW ((u : Int), ()) = some (Dn u, ()) := by
 unfold kW kM
 have e1 : ltI (u : Int) 0 = false := by rw [aO]; simp
 have e2 : ltI (u : Int) 18446744073709551616 = true := by rw [aO]; simp; omega
 have e3 : eqI 10 10 = true := by decide
 simp only [e1, e2, e3, Bool.not_false, Bool.and_self, cond_true, aD, aHJ (n := (u : Int)) (by simp; omega), NI]
theorem M7 (u : Nat) (h : Lib.nDigits u ≤ 18) : lH (Dn u, ()) = some ((u : Int), true, ()) := by
 unfold lH lM
 have e1 : Nat.ble (Dn u).size 1000000000 = true := by rw [kI, zX]; simp; omega
 have e2 : eqI 10 10 = true := by decide
 have e3 : eqI 64 64 = true := by decide
 have e4 : Lib.parseUintB 64 (Dn u).data.toList = .ok u := by
  rw [Lib.parseUintB_64, Lib.parseMag_short _ (by rw [pZ, Lib.decDigits_length]; exact h), aCI]
  rfl
 simp only [e1, e2, e3, Bool.and_self, cond_true, aD, e4]
theorem zE (a b : Nat) (ha : Lib.nDigits a ≤ 18) (hb : Lib.nDigits b ≤ 18) : kA (Dn a, Dn b, ()) = some ((a : Int), (b : Int), true, ()) := by
 unfold kA
 have e1 : ltI 18 ((Dn a).size : Int) = false := by rw [aO, zX]; simp; omega
 have e2 : ltI 18 ((Dn b).size : Int) = false := by rw [aO, zX]; simp; omega
 simp only [e1, e2, cond_false, M7 a ha, M7 b hb, aD]
theorem LU {s : ByteArray} {c : UInt8} {l : List UInt8} (h : s.data.toList = c :: l) : aB0 s 0 = (c.toNat : Int) := by
 have h1 : s[0]? = some c := by
  have h2 : s.size = l.length + 1 := by rw [FF, h]; rfl
  have h3 : s.data[0]? = some c := by
   rw [← Array.getElem?_toList, h]; rfl
  have h4 : s[0]? = s.data[0]? := by
   cases s; rfl
  rw [h4, h3]
 unfold aB0
 rw [h1]
theorem aMF (u : Nat) : ∃ c l, (Dn u).data.toList = c :: l ∧ c.toNat ≠ 45 := by
 have h := wN u
 rw [pZ]
 cases e : Lib.decDigits u with
 | nil => exact absurd e (uJ _)
 | cons c l =>
  rw [e] at h
  have := h c (by simp)
  exact ⟨c, l, rfl, by omega⟩
theorem aDX {s : ByteArray} {c : UInt8} {l : List UInt8} (h : s.data.toList = c :: l) : s.extract 1 s.size = ⟨l.toArray⟩ := by
 refine CF ?_
 have h1 : (s.extract 1 s.size).data = s.data.extract 1 s.data.size := ByteArray.data_extract
 rw [h1, Array.toList_extract, List.extract_eq_take_drop, h]
 have h2 : s.data.size = l.length + 1 := by rw [← Array.length_toList, h]; rfl
 rw [h2]
 simp
theorem kX (n : Int) : bK (Zn n, ()) = some (decide (n < 0), Dn n.natAbs, ()) := by
 unfold bK
 by_cases h : n < 0
 ·have hz := G7 h
  have e1 : ltI 0 ((Zn n).size : Int) = true := by rw [aO, xM h]; simp <;> omega
  have e2 : aQ 0 (Zn n).size = true := by rw [bD, xM h]; simp <;> omega
  have e3 : aB0 (Zn n) 0 = 45 := by rw [LU hz]; rfl
  have e4 : Nat.ble 1 (Zn n).size = true := by rw [kI, xM h]; simp
  have e5 : Nat.ble (Zn n).size (Zn n).size = true := by rw [kI]; simp
  have e6 : eqI 45 45 = true := by decide
  simp only [e1, e2, e3, e4, e5, e6, cond_true, aDX hz, h, decide_true, Dn]
 ·rw [GN (by omega)]
  obtain ⟨c, l, h1, h2⟩ := aMF n.natAbs
  have hs : (Dn n.natAbs).size = l.length + 1 := by rw [FF, h1]; rfl
  have e1 : ltI 0 ((Dn n.natAbs).size : Int) = true := by rw [aO, hs]; simp <;> omega
  have e2 : aQ 0 (Dn n.natAbs).size = true := by rw [bD, hs]; simp <;> omega
  have e3 : eqI (aB0 (Dn n.natAbs) 0) 45 = false := by rw [LU h1, eV]; simp <;> omega
  simp only [e1, e2, e3, cond_true, cond_false, h, decide_false]
theorem YQ (b : Bool) (m : Nat) (hm : Lib.nDigits m < 2 ^ 32) : aA (b, Dn m, ()) = some (Zn (if b then -(m : Int) else m), ()) := by
 unfold aA
 cases b with
 | false => simp [NI]
 | true =>
  have e2 : Nat.ble ((ByteArray.mk #[45]).size + (Dn m).size) 9223372036854775807 = true := by
   rw [kI, zX]
   have : (ByteArray.mk #[45]).size = 1 := rfl
   rw [this]; simp <;> omega
  simp only [cond_true, aEV, e2]
  by_cases h : m = 0
  ·subst h
   simp only [decide_true, Bool.not_true, cond_false]
   simp only [if_true]
   have : -((0 : Nat) : Int) = ((0 : Nat) : Int) := rfl
   rw [this, NI]
  ·simp only [h, decide_false, Bool.not_false, cond_true]
   simp only [if_true]
   congr 2
   refine CF ?_
   rw [G7 (by omega), Joins.data_append, pZ]
   have : (-(m : Int)).natAbs = m := by omega
   rw [this]
   rfl
theorem iB (m : Nat) (hm : Lib.nDigits m < 2 ^ 32) : aA (true, Dn m, ()) = some (Zn (-(m : Int)), ()) := (YQ true m hm).trans (by simp)
theorem kB (m : Nat) (hm : Lib.nDigits m < 2 ^ 32) : aA (false, Dn m, ()) = some (Zn (m : Int), ()) := (YQ false m hm).trans (by simp)
theorem rA (n k : Int) (hk : k ≤ 18) : gV (Zn n, k, ()) = if ((Zn n).size : Int) ≤ k then some (n, true, ()) else some (0, false, ()) := by
 unfold gV
 by_cases h : ((Zn n).size : Int) ≤ k
 ·have e1 : ltI k ((Zn n).size : Int) = false := by rw [aO]; simp <;> omega
  have e2 : Nat.ble (Zn n).size 18 = true := by rw [kI]; simp <;> omega
  rw [if_pos h]
  simp only [e1, cond_false, sA, e2, cond_true, aVC, aD]
 ·have e1 : ltI k ((Zn n).size : Int) = true := by rw [aO]; simp <;> omega
  rw [if_neg h]
  simp only [e1, cond_true]
theorem NS (n : Int) : mE (Zn n, ()) = some (n.sign, ()) := by
 unfold mE
 simp only [wM]
 by_cases h0 : n = 0
 ·subst h0; simp
 ·by_cases h : n < 0
  ·have hz := G7 h
   have e2 : aQ 0 (Zn n).size = true := by rw [bD, xM h]; simp <;> omega
   have e3 : aB0 (Zn n) 0 = 45 := by rw [LU hz]; rfl
   have e6 : eqI 45 45 = true := by decide
   simp only [h0, decide_false, cond_false, e2, e3, e6, cond_true, Int.sign_eq_neg_one_of_neg h]
  ·rw [GN (by omega)]
   obtain ⟨c, l, h1, h2⟩ := aMF n.natAbs
   have hs : (Dn n.natAbs).size = l.length + 1 := by rw [FF, h1]; rfl
   have e2 : aQ 0 (Dn n.natAbs).size = true := by rw [bD, hs]; simp <;> omega
   have e3 : eqI (aB0 (Dn n.natAbs) 0) 45 = false := by rw [LU h1, eV]; simp <;> omega
   simp only [h0, decide_false, cond_false, e2, e3, cond_true, Int.sign_eq_one_of_pos (show 0 < n by omega)]
theorem aC3 (n : Int) (h : Lib.nDigits n.natAbs < 2 ^ 32) : sX (Zn n, ()) = some (Zn (-n), ()) := by
 unfold sX
 simp only [kX n, aD]
 by_cases h0 : n < 0
 ·simp only [h0, decide_true, cond_true, kB _ h, aD]
  have : (n.natAbs : Int) = -n := by omega
  rw [this]
 ·simp only [h0, decide_false, cond_false, iB _ h, aD]
  have : -(n.natAbs : Int) = -n := by omega
  rw [this]
theorem aC8 (n : Int) : sO (Zn n, ()) = some (Zn (n.natAbs : Int), ()) := by
 unfold sO
 simp only [kX n, aD, NI]
theorem aA6 (a b : Nat) (ha : Lib.nDigits a < 2 ^ 32) (hb : Lib.nDigits b < 2 ^ 32) : oA (Zn (a : Int), Zn (b : Int), ()) = some (O8 a b, ()) := by
 unfold oA
 have sg : ∀ n : Nat, (n : Int).sign = if n = 0 then 0 else 1 := fun n => by
  by_cases h : n = 0
  ·subst h; rfl
  ·rw [if_neg h, Int.sign_eq_one_of_pos (by omega)]
 simp only [NS (a : Int), NS (b : Int), kX (a : Int), kX (b : Int), aD, sg]
 have e0 : ∀ n : Nat, decide ((n : Int) < 0) = false := fun n => by simp
 by_cases h1 : a = 0
 ·by_cases h2 : b = 0
  ·have e : eqI 0 0 = true := by decide
   simp only [h1, h2, if_true, e, Bool.not_true, cond_false, e0, Int.natAbs_natCast]
   have := pJ a b ha hb
   rw [h1, h2] at this
   simp only [this, aD]
  ·have : eqI 0 1 = false := by decide
   have e : ltI 0 1 = true := by decide
   simp only [h1, h2, if_true, if_false, this, e, Bool.not_false, cond_true]
   unfold O8
   rw [if_pos (by omega)]
 ·by_cases h2 : b = 0
  ·have : eqI 1 0 = false := by decide
   have e : ltI 1 0 = false := by decide
   simp only [h1, h2, if_true, if_false, this, e, Bool.not_false, cond_true, cond_false]
   unfold O8
   rw [if_neg (by omega), if_pos (by omega)]
  ·have e : eqI 1 1 = true := by decide
   simp only [h1, h2, if_false, e, Bool.not_true, cond_false, e0, Int.natAbs_natCast, pJ a b ha hb, aD]
end Go.PM
set_option linter.unusedSimpArgs false
set_option linter.unusedVariables false
namespace Go.PM
open Go Go.RowKit Go.Proofs
set_option maxRecDepth 100000
theorem KL {u : Nat} (h : Lib.nDigits u ≤ 18) : u < 1000000000000000000 := by
 have h1 := j8 u
 have h2 : 10 ^ Lib.nDigits u ≤ 10 ^ 18 := Nat.pow_le_pow_right (by decide) h
 omega
theorem aLR {x : Int} (h1 : 0 ≤ x) (h2 : x < 18446744073709551616) : aL .u64 x = x := by
 rw [ZM, IntKind.wrap_u64]
 omega
theorem CV (a b : Nat) (ha : Lib.nDigits a ≤ 18) (hb : Lib.nDigits b ≤ 18) : dN (Dn a, Dn b, ()) = some (Dn (a + b), ()) := by
 have h1 := KL ha
 have h2 := KL hb
 unfold dN
 simp only [zE a b ha hb, aD, cond_true]
 rw [aLR (by omega) (by omega)]
 have : (a : Int) + (b : Int) = ((a + b : Nat) : Int) := by omega
 rw [this, A4 _ (by omega)]
 rfl
theorem tR (a b : Nat) (ha : Lib.nDigits a ≤ 18) (hb : Lib.nDigits b ≤ 18) (h : b ≤ a) : bR (Dn a, Dn b, ()) = some (Dn (a - b), 0, ()) := by
 have h1 := KL ha
 have h2 := KL hb
 unfold bR
 have e : ltI (O8 a b) 0 = false := by
  rw [aO]; unfold O8
  rw [if_neg (by omega)]
  split <;> rfl
 simp only [pJ a b (by omega) (by omega), zE a b ha hb, aD, cond_true, e, cond_false]
 rw [aLR (by omega) (by omega)]
 have : (a : Int) - (b : Int) = ((a - b : Nat) : Int) := by omega
 rw [this, A4 _ (by omega)]
 rfl
theorem aIR (a b : Nat) (h : Lib.nDigits a + Lib.nDigits b ≤ 18) : dI (Dn a, Dn b, ()) = some (Dn (a * b), ()) := by
 have p1 := nDigits_pos a
 have p2 := nDigits_pos b
 have h3 : a * b < 1000000000000000000 := by
  have h1 := j8 a
  have h2 := j8 b
  have h4 : a * b < 10 ^ Lib.nDigits a * 10 ^ Lib.nDigits b := Nat.mul_lt_mul'' h1 h2
  rw [← Nat.pow_add] at h4
  have h5 : 10 ^ (Lib.nDigits a + Lib.nDigits b) ≤ 10 ^ 18 := Nat.pow_le_pow_right (by decide) h
  omega
 unfold dI
 have e : ltI 18 (aL .i64 (((Dn a).size : Int) + ((Dn b).size : Int))) = false := by
  rw [zX, zX, wrap64 (by omega) (by omega), aO]
  simp only [decide_eq_false_iff_not]
  omega
 simp only [e, Bool.not_false, cond_true, zE a b (by omega) (by omega), aD]
 have e2 : (a : Int) * (b : Int) = ((a * b : Nat) : Int) := by rw [Int.natCast_mul]
 rw [e2, aLR (by omega) (by omega), A4 _ (by omega)]
 rfl
theorem ZB (a b : Nat) (ha : Lib.nDigits a ≤ 18) (hb : Lib.nDigits b ≤ 18) (h : b ≠ 0) : jD (Dn a, Dn b, ()) = some (Dn (a / b), Dn (a % b), 0, ()) := by
 have h1 := KL ha
 have h2 := KL hb
 unfold jD
 have e1 : eqI (b : Int) 0 = false := by rw [eV]; simp; omega
 have q1 : (a : Int).tdiv (b : Int) = ((a / b : Nat) : Int) := rfl
 have q2 : (a : Int).tmod (b : Int) = ((a % b : Nat) : Int) := rfl
 have l1 : a / b ≤ a := Nat.div_le_self _ _
 have l2 : a % b ≤ a := Nat.mod_le _ _
 simp only [aEV, h, decide_false, cond_false, zE a b ha hb, aD, cond_true, e1, q1, q2]
 clear q1 q2
 generalize a / b = q at *
 generalize a % b = r at *
 rw [aLR (by omega) (by omega), A4 _ (by omega), aD, A4 _ (by omega)]
 rfl

theorem aNY (x y : Int) (hx : Lib.nDigits x.natAbs ≤ 18) (hy : Lib.nDigits y.natAbs ≤ 18) : wI (Zn x, Zn y, ()) = some (Zn (x + y), ()) := by
 have h1 := KL hx
 have h2 := KL hy
 have slow : (aB (bK (Zn x, ())) fun y4 => aB (bK (Zn y, ())) fun y5 =>
   bif y4.1 then
    bif y5.1 then
     aB (dN (y4.2.1, y5.2.1, ())) fun y6 =>
     aB (aA (y4.1, y6.1, ())) fun y7 =>
     some (y7.1, ())
    else aB (cP (y4.2.1, y5.2.1, ())) fun y8 =>
    bif ltI y8.1 0 then
     aB (bR (y5.2.1, y4.2.1, ())) fun y9 =>
     aB (aA (y5.1, y9.1, ())) fun y10 =>
     some (y10.1, ())
    else aB (bR (y4.2.1, y5.2.1, ())) fun y11 =>
    aB (aA (y4.1, y11.1, ())) fun y12 =>
    some (y12.1, ())
   else bif y5.1 then
    aB (cP (y4.2.1, y5.2.1, ())) fun y13 =>
    bif ltI y13.1 0 then
     aB (bR (y5.2.1, y4.2.1, ())) fun y14 =>
     aB (aA (y5.1, y14.1, ())) fun y15 =>
     some (y15.1, ())
    else aB (bR (y4.2.1, y5.2.1, ())) fun y16 =>
    aB (aA (y4.1, y16.1, ())) fun y17 =>
    some (y17.1, ())
   else aB (dN (y4.2.1, y5.2.1, ())) fun y18 =>
   aB (aA (y4.1, y18.1, ())) fun y19 =>
   some (y19.1, ())) = some (Zn (x + y), ()) := by
  simp only [kX x, kX y, aD]
  have dg : ∀ u : Nat, u < 2000000000000000000 → Lib.nDigits u < 2 ^ 32 := fun u hu => by
   have := jT (u := u) (k := 18) (by omega)
   omega
  have cm : ∀ a b : Nat, ltI (O8 a b) 0 = decide (a < b) := fun a b => by
   rw [aO]; unfold O8
   by_cases g : a < b
   ·simp [g]
   ·simp only [g, if_false]; split <;> simp
  rcases (by omega : x < 0 ∨ 0 ≤ x) with gx | gx
  ·rcases (by omega : y < 0 ∨ 0 ≤ y) with gy | gy
   ·simp only [gx, gy, decide_true, cond_true, CV _ _ hx hy, aD, iB (x.natAbs + y.natAbs) (dg _ (by omega))]
    have : -((x.natAbs + y.natAbs : Nat) : Int) = x + y := by omega
    rw [this]
   ·have gy' : ¬ y < 0 := by omega
    simp only [gx, gy', decide_true, decide_false, cond_true, cond_false, pJ x.natAbs y.natAbs (by omega) (by omega), aD, cm]
    by_cases g : x.natAbs < y.natAbs
    ·simp only [g, decide_true, cond_true, tR _ _ hy hx (Nat.le_of_lt g), aD, kB (y.natAbs - x.natAbs) (dg _ (by omega))]
     have : ((y.natAbs - x.natAbs : Nat) : Int) = x + y := by omega
     rw [this]
    ·simp only [g, decide_false, cond_false, tR _ _ hx hy (Nat.not_lt.1 g), aD, iB (x.natAbs - y.natAbs) (dg _ (by omega))]
     have : -((x.natAbs - y.natAbs : Nat) : Int) = x + y := by omega
     rw [this]
  ·have gx' : ¬ x < 0 := by omega
   rcases (by omega : y < 0 ∨ 0 ≤ y) with gy | gy
   ·simp only [gx', gy, decide_true, decide_false, cond_true, cond_false, pJ x.natAbs y.natAbs (by omega) (by omega), aD, cm]
    by_cases g : x.natAbs < y.natAbs
    ·simp only [g, decide_true, cond_true, tR _ _ hy hx (Nat.le_of_lt g), aD, iB (y.natAbs - x.natAbs) (dg _ (by omega))]
     have : -((y.natAbs - x.natAbs : Nat) : Int) = x + y := by omega
     rw [this]
    ·simp only [g, decide_false, cond_false, tR _ _ hx hy (Nat.not_lt.1 g), aD, kB (x.natAbs - y.natAbs) (dg _ (by omega))]
     have : ((x.natAbs - y.natAbs : Nat) : Int) = x + y := by omega
     rw [this]
   ·have gy' : ¬ y < 0 := by omega
    simp only [gx', gy', decide_false, cond_false, CV _ _ hx hy, aD, kB (x.natAbs + y.natAbs) (dg _ (by omega))]
    have : ((x.natAbs + y.natAbs : Nat) : Int) = x + y := by omega
    rw [this]
 unfold wI
 simp only [rA x 18 (by decide), rA y 18 (by decide), aD]
 by_cases g1 : ((Zn x).size : Int) ≤ 18
 ·simp only [g1, if_true, aD, cond_true]
  by_cases g2 : ((Zn y).size : Int) ≤ 18
  ·simp only [g2, if_true, aD, cond_true]
   rw [wrap64 (by omega) (by omega), nW _ (by omega) (by omega)]
   rfl
  ·simp only [g2, if_false, aD, cond_false]
   exact slow
 ·simp only [g1, if_false, aD, cond_false]
  exact slow
theorem aDH (x y : Int) (hx : Lib.nDigits x.natAbs ≤ 18) (hy : Lib.nDigits y.natAbs ≤ 18) : sP (Zn x, Zn y, ()) = some (Zn (x - y), ()) := by
 unfold sP
 simp only [aC3 y (by omega), aD]
 rw [aNY x (-y) hx (by rw [Int.natAbs_neg]; exact hy)]
 rfl

theorem aCD (x y : Int) (h : Lib.nDigits x.natAbs + Lib.nDigits y.natAbs ≤ 18) : sQ (Zn x, Zn y, ()) = some (Zn (x * y), ()) := by
 have p1 := nDigits_pos x.natAbs
 have p2 := nDigits_pos y.natAbs
 have hb : x.natAbs * y.natAbs < 1000000000000000000 := by
  have h1 := j8 x.natAbs
  have h2 := j8 y.natAbs
  have h4 : x.natAbs * y.natAbs < 10 ^ Lib.nDigits x.natAbs * 10 ^ Lib.nDigits y.natAbs := Nat.mul_lt_mul'' h1 h2
  rw [← Nat.pow_add] at h4
  have h5 : 10 ^ (Lib.nDigits x.natAbs + Lib.nDigits y.natAbs) ≤ 10 ^ 18 := Nat.pow_le_pow_right (by decide) h
  omega
 have hab : (x * y).natAbs = x.natAbs * y.natAbs := Int.natAbs_mul _ _
 have slow : (aB (bK ((Zn x), ())) fun y14 =>
  aB (bK ((Zn y), ())) fun y15 =>
  bif y14.1 then
   bif y15.1 then
    aB (dI (y14.2.1, y15.2.1, ())) fun y16 =>
    aB (aA (false, y16.1, ())) fun y17 =>
    some (y17.1, ())
   else aB (dI (y14.2.1, y15.2.1, ())) fun y18 =>
   aB (aA (true, y18.1, ())) fun y19 =>
   some (y19.1, ())
  else bif y15.1 then
   aB (dI (y14.2.1, y15.2.1, ())) fun y20 =>
   aB (aA (true, y20.1, ())) fun y21 =>
   some (y21.1, ())
  else aB (dI (y14.2.1, y15.2.1, ())) fun y22 =>
  aB (aA (false, y22.1, ())) fun y23 =>
  some (y23.1, ())) = some (Zn (x * y), ()) := by
  have dg : Lib.nDigits (x.natAbs * y.natAbs) < 2 ^ 32 := by
   have := jT (u := x.natAbs * y.natAbs) (k := 18) (by omega)
   omega
  have dm := aIR _ _ h
  simp only [kX x, kX y, aD, dm]
  rcases (by omega : x < 0 ∨ 0 ≤ x) with gx | gx
  ·rcases (by omega : y < 0 ∨ 0 ≤ y) with gy | gy
   ·have : ((x.natAbs * y.natAbs : Nat) : Int) = x * y := by
     rw [← hab]; have := Int.mul_pos_of_neg_of_neg gx gy; omega
    simp only [gx, gy, decide_true, cond_true, kB _ dg, aD, this]
   ·have gy' : ¬ y < 0 := by omega
    have : -((x.natAbs * y.natAbs : Nat) : Int) = x * y := by
     rw [← hab]; have := Int.mul_nonpos_of_nonpos_of_nonneg (Int.le_of_lt gx) gy; omega
    simp only [gx, gy', decide_true, decide_false, cond_true, cond_false, iB _ dg, aD, this]
  ·have gx' : ¬ x < 0 := by omega
   rcases (by omega : y < 0 ∨ 0 ≤ y) with gy | gy
   ·have : -((x.natAbs * y.natAbs : Nat) : Int) = x * y := by
     rw [← hab]; have := Int.mul_nonpos_of_nonneg_of_nonpos gx (Int.le_of_lt gy); omega
    simp only [gx', gy, decide_true, decide_false, cond_true, cond_false, iB _ dg, aD, this]
   ·have gy' : ¬ y < 0 := by omega
    have : ((x.natAbs * y.natAbs : Nat) : Int) = x * y := by
     rw [← hab]; have := Int.mul_nonneg gx gy; omega
    simp only [gx', gy', decide_false, cond_false, kB _ dg, aD, this]
 unfold sQ
 simp only [rA x 9 (by decide), rA y 9 (by decide), aD]
 by_cases g1 : ((Zn x).size : Int) ≤ 9
 ·simp only [g1, if_true, aD, cond_true]
  by_cases g2 : ((Zn y).size : Int) ≤ 9
  ·simp only [g2, if_true, aD, cond_true]
   rw [wrap64 (by omega) (by omega), nW _ (by omega) (by omega)]
   rfl
  ·simp only [g2, if_false, aD, cond_false]
   exact slow
 ·simp only [g1, if_false, aD, cond_false]
  exact slow

theorem iS {x y f g : Int} (h : x = y * f + g) (hp : 0 < y → 0 ≤ g ∧ g < y) (hn : y < 0 → y < g ∧ g ≤ 0) (h0 : y ≠ 0) : x.fdiv y = f ∧ x.fmod y = g := by
 have key : ∀ x y f g : Int, x = y * f + g → 0 < y → 0 ≤ g → g < y → x.fdiv y = f ∧ x.fmod y = g := by
  intro x y f g h hy h1 h2
  have e1 := Int.fmod_def x y
  have e2 := Int.fmod_nonneg_of_pos x hy
  have e3 := Int.fmod_lt_of_pos x hy
  have e4 : y * (x.fdiv y - f) = g - x.fmod y := by rw [Int.mul_sub]; omega
  have e5 : x.fdiv y - f = 0 := by
   rcases Int.lt_trichotomy (x.fdiv y - f) 0 with g1 | g1 | g1
   ·have : y * (x.fdiv y - f) ≤ y * (-1) := Int.mul_le_mul_of_nonneg_left (by omega) (by omega)
    omega
   ·exact g1
   ·have : y * 1 ≤ y * (x.fdiv y - f) := Int.mul_le_mul_of_nonneg_left (by omega) (by omega)
    omega
  rw [e5] at e4
  omega
 rcases Int.lt_or_gt_of_ne h0 with g1 | g1
 ·obtain ⟨h1, h2⟩ := hn g1
  have := key (-x) (-y) f (-g) (by rw [h]; grind) (by omega) (by omega) (by omega)
  rw [Int.neg_fdiv_neg, Int.neg_fmod_neg] at this
  omega
 ·obtain ⟨h1, h2⟩ := hp g1
  exact key x y f g h g1 h1 h2
theorem GO (x y : Int) (hx : Lib.nDigits x.natAbs ≤ 18) (hy : Lib.nDigits y.natAbs ≤ 18) (h0 : y ≠ 0) : kZ (Zn x, Zn y, ()) = some (Zn (x.fdiv y), Zn (x.fmod y), 0, ()) := by
 have b1 := KL hx
 have b2 := KL hy
 have slow : (aB (bK ((Zn x), ())) fun y68 =>
  aB (bK ((Zn y), ())) fun y69 =>
  aB (jD (y68.2.1, y69.2.1, ())) fun y70 =>
  bif !(eqI y70.2.2.1 0) then
   some ((ByteArray.mk #[]), (ByteArray.mk #[]), y70.2.2.1, ())
  else bif y68.1 then
   bif y69.1 then
    bif y68.1 then
     bif y69.1 then
      aB (aA (false, y70.1, ())) fun y71 =>
      aB (aA (y69.1, y70.2.1, ())) fun y72 =>
      some (y71.1, y72.1, 0, ())
     else aB (aA (true, y70.1, ())) fun y73 =>
     aB (aA (y69.1, y70.2.1, ())) fun y74 =>
     some (y73.1, y74.1, 0, ())
    else bif y69.1 then
     aB (aA (true, y70.1, ())) fun y75 =>
     aB (aA (y69.1, y70.2.1, ())) fun y76 =>
     some (y75.1, y76.1, 0, ())
    else aB (aA (false, y70.1, ())) fun y77 =>
    aB (aA (y69.1, y70.2.1, ())) fun y78 =>
    some (y77.1, y78.1, 0, ())
   else bif !(eqS y70.2.1 (ByteArray.mk #[48])) then
    aB (dN (y70.1, (ByteArray.mk #[49]), ())) fun y79 =>
    aB (bR (y69.2.1, y70.2.1, ())) fun y80 =>
    bif y68.1 then
     bif y69.1 then
      aB (aA (false, y79.1, ())) fun y81 =>
      aB (aA (y69.1, y80.1, ())) fun y82 =>
      some (y81.1, y82.1, 0, ())
     else aB (aA (true, y79.1, ())) fun y83 =>
     aB (aA (y69.1, y80.1, ())) fun y84 =>
     some (y83.1, y84.1, 0, ())
    else bif y69.1 then
     aB (aA (true, y79.1, ())) fun y85 =>
     aB (aA (y69.1, y80.1, ())) fun y86 =>
     some (y85.1, y86.1, 0, ())
    else aB (aA (false, y79.1, ())) fun y87 =>
    aB (aA (y69.1, y80.1, ())) fun y88 =>
    some (y87.1, y88.1, 0, ())
   else bif y68.1 then
    bif y69.1 then
     aB (aA (false, y70.1, ())) fun y89 =>
     aB (aA (y69.1, y70.2.1, ())) fun y90 =>
     some (y89.1, y90.1, 0, ())
    else aB (aA (true, y70.1, ())) fun y91 =>
    aB (aA (y69.1, y70.2.1, ())) fun y92 =>
    some (y91.1, y92.1, 0, ())
   else bif y69.1 then
    aB (aA (true, y70.1, ())) fun y93 =>
    aB (aA (y69.1, y70.2.1, ())) fun y94 =>
    some (y93.1, y94.1, 0, ())
   else aB (aA (false, y70.1, ())) fun y95 =>
   aB (aA (y69.1, y70.2.1, ())) fun y96 =>
   some (y95.1, y96.1, 0, ())
  else bif y69.1 then
   bif !(eqS y70.2.1 (ByteArray.mk #[48])) then
    aB (dN (y70.1, (ByteArray.mk #[49]), ())) fun y97 =>
    aB (bR (y69.2.1, y70.2.1, ())) fun y98 =>
    bif y68.1 then
     bif y69.1 then
      aB (aA (false, y97.1, ())) fun y99 =>
      aB (aA (y69.1, y98.1, ())) fun y100 =>
      some (y99.1, y100.1, 0, ())
     else aB (aA (true, y97.1, ())) fun y101 =>
     aB (aA (y69.1, y98.1, ())) fun y102 =>
     some (y101.1, y102.1, 0, ())
    else bif y69.1 then
     aB (aA (true, y97.1, ())) fun y103 =>
     aB (aA (y69.1, y98.1, ())) fun y104 =>
     some (y103.1, y104.1, 0, ())
    else aB (aA (false, y97.1, ())) fun y105 =>
    aB (aA (y69.1, y98.1, ())) fun y106 =>
    some (y105.1, y106.1, 0, ())
   else bif y68.1 then
    bif y69.1 then
     aB (aA (false, y70.1, ())) fun y107 =>
     aB (aA (y69.1, y70.2.1, ())) fun y108 =>
     some (y107.1, y108.1, 0, ())
    else aB (aA (true, y70.1, ())) fun y109 =>
    aB (aA (y69.1, y70.2.1, ())) fun y110 =>
    some (y109.1, y110.1, 0, ())
   else bif y69.1 then
    aB (aA (true, y70.1, ())) fun y111 =>
    aB (aA (y69.1, y70.2.1, ())) fun y112 =>
    some (y111.1, y112.1, 0, ())
   else aB (aA (false, y70.1, ())) fun y113 =>
   aB (aA (y69.1, y70.2.1, ())) fun y114 =>
   some (y113.1, y114.1, 0, ())
  else bif y68.1 then
   bif y69.1 then
    aB (aA (false, y70.1, ())) fun y115 =>
    aB (aA (y69.1, y70.2.1, ())) fun y116 =>
    some (y115.1, y116.1, 0, ())
   else aB (aA (true, y70.1, ())) fun y117 =>
   aB (aA (y69.1, y70.2.1, ())) fun y118 =>
   some (y117.1, y118.1, 0, ())
  else bif y69.1 then
   aB (aA (true, y70.1, ())) fun y119 =>
   aB (aA (y69.1, y70.2.1, ())) fun y120 =>
   some (y119.1, y120.1, 0, ())
  else aB (aA (false, y70.1, ())) fun y121 =>
  aB (aA (y69.1, y70.2.1, ())) fun y122 =>
  some (y121.1, y122.1, 0, ())) = some (Zn (x.fdiv y), Zn (x.fmod y), 0, ()) := by
  have dm := ZB _ _ hx hy (show y.natAbs ≠ 0 by omega)
  have ed : x.natAbs = y.natAbs * (x.natAbs / y.natAbs) + x.natAbs % y.natAbs := (Nat.div_add_mod _ _).symm
  have lm : x.natAbs % y.natAbs < y.natAbs := Nat.mod_lt _ (by omega)
  have lq : x.natAbs / y.natAbs ≤ x.natAbs := Nat.div_le_self _ _
  have e00 : eqI 0 0 = true := by decide
  simp only [kX x, kX y, aD, dm, e00, Bool.not_true, cond_false, aEV, a41]
  generalize x.natAbs / y.natAbs = q at *
  generalize x.natAbs % y.natAbs = r at *
  have dg : ∀ u : Nat, u < 2000000000000000000 → Lib.nDigits u < 2 ^ 32 := fun u hu => by
   have := jT (u := u) (k := 18) (by omega)
   omega
  have d18 : ∀ u : Nat, u < 1000000000000000000 → Lib.nDigits u ≤ 18 := fun u hu => jT (k := 17) (by omega)
  have edI : (x.natAbs : Int) = (y.natAbs : Int) * (q : Int) + (r : Int) := by rw [ed]; simp
  rcases (by omega : x < 0 ∨ 0 ≤ x) with gx | gx
  ·rcases (by omega : y < 0 ∨ 0 ≤ y) with gy | gy
   ·simp only [gx, gy, decide_true, cond_true, kB q (dg _ (by omega)), iB r (dg _ (by omega)), aD]
    have ex : x = y * (q : Int) + -(r : Int) := by
     have a1 : (x.natAbs : Int) = -x := by omega
     have a2 : (y.natAbs : Int) = -y := by omega
     rw [a1, a2] at edI
     grind
    obtain ⟨u1, u2⟩ := iS ex (by omega) (by omega) h0
    rw [u1, u2]
   ·have gy' : ¬ y < 0 := by omega
    by_cases hr : r = 0
    ·simp only [gx, gy', hr, decide_true, decide_false, Bool.not_true, cond_true, cond_false, iB q (dg _ (by omega)), kB 0 (dg _ (by omega)), aD]
     have ex : x = y * -(q : Int) + ((0 : Nat) : Int) := by
      have a1 : (x.natAbs : Int) = -x := by omega
      have a2 : (y.natAbs : Int) = y := by omega
      rw [a1, a2, hr] at edI
      grind
     obtain ⟨u1, u2⟩ := iS ex (by omega) (by omega) h0
     rw [u1, u2]
    ·simp only [gx, gy', hr, decide_true, decide_false, Bool.not_false, Bool.not_true, cond_true, cond_false, CV q 1 (d18 _ (by omega)) (d18 _ (by omega)), tR y.natAbs r hy (d18 _ (by omega)) (Nat.le_of_lt lm), iB (q + 1) (dg _ (by omega)), kB (y.natAbs - r) (dg _ (by omega)), aD]
     have ex : x = y * -((q + 1 : Nat) : Int) + ((y.natAbs - r : Nat) : Int) := by
      have a1 : (x.natAbs : Int) = -x := by omega
      have a2 : (y.natAbs : Int) = y := by omega
      have a3 : ((y.natAbs - r : Nat) : Int) = y - r := by omega
      have a4 : ((q + 1 : Nat) : Int) = (q : Int) + 1 := by omega
      rw [a1, a2] at edI
      rw [a3, a4]
      grind
     obtain ⟨u1, u2⟩ := iS ex (by omega) (by omega) h0
     rw [u1, u2]
  ·have gx' : ¬ x < 0 := by omega
   rcases (by omega : y < 0 ∨ 0 ≤ y) with gy | gy
   ·by_cases hr : r = 0
    ·simp only [gx', gy, hr, decide_true, decide_false, Bool.not_true, cond_true, cond_false, iB q (dg _ (by omega)), iB 0 (dg _ (by omega)), aD]
     have ex : x = y * -(q : Int) + -((0 : Nat) : Int) := by
      have a1 : (x.natAbs : Int) = x := by omega
      have a2 : (y.natAbs : Int) = -y := by omega
      rw [a1, a2, hr] at edI
      grind
     obtain ⟨u1, u2⟩ := iS ex (by omega) (by omega) h0
     rw [u1, u2]
    ·simp only [gx', gy, hr, decide_true, decide_false, Bool.not_false, Bool.not_true, cond_true, cond_false, CV q 1 (d18 _ (by omega)) (d18 _ (by omega)), tR y.natAbs r hy (d18 _ (by omega)) (Nat.le_of_lt lm), iB (q + 1) (dg _ (by omega)), iB (y.natAbs - r) (dg _ (by omega)), aD]
     have ex : x = y * -((q + 1 : Nat) : Int) + -((y.natAbs - r : Nat) : Int) := by
      have a1 : (x.natAbs : Int) = x := by omega
      have a2 : (y.natAbs : Int) = -y := by omega
      have a3 : ((y.natAbs - r : Nat) : Int) = -y - r := by omega
      have a4 : ((q + 1 : Nat) : Int) = (q : Int) + 1 := by omega
      rw [a1, a2] at edI
      rw [a3, a4]
      grind
     obtain ⟨u1, u2⟩ := iS ex (by omega) (by omega) h0
     rw [u1, u2]
   ·have gy' : ¬ y < 0 := by omega
    simp only [gx', gy', decide_true, decide_false, cond_false, kB q (dg _ (by omega)), kB r (dg _ (by omega)), aD]
    have ex : x = y * (q : Int) + (r : Int) := by
     have a1 : (x.natAbs : Int) = x := by omega
     have a2 : (y.natAbs : Int) = y := by omega
     rw [a1, a2] at edI
     exact edI
    obtain ⟨u1, u2⟩ := iS ex (by omega) (by omega) h0
    rw [u1, u2]
 unfold kZ
 simp only [rA x 18 (by decide), rA y 18 (by decide), aD, wM, h0, decide_false, cond_false]
 by_cases g1 : ((Zn x).size : Int) ≤ 18
 ·simp only [g1, if_true, aD, cond_true]
  by_cases g2 : ((Zn y).size : Int) ≤ 18
  ·simp only [g2, if_true, aD, cond_true]
   have e1 : eqI y 0 = false := by rw [eV]; simp [h0]
   have t1 : x = y * x.tdiv y + x.tmod y := (Int.mul_tdiv_add_tmod x y).symm
   have t2 : (x.tmod y).natAbs < y.natAbs := by rw [Int.natAbs_tmod]; exact Nat.mod_lt _ (by omega)
   have t3 : (x.tdiv y).natAbs ≤ x.natAbs := by rw [Int.natAbs_tdiv]; exact Nat.div_le_self _ _
   have t4 : 0 ≤ x → 0 ≤ x.tmod y := fun h => Int.tmod_nonneg y h
   have t5 : x ≤ 0 → x.tmod y ≤ 0 := fun h => by
    have := Int.tmod_nonneg (a := -x) y (by omega)
    rw [Int.neg_tmod] at this
    omega
   simp only [e1, cond_false, eV, aO]
   generalize x.tdiv y = q at *
   generalize x.tmod y = r at *
   by_cases hr : r = 0
   ·obtain ⟨u1, u2⟩ := iS (x := x) (y := y) (f := q) (g := r) t1 (by omega) (by omega) h0
    simp only [hr, decide_true, Bool.not_true, cond_false]
    rw [wrap64 (by omega) (by omega), nW _ (by omega) (by omega), aD, nW _ (by omega) (by omega), aD, u1, u2, hr]
   ·simp only [hr, decide_false, Bool.not_false, cond_true]
    by_cases r1 : r < 0
    ·by_cases y1 : y < 0
     ·obtain ⟨u1, u2⟩ := iS (x := x) (y := y) (f := q) (g := r) t1 (by omega) (by omega) h0
      simp only [r1, y1, decide_true, cond_true]
      rw [wrap64 (by omega) (by omega), nW _ (by omega) (by omega), aD, nW _ (by omega) (by omega), aD, u1, u2]
     ·obtain ⟨u1, u2⟩ := iS (x := x) (y := y) (f := q - 1) (g := r + y) (by grind) (by omega) (by omega) h0
      simp only [r1, y1, decide_true, decide_false, cond_true, cond_false]
      rw [wrap64 (x := q) (by omega) (by omega), wrap64 (by omega) (by omega), nW _ (by omega) (by omega), aD, wrap64 (by omega) (by omega), nW _ (by omega) (by omega), aD, u1, u2]
    ·by_cases y1 : y < 0
     ·obtain ⟨u1, u2⟩ := iS (x := x) (y := y) (f := q - 1) (g := r + y) (by grind) (by omega) (by omega) h0
      simp only [r1, y1, decide_true, decide_false, cond_true, cond_false]
      rw [wrap64 (x := q) (by omega) (by omega), wrap64 (by omega) (by omega), nW _ (by omega) (by omega), aD, wrap64 (by omega) (by omega), nW _ (by omega) (by omega), aD, u1, u2]
     ·obtain ⟨u1, u2⟩ := iS (x := x) (y := y) (f := q) (g := r) t1 (by omega) (by omega) h0
      simp only [r1, y1, decide_false, cond_false]
      rw [wrap64 (by omega) (by omega), nW _ (by omega) (by omega), aD, nW _ (by omega) (by omega), aD, u1, u2]
  ·simp only [g2, if_false, aD, cond_false]
   exact slow
 ·simp only [g1, if_false, aD, cond_false]
  exact slow
end Go.PM
set_option linter.unusedSimpArgs false
set_option linter.unusedVariables false
namespace Go.Lz
abbrev V := Nat → Int
inductive Sp (k : Nat) (M : Nat → V) : V → Prop
 | zero : Sp k M (fun _ => 0)
 | add {v : V} (j : Nat) (t : Int) : j < k → Sp k M v → Sp k M (fun i => v i + t * M j i)

theorem Sp.mem {k : Nat} {M : Nat → V} {j : Nat} (h : j < k) : Sp k M (M j) := by
 have := Sp.add j 1 h (Sp.zero (k := k) (M := M))
 simpa using this
theorem Sp.comb {k : Nat} {M : Nat → V} {u v : V} (t : Int) (hu : Sp k M u) (hv : Sp k M v) : Sp k M (fun i => u i + t * v i) := by
 induction hv with
 | zero => simpa using hu
 | add j s hj _ ih =>
  have := Sp.add j (t * s) hj ih
  refine cast (congrArg (Sp k M) ?_) this
  funext i
  grind
theorem Sp.sum {k : Nat} {M : Nat → V} {u v : V} (hu : Sp k M u) (hv : Sp k M v) : Sp k M (fun i => u i + v i) := by
 have := Sp.comb 1 hu hv
 simpa using this
theorem Sp.smul {k : Nat} {M : Nat → V} {v : V} (t : Int) (hv : Sp k M v) : Sp k M (fun i => t * v i) := by
 have := Sp.comb t Sp.zero hv
 simpa using this
theorem Sp.sub {k : Nat} {M : Nat → V} {u v : V} (hu : Sp k M u) (hv : Sp k M v) : Sp k M (fun i => u i - v i) := by
 have := Sp.comb (-1) hu hv
 refine cast (congrArg (Sp k M) ?_) this
 funext i
 grind
theorem Sp.trans {k k' : Nat} {M M' : Nat → V} (h : ∀ j, j < k → Sp k' M' (M j)) {v : V} (hv : Sp k M v) : Sp k' M' v := by
 induction hv with
 | zero => exact .zero
 | add j t hj _ ih => exact Sp.comb t ih (h j hj)
theorem Sp.PH {k : Nat} {M : Nat → V} {x : Nat} (h : ∀ j, j < k → M j x = 0) {v : V} (hv : Sp k M v) : v x = 0 := by
 induction hv with
 | zero => rfl
 | add j t hj _ ih => simp only [ih, h j hj, Int.mul_zero, Int.add_zero]
def Same (k : Nat) (M : Nat → V) (k' : Nat) (M' : Nat → V) : Prop := ∀ v, Sp k M v ↔ Sp k' M' v
theorem Same.refl (k : Nat) (M : Nat → V) : Same k M k M := fun _ => Iff.rfl
theorem Same.symm {k k' : Nat} {M M' : Nat → V} (h : Same k M k' M') : Same k' M' k M := fun v => (h v).symm
theorem Same.trans {k k' k'' : Nat} {M M' M'' : Nat → V} (h : Same k M k' M') (g : Same k' M' k'' M'') : Same k M k'' M'' := fun v => (h v).trans (g v)
theorem Same.of {k k' : Nat} {M M' : Nat → V} (h : ∀ j, j < k → Sp k' M' (M j)) (g : ∀ j, j < k' → Sp k M (M' j)) : Same k M k' M' := fun _ => ⟨Sp.trans h, Sp.trans g⟩
theorem Sp.first {k : Nat} {M : Nat → V} {v : V} (h : Sp (k + 1) M v) : ∃ t u, Sp k (fun i => M (i + 1)) u ∧ v = fun i => u i + t * M 0 i := by
 induction h with
 | zero => exact ⟨0, fun _ => 0, .zero, by funext i; simp⟩
 | add j s hj _ ih =>
  obtain ⟨t, u, hu, rfl⟩ := ih
  cases j with
  | zero => exact ⟨t + s, u, hu, by funext i; grind⟩
  | succ j => exact ⟨t, _, Sp.add j s (by omega) hu, by funext i; grind⟩
theorem Sp.behind {k : Nat} {M : Nat → V} {u : V} (h : Sp k (fun i => M (i + 1)) u) : Sp (k + 1) M u :=
 Sp.trans (fun j hj => Sp.mem (by omega)) h

structure Hn (k : Nat) (M : Nat → V) (c : Nat → Nat) : Prop where
 inc : ∀ i j, i < j → j < k → c i < c j
 low : ∀ i, i < k → ∀ x, x < c i → M i x = 0
 pos : ∀ i, i < k → 0 < M i (c i)
 red : ∀ i j, i < j → j < k → 0 ≤ M i (c j) ∧ M i (c j) < M j (c j)

theorem Hn.tail {k : Nat} {M : Nat → V} {c : Nat → Nat} (h : Hn (k + 1) M c) : Hn k (fun i => M (i + 1)) (fun i => c (i + 1)) where
 inc := fun i j hij hj => h.inc _ _ (by omega) (by omega)
 low := fun i hi => h.low _ (by omega)
 pos := fun i hi => h.pos _ (by omega)
 red := fun i j hij hj => h.red _ _ (by omega) (by omega)
theorem Hn.R9 {k : Nat} {M : Nat → V} {c : Nat → Nat} (h : Hn (k + 1) M c) {u : V} (hu : Sp k (fun i => M (i + 1)) u) {x : Nat} (hx : x ≤ c 0) : u x = 0 :=
 Sp.PH (fun j hj => h.low (j + 1) (by omega) x (by have := h.inc 0 (j + 1) (by omega) (by omega); omega)) hu

theorem Hn.small : ∀ {k : Nat} {M : Nat → V} {c : Nat → Nat}, Hn k M c → ∀ {v : V}, Sp k M v → (∀ i, i < k → -(M i (c i)) < v (c i) ∧ v (c i) < M i (c i)) → v = fun _ => 0
 | 0, M, c, h, v, hv, _ => by
  cases hv with
  | zero => rfl
  | add j t hj _ => omega
 | k + 1, M, c, h, v, hv, hs => by
  obtain ⟨t, u, hu, rfl⟩ := hv.first
  have h0 := h.R9 hu (Nat.le_refl _)
  have hp := h.pos 0 (by omega)
  have hs0 := hs 0 (by omega)
  simp only [h0, Int.zero_add] at hs0
  have ht : t = 0 := by
   rcases Int.lt_trichotomy t 0 with h1 | h1 | h1
   ·have : t * M 0 (c 0) ≤ (-1) * M 0 (c 0) := Int.mul_le_mul_of_nonneg_right (by omega) (by omega)
    omega
   ·exact h1
   ·have : 1 * M 0 (c 0) ≤ t * M 0 (c 0) := Int.mul_le_mul_of_nonneg_right (by omega) (by omega)
    omega
  subst ht
  have e : (fun i => u i + 0 * M 0 i) = u := by funext i; simp
  rw [e] at hs ⊢
  exact Hn.small h.tail hu fun i hi => hs (i + 1) (by omega)

theorem Hn.unique : ∀ {k k' : Nat} {M M' : Nat → V} {c c' : Nat → Nat}, Hn k M c → Hn k' M' c' → Same k M k' M' → k = k' ∧ (∀ i, i < k → c i = c' i) ∧ ∀ i, i < k → M i = M' i
 | 0, 0, _, _, _, _, _, _, _ => ⟨rfl, fun i hi => by omega, fun i hi => by omega⟩
 | 0, k' + 1, M, M', c, c', h, h', e => by
  have := Hn.small h ((e _).2 (Sp.mem (M := M') (Nat.succ_pos k'))) (fun i hi => by omega)
  have hp := h'.pos 0 (by omega)
  rw [this] at hp
  simp at hp
 | k + 1, 0, M, M', c, c', h, h', e => by
  have := Hn.small h' ((e _).1 (Sp.mem (M := M) (Nat.succ_pos k))) (fun i hi => by omega)
  have hp := h.pos 0 (by omega)
  rw [this] at hp
  simp at hp
 | k + 1, k' + 1, M, M', c, c', h, h', e => by
  have hp := h.pos 0 (by omega)
  have hp' := h'.pos 0 (by omega)
  obtain ⟨t, u, hu, ht⟩ := Sp.first ((e _).1 (Sp.mem (M := M) (Nat.succ_pos k)))
  obtain ⟨t', u', hu', ht'⟩ := Sp.first ((e _).2 (Sp.mem (M := M') (Nat.succ_pos k')))
  have hc : c 0 = c' 0 := by
   rcases Nat.lt_trichotomy (c 0) (c' 0) with h1 | h1 | h1
   ·exfalso
    have a1 := congrFun ht (c 0)
    have a2 := h'.R9 hu (x := c 0) (by omega)
    have a3 := h'.low 0 (by omega) _ h1
    simp only [a2, a3, Int.mul_zero, Int.add_zero] at a1
    omega
   ·exact h1
   ·exfalso
    have a1 := congrFun ht' (c' 0)
    have a2 := h.R9 hu' (x := c' 0) (by omega)
    have a3 := h.low 0 (by omega) _ h1
    simp only [a2, a3, Int.mul_zero, Int.add_zero] at a1
    omega
  have e1 : M 0 (c 0) = t * M' 0 (c 0) := by
   have a1 := congrFun ht (c 0)
   have a2 := h'.R9 hu (x := c 0) (by omega)
   simpa [a2] using a1
  have e2 : M' 0 (c 0) = t' * M 0 (c 0) := by
   have a1 := congrFun ht' (c 0)
   have a2 := h.R9 hu' (x := c 0) (by omega)
   simpa [a2] using a1
  rw [← hc] at hp'
  have e3 : M 0 (c 0) = M' 0 (c 0) := Int.le_antisymm (Int.le_of_dvd hp' ⟨t', by rw [e2]; exact Int.mul_comm _ _⟩) (Int.le_of_dvd hp ⟨t, by rw [e1]; exact Int.mul_comm _ _⟩)
  have tails : Same k (fun i => M (i + 1)) k' (fun i => M' (i + 1)) := by
   intro v
   constructor
   ·intro hv
    obtain ⟨s, w, hw, rfl⟩ := Sp.first ((e _).1 hv.behind)
    have a1 := h.R9 hv (Nat.le_refl _)
    have a2 := h'.R9 hw (x := c 0) (by omega)
    simp only [a2, Int.zero_add] at a1
    have : s = 0 := by
     rcases Int.mul_eq_zero.1 a1 with h1 | h1
     ·exact h1
     ·omega
    subst this
    have e : (fun i => w i + 0 * M' 0 i) = w := by funext i; simp
    rw [e]; exact hw
   ·intro hv
    obtain ⟨s, w, hw, rfl⟩ := Sp.first ((e _).2 hv.behind)
    have a1 := h'.R9 hv (x := c 0) (by omega)
    have a2 := h.R9 hw (x := c 0) (by omega)
    simp only [a2, Int.zero_add] at a1
    have : s = 0 := by
     rcases Int.mul_eq_zero.1 a1 with h1 | h1
     ·exact h1
     ·omega
    subst this
    have e : (fun i => w i + 0 * M 0 i) = w := by funext i; simp
    rw [e]; exact hw
  obtain ⟨q1, q2, q3⟩ := Hn.unique h.tail h'.tail tails
  subst q1
  have hd : Sp k (fun i => M (i + 1)) (fun x => M 0 x - M' 0 x) := by
   obtain ⟨s, w, hw, hs⟩ := Sp.first (Sp.sub (Sp.mem (M := M) (Nat.succ_pos k)) ((e _).2 (Sp.mem (M := M') (Nat.succ_pos k))))
   have a1 := congrFun hs (c 0)
   have a2 := h.R9 hw (Nat.le_refl _)
   simp only [a2, e3, Int.zero_add, Int.sub_self] at a1
   have : s = 0 := by
    rcases Int.mul_eq_zero.1 a1.symm with h1 | h1
    ·exact h1
    ·omega
   subst this
   have e : (fun i => w i + 0 * M 0 i) = w := by funext i; simp
   rw [hs, e]; exact hw
  have hz := Hn.small h.tail hd (fun i hi => by
   have r1 := h.red 0 (i + 1) (by omega) (by omega)
   have r2 := h'.red 0 (i + 1) (by omega) (by omega)
   have r3 := q2 i hi
   have r4 := congrFun (q3 i hi) (c (i + 1))
   rw [← r3] at r2
   rw [← r4] at r2
   constructor <;> omega)
  refine ⟨rfl, fun i hi => ?_, fun i hi => ?_⟩
  ·cases i with
   | zero => exact hc
   | succ i => exact q2 i (by omega)
  ·cases i with
   | zero =>
    funext x
    have := congrFun hz x
    omega
   | succ i => exact q3 i (by omega)

theorem Hn.aGP {k : Nat} {M : Nat → V} {c : Nat → Nat} (h : Hn k M c) {u v : V} (hs : Sp k M (fun x => u x - v x))
  (hu : ∀ i, i < k → 0 ≤ u (c i) ∧ u (c i) < M i (c i)) (hv : ∀ i, i < k → 0 ≤ v (c i) ∧ v (c i) < M i (c i)) : u = v := by
 have := Hn.small h hs fun i hi => by
  have := hu i hi
  have := hv i hi
  constructor <;> omega
 funext x
 have := congrFun this x
 omega

def up (M : Nat → V) (i : Nat) (r : V) : Nat → V := fun j => if j = i then r else M j
theorem C2 (M : Nat → V) (i : Nat) (r : V) : up M i r i = r := by simp [up]
theorem u9 (M : Nat → V) {i j : Nat} (r : V) (h : j ≠ i) : up M i r j = M j := by simp [up, h]
def swp (M : Nat → V) (a b : Nat) : Nat → V := fun j => if j = a then M b else if j = b then M a else M j

theorem aSJ {k a b : Nat} (M : Nat → V) (ha : a < k) (hb : b < k) : Same k M k (swp M a b) := by
 refine Same.of (fun j hj => ?_) (fun j hj => ?_)
 ·by_cases h1 : j = a
  ·subst h1
   by_cases h2 : b = j
   ·have := Sp.mem (M := swp M j b) ha
    simp only [swp, if_true, h2] at this ⊢
    exact this
   ·have := Sp.mem (M := swp M j b) hb
    simp only [swp, h2, if_false, if_true] at this ⊢
    exact this
  ·by_cases h2 : j = b
   ·subst h2
    have := Sp.mem (M := swp M a j) ha
    simp only [swp, if_true] at this ⊢
    exact this
   ·have := Sp.mem (M := swp M a b) hj
    simp only [swp, h1, h2, if_false] at this ⊢
    exact this
 ·unfold swp
  split
  ·exact Sp.mem hb
  ·split
   ·exact Sp.mem ha
   ·exact Sp.mem hj
theorem aC7 {k i d : Nat} (M : Nat → V) (q : Int) (hi : i < k) (hd : d < k) (hne : i ≠ d) : Same k M k (up M i fun x => M i x - q * M d x) := by
 refine Same.of (fun j hj => ?_) (fun j hj => ?_)
 ·by_cases h : j = i
  ·subst h
   have h1 := Sp.mem (M := up M j fun x => M j x - q * M d x) hj
   have h2 := Sp.mem (M := up M j fun x => M j x - q * M d x) hd
   rw [C2] at h1
   rw [u9 _ _ (Ne.symm hne)] at h2
   have := Sp.comb q h1 h2
   refine cast (congrArg _ ?_) this
   funext x
   grind
  ·have := Sp.mem (M := up M i fun x => M i x - q * M d x) hj
   rwa [u9 _ _ h] at this
 ·by_cases h : j = i
  ·subst h
   rw [C2]
   have := Sp.comb (-q) (Sp.mem (M := M) hj) (Sp.mem (M := M) hd)
   refine cast (congrArg _ ?_) this
   funext x
   grind
  ·rw [u9 _ _ h]; exact Sp.mem hj
theorem aSA {k i : Nat} (M : Nat → V) (hi : i < k) : Same k M k (up M i fun x => -(M i x)) := by
 refine Same.of (fun j hj => ?_) (fun j hj => ?_)
 ·by_cases h : j = i
  ·subst h
   have h1 := Sp.mem (M := up M j fun x => -(M j x)) hj
   rw [C2] at h1
   have := Sp.smul (-1) h1
   refine cast (congrArg _ ?_) this
   funext x
   grind
  ·have := Sp.mem (M := up M i fun x => -(M i x)) hj
   rwa [u9 _ _ h] at this
 ·by_cases h : j = i
  ·subst h
   rw [C2]
   have := Sp.smul (-1) (Sp.mem (M := M) hj)
   refine cast (congrArg _ ?_) this
   funext x
   grind
  ·rw [u9 _ _ h]; exact Sp.mem hj
theorem aTI {k d : Nat} (M : Nat → V) (hd : d ≤ k) (h : ∀ i, d ≤ i → i < k → M i = fun _ => 0) : Same k M d M := by
 refine Same.of (fun j hj => ?_) (fun j hj => Sp.mem (by omega))
 rcases Nat.lt_or_ge j d with h1 | h1
 ·exact Sp.mem h1
 ·rw [h j h1 hj]; exact .zero

structure Fo (k : Nat) (M0 M : Nat → V) (d c : Nat) (p : Nat → Nat) : Prop where
 le : d ≤ k
 same : Same k M0 k M
 inc : ∀ i j, i < j → j < d → p i < p j
 lt : ∀ i, i < d → p i < c
 low : ∀ i, i < d → ∀ x, x < p i → M i x = 0
 pos : ∀ i, i < d → 0 < M i (p i)
 red : ∀ i j, i < j → j < d → 0 ≤ M i (p j) ∧ M i (p j) < M j (p j)
 rest : ∀ i, d ≤ i → i < k → ∀ x, x < c → M i x = 0

theorem Fo.start (k : Nat) (M : Nat → V) : Fo k M M 0 0 (fun _ => 0) where
 le := Nat.zero_le _
 same := Same.refl _ _
 inc := fun i j _ h => by omega
 lt := fun i h => by omega
 low := fun i h => by omega
 pos := fun i h => by omega
 red := fun i j _ h => by omega
 rest := fun i _ _ x h => by omega
section
variable {k d c : Nat} {M0 M : Nat → V} {p : Nat → Nat}
theorem Fo.QV (h : Fo k M0 M d c p) {M' : Nat → V} (hs : Same k M k M') (h1 : ∀ i, i < d → M' i = M i) (h2 : ∀ i, d ≤ i → i < k → ∀ x, x < c → M' i x = 0) : Fo k M0 M' d c p where
 le := h.le
 same := h.same.trans hs
 inc := h.inc
 lt := h.lt
 low := fun i hi => by rw [h1 i hi]; exact h.low i hi
 pos := fun i hi => by rw [h1 i hi]; exact h.pos i hi
 red := fun i j hij hj => by rw [h1 i (by omega), h1 j hj]; exact h.red i j hij hj
 rest := h2
theorem Fo.swap (h : Fo k M0 M d c p) {a : Nat} (ha : d ≤ a) (hk : a < k) : Fo k M0 (swp M d a) d c p := by
 refine h.QV (aSJ M (by omega) hk) (fun i hi => ?_) (fun i h1 h2 x hx => ?_)
 ·have e1 : ¬ i = d := by omega
  have e2 : ¬ i = a := by omega
  simp only [swp, e1, e2, if_false]
 ·unfold swp
  split
  ·exact h.rest a ha hk x hx
  ·split
   ·exact h.rest d (Nat.le_refl _) (by omega) x hx
   ·exact h.rest i h1 h2 x hx
theorem Fo.less (h : Fo k M0 M d c p) {i : Nat} (q : Int) (hi : d < i) (hk : i < k) : Fo k M0 (up M i fun x => M i x - q * M d x) d c p := by
 refine h.QV (aC7 M q hk (by omega) (by omega)) (fun j hj => u9 _ _ (by omega)) (fun j h1 h2 x hx => ?_)
 by_cases e : j = i
 ·subst e
  rw [C2, h.rest j h1 h2 x hx, h.rest d (Nat.le_refl _) (by omega) x hx]
  simp
 ·rw [u9 _ _ e]; exact h.rest j h1 h2 x hx
theorem Fo.neg (h : Fo k M0 M d c p) (hk : d < k) : Fo k M0 (up M d fun x => -(M d x)) d c p := by
 refine h.QV (aSA M hk) (fun j hj => u9 _ _ (by omega)) (fun j h1 h2 x hx => ?_)
 by_cases e : j = d
 ·subst e
  rw [C2, h.rest j h1 h2 x hx]
  simp
 ·rw [u9 _ _ e]; exact h.rest j h1 h2 x hx
theorem Fo.skip (h : Fo k M0 M d c p) (hz : ∀ i, d ≤ i → i < k → M i c = 0) : Fo k M0 M d (c + 1) p where
 le := h.le
 same := h.same
 inc := h.inc
 lt := fun i hi => by have := h.lt i hi; omega
 low := h.low
 pos := h.pos
 red := h.red
 rest := fun i h1 h2 x hx => by
  rcases Nat.lt_or_ge x c with h3 | h3
  ·exact h.rest i h1 h2 x h3
  ·have : x = c := by omega
   subst this
   exact hz i h1 h2

structure Fp (k : Nat) (M0 M : Nat → V) (d c : Nat) (p : Nat → Nat) (m : Nat) : Prop extends Fo k M0 M d c p where
 dk : d < k
 piv : 0 < M d c
 below : ∀ i, d < i → i < k → M i c = 0
 up : ∀ i, i < m → 0 ≤ M i c ∧ M i c < M d c
theorem Fp.less {m : Nat} (h : Fp k M0 M d c p m) (hm : m < d) : Fp k M0 (Lz.up M m fun x => M m x - (M m c).fdiv (M d c) * M d x) d c p (m + 1) := by
 have hd0 : ∀ x, x < c → M d x = 0 := h.rest d (Nat.le_refl _) h.dk
 have hr : ∀ x, x < c → ∀ i, Lz.up M m (fun x => M m x - (M m c).fdiv (M d c) * M d x) i x = M i x := by
  intro x hx i
  by_cases e : i = m
  ·subst e
   rw [C2, hd0 x hx]; simp
  ·rw [u9 _ _ e]
 have hne : ∀ i, i ≠ m → Lz.up M m (fun x => M m x - (M m c).fdiv (M d c) * M d x) i = M i := fun i e => u9 _ _ e
 refine { le := h.le, same := h.same.trans (aC7 M _ (by have := h.le; omega) h.dk (by omega)), inc := h.inc, lt := h.lt, low := fun i hi x hx => ?_, pos := fun i hi => ?_, red := fun i j hij hj => ?_, rest := fun i h1 h2 x hx => ?_, dk := h.dk, piv := ?_, below := fun i h1 h2 => ?_, up := fun i hi => ?_ }
 ·rw [hr x (by have := h.lt i hi; omega)]; exact h.low i hi x hx
 ·rw [hr _ (h.lt i hi)]; exact h.pos i hi
 ·rw [hr _ (h.lt j hj), hr _ (h.lt j hj)]; exact h.red i j hij hj
 ·rw [hr x hx]; exact h.rest i h1 h2 x hx
 ·rw [hne d (by omega)]; exact h.piv
 ·rw [hne i (by omega)]; exact h.below i h1 h2
 ·rw [hne d (by omega)]
  by_cases e : i = m
  ·subst e
   rw [C2]
   have h1 := Int.fmod_def (M i c) (M d c)
   have h2 := Int.fmod_nonneg_of_pos (M i c) h.piv
   have h3 := Int.fmod_lt_of_pos (M i c) h.piv
   have h4 : (M i c).fdiv (M d c) * M d c = M d c * (M i c).fdiv (M d c) := Int.mul_comm _ _
   omega
  ·rw [hne i e]; exact h.up i (by omega)
theorem Fp.done (h : Fp k M0 M d c p d) : Fo k M0 M (d + 1) (c + 1) (fun i => if i = d then c else p i) := by
 have hp : ∀ i, i < d → (if i = d then c else p i) = p i := fun i hi => by rw [if_neg (by omega)]
 refine { le := h.dk, same := h.same, inc := fun i j hij hj => ?_, lt := fun i hi => ?_, low := fun i hi x hx => ?_, pos := fun i hi => ?_, red := fun i j hij hj => ?_, rest := fun i h1 h2 x hx => ?_ }
 ·rw [hp i (by omega)]
  by_cases e : j = d
  ·subst e; rw [if_pos rfl]; exact h.lt i hij
  ·rw [if_neg e]; exact h.inc i j hij (by omega)
 ·by_cases e : i = d
  ·rw [if_pos e]; omega
  ·rw [if_neg e]; have := h.lt i (by omega); omega
 ·by_cases e : i = d
  ·subst e; rw [if_pos rfl] at hx; exact h.rest i (Nat.le_refl _) h.dk x hx
  ·rw [if_neg e] at hx; exact h.low i (by omega) x hx
 ·by_cases e : i = d
  ·subst e; rw [if_pos rfl]; exact h.piv
  ·rw [if_neg e]; exact h.pos i (by omega)
 ·by_cases e : j = d
  ·subst e; rw [if_pos rfl]; exact h.up i hij
  ·rw [if_neg e]; exact h.red i j hij (by omega)
 ·rcases Nat.lt_or_ge x c with h3 | h3
  ·exact h.rest i (by omega) h2 x h3
  ·have : x = c := by omega
   subst this
   exact h.below i (by omega) h2
theorem Fo.hn (h : Fo k M0 M d c p) (hz : d = k ∨ ∀ i, i < k → ∀ x, c ≤ x → M i x = 0) : Hn d M p ∧ Same k M0 d M := by
 refine ⟨⟨h.inc, h.low, h.pos, h.red⟩, h.same.trans ?_⟩
 rcases hz with rfl | hz
 ·exact Same.refl _ _
 ·refine aTI M h.le fun i h1 h2 => ?_
  funext x
  rcases Nat.lt_or_ge x c with h3 | h3
  ·exact h.rest i h1 h2 x h3
  ·exact hz i h2 x h3
end
def dot : Nat → V → V → Int
 | 0, _, _ => 0
 | n + 1, a, b => dot n a b + a n * b n
theorem a5W (u v b : V) (t : Int) : ∀ n, dot n (fun i => u i + t * v i) b = dot n u b + t * dot n v b
 | 0 => by simp [dot]
 | n + 1 => by
  rw [dot, dot, dot, a5W u v b t n]
  grind
theorem a5Y (b : V) : ∀ n, dot n (fun _ => 0) b = 0
 | 0 => rfl
 | n + 1 => by rw [dot, a5Y b n]; simp
theorem aN4 {a b a' b' : V} : ∀ {n}, (∀ i, i < n → a i = a' i) → (∀ i, i < n → b i = b' i) → dot n a b = dot n a' b'
 | 0, _, _ => rfl
 | n + 1, h, g => by rw [dot, dot, aN4 (fun i hi => h i (by omega)) (fun i hi => g i (by omega)), h n (by omega), g n (by omega)]
def Ker (n m : Nat) (A : Nat → V) (y : V) : Prop := (∀ c, n ≤ c → y c = 0) ∧ ∀ x, x < m → dot n y (A x) = 0
def a5V (n m : Nat) (A : Nat → V) (k : Nat) (K : Nat → V) : Prop := ∀ y, Sp k K y ↔ Ker n m A y
def wide (n m : Nat) (A : Nat → V) : Nat → V := fun c x => if x < m then A x c else if x = m + c then 1 else 0
theorem a5Z {n m : Nat} {A : Nat → V} (y : V) : ∀ j, j ≤ n → Sp n (wide n m A) (fun x => if x < m then dot j y (A x) else if x < m + j then y (x - m) else 0)
 | 0, _ => by
  refine cast (congrArg _ ?_) Sp.zero
  funext x
  split
  ·simp [dot]
  ·split
   ·omega
   ·rfl
 | j + 1, h => by
  have := Sp.comb (y j) (a5Z y j (by omega)) (Sp.mem (M := wide n m A) (show j < n by omega))
  refine cast (congrArg _ ?_) this
  funext x
  simp only [wide]
  split
  ·rw [dot]
  ·by_cases h1 : x = m + j
   ·subst h1
    have e1 : ¬ m + j < m + j := by omega
    have e2 : m + j < m + (j + 1) := by omega
    have e3 : m + j - m = j := by omega
    simp only [if_true, e1, e2, if_false, e3]
    simp
   ·have e1 : (x < m + (j + 1)) ↔ x < m + j := by omega
    simp only [h1, if_false, e1, Int.mul_zero, Int.add_zero]
theorem a5X {n m : Nat} {A : Nat → V} {v : V} (h : Sp n (wide n m A) v) : (∀ x, x < m → v x = dot n (fun c => v (m + c)) (A x)) ∧ ∀ c, n ≤ c → v (m + c) = 0 := by
 have unit : ∀ (j : Nat) (b : V), ∀ n, dot n (fun c => if m + c = m + j then (1 : Int) else 0) b = if j < n then b j else 0 := by
  intro j b n
  induction n with
  | zero => rfl
  | succ n ih =>
   rw [dot, ih]
   by_cases h1 : j < n
   ·have e1 : ¬ m + n = m + j := by omega
    have e2 : j < n + 1 := by omega
    have e3 : ¬ n = j := by omega
    simp [h1, e2, e3]
   ·by_cases h2 : n = j
    ·subst h2
     simp
    ·have e1 : ¬ m + n = m + j := by omega
     have e2 : ¬ j < n + 1 := by omega
     simp [h1, e2, h2]
 induction h with
 | zero => exact ⟨fun x _ => (a5Y _ _).symm, fun _ _ => rfl⟩
 | add j t hj _ ih =>
  obtain ⟨h1, h2⟩ := ih
  refine ⟨fun x hx => ?_, fun c hc => ?_⟩
  ·rw [a5W, ← h1 x hx]
   have e : (fun c => wide n m A j (m + c)) = fun c => if m + c = m + j then (1 : Int) else 0 := by
    funext c
    have : ¬ m + c < m := by omega
    simp only [wide, this, if_false]
   rw [e, unit, if_pos hj]
   simp only [wide, hx, if_true]
  ·have h3 := h2 c hc
   have e1 : ¬ m + c < m := by omega
   have e2 : ¬ m + c = m + j := by omega
   simp only [wide, e1, e2, if_false, Int.mul_zero, Int.add_zero, h3]
theorem Hn.drop : ∀ {j k : Nat} {M : Nat → V} {p : Nat → Nat} {m : Nat}, Hn k M p → j ≤ k → (∀ i, i < j → p i < m) → ∀ {v : V}, Sp k M v → (∀ x, x < m → v x = 0) → Sp (k - j) (fun i => M (j + i)) v
 | 0, k, M, p, m, h, _, _, v, hv, _ => by
  have e : (fun i => M (0 + i)) = M := by funext i; rw [Nat.zero_add]
  rw [e]; exact hv
 | j + 1, 0, M, p, m, h, hj, _, v, hv, _ => by omega
 | j + 1, k + 1, M, p, m, h, hj, hp, v, hv, hz => by
  obtain ⟨t, u, hu, rfl⟩ := hv.first
  have h0 := hz (p 0) (hp 0 (by omega))
  have h1 := h.R9 hu (Nat.le_refl _)
  have h2 := h.pos 0 (by omega)
  simp only [h1, Int.zero_add] at h0
  have ht : t = 0 := by
   rcases Int.mul_eq_zero.1 h0 with h3 | h3
   ·exact h3
   ·omega
  subst ht
  have e : (fun i => u i + 0 * M 0 i) = u := by funext i; simp
  rw [e] at hz ⊢
  have := Hn.drop (j := j) h.tail (by omega) (fun i hi => hp (i + 1) (by omega)) hu hz
  have e1 : k + 1 - (j + 1) = k - j := by omega
  rw [e1]
  refine cast (congrArg (fun f => Sp (k - j) f u) ?_) this
  funext i
  show M (j + i + 1) = M (j + 1 + i)
  congr 1
  omega
theorem a2I {n m k j : Nat} {A W : Nat → V} {p : Nat → Nat} (h : Hn k W p) (hs : Same n (wide n m A) k W) (hj : j ≤ k) (h1 : ∀ i, i < j → p i < m) (h2 : ∀ i, j ≤ i → i < k → m ≤ p i) :
  a5V n m A (k - j) (fun i y => W (j + i) (m + y)) := by
 intro y
 constructor
 ·intro hy
  have key : ∃ v, Sp k W v ∧ (∀ x, x < m → v x = 0) ∧ y = fun c => v (m + c) := by
   induction hy with
   | zero => exact ⟨_, .zero, fun _ _ => rfl, rfl⟩
   | add i t hi _ ih =>
    obtain ⟨v, g1, g2, rfl⟩ := ih
    refine ⟨_, Sp.add (j + i) t (by omega) g1, fun x hx => ?_, rfl⟩
    have := h.low (j + i) (by omega) x (by have := h2 (j + i) (by omega) (by omega); omega)
    simp only [g2 x hx, this, Int.mul_zero, Int.add_zero]
  obtain ⟨v, g1, g2, rfl⟩ := key
  obtain ⟨q1, q2⟩ := a5X ((hs v).2 g1)
  exact ⟨q2, fun x hx => by rw [← q1 x hx]; exact g2 x hx⟩
 ·rintro ⟨g1, g2⟩
  have hv := a5Z (A := A) (n := n) (m := m) y n (Nat.le_refl _)
  have := Hn.drop h hj h1 ((hs _).1 hv) (fun x hx => by simp only [hx, if_true]; exact g2 x hx)
  have key : ∀ {v : V}, Sp (k - j) (fun i => W (j + i)) v → Sp (k - j) (fun i y => W (j + i) (m + y)) (fun c => v (m + c)) := by
   intro v hv
   induction hv with
   | zero => exact .zero
   | add i t hi _ ih => exact Sp.add i t hi ih
  have := key this
  refine cast (congrArg _ ?_) this
  funext c
  have e1 : ¬ m + c < m := by omega
  have e3 : m + c - m = c := by omega
  simp only [e1, if_false, e3]
  split
  ·rfl
  ·exact (g1 c (by omega)).symm

theorem JS (a : Int) {m : Int} (h : m < 0) : m < a.fmod m ∧ a.fmod m ≤ 0 := by
 have h1 := Int.neg_fmod_neg (-a) (-m)
 rw [Int.neg_neg, Int.neg_neg] at h1
 have h2 := Int.fmod_nonneg_of_pos (-a) (show 0 < -m by omega)
 have h3 := Int.fmod_lt_of_pos (-a) (show 0 < -m by omega)
 omega
theorem aIM (a m : Int) (hm : m ≠ 0) : (a.fdiv m).natAbs * m.natAbs ≤ a.natAbs + m.natAbs := by
 have h1 := Int.fmod_def a m
 have h2 : (m * a.fdiv m).natAbs = (a.fdiv m).natAbs * m.natAbs := by rw [Int.natAbs_mul, Nat.mul_comm]
 rcases Int.lt_or_gt_of_ne hm with h | h
 ·have h3 := JS a h
  omega
 ·have h3 := Int.fmod_nonneg_of_pos a h
  have h4 := Int.fmod_lt_of_pos a h
  omega
theorem aHI (a m : Int) (hm : m ≠ 0) : (a.fmod m).natAbs < m.natAbs := by
 rcases Int.lt_or_gt_of_ne hm with h | h
 ·have h3 := JS a h
  omega
 ·have h3 := Int.fmod_nonneg_of_pos a h
  have h4 := Int.fmod_lt_of_pos a h
  omega
theorem QU (a m : Int) : a - a.fdiv m * m = a.fmod m := by
 rw [Int.fmod_def, Int.mul_comm]
theorem aTD {a b q : Int} {E Q : Nat} (ha : a.natAbs ≤ E) (hb : b.natAbs ≤ E) (hq : q.natAbs ≤ Q) : (a - q * b).natAbs ≤ E + Q * E := by
 have h1 : (q * b).natAbs = q.natAbs * b.natAbs := Int.natAbs_mul _ _
 have h2 : q.natAbs * b.natAbs ≤ Q * E := Nat.mul_le_mul hq hb
 omega

def Wi (k : Nat) (M : Nat → V) (d c E A : Nat) : Prop := ∀ i, d ≤ i → i < k → (∀ x, (M i x).natAbs ≤ E) ∧ (M i c).natAbs ≤ A
def Rd (k : Nat) (M M' : Nat → V) (d c : Nat) : Prop := M' d = M d ∧ ∀ i, d < i → i < k → M' i = fun x => M i x - (M i c).fdiv (M d c) * M d x

theorem Rd.aLH {k d c E A : Nat} {M M' : Nat → V} (h : Rd k M M' d c) (hw : Wi k M d c E A) (hk : d < k) (hm : M d c ≠ 0) (hA : (M d c).natAbs ≤ A) :
  ∃ E', Wi k M' d c E' (M d c).natAbs ∧ E' * (M d c).natAbs ≤ 3 * (E * A) := by
 have hmp : 0 < (M d c).natAbs := by omega
 refine ⟨E + (A / (M d c).natAbs + 1) * E, fun i h1 h2 => ?_, ?_⟩
 ·by_cases e : i = d
  ·subst e
   rw [h.1]
   refine ⟨fun x => ?_, Nat.le_refl _⟩
   have := (hw i h1 h2).1 x
   exact Nat.le_trans this (Nat.le_add_right _ _)
  ·have hr := h.2 i (by omega) h2
   have hq : ((M i c).fdiv (M d c)).natAbs ≤ A / (M d c).natAbs + 1 := by
    have h3 := aIM (M i c) (M d c) hm
    have h4 := (hw i h1 h2).2
    have h5 : ((M i c).fdiv (M d c)).natAbs ≤ (A + (M d c).natAbs) / (M d c).natAbs := by
     rw [Nat.le_div_iff_mul_le hmp]
     omega
    rwa [Nat.add_div_right _ hmp] at h5
   rw [hr]
   refine ⟨fun x => aTD ((hw i h1 h2).1 x) ((hw d (Nat.le_refl _) hk).1 x) hq, ?_⟩
   dsimp only
   rw [QU]
   exact Nat.le_of_lt (aHI _ _ hm)
 ·have h1 : A / (M d c).natAbs * (M d c).natAbs ≤ A := Nat.div_mul_le_self _ _
  generalize A / (M d c).natAbs = q at h1
  generalize (M d c).natAbs = m at *
  have h2 : (E + (q + 1) * E) * m = 2 * (E * m) + E * (q * m) := by grind
  have h3 : E * (q * m) ≤ E * A := Nat.mul_le_mul_left _ h1
  have h4 : E * m ≤ E * A := Nat.mul_le_mul_left _ hA
  omega

theorem aRN (a b c : Nat) (h : a + b ≤ c) : 4 * (a * b) ≤ c * c := by
 have h1 : (a + b) * (a + b) ≤ c * c := Nat.mul_le_mul h h
 have h2 : 4 * (a * b) ≤ (a + b) * (a + b) := by
  have : (a + b) * (a + b) = 4 * (a * b) + (a - b) * (a - b) + (b - a) * (b - a) := by
   rcases Nat.le_total a b with g | g
   ·obtain ⟨e, rfl⟩ := Nat.exists_eq_add_of_le g
    have e1 : a - (a + e) = 0 := by omega
    have e2 : a + e - a = e := by omega
    rw [e1, e2]
    grind
   ·obtain ⟨e, rfl⟩ := Nat.exists_eq_add_of_le g
    have e1 : b - (b + e) = 0 := by omega
    have e2 : b + e - b = e := by omega
    rw [e1, e2]
    grind
  omega
 omega

structure Bt (k : Nat) (M : Nat → V) (d c C : Nat) : Prop where
 dk : d < k
 ex : ∃ E, Wi k M d c E (M d c).natAbs ∧ ∃ i, d < i ∧ i < k ∧ M i c ≠ 0 ∧ E * (M d c).natAbs ^ 3 * (M i c).natAbs ≤ C
 piv : M d c ≠ 0
 sign : ∀ i, d < i → i < k → (M i c).natAbs < (M d c).natAbs ∧ (0 < M d c → 0 ≤ M i c) ∧ (M d c < 0 → M i c ≤ 0)

theorem Wi.swap {k d c E A a : Nat} {M : Nat → V} (h : Wi k M d c E A) (ha : d ≤ a) (hk : a < k) : Wi k (swp M d a) d c E A := by
 intro i h1 h2
 unfold swp
 split
 ·exact h a ha hk
 ·split
  ·exact h d (Nat.le_refl _) (by omega)
  ·exact h i h1 h2
theorem Rd.sign {k d c : Nat} {M M' : Nat → V} (h : Rd k M M' d c) (hm : M d c ≠ 0) : ∀ i, d < i → i < k → M' i c = (M i c).fmod (M d c) ∧ (M' i c).natAbs < (M' d c).natAbs ∧ (0 < M' d c → 0 ≤ M' i c) ∧ (M' d c < 0 → M' i c ≤ 0) := by
 intro i h1 h2
 have e : M' i c = (M i c).fmod (M d c) := by
  rw [h.2 i h1 h2]
  exact QU _ _
 rw [e, h.1]
 exact ⟨rfl, aHI _ _ hm, fun hp => Int.fmod_nonneg_of_pos _ hp, fun hn => (JS _ hn).2⟩
theorem aQ2 {p n : Int} (hs : (0 < p ∧ 0 < n) ∨ (p < 0 ∧ n < 0)) (hl : n.natAbs < p.natAbs) : (p.fmod n).natAbs + n.natAbs ≤ p.natAbs := by
 have key : ∀ p n : Int, 0 < n → n < p → (p.fmod n).natAbs + n.natAbs ≤ p.natAbs := by
  intro p n h1 h2
  have h3 := Int.fmod_def p n
  have h4 := Int.fmod_nonneg_of_pos p h1
  have h5 := Int.fmod_lt_of_pos p h1
  have h6 : 1 ≤ p.fdiv n := by
   rcases (by omega : p.fdiv n < 1 ∨ 1 ≤ p.fdiv n) with h | h
   ·have : n * p.fdiv n ≤ n * 0 := Int.mul_le_mul_of_nonneg_left (by omega) (by omega)
    omega
   ·exact h
  have h7 : n * 1 ≤ n * p.fdiv n := Int.mul_le_mul_of_nonneg_left h6 (by omega)
  omega
 rcases hs with ⟨h1, h2⟩ | ⟨h1, h2⟩
 ·exact key p n h2 (by omega)
 ·have := key (-p) (-n) (by omega) (by omega)
  rw [Int.neg_fmod_neg] at this
  omega
theorem Rd.first {k d c E A : Nat} {M M' : Nat → V} (h : Rd k M M' d c) (hw : Wi k M d c E A) (hk : d < k) (hm : M d c ≠ 0) :
  ((∀ i, d < i → i < k → M' i c = 0) ∧ Wi k M' d c (3 * (E * A)) A) ∨ Bt k M' d c (3 * (E * A) * A ^ 3) := by
 have hA := (hw d (Nat.le_refl _) hk).2
 have hmp : 0 < (M d c).natAbs := by omega
 obtain ⟨E', h1, h2⟩ := h.aLH hw hk hm hA
 have hs := h.sign hm
 by_cases hz : ∀ i, d < i → i < k → M' i c = 0
 ·refine .inl ⟨hz, fun i g1 g2 => ⟨fun x => ?_, ?_⟩⟩
  ·have a1 := (h1 i g1 g2).1 x
   have a2 : E' * 1 ≤ E' * (M d c).natAbs := Nat.mul_le_mul_left _ hmp
   omega
  ·exact Nat.le_trans (h1 i g1 g2).2 hA
 ·refine .inr ⟨hk, ⟨E', by rw [h.1]; exact h1, ?_⟩, by rw [h.1]; exact hm, fun i g1 g2 => (hs i g1 g2).2⟩
  obtain ⟨i, hi⟩ := Classical.not_forall.1 hz
  obtain ⟨g1, hi⟩ := Classical.not_forall.1 hi
  obtain ⟨g2, g3⟩ := Classical.not_forall.1 hi
  refine ⟨i, g1, g2, g3, ?_⟩
  have a1 := (hs i g1 g2).2.1
  rw [h.1] at a1 ⊢
  have a2 : (M d c).natAbs ^ 2 * (M' i c).natAbs ≤ A ^ 2 * A := Nat.mul_le_mul (Nat.pow_le_pow_left hA 2) (by omega)
  have a3 : E' * (M d c).natAbs * ((M d c).natAbs ^ 2 * (M' i c).natAbs) ≤ 3 * (E * A) * (A ^ 2 * A) := Nat.mul_le_mul h2 a2
  have e1 : E' * (M d c).natAbs ^ 3 * (M' i c).natAbs = E' * (M d c).natAbs * ((M d c).natAbs ^ 2 * (M' i c).natAbs) := by grind
  have e2 : 3 * (E * A) * A ^ 3 = 3 * (E * A) * (A ^ 2 * A) := by grind
  omega
theorem Bt.left {k d c C a : Nat} {M M' : Nat → V} (h : Bt k M d c C) (ha : d ≤ a) (hk : a < k) (hm : M a c ≠ 0) (hmin : ∀ i, d ≤ i → i < k → M i c ≠ 0 → (M a c).natAbs ≤ (M i c).natAbs) (hr : Rd k (swp M d a) M' d c) (hz : ¬ ∀ i, d < i → i < k → M' i c = 0) : M' d = M a ∧ (M a c).natAbs < (M d c).natAbs ∧ ∃ i, d < i ∧ i < k ∧ M' i c ≠ 0 ∧ (M' i c).natAbs + (M a c).natAbs ≤ (M d c).natAbs ∧ (M' i c).natAbs < (M a c).natAbs := by
 obtain ⟨E, h1, i0, g1, g2, g3, g4⟩ := h.ex
 have hda : d < a := by
  rcases Nat.lt_or_ge d a with h9 | h9
  ·exact h9
  ·have : a = d := by omega
   subst this
   have := hmin i0 (by omega) g2 g3
   have := (h.sign i0 g1 g2).1
   omega
 have e1 : swp M d a d = M a := by simp [swp]
 have e2 : swp M d a a = M d := by
  have : ¬ a = d := by omega
  simp [swp, this]
 have hsa := h.sign a hda hk
 have hs := hr.sign (by rw [e1]; exact hm)
 have hMd : M' d = M a := by rw [hr.1, e1]
 have main : ∃ i, d < i ∧ i < k ∧ M' i c ≠ 0 ∧ (M' i c).natAbs + (M a c).natAbs ≤ (M d c).natAbs := by
  have ea := (hs a hda hk).1
  rw [e1, e2] at ea
  by_cases hz2 : M' a c = 0
  ·obtain ⟨i, hi⟩ := Classical.not_forall.1 hz
   obtain ⟨z1, hi⟩ := Classical.not_forall.1 hi
   obtain ⟨z2, z3⟩ := Classical.not_forall.1 hi
   refine ⟨i, z1, z2, z3, ?_⟩
   have a1 := (hs i z1 z2).2.1
   rw [hMd] at a1
   have a2 : (M a c).natAbs ∣ (M d c).natAbs := by
    have : M a c ∣ M d c := by
     rw [hz2] at ea
     exact Int.dvd_of_fmod_eq_zero ea.symm
    exact Int.natAbs_dvd_natAbs.2 this
   obtain ⟨t, ht⟩ := a2
   have h2t : 2 ≤ t := by
    rcases Nat.lt_or_ge t 2 with h | h
    ·have : (M a c).natAbs * t ≤ (M a c).natAbs * 1 := Nat.mul_le_mul_left _ (by omega)
     omega
    ·exact h
   have : (M a c).natAbs * 2 ≤ (M a c).natAbs * t := Nat.mul_le_mul_left _ h2t
   omega
  ·refine ⟨a, hda, hk, hz2, ?_⟩
   rw [ea]
   refine aQ2 ?_ hsa.1
   rcases Int.lt_or_gt_of_ne h.piv with z | z
   ·have := hsa.2.2 z
    exact .inr ⟨z, by omega⟩
   ·have := hsa.2.1 z
    exact .inl ⟨z, by omega⟩
 obtain ⟨i, z1, z2, z3, z4⟩ := main
 have z5 := (hs i z1 z2).2.1
 rw [hMd] at z5
 exact ⟨hMd, hsa.1, i, z1, z2, z3, z4, z5⟩
def Pt (k : Nat) (M : Nat → V) (d c P : Nat) : Prop := ∃ i, d < i ∧ i < k ∧ M i c ≠ 0 ∧ (M d c).natAbs * (M i c).natAbs ≤ P
theorem Bt.half {k d c C a : Nat} {M M' : Nat → V} (h : Bt k M d c C) (ha : d ≤ a) (hk : a < k) (hm : M a c ≠ 0) (hmin : ∀ i, d ≤ i → i < k → M i c ≠ 0 → (M a c).natAbs ≤ (M i c).natAbs) (hr : Rd k (swp M d a) M' d c) (hz : ¬ ∀ i, d < i → i < k → M' i c = 0) {P : Nat} (hP : Pt k M d c P) : Pt k M' d c (P / 2) := by
 obtain ⟨q1, q2, i, z1, z2, z3, z4, z5⟩ := h.left ha hk hm hmin hr hz
 obtain ⟨i0, w1, w2, w3, w4⟩ := hP
 have w5 := hmin i0 (by omega) w2 w3
 refine ⟨i, z1, z2, z3, ?_⟩
 rw [q1, Nat.le_div_iff_mul_le (by decide)]
 have a1 : (M a c).natAbs * (2 * (M' i c).natAbs) ≤ (M a c).natAbs * (M d c).natAbs := Nat.mul_le_mul_left _ (by omega)
 have a2 : (M d c).natAbs * (M a c).natAbs ≤ (M d c).natAbs * (M i0 c).natAbs := Nat.mul_le_mul_left _ w5
 have a3 : (M a c).natAbs * (M' i c).natAbs * 2 = (M a c).natAbs * (2 * (M' i c).natAbs) := by grind
 have a4 : (M d c).natAbs * (M a c).natAbs = (M a c).natAbs * (M d c).natAbs := Nat.mul_comm _ _
 omega
theorem Bt.round {k d c C a : Nat} {M M' : Nat → V} (h : Bt k M d c C) (ha : d ≤ a) (hk : a < k) (hm : M a c ≠ 0) (hmin : ∀ i, d ≤ i → i < k → M i c ≠ 0 → (M a c).natAbs ≤ (M i c).natAbs) (hr : Rd k (swp M d a) M' d c) :
  ((∀ i, d < i → i < k → M' i c = 0) ∧ ∃ A, Wi k M' d c (3 * C) A) ∨ (Bt k M' d c C ∧ (M' d c).natAbs < (M d c).natAbs) := by
 obtain ⟨E, h1, i0, g1, g2, g3, g4⟩ := h.ex
 have hda : d < a := by
  rcases Nat.lt_or_ge d a with h9 | h9
  ·exact h9
  ·have : a = d := by omega
   subst this
   have := hmin i0 (by omega) g2 g3
   have := (h.sign i0 g1 g2).1
   omega
 have e1 : swp M d a d = M a := by simp [swp]
 have e2 : swp M d a a = M d := by
  have : ¬ a = d := by omega
  simp [swp, this]
 have hsa := h.sign a hda hk
 have hA : (swp M d a d c).natAbs ≤ (M d c).natAbs := by rw [e1]; omega
 obtain ⟨E', q1, q2⟩ := hr.aLH (h1.swap ha hk) h.dk (by rw [e1]; exact hm) hA
 rw [e1] at q1 q2
 have hs := hr.sign (by rw [e1]; exact hm)
 have hC : E * (M d c).natAbs ^ 3 * (M a c).natAbs ≤ C := Nat.le_trans (Nat.mul_le_mul_left _ (hmin i0 (by omega) g2 g3)) g4
 have hmp : 0 < (M a c).natAbs := by omega
 have hMd : M' d = M a := by rw [hr.1, e1]
 by_cases hz : ∀ i, d < i → i < k → M' i c = 0
 ·refine .inl ⟨hz, (M a c).natAbs, fun i z1 z2 => ⟨fun x => ?_, (q1 i z1 z2).2⟩⟩
  have a1 := (q1 i z1 z2).1 x
  have a2 : E' * 1 ≤ E' * (M a c).natAbs := Nat.mul_le_mul_left _ hmp
  have a3 : E * (M d c).natAbs * 1 ≤ E * (M d c).natAbs * ((M d c).natAbs ^ 2 * (M a c).natAbs) := Nat.mul_le_mul_left _ (Nat.mul_pos (Nat.pow_pos (by omega)) hmp)
  have a4 : E * (M d c).natAbs * ((M d c).natAbs ^ 2 * (M a c).natAbs) = E * (M d c).natAbs ^ 3 * (M a c).natAbs := by grind
  omega
 ·refine .inr ⟨⟨h.dk, ⟨E', by rw [hMd]; exact q1, ?_⟩, by rw [hMd]; exact hm, fun i z1 z2 => (hs i z1 z2).2⟩, by rw [hMd]; exact hsa.1⟩
  obtain ⟨_, _, i, z1, z2, z3, z4, _⟩ := h.left ha hk hm hmin hr hz
  refine ⟨i, z1, z2, z3, ?_⟩
  rw [hMd]
  have a1 := aRN _ _ _ z4
  generalize (M' i c).natAbs = y at *
  generalize (M a c).natAbs = x at *
  generalize (M d c).natAbs = m at *
  have a2 : E' * x * (x ^ 2 * y) ≤ 3 * (E * m) * (x ^ 2 * y) := Nat.mul_le_mul_right _ q2
  have a3 : (E * m * x) * (4 * (y * x)) ≤ (E * m * x) * (m * m) := Nat.mul_le_mul_left _ a1
  have b1 : E' * x ^ 3 * y = E' * x * (x ^ 2 * y) := by grind
  have b2 : (E * m * x) * (m * m) = E * m ^ 3 * x := by grind
  have b3 : (E * m * x) * (4 * (y * x)) = 3 * (E * m) * (x ^ 2 * y) + (E * m * x) * (y * x) := by grind
  omega

theorem Hn.aXG : ∀ {j k : Nat} {M : Nat → V} {p : Nat → Nat}, Hn k M p → j ≤ k → ∀ {v : V}, Sp k M v → (∀ i, i < j → v (p i) = 0) → Sp (k - j) (fun i => M (j + i)) v
 | 0, k, M, p, h, _, v, hv, _ => by
  have e : (fun i => M (0 + i)) = M := by funext i; rw [Nat.zero_add]
  rw [e]; exact hv
 | j + 1, 0, M, p, h, hj, v, hv, _ => by omega
 | j + 1, k + 1, M, p, h, hj, v, hv, hz => by
  obtain ⟨t, u, hu, rfl⟩ := hv.first
  have h0 := hz 0 (by omega)
  have h1 := h.R9 hu (Nat.le_refl _)
  have h2 := h.pos 0 (by omega)
  simp only [h1, Int.zero_add] at h0
  have ht : t = 0 := by
   rcases Int.mul_eq_zero.1 h0 with h3 | h3
   ·exact h3
   ·omega
  subst ht
  have e : (fun i => u i + 0 * M 0 i) = u := by funext i; simp
  rw [e] at hz ⊢
  have := Hn.aXG (j := j) h.tail (by omega) hu (fun i hi => hz (i + 1) (by omega))
  have e1 : k + 1 - (j + 1) = k - j := by omega
  rw [e1]
  refine cast (congrArg (fun f => Sp (k - j) f u) ?_) this
  funext i
  show M (j + i + 1) = M (j + 1 + i)
  congr 1
  omega
theorem Hn.aMY {k : Nat} {M : Nat → V} {p : Nat → Nat} (h : Hn k M p) {v : V} (hv : Sp k M v) (hz : ∀ i, i < k → v (p i) = 0) : v = fun _ => 0 :=
 h.small hv fun i hi => by
  have := h.pos i hi
  have := hz i hi
  omega
theorem Hn.shift {k : Nat} {M : Nat → V} {p : Nat → Nat} (h : Hn k M p) (j : Nat) (hj : j ≤ k) : Hn (k - j) (fun i => M (j + i)) (fun i => p (j + i)) where
 inc := fun a b hab hb => h.inc _ _ (by omega) (by omega)
 low := fun i hi => h.low _ (by omega)
 pos := fun i hi => h.pos _ (by omega)
 red := fun a b hab hb => h.red _ _ (by omega) (by omega)
theorem Hn.dvd {k : Nat} {M : Nat → V} {p : Nat → Nat} (h : Hn k M p) {j : Nat} (hj : j < k) {v : V} (hv : Sp k M v) (hz : ∀ i, i < j → v (p i) = 0) : M j (p j) ∣ v (p j) := by
 have h1 := h.aXG (Nat.le_of_lt hj) hv hz
 obtain ⟨k', hk'⟩ : ∃ k', k - j = k' + 1 := ⟨k - j - 1, by omega⟩
 have hs := h.shift j (Nat.le_of_lt hj)
 rw [hk'] at h1 hs
 obtain ⟨t, u, hu, rfl⟩ := h1.first
 have := hs.R9 hu (Nat.le_refl _)
 simp only [Nat.add_zero] at this
 simp only [this, Nat.add_zero, Int.zero_add]
 exact ⟨t, Int.mul_comm _ _⟩

def S7 : Nat → (Nat → Int) → Nat
 | 0, _ => 0
 | n + 1, f => S7 n f + (f n).natAbs
def KH : Nat → (Nat → Int) → Int
 | 0, _ => 0
 | n + 1, f => KH n f + f n
theorem ZV : ∀ (n : Nat) (f : Nat → Int), (KH n f).natAbs ≤ S7 n f
 | 0, _ => Nat.le_refl _
 | n + 1, f => by
  have := ZV n f
  rw [KH, S7]
  omega
theorem aL2 : ∀ {n : Nat} {f g : Nat → Int} {P : Nat}, (∀ i, i < n → (f i).natAbs ≤ P * (g i).natAbs) → S7 n f ≤ P * S7 n g
 | 0, _, _, _, _ => by simp [S7]
 | n + 1, f, g, P, h => by
  have h1 := aL2 (n := n) (fun i hi => h i (by omega))
  have h2 := h n (by omega)
  rw [S7, S7, Nat.mul_add]
  omega
theorem W9 {n : Nat} {f : Nat → Int} {B : Nat} (h : ∀ i, i < n → (f i).natAbs ≤ B) : S7 n f ≤ n * B := by
 induction n with
 | zero => simp [S7]
 | succ n ih =>
  have h1 := ih (fun i hi => h i (by omega))
  have h2 := h n (by omega)
  rw [S7, Nat.succ_mul]
  omega
theorem Sp.KH {k : Nat} {M : Nat → V} {U : Nat → V} {t : Nat → Int} : ∀ n, (∀ j, j < n → Sp k M (U j)) → Sp k M (fun x => Lz.KH n fun j => t j * U j x)
 | 0, _ => .zero
 | n + 1, h => Sp.comb (t n) (Sp.KH n fun j hj => h j (by omega)) (h n (by omega))
theorem Hn.bound {k : Nat} {M : Nat → V} {p : Nat → Nat} (h : Hn k M p) {U : Nat → V} (hU : ∀ j, j < k → Sp k M (U j)) (h0 : ∀ i j, i < k → j < k → i ≠ j → U j (p i) = 0) (hD : ∀ j, j < k → U j (p j) ≠ 0)
  {i : Nat} (hi : i < k) (x : Nat) : (M i x).natAbs ≤ S7 k fun j => U j x := by
 -- the product of the elements at the pivots
 have prod : ∀ n, n ≤ k → ∃ P : Int, P ≠ 0 ∧ ∀ j, j < n → U j (p j) ∣ P := by
  intro n
  induction n with
  | zero => exact fun _ => ⟨1, by decide, fun j hj => by omega⟩
  | succ n ih =>
   intro hn
   obtain ⟨P, q1, q2⟩ := ih (by omega)
   refine ⟨P * U n (p n), Int.mul_ne_zero q1 (hD n (by omega)), fun j hj => ?_⟩
   by_cases e : j = n
   ·subst e; exact ⟨P, Int.mul_comm _ _⟩
   ·exact Int.dvd_mul_of_dvd_left (q2 j (by omega))
 obtain ⟨P, hP, hdv⟩ := prod k (Nat.le_refl _)
 have hq : ∀ j, ∃ q, j < k → P = q * U j (p j) := fun j => by
  by_cases hj : j < k
  ·obtain ⟨q, hq⟩ := hdv j hj
   exact ⟨q, fun _ => by rw [hq, Int.mul_comm]⟩
  ·exact ⟨0, fun h => absurd h hj⟩
 have hq := Classical.axiomOfChoice hq
 obtain ⟨q, hq⟩ := hq
 have hz := h.aMY (v := fun x => P * M i x - KH k fun j => (M i (p j) * q j) * U j x) (Sp.sub (Sp.smul P (Sp.mem hi)) (Sp.KH k hU)) (fun l hl => by
  have : ∀ n, n ≤ k → (KH n fun j => (M i (p j) * q j) * U j (p l)) = if l < n then P * M i (p l) else 0 := by
   intro n
   induction n with
   | zero => intro _; rfl
   | succ n ih =>
    intro hn
    rw [KH, ih (by omega)]
    by_cases e : l = n
    ·subst e
     have e1 : ¬ l < l := by omega
     have e2 : l < l + 1 := by omega
     rw [if_neg e1, if_pos e2]
     have := hq l hl
     rw [this]
     grind
    ·rw [h0 l n hl (by omega) e]
     by_cases e1 : l < n
     ·have e2 : l < n + 1 := by omega
      rw [if_pos e1, if_pos e2]; simp
     ·have e2 : ¬ l < n + 1 := by omega
      rw [if_neg e1, if_neg e2]; simp
  rw [this k (Nat.le_refl _), if_pos hl]
  omega)
 have hx := congrFun hz x
 have hx : P * M i x = KH k fun j => (M i (p j) * q j) * U j x := by
  omega
 have h1 : (P * M i x).natAbs ≤ P.natAbs * S7 k fun j => U j x := by
  rw [hx]
  refine Nat.le_trans (ZV _ _) (aL2 fun j hj => ?_)
  rw [Int.natAbs_mul, Int.natAbs_mul]
  refine Nat.mul_le_mul_right _ ?_
  have h2 : (M i (p j)).natAbs ≤ (U j (p j)).natAbs := by
   have h3 : (M j (p j)).natAbs ≤ (U j (p j)).natAbs := by
    have := h.dvd hj (hU j hj) (fun l hl => h0 l j (by omega) hj (by omega))
    exact Nat.le_of_dvd (Nat.pos_of_ne_zero (by have := hD j hj; omega)) (Int.natAbs_dvd_natAbs.2 this)
   rcases Nat.lt_trichotomy i j with g | g | g
   ·have := h.red i j g hj
    omega
   ·subst g; exact h3
   ·have := h.low i hi (p j) (h.inc j i g hi)
    omega
  have h4 := hq j hj
  have h5 : P.natAbs = (q j).natAbs * (U j (p j)).natAbs := by rw [h4, Int.natAbs_mul]
  rw [h5, Nat.mul_comm]
  exact Nat.mul_le_mul_left _ h2
 rw [Int.natAbs_mul] at h1
 exact Nat.le_of_mul_le_mul_left h1 (by omega)
end Go.Lz
