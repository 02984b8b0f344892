/- Texts of one proof, joined (7). -/
import Derived.Shelf.SlSortCmp.WholeK
import Derived.Ground.SlsfProg
import Derived.Test.YtjgapmocogjkmaaGreatDoorProg
import Derived.Shelf.Sort.Plain
import Derived.WalkKit
import Derived.Lib.Walk
import Derived.Lib.SliceRun
import Derived.Lib.AtoiTie
import Derived.Lib.ParseIntBTie
import Derived.Test.YtjgapmocogjkmaaGreatDoorQL6
set_option linter.unusedSimpArgs false
set_option linter.unusedVariables false
namespace Go.PM
open Go Go.RowKit Go.Proofs
set_option maxRecDepth 100000
set_option maxHeartbeats 4000000
/-! schisma/table.great -/
def uU (x : aI [.int .i64]) : Option (aI [.bool]):=match x with
 | (v0,()) =>
  bif ltI 1000000000 v0 then
   some (true,())
  else some (ltI v0 (-1000000000),())
noncomputable def HT : Code:=aT Tryz.f111
abbrev TA : Env:=bE []
theorem YP : aZ Tryz.prog TA:=aW trivial
def OH (id : Nat) : Option aS:=none
theorem VF : aF HT = []:=by kernel_rfl
theorem YH : ∀ x,bI Tryz.prog TA Tryz.f111 (aC Tryz.f111) OH HT [.int .i64] [.bool] x = uU x:=by
 rintro ⟨v0,⟨⟩⟩
 kernel_rfl
theorem aDY : bY Tryz.prog 111 [.int .i64] [.bool] uU:=by
 exact aY aK YP Tryz.func111 (c:=HT) (by kernel_rfl) (aU:=aC Tryz.f111) (lt:=OH) (aD VF trivial) YH
abbrev Q5 : Ent:=⟨111,[.int .i64],[.bool],uU⟩
theorem X9 : Ent.OK Tryz.prog Q5:=aDY

/-! slices.IndexFunc[schisma/api.Row,int] -/
abbrev cN : List (Nat×Kd):=[(0,.list TyE),(1,.fn 111),(7,.int .i64),(8,.int .i64)]
abbrev dH : List (Ex×List (Nat×Kd)):=[(.ret,[(4,.int .i64)]),(.exit 0,[])]
def cB (x : Shape.den cN) : Option (Shape.den cN ⊕ aR dH):=match x with
 | (v0,v1,v7,v8,()) =>
  bif ltI v8 v7 then
   bif aQ v8 v0.length then aB (uU ((v0.getD v8.toNat 0),())) fun y2 =>
   bif y2.1 then
    some (.inr (.inl (v8,())))
   else some (.inl (v0,(),v7,(aE .i64 (v8 + 1)),())) else none
  else some (.inr (.inr ((()))))
def eT (x : Shape.den cN) : Option (aR dH):=bM cB (2 ^ 64) x
def eG (x : aI [.list TyE,.fn 111]) : Option (aI [.int .i64]):=match x with
 | (v0,v1,()) =>
  aB (eT (v0,(),(v0.length : Int),0,())) fun z3 =>
  gY z3 (fun a4=>some (a4.1,())) fun b5 =>
  some ((-1),())
noncomputable def gM : Code:=aT Tryz.f73
abbrev j6 : Env:=bE [Q5]
theorem mI : aZ Tryz.prog j6:=aW ⟨X9,trivial⟩
noncomputable def dS : Code:=dT gM 0
def jS (id : Nat) : Option aS:=bif Nat.beq id 2 then some ⟨cN,dH,eT⟩ else none
theorem r7 : ∀ x,dJ Tryz.prog j6 19 (aC Tryz.f73) jS dS cN dH x = cB x:=by
 rintro ⟨v0,v1,v7,v8,⟨⟩⟩
 kernel_rfl
theorem uL : aF dS = []:=by kernel_rfl
theorem sH : aG dS = 2:=by kernel_rfl
theorem sL : cE Tryz.prog 19 dS ⟨cN,dH,eT⟩:=by
 exact cF mI.callee aK.mixed _ (aD uL trivial) r7
theorem tB : aF gM = [dS]:=by kernel_rfl
theorem uN : ∀ x,bI Tryz.prog j6 Tryz.f73 (aC Tryz.f73) jS gM [.list TyE,.fn 111] [.int .i64] x = eG x:=by
 rintro ⟨v0,v1,⟨⟩⟩
 kernel_rfl
theorem vQ : bY Tryz.prog 73 [.list TyE,.fn 111] [.int .i64] eG:=by
 exact aY aK mI Tryz.func73 (c:=gM) (by kernel_rfl) (aU:=aC Tryz.f73) (lt:=jS) (aD tB ⟨cG sH rfl sL,trivial⟩) uN
abbrev oL : Ent:=⟨73,[.list TyE,.fn 111],[.int .i64],eG⟩
theorem uO : Ent.OK Tryz.prog oL:=vQ

/-! slices.ContainsFunc[schisma/api.Row,int] -/
def cL (x : aI [.list TyE,.fn 111]) : Option (aI [.bool]):=match x with
 | (v0,v1,()) =>
  aB (eG (v0,(),())) fun y1 =>
  some (!(ltI y1.1 0),())
noncomputable def iR : Code:=aT Tryz.f55
abbrev mF : Env:=bE [oL]
theorem sC : aZ Tryz.prog mF:=aW ⟨uO,trivial⟩
def l7 (id : Nat) : Option aS:=none
theorem rL : aF iR = []:=by kernel_rfl
theorem sD : ∀ x,bI Tryz.prog mF Tryz.f55 (aC Tryz.f55) l7 iR [.list TyE,.fn 111] [.bool] x = cL x:=by
 rintro ⟨v0,v1,⟨⟩⟩
 kernel_rfl
theorem sY : bY Tryz.prog 55 [.list TyE,.fn 111] [.bool] cL:=by
 exact aY aK sC Tryz.func55 (c:=iR) (by kernel_rfl) (aU:=aC Tryz.f55) (lt:=l7) (aD rL trivial) sD
abbrev mH : Ent:=⟨55,[.list TyE,.fn 111],[.bool],cL⟩
theorem sJ : Ent.OK Tryz.prog mH:=sY

/-! schisma/table.Check -/
abbrev mQ : List (Nat×Kd):=[(0,.list TyD),(8,.list TyD),(9,.int .i64),(10,.int .i64)]
abbrev pP : List (Ex×List (Nat×Kd)):=[(.ret,[(2,.int .i64)]),(.exit 0,[])]
def kY (x : Shape.den mQ) : Option (Shape.den mQ ⊕ aR pP):=match x with
 | (v0,v8,v9,v10,()) =>
  bif ltI v10 v9 then
   bif aQ v10 v8.length then bif ltI 12 ((v8.getD v10.toNat []).length : Int) then
    some (.inr (.inl (4,())))
   else bif aQ 0 v0.length then bif !(eqI ((v8.getD v10.toNat []).length : Int) ((v0.getD 0 []).length : Int)) then
    some (.inr (.inl (5,())))
   else aB (cL ((v8.getD v10.toNat []),(),())) fun y2 =>
   bif y2.1 then
    some (.inr (.inl (4,())))
   else some (.inl (v0,v8,v9,(aE .i64 (v10 + 1)),())) else none else none
  else some (.inr (.inr ((()))))
def qK (x : Shape.den mQ) : Option (aR pP):=bM kY (2 ^ 64) x
def rP (x : aI [.list TyD]) : Option (aI [.int .i64]):=match x with
 | (v0,()) =>
  bif ltI 12 (v0.length : Int) then
   some (4,())
  else aB (qK (v0,v0,(v0.length : Int),0,())) fun z3 =>
  gY z3 (fun a4=>some (a4.1,())) fun b5 =>
  some (0,())
noncomputable def zW : Code:=aT Tryz.f110
abbrev HN : Env:=bE [mH]
theorem JN : aZ Tryz.prog HN:=aW ⟨sJ,trivial⟩
noncomputable def qY : Code:=dT zW 0
def EX (id : Nat) : Option aS:=bif Nat.beq id 4 then some ⟨mQ,pP,qK⟩ else none
theorem OQ : ∀ x,dJ Tryz.prog HN 30 (aC Tryz.f110) EX qY mQ pP x = kY x:=by
 rintro ⟨v0,v8,v9,v10,⟨⟩⟩
 kernel_rfl
theorem X6 : aF qY = []:=by kernel_rfl
theorem PH : aG qY = 4:=by kernel_rfl
theorem SD : cE Tryz.prog 30 qY ⟨mQ,pP,qK⟩:=by
 exact cF JN.callee aK.mixed _ (aD X6 trivial) OQ
theorem TN : aF zW = [qY]:=by kernel_rfl
theorem XY : ∀ x,bI Tryz.prog HN Tryz.f110 (aC Tryz.f110) EX zW [.list TyD] [.int .i64] x = rP x:=by
 rintro ⟨v0,⟨⟩⟩
 kernel_rfl
theorem aER : bY Tryz.prog 110 [.list TyD] [.int .i64] rP:=by
 exact aY aK JN Tryz.func110 (c:=zW) (by kernel_rfl) (aU:=aC Tryz.f110) (lt:=EX) (aD TN ⟨cG PH rfl SD,trivial⟩) XY
abbrev RZ : Ent:=⟨110,[.list TyD],[.int .i64],rP⟩
theorem X5 : Ent.OK Tryz.prog RZ:=aER

/-! schisma/hermite.pivot$1 -/
def lN (x : aI [.int .i64]) : Option (aI [.bool]):=match x with
 | (v0,()) =>
  some (!(eqI v0 0),())
noncomputable def wH : Code:=aT Tryz.f206
abbrev GA : Env:=bE []
theorem NA : aZ Tryz.prog GA:=aW trivial
def DJ (id : Nat) : Option aS:=none
theorem LL : aF wH = []:=by kernel_rfl
theorem NG : ∀ x,bI Tryz.prog GA Tryz.f206 (aC Tryz.f206) DJ wH [.int .i64] [.bool] x = lN x:=by
 rintro ⟨v0,⟨⟩⟩
 kernel_rfl
theorem TH : bY Tryz.prog 206 [.int .i64] [.bool] lN:=by
 exact aY aK NA Tryz.func206 (c:=wH) (by kernel_rfl) (aU:=aC Tryz.f206) (lt:=DJ) (aD LL trivial) NG
abbrev FL : Ent:=⟨206,[.int .i64],[.bool],lN⟩
theorem NT : Ent.OK Tryz.prog FL:=TH

/-! slices.IndexFunc[schisma/api.Row,int] -/
abbrev cK : List (Nat×Kd):=[(0,.list TyE),(1,.fn 206),(7,.int .i64),(8,.int .i64)]
abbrev dG : List (Ex×List (Nat×Kd)):=[(.ret,[(4,.int .i64)]),(.exit 0,[])]
def bZ (x : Shape.den cK) : Option (Shape.den cK ⊕ aR dG):=match x with
 | (v0,v1,v7,v8,()) =>
  bif ltI v8 v7 then
   bif aQ v8 v0.length then aB (lN ((v0.getD v8.toNat 0),())) fun y2 =>
   bif y2.1 then
    some (.inr (.inl (v8,())))
   else some (.inl (v0,(),v7,(aE .i64 (v8 + 1)),())) else none
  else some (.inr (.inr ((()))))
def eQ (x : Shape.den cK) : Option (aR dG):=bM bZ (2 ^ 64) x
def eM (x : aI [.list TyE,.fn 206]) : Option (aI [.int .i64]):=match x with
 | (v0,v1,()) =>
  aB (eQ (v0,(),(v0.length : Int),0,())) fun z3 =>
  gY z3 (fun a4=>some (a4.1,())) fun b5 =>
  some ((-1),())
noncomputable def gN : Code:=aT Tryz.f73
abbrev j9 : Env:=bE [FL]
theorem mG : aZ Tryz.prog j9:=aW ⟨NT,trivial⟩
noncomputable def dO : Code:=dT gN 0
def jP (id : Nat) : Option aS:=bif Nat.beq id 2 then some ⟨cK,dG,eQ⟩ else none
theorem r6 : ∀ x,dJ Tryz.prog j9 19 (aC Tryz.f73) jP dO cK dG x = bZ x:=by
 rintro ⟨v0,v1,v7,v8,⟨⟩⟩
 kernel_rfl
theorem uJ : aF dO = []:=by kernel_rfl
theorem sB : aG dO = 2:=by kernel_rfl
theorem sO : cE Tryz.prog 19 dO ⟨cK,dG,eQ⟩:=by
 exact cF mG.callee aK.mixed _ (aD uJ trivial) r6
theorem tG : aF gN = [dO]:=by kernel_rfl
theorem uS : ∀ x,bI Tryz.prog j9 Tryz.f73 (aC Tryz.f73) jP gN [.list TyE,.fn 206] [.int .i64] x = eM x:=by
 rintro ⟨v0,v1,⟨⟩⟩
 kernel_rfl
theorem vP : bY Tryz.prog 73 [.list TyE,.fn 206] [.int .i64] eM:=by
 exact aY aK mG Tryz.func73 (c:=gN) (by kernel_rfl) (aU:=aC Tryz.f73) (lt:=jP) (aD tG ⟨cG sB rfl sO,trivial⟩) uS
abbrev oC : Ent:=⟨73,[.list TyE,.fn 206],[.int .i64],eM⟩
theorem uR : Ent.OK Tryz.prog oC:=vP

/-! schisma/hermite.pivot -/
def oJ (x : aI [.list TyE]) : Option (aI [.int .i64]):=match x with
 | (v0,()) =>
  aB (eM (v0,(),())) fun y1 =>
  some (y1.1,())
noncomputable def CD : Code:=aT Tryz.f190
abbrev LC : Env:=bE [oC]
theorem RG : aZ Tryz.prog LC:=aW ⟨uR,trivial⟩
def JC (id : Nat) : Option aS:=none
theorem QB : aF CD = []:=by kernel_rfl
theorem TI : ∀ x,bI Tryz.prog LC Tryz.f190 (aC Tryz.f190) JC CD [.list TyE] [.int .i64] x = oJ x:=by
 rintro ⟨v0,⟨⟩⟩
 kernel_rfl
theorem YF : bY Tryz.prog 190 [.list TyE] [.int .i64] oJ:=by
 exact aY aK RG Tryz.func190 (c:=CD) (by kernel_rfl) (aU:=aC Tryz.f190) (lt:=JC) (aD QB trivial) TI
abbrev LM : Ent:=⟨190,[.list TyE],[.int .i64],oJ⟩
theorem TG : Ent.OK Tryz.prog LM:=YF

/-! schisma/hermite.isForm$1 -/
def lV (x : aI [.list TyE,.ptr TyE,.ptr TyD]) : Option (aI [.bool]):=match x with
 | (v0,v1,v2,()) =>
  bif aQ v1 v0.length then bif ltI (v0.getD v1.toNat 0) 0 then
   some (true,())
  else bif aQ v1 v0.length then bif aQ v1 v2.length then some (!(ltI (v0.getD v1.toNat 0) (v2.getD v1.toNat 0)),()) else none else none else none
noncomputable def tC : Code:=aT Tryz.f192
abbrev CI : Env:=bE []
theorem J6 : aZ Tryz.prog CI:=aW trivial
def zS (id : Nat) : Option aS:=none
theorem HR : aF tC = []:=by kernel_rfl
theorem JU : ∀ x,bI Tryz.prog CI Tryz.f192 (aC Tryz.f192) zS tC [.list TyE,.ptr TyE,.ptr TyD] [.bool] x = lV x:=by
 rintro ⟨v0,v1,v2,⟨⟩⟩
 kernel_rfl
theorem NP : bY Tryz.prog 192 [.list TyE,.ptr TyE,.ptr TyD] [.bool] lV:=by
 exact aY aK J6 Tryz.func192 (c:=tC) (by kernel_rfl) (aU:=aC Tryz.f192) (lt:=zS) (aD HR trivial) JU
abbrev CU : Ent:=⟨192,[.list TyE,.ptr TyE,.ptr TyD],[.bool],lV⟩
theorem JR : Ent.OK Tryz.prog CU:=NP

/-! slices.IndexFunc[schisma/api.Matrix,schisma/api.Row] -/
abbrev bN : List (Nat×Kd):=[(0,.list TyD),(1,.clo 192 [TyE,TyD]),(7,.int .i64),(8,.int .i64)]
abbrev cC : List (Ex×List (Nat×Kd)):=[(.ret,[(4,.int .i64)]),(.exit 0,[])]
def bL (x : Shape.den bN) : Option (Shape.den bN ⊕ aR cC):=match x with
 | (v0,v1,v7,v8,()) =>
  bif ltI v8 v7 then
   bif aQ v8 v0.length then aB (lV ((v0.getD v8.toNat []),v1.1,v1.2.1,())) fun y2 =>
   bif y2.1 then
    some (.inr (.inl (v8,())))
   else some (.inl (v0,(v1.1,v1.2.1,()),v7,(aE .i64 (v8 + 1)),())) else none
  else some (.inr (.inr ((()))))
def cX (x : Shape.den bN) : Option (aR cC):=bM bL (2 ^ 64) x
def cO (x : aI [.list TyD,.clo 192 [TyE,TyD]]) : Option (aI [.int .i64]):=match x with
 | (v0,v1,()) =>
  aB (cX (v0,(v1.1,v1.2.1,()),(v0.length : Int),0,())) fun z3 =>
  gY z3 (fun a4=>some (a4.1,())) fun b5 =>
  some ((-1),())
noncomputable def dZ : Code:=aT Tryz.f207
abbrev gP : Env:=bE [CU]
theorem jV : aZ Tryz.prog gP:=aW ⟨JR,trivial⟩
noncomputable def cJ : Code:=dT dZ 0
def gE (id : Nat) : Option aS:=bif Nat.beq id 2 then some ⟨bN,cC,cX⟩ else none
theorem oQ : ∀ x,dJ Tryz.prog gP 19 (aC Tryz.f207) gE cJ bN cC x = bL x:=by
 rintro ⟨v0,v1,v7,v8,⟨⟩⟩
 kernel_rfl
theorem p9 : aF cJ = []:=by kernel_rfl
theorem oN : aG cJ = 2:=by kernel_rfl
theorem o3 : cE Tryz.prog 19 cJ ⟨bN,cC,cX⟩:=by
 exact cF jV.callee aK.mixed _ (aD p9 trivial) oQ
theorem pT : aF dZ = [cJ]:=by kernel_rfl
theorem p7 : ∀ x,bI Tryz.prog gP Tryz.f207 (aC Tryz.f207) gE dZ [.list TyD,.clo 192 [TyE,TyD]] [.int .i64] x = cO x:=by
 rintro ⟨v0,v1,⟨⟩⟩
 kernel_rfl
theorem rE : bY Tryz.prog 207 [.list TyD,.clo 192 [TyE,TyD]] [.int .i64] cO:=by
 exact aY aK jV Tryz.func207 (c:=dZ) (by kernel_rfl) (aU:=aC Tryz.f207) (lt:=gE) (aD pT ⟨cG oN rfl o3,trivial⟩) p7
abbrev kT : Ent:=⟨207,[.list TyD,.clo 192 [TyE,TyD]],[.int .i64],cO⟩
theorem qC : Ent.OK Tryz.prog kT:=rE

/-! slices.ContainsFunc[schisma/api.Matrix,schisma/api.Row] -/
def bO (x : aI [.list TyD,.clo 192 [TyE,TyD]]) : Option (aI [.bool]):=match x with
 | (v0,v1,()) =>
  aB (cO (v0,(v1.1,v1.2.1,()),())) fun y1 =>
  some (!(ltI y1.1 0),())
noncomputable def fQ : Code:=aT Tryz.f191
abbrev j5 : Env:=bE [kT]
theorem oO : aZ Tryz.prog j5:=aW ⟨qC,trivial⟩
def jL (id : Nat) : Option aS:=none
theorem nX : aF fQ = []:=by kernel_rfl
theorem oP : ∀ x,bI Tryz.prog j5 Tryz.f191 (aC Tryz.f191) jL fQ [.list TyD,.clo 192 [TyE,TyD]] [.bool] x = bO x:=by
 rintro ⟨v0,v1,⟨⟩⟩
 kernel_rfl
theorem pR : bY Tryz.prog 191 [.list TyD,.clo 192 [TyE,TyD]] [.bool] bO:=by
 exact aY aK oO Tryz.func191 (c:=fQ) (by kernel_rfl) (aU:=aC Tryz.f191) (lt:=jL) (aD nX trivial) oP
abbrev jZ : Ent:=⟨191,[.list TyD,.clo 192 [TyE,TyD]],[.bool],bO⟩
theorem oS : Ent.OK Tryz.prog jZ:=pR

/-! schisma/hermite.isForm -/
abbrev kD : List (Nat×Kd):=[(0,.list TyD),(3,.int .i64),(7,.list TyD),(8,.int .i64),(9,.int .i64)]
abbrev lX : List (Ex×List (Nat×Kd)):=[(.ret,[(2,.bool)]),(.exit 0,[])]
def iM (x : Shape.den kD) : Option (Shape.den kD ⊕ aR lX):=match x with
 | (v0,v3,v7,v8,v9,()) =>
  bif ltI v9 v8 then
   bif aQ v9 v7.length then aB (oJ ((v7.getD v9.toNat []),())) fun y3 =>
   bif !(ltI v3 y3.1) then
    some (.inr (.inl (false,())))
   else bif aQ y3.1 (v7.getD v9.toNat []).length then bif ltI ((v7.getD v9.toNat []).getD y3.1.toNat 0) 0 then
    some (.inr (.inl (false,())))
   else bif !(ltI v9 0) then bif Nat.ble 0 v9.toNat then bif Nat.ble v9.toNat v0.length then aB (bO (((v0.drop 0).take (v9.toNat - 0)),(y3.1,(v7.getD v9.toNat []),()),())) fun y4 =>
   bif y4.1 then
    some (.inr (.inl (false,())))
   else some (.inl (v0,y3.1,v7,v8,(aE .i64 (v9 + 1)),())) else none else none else none else none else none
  else some (.inr (.inr ((()))))
def mZ (x : Shape.den kD) : Option (aR lX):=bM iM (2 ^ 64) x
def mP (x : aI [.list TyD]) : Option (aI [.bool]):=match x with
 | (v0,()) =>
  aB (mZ (v0,(-1),v0,(v0.length : Int),0,())) fun z5 =>
  gY z5 (fun a6=>some (a6.1,())) fun b7 =>
  some (true,())
noncomputable def sW : Code:=aT Tryz.f167
abbrev yU : Env:=bE [LM,jZ]
theorem B5 : aZ Tryz.prog yU:=aW ⟨TG,oS,trivial⟩
noncomputable def mX : Code:=dT sW 0
def wO (id : Nat) : Option aS:=bif Nat.beq id 3 then some ⟨kD,lX,mZ⟩ else none
theorem JP : ∀ x,dJ Tryz.prog yU 33 (aC Tryz.f167) wO mX kD lX x = iM x:=by
 rintro ⟨v0,v3,v7,v8,v9,⟨⟩⟩
 kernel_rfl
theorem PI : aF mX = []:=by kernel_rfl
theorem J4 : aG mX = 3:=by kernel_rfl
theorem KD : cE Tryz.prog 33 mX ⟨kD,lX,mZ⟩:=by
 exact cF B5.callee aK.mixed _ (aD PI trivial) JP
theorem NR : aF sW = [mX]:=by kernel_rfl
theorem P7 : ∀ x,bI Tryz.prog yU Tryz.f167 (aC Tryz.f167) wO sW [.list TyD] [.bool] x = mP x:=by
 rintro ⟨v0,⟨⟩⟩
 kernel_rfl
theorem UP : bY Tryz.prog 167 [.list TyD] [.bool] mP:=by
 exact aY aK B5 Tryz.func167 (c:=sW) (by kernel_rfl) (aU:=aC Tryz.f167) (lt:=wO) (aD NR ⟨cG J4 rfl KD,trivial⟩) P7
abbrev JO : Ent:=⟨167,[.list TyD],[.bool],mP⟩
theorem PA : Ent.OK Tryz.prog JO:=UP

/-! schisma/hermite.IsForm -/
def pN (x : aI [.list TyD]) : Option (aI [.bool,.int .i64]):=match x with
 | (v0,()) =>
  aB (rP (v0,())) fun y1 =>
  bif !(eqI y1.1 0) then
   some (false,y1.1,())
  else aB (mP (v0,())) fun y2 =>
  some (y2.1,0,())
noncomputable def yX : Code:=aT Tryz.f140
abbrev JA : Env:=bE [JO,RZ]
theorem O8 : aZ Tryz.prog JA:=aW ⟨PA,X5,trivial⟩
def GM (id : Nat) : Option aS:=none
theorem NI : aF yX = []:=by kernel_rfl
theorem O5 : ∀ x,bI Tryz.prog JA Tryz.f140 (aC Tryz.f140) GM yX [.list TyD] [.bool,.int .i64] x = pN x:=by
 rintro ⟨v0,⟨⟩⟩
 kernel_rfl
theorem UH : bY Tryz.prog 140 [.list TyD] [.bool,.int .i64] pN:=by
 exact aY aK O8 Tryz.func140 (c:=yX) (by kernel_rfl) (aU:=aC Tryz.f140) (lt:=GM) (aD NI trivial) O5
abbrev JF : Ent:=⟨140,[.list TyD],[.bool,.int .i64],pN⟩
theorem O1 : Ent.OK Tryz.prog JF:=UH

/-! schisma/lattice.Check -/
def oH (x : aI [.agg (.prod TyE TyC)]) : Option (aI [.int .i64]):=match x with
 | (v0,()) =>
  aB (l3 (v0.1,v0.2,())) fun y1 =>
  bif !(eqI y1.1 0) then
   some (y1.1,())
  else aB (pN (v0.2,())) fun y2 =>
  bif !(eqI y2.2.1 0) then
   some (7,())
  else bif y2.1 then
   some (0,())
  else some (7,())
noncomputable def BW : Code:=aT Tryz.f107
abbrev MN : Env:=bE [JF,CG]
theorem QW : aZ Tryz.prog MN:=aW ⟨O1,DG,trivial⟩
def JH (id : Nat) : Option aS:=none
theorem P0 : aF BW = []:=by kernel_rfl
theorem SE : ∀ x,bI Tryz.prog MN Tryz.f107 (aC Tryz.f107) JH BW [.agg (.prod TyE TyC)] [.int .i64] x = oH x:=by
 rintro ⟨v0,⟨⟩⟩
 kernel_rfl
theorem YR : bY Tryz.prog 107 [.agg (.prod TyE TyC)] [.int .i64] oH:=by
 exact aY aK QW Tryz.func107 (c:=BW) (by kernel_rfl) (aU:=aC Tryz.f107) (lt:=JH) (aD P0 trivial) SE
abbrev KM : Ent:=⟨107,[.agg (.prod TyE TyC)],[.int .i64],oH⟩
theorem RX : Ent.OK Tryz.prog KM:=YR

/-! schisma/lattice.checkRow -/
def kV (x : aI [.agg (.prod TyE TyC),.list TyE]) : Option (aI [.int .i64]):=match x with
 | (v0,v1,()) =>
  aB (oH ((v0.1,v0.2),())) fun y1 =>
  bif !(eqI y1.1 0) then
   some (y1.1,())
  else aB (pA (v1,())) fun y2 =>
  bif !(eqI y2.1 0) then
   some (y2.1,())
  else bif !(eqI (v1.length : Int) v0.1) then
   some (5,())
  else some (0,())
noncomputable def vG : Code:=aT Tryz.f80
abbrev D3 : Env:=bE [KM,IK]
theorem L5 : aZ Tryz.prog D3:=aW ⟨RX,EZ,trivial⟩
def BF (id : Nat) : Option aS:=none
theorem JV : aF vG = []:=by kernel_rfl
theorem KE : ∀ x,bI Tryz.prog D3 Tryz.f80 (aC Tryz.f80) BF vG [.agg (.prod TyE TyC),.list TyE] [.int .i64] x = kV x:=by
 rintro ⟨v0,v1,⟨⟩⟩
 kernel_rfl
theorem QG : bY Tryz.prog 80 [.agg (.prod TyE TyC),.list TyE] [.int .i64] kV:=by
 exact aY aK L5 Tryz.func80 (c:=vG) (by kernel_rfl) (aU:=aC Tryz.f80) (lt:=BF) (aD JV trivial) KE
abbrev DP : Ent:=⟨80,[.agg (.prod TyE TyC),.list TyE],[.int .i64],kV⟩
theorem KA : Ent.OK Tryz.prog DP:=QG

/-! (schisma/lattice.Lattice).pivots -/
def iL (x : aI [.agg (.prod TyE TyC)]) : Option (aI [.clo 141 [(.prod TyE TyC)]]):=match x with
 | (v0,()) =>
  some (((v0.1,v0.2),()),())
noncomputable def nZ : Code:=aT Tryz.f108
abbrev uB : Env:=bE []
theorem CX : aZ Tryz.prog uB:=aW trivial
def sK (id : Nat) : Option aS:=none
theorem AQ : aF nZ = []:=by kernel_rfl
theorem BJ : ∀ x,bI Tryz.prog uB Tryz.f108 (aC Tryz.f108) sK nZ [.agg (.prod TyE TyC)] [.clo 141 [(.prod TyE TyC)]] x = iL x:=by
 rintro ⟨v0,⟨⟩⟩
 kernel_rfl
theorem E3 : bY Tryz.prog 108 [.agg (.prod TyE TyC)] [.clo 141 [(.prod TyE TyC)]] iL:=by
 exact aY aK CX Tryz.func108 (c:=nZ) (by kernel_rfl) (aU:=aC Tryz.f108) (lt:=sK) (aD AQ trivial) BJ
abbrev tW : Ent:=⟨108,[.agg (.prod TyE TyC)],[.clo 141 [(.prod TyE TyC)]],iL⟩
theorem CK : Ent.OK Tryz.prog tW:=E3

/-! (schisma/lattice.Lattice).reduce -/
abbrev bP : List (Nat×Kd):=[(4,.bown 137 144 .str),(5,.bown 137 144 .str),(14,.clo 141 [(.prod TyE TyC)])]
abbrev dA : List (Ex×List (Nat×Kd)):=[(.normal,[(4,.bown 137 144 .str),(5,.bown 137 144 .str)])]
def fH (x : Shape.den bP) (e : aI [.int .i64,.list .str]) : Option (Shape.den bP ⊕ aR dA):=match x,e with
 | (v4,v5,v14,()),(e0,e1,()) =>
  bif aQ e0 v4.length then bif Nat.blt e0.toNat v4.length then bif aQ e0 e1.length then aB (lK ((v4.getD e0.toNat ByteArray.empty),(e1.getD e0.toNat ByteArray.empty),())) fun y3 =>
  aB (aPC eX v4 (y3.1,e1,())) fun y4 =>
  bif Nat.ble [y3.1].length 1048576 then bif Nat.ble v5.length 1048576 then some (.inl (y4,(v5 ++ [y3.1]),((v14.1.1,v14.1.2),()),())) else none else none else none else none else none
def lE (x : Shape.den bP) : tN [(.prod TyE TyC)]:=match x with
 | (v4,v5,v14,())=>((v14.1.1,v14.1.2),())
def fF (x : Shape.den bP) : Option (aR dA):=aCS bP dA (fun x=>Q2 (lE x)) fH x
def fX (x : aI [.agg (.prod TyE TyC),.list TyE]) : Option (aI [.list .str,.list .str]):=match x with
 | (v0,v1,()) =>
  aB (kA (v1,())) fun y1 =>
  aB (iL ((v0.1,v0.2),())) fun y2 =>
  aB (fF (y1,[],((y2.1.1.1,y2.1.1.2),()),())) fun z5 =>
  some (z5.1,z5.2.1,())
noncomputable def kS : Code:=aT Tryz.f81
abbrev oD : Env:=aIL [tW,ED] [wJ,vX]
theorem rB : aZ Tryz.prog oD:=DX ⟨CK,FX,trivial⟩ ⟨zN,EH,trivial⟩
noncomputable def bG : Code:=zO kS 0
noncomputable def rV : Code:=inLoop bG
def nF (id : Nat) : Option aS:=none
def nC (id : Nat) : Option aS:=bif Nat.beq id 5 then some ⟨bP,dA,fF⟩ else none
theorem yE : aG rV = 5:=by kernel_rfl
theorem CB : bQ rV = []:=by kernel_rfl
theorem pW : bG = .rangeFunc (DT bG) (R8 bG) (lW bG) (inLoop bG):=by kernel_rfl
theorem yH : ∀ y e,J9 Tryz.prog oD 40 (nU Tryz.f81) nF nC (R8 bG).toList (lW bG) (inLoop bG) [.int .i64,.list .str] bP dA y e = fH y e:=by
 rintro ⟨v4,v5,v14,⟨⟩⟩ ⟨e0,e1,⟨⟩⟩
 kernel_rfl
theorem AA : ∀ x,aAY 141 [(.prod TyE TyC)] bP (DT bG) x = some (lE x):=by
 rintro ⟨v4,v5,v14,⟨⟩⟩
 kernel_rfl
theorem zD : qJ Tryz.prog 40 false [] bG ⟨bP,dA,fF⟩:=by
 exact FR rB aK pW Tryz.func141 (c:=aT Tryz.f141) (by kernel_rfl) aT9 (by kernel_rfl) (kK CB trivial) AA yH
theorem zU : bQ kS = [bG]:=by kernel_rfl
theorem CP : ∀ x,aAD Tryz.prog oD Tryz.f81 (nU Tryz.f81) nF nC kS [.agg (.prod TyE TyC),.list TyE] [.list .str,.list .str] x = fX x:=by
 rintro ⟨v0,v1,⟨⟩⟩
 kernel_rfl
theorem EO : bY Tryz.prog 81 [.agg (.prod TyE TyC),.list TyE] [.list .str,.list .str] fX:=by
 exact RK aK rB Tryz.func81 (c:=kS) (by kernel_rfl) (aU:=nU Tryz.f81) (lt:=nF) (rt:=nC) (kK zU ⟨A8 pW yE rfl zD,trivial⟩) CP
abbrev tU : Ent:=⟨81,[.agg (.prod TyE TyC),.list TyE],[.list .str,.list .str],fX⟩
theorem BI : Ent.OK Tryz.prog tU:=EO

/-! schisma/lattice.Represent -/
def dB (x : aI [.agg (.prod TyE TyC),.list TyE]) : Option (aI [.list TyE,.int .i64]):=match x with
 | (v0,v1,()) =>
  aB (kV ((v0.1,v0.2),v1,())) fun y1 =>
  bif !(eqI y1.1 0) then
   some ([],y1.1,())
  else aB (fX ((v0.1,v0.2),v1,())) fun y2 =>
  aB (jK (y2.1,())) fun y3 =>
  some (y3.1,y3.2.1,())
noncomputable def s9 : Code:=aT Tryz.f68
abbrev CR : Env:=bE [tU,DP,zK]
theorem J7 : aZ Tryz.prog CR:=aW ⟨BI,KA,G8,trivial⟩
def zJ (id : Nat) : Option aS:=none
theorem IW : aF s9 = []:=by kernel_rfl
theorem J1 : ∀ x,bI Tryz.prog CR Tryz.f68 (aC Tryz.f68) zJ s9 [.agg (.prod TyE TyC),.list TyE] [.list TyE,.int .i64] x = dB x:=by
 rintro ⟨v0,v1,⟨⟩⟩
 kernel_rfl
theorem NN : bY Tryz.prog 68 [.agg (.prod TyE TyC),.list TyE] [.list TyE,.int .i64] dB:=by
 exact aY aK J7 Tryz.func68 (c:=s9) (by kernel_rfl) (aU:=aC Tryz.f68) (lt:=zJ) (aD IW trivial) J1
abbrev tF : Ent:=⟨68,[.agg (.prod TyE TyC),.list TyE],[.list TyE,.int .i64],dB⟩
theorem vZ : Ent.OK Tryz.prog tF:=NN
end Go.PM
set_option linter.unusedSimpArgs false
set_option linter.unusedVariables false
namespace Go.PM
open Go Go.RowKit Go.Proofs
set_option maxRecDepth 100000
set_option maxHeartbeats 4000000
/-! schisma/isomorphy.turns -/
def f38 (x : aI [.int .i64]) : Option (aI [.clo 62 [(.list TyF)]]):=match x with
 | (v0,()) =>
  aB (f61 (v0,())) fun y1 =>
  some ((y1.1,()),())
noncomputable def c38 : Code:=aT Tryz.f38
abbrev E38 : Env:=bE [e61]
theorem a6I : aZ Tryz.prog E38:=aW ⟨a86,trivial⟩
def bDS (id : Nat) : Option aS:=none
theorem aZ7 : aF c38 = []:=by kernel_rfl
theorem a7N : ∀ x,bI Tryz.prog E38 Tryz.f38 (aC Tryz.f38) bDS c38 [.int .i64] [.clo 62 [(.list TyF)]] x = f38 x:=by
 rintro ⟨v0,⟨⟩⟩
 kernel_rfl
theorem bE2 : bY Tryz.prog 38 [.int .i64] [.clo 62 [(.list TyF)]] f38:=by
 exact aY aK a6I Tryz.func38 (c:=c38) (by kernel_rfl) (aU:=aC Tryz.f38) (lt:=bDS) (aD aZ7 trivial) a7N
abbrev e38 : Ent:=⟨38,[.int .i64],[.clo 62 [(.list TyF)]],f38⟩
theorem aI2 : Ent.OK Tryz.prog e38:=bE2

/-! schisma/isomorphy.Turn -/
abbrev aBI : List (Nat×Kd):=[(2,.box 25 TyA),(3,.box 27 TyB),(4,.box 25 TyA),(5,.box 30 TyE),(16,.clo 62 [(.list TyF)])]
abbrev aN8 : List (Ex×List (Nat×Kd)):=[(.normal,[(4,.box 25 TyA),(5,.box 30 TyE)]),(.ret,[(4,.box 25 TyA),(5,.box 30 TyE)])]
def aUX (x : Shape.den aBI) (e : aI [.agg TyB]) : Option (Shape.den aBI ⊕ aR aN8):=match x,e with
 | (v2,v3,v4,v5,v16,()),(e0,()) =>
  bif (eqI v3.1 e0.1 && (eqI v3.2.1 e0.2.1 && (eqI v3.2.2.1 e0.2.2.1 && (eqI v3.2.2.2 e0.2.2.2 && true)))) then
   aB (f40 (v2,v3,())) fun y3 =>
   aB (f39 (y3.1,())) fun y4 =>
   some (.inr (.inr ((y4.1,y4.2.1,()))))
  else some (.inl (v2,v3,v4,v5,(v16.1,()),()))
def a2A (x : Shape.den aBI) : tN [(.list TyF)]:=match x with
 | (v2,v3,v4,v5,v16,())=>(v16.1,())
def aY1 (x : Shape.den aBI) : Option (aR aN8):=aCS aBI aN8 (fun x=>GU (a2A x)) aUX x
def f15 (x : aI [.agg TyA,.agg TyB]) : Option (aI [.agg TyA,.int .i64]):=match x with
 | (v0,v1,()) =>
  aB (f24 (v0,())) fun y1 =>
  bif !(eqI y1.1 0) then
   some ((0,([],([],[]))),y1.1,())
  else aB (f38 (v0.1,())) fun y2 =>
  aB (aY1 (v0,v1,(0,([],([],[]))),0,(y2.1.1,()),())) fun z5 =>
  gY z5 (fun a6=>some ((0,([],([],[]))),10,())) fun b7 =>
  some (b7.1,b7.2.1,())
/-! schisma/isomorphy.Fixed -/
abbrev HZ : List (Nat×Kd):=[(1,.box 25 TyA),(2,.own 27 TyB),(3,.int .i64),(5,.bown 34 27 TyB),(14,.clo 62 [(.list TyF)])]
abbrev U8 : List (Ex×List (Nat×Kd)):=[(.normal,[(5,.bown 34 27 TyB)])]
def aKZ (x : Shape.den HZ) (e : aI [.agg TyB]) : Option (Shape.den HZ ⊕ aR U8):=match x,e with
 | (v1,v2,v3,v5,v14,()),(e0,()) =>
  aB (f40 (v1,e0,())) fun y3 =>
  aB (f48 (y3.1,v1,())) fun y4 =>
  bif eqI y4.1 0 then
   bif Nat.ble [e0].length 1048576 then bif Nat.ble v5.length 1048576 then some (.inl (v1,v2,v3,(v5 ++ [e0]),(v14.1,()),())) else none else none
  else some (.inl (v1,v2,v3,v5,(v14.1,()),()))
def aP8 (x : Shape.den HZ) : tN [(.list TyF)]:=match x with
 | (v1,v2,v3,v5,v14,())=>(v14.1,())
def aBH (x : Shape.den HZ) : Option (aR U8):=aCS HZ U8 (fun x=>GU (aP8 x)) aKZ x
def f28 (x : aI [.agg TyA]) : Option (aI [.list TyB,.int .i64]):=match x with
 | (v0,()) =>
  aB (f24 (v0,())) fun y1 =>
  bif !(eqI y1.1 0) then
   some ([],y1.1,())
  else aB (f38 (v0.1,())) fun y2 =>
  aB (aBH (v0,[],0,[],(y2.1.1,()),())) fun z5 =>
  some (z5.1,0,())
noncomputable def c28 : Code:=aT Tryz.f28
abbrev E28 : Env:=bE [e24,e38,e40,e48]
theorem aZB : aZ Tryz.prog E28:=aW ⟨aNK,aI2,aG7,aH3,trivial⟩
noncomputable def I5 : Code:=zO c28 0
noncomputable def a5N : Code:=inLoop I5
def a6H (id : Nat) : Option aS:=none
def bA6 (id : Nat) : Option aS:=bif Nat.beq id 7 then some ⟨HZ,U8,aBH⟩ else none
theorem aUH : aG a5N = 7:=by kernel_rfl
theorem a7L : bQ a5N = []:=by kernel_rfl
theorem aKU : I5 = .rangeFunc (DT I5) (R8 I5) (lW I5) (inLoop I5):=by kernel_rfl
theorem aQ7 : ∀ y e,J9 Tryz.prog E28 27 (nU Tryz.f28) a6H bA6 (R8 I5).toList (lW I5) (inLoop I5) [.agg TyB] HZ U8 y e = aKZ y e:=by
 rintro ⟨v1,v2,v3,v5,v14,⟨⟩⟩ ⟨e0,⟨⟩⟩
 kernel_rfl
theorem a1M : ∀ x,aAY 62 [(.list TyF)] HZ (DT I5) x = some (aP8 x):=by
 rintro ⟨v1,v2,v3,v5,v14,⟨⟩⟩
 kernel_rfl
theorem aXM : qJ Tryz.prog 27 false [] I5 ⟨HZ,U8,aBH⟩:=by
 exact FR aZB aK aKU Tryz.func62 (c:=aT Tryz.f62) (by kernel_rfl) a3M (by kernel_rfl) (kK a7L trivial) a1M aQ7
theorem a4B : bQ c28 = [I5]:=by kernel_rfl
theorem bBV : ∀ x,aAD Tryz.prog E28 Tryz.f28 (nU Tryz.f28) a6H bA6 c28 [.agg TyA] [.list TyB,.int .i64] x = f28 x:=by
 rintro ⟨v0,⟨⟩⟩
 kernel_rfl
theorem bEU : bY Tryz.prog 28 [.agg TyA] [.list TyB,.int .i64] f28:=by
 exact RK aK aZB Tryz.func28 (c:=c28) (by kernel_rfl) (aU:=nU Tryz.f28) (lt:=a6H) (rt:=bA6) (kK a4B ⟨A8 aKU aUH rfl aXM,trivial⟩) bBV
abbrev e28 : Ent:=⟨28,[.agg TyA],[.list TyB,.int .i64],f28⟩
theorem a6O : Ent.OK Tryz.prog e28:=bEU

/-! schisma/isomorphy.canonical -/
abbrev HF : List (Nat×Kd):=[(1,.box 25 TyA),(2,.box 25 TyA),(3,.box 27 TyB),(4,.box 30 TyE),(5,.box 25 TyA),(6,.box 27 TyB),(7,.box 4 .bool),(15,.clo 62 [(.list TyF)])]
abbrev V9 : List (Ex×List (Nat×Kd)):=[(.normal,[(1,.box 25 TyA),(2,.box 25 TyA),(3,.box 27 TyB),(4,.box 30 TyE),(5,.box 25 TyA),(6,.box 27 TyB)]),(.ret,[(2,.box 25 TyA),(3,.box 27 TyB),(4,.box 30 TyE)])]
def aME (x : Shape.den HF) (e : aI [.agg TyB]) : Option (Shape.den HF ⊕ aR V9):=match x,e with
 | (v1,v2,v3,v4,v5,v6,v7,v15,()),(e0,()) =>
  aB (f40 (v1,e0,())) fun y2 =>
  aB (f39 (y2.1,())) fun y3 =>
  bif !(eqI y3.2.1 0) then
   some (.inr (.inr (((0,([],([],[]))),(0,(0,(0,0))),y3.2.1,()))))
  else bif v7 then
   aB (f48 (y3.1,v5,())) fun y4 =>
   bif ltI y4.1 0 then
    some (.inl (v1,v2,v3,v4,y3.1,e0,true,(v15.1,()),()))
   else some (.inl (v1,v2,v3,v4,v5,v6,v7,(v15.1,()),()))
  else some (.inl (v1,v2,v3,v4,y3.1,e0,true,(v15.1,()),()))
def aQA (x : Shape.den HF) : tN [(.list TyF)]:=match x with
 | (v1,v2,v3,v4,v5,v6,v7,v15,())=>(v15.1,())
def aBM (x : Shape.den HF) : Option (aR V9):=aCS HF V9 (fun x=>GU (aQA x)) aME x
def f47 (x : aI [.agg TyA]) : Option (aI [.agg TyA,.agg TyB,.int .i64]):=match x with
 | (v0,()) =>
  aB (f38 (v0.1,())) fun y1 =>
  aB (aBM (v0,(0,([],([],[]))),(0,(0,(0,0))),0,(0,([],([],[]))),(0,(0,(0,0))),false,(y1.1.1,()),())) fun z5 =>
  gY z5 (fun a6=>aB (kP ((a6.1.2.1.length : Int),[a6.1.2.2.1,a6.1.2.2.2],())) fun y8 =>
   bif !(eqI y8.2.1 0) then
    some ((0,([],([],[]))),(0,(0,(0,0))),y8.2.1,())
   else aB (dB ((y8.1.1,y8.1.2),a6.1.2.1,())) fun y9 =>
   bif !(eqI y9.2.1 0) then
    some ((0,([],([],[]))),(0,(0,(0,0))),y9.2.1,())
   else some ((a6.2.2.2.2.1.1,(y9.1,(a6.2.2.2.2.1.2.2.1,a6.2.2.2.2.1.2.2.2))),a6.2.2.2.2.2.1,0,())) fun b7 =>
  some (b7.1,b7.2.1,b7.2.2.1,())
noncomputable def c47 : Code:=aT Tryz.f47
abbrev E47 : Env:=bE [e38,e39,e40,e48,L7,tF]
theorem aZN : aZ Tryz.prog E47:=aW ⟨aI2,a6W,aG7,aH3,K6,vZ,trivial⟩
noncomputable def JI : Code:=zO c47 0
noncomputable def a5T : Code:=inLoop JI
def a7B (id : Nat) : Option aS:=none
def bAE (id : Nat) : Option aS:=bif Nat.beq id 6 then some ⟨HF,V9,aBM⟩ else none
theorem aRF : aG a5T = 6:=by kernel_rfl
theorem a6P : bQ a5T = []:=by kernel_rfl
theorem aKY : JI = .rangeFunc (DT JI) (R8 JI) (lW JI) (inLoop JI):=by kernel_rfl
theorem aUF : ∀ y e,J9 Tryz.prog E47 71 (nU Tryz.f47) a7B bAE (R8 JI).toList (lW JI) (inLoop JI) [.agg TyB] HF V9 y e = aME y e:=by
 rintro ⟨v1,v2,v3,v4,v5,v6,v7,v15,⟨⟩⟩ ⟨e0,⟨⟩⟩
 kernel_rfl
theorem a2U : ∀ x,aAY 62 [(.list TyF)] HF (DT JI) x = some (aQA x):=by
 rintro ⟨v1,v2,v3,v4,v5,v6,v7,v15,⟨⟩⟩
 kernel_rfl
theorem aV1 : qJ Tryz.prog 71 false [] JI ⟨HF,V9,aBM⟩:=by
 exact FR aZN aK aKY Tryz.func62 (c:=aT Tryz.f62) (by kernel_rfl) a3M (by kernel_rfl) (kK a6P trivial) a2U aUF
theorem a3N : bQ c47 = [JI]:=by kernel_rfl
theorem bBU : ∀ x,aAD Tryz.prog E47 Tryz.f47 (nU Tryz.f47) a7B bAE c47 [.agg TyA] [.agg TyA,.agg TyB,.int .i64] x = f47 x:=by
 rintro ⟨v0,⟨⟩⟩
 kernel_rfl
theorem bFI : bY Tryz.prog 47 [.agg TyA] [.agg TyA,.agg TyB,.int .i64] f47:=by
 exact RK aK aZN Tryz.func47 (c:=c47) (by kernel_rfl) (aU:=nU Tryz.f47) (lt:=a7B) (rt:=bAE) (kK a3N ⟨A8 aKY aRF rfl aV1,trivial⟩) bBU
abbrev e47 : Ent:=⟨47,[.agg TyA],[.agg TyA,.agg TyB,.int .i64],f47⟩
theorem aWX : Ent.OK Tryz.prog e47:=bFI

/-! schisma/isomorphy.Canonical -/
def f26 (x : aI [.agg TyA]) : Option (aI [.agg TyA,.int .i64]):=match x with
 | (v0,()) =>
  aB (f24 (v0,())) fun y1 =>
  bif !(eqI y1.1 0) then
   some ((0,([],([],[]))),y1.1,())
  else aB (f47 (v0,())) fun y2 =>
  some (y2.1,y2.2.2.1,())
noncomputable def c26 : Code:=aT Tryz.f26
abbrev E26 : Env:=bE [e24,e47]
theorem bAX : aZ Tryz.prog E26:=aW ⟨aNK,aWX,trivial⟩
def bC1 (id : Nat) : Option aS:=none
theorem aZY : aF c26 = []:=by kernel_rfl
theorem a8I : ∀ x,bI Tryz.prog E26 Tryz.f26 (aC Tryz.f26) bC1 c26 [.agg TyA] [.agg TyA,.int .i64] x = f26 x:=by
 rintro ⟨v0,⟨⟩⟩
 kernel_rfl
theorem bE6 : bY Tryz.prog 26 [.agg TyA] [.agg TyA,.int .i64] f26:=by
 exact aY aK bAX Tryz.func26 (c:=c26) (by kernel_rfl) (aU:=aC Tryz.f26) (lt:=bC1) (aD aZY trivial) a8I
abbrev e26 : Ent:=⟨26,[.agg TyA],[.agg TyA,.int .i64],f26⟩
theorem a7S : Ent.OK Tryz.prog e26:=bE6

/-! schisma/isomorphy.steps -/
abbrev TZ : List (Nat×Kd):=[(0,.list TyE),(1,.list TyE),(11,.list TyE),(12,.int .i64),(13,.int .i64),(42,.agg TyF),(43,.int .i64)]
abbrev aBS : List (Ex×List (Nat×Kd)):=[(.ret,[(8,.int .i64),(9,.int .i64),(10,.bool)]),(.exit 4,[(0,.list TyE),(1,.list TyE),(11,.list TyE),(12,.int .i64),(13,.int .i64)])]
def aLF (x : Shape.den TZ) : Option (Shape.den TZ ⊕ aR aBS):=match x with
 | (v0,v1,v11,v12,v13,v42,v43,()) =>
  bif ltI v43 2 then
   bif eqI v43 0 then
    aB (f65 (v0,v1,v13,v42.1,())) fun y6 =>
    aB (f46 (y6.1,v11,())) fun y7 =>
    bif y7.1 then
     some (.inr (.inl (v13,v42.1,true,())))
    else some (.inl (v0,v1,v11,v12,v13,(v42.1,v42.2),(aE .i64 (v43 + 1)),()))
   else bif eqI v43 1 then aB (f65 (v0,v1,v13,v42.2,())) fun y8 =>
   aB (f46 (y8.1,v11,())) fun y9 =>
   bif y9.1 then
    some (.inr (.inl (v13,v42.2,true,())))
   else some (.inl (v0,v1,v11,v12,v13,(v42.1,v42.2),(aE .i64 (v43 + 1)),())) else none
  else some (.inr (.inr ((v0,v1,v11,v12,v13,()))))
def aC9 (x : Shape.den TZ) : Option (aR aBS):=bM aLF (2 ^ 64) x
abbrev TK : List (Nat×Kd):=[(0,.list TyE),(1,.list TyE),(11,.list TyE),(12,.int .i64),(13,.int .i64)]
abbrev aBV : List (Ex×List (Nat×Kd)):=[(.ret,[(8,.int .i64),(9,.int .i64),(10,.bool)]),(.exit 2,[(0,.list TyE),(1,.list TyE),(11,.list TyE),(12,.int .i64)])]
def aLO (x : Shape.den TK) : Option (Shape.den TK ⊕ aR aBV):=match x with
 | (v0,v1,v11,v12,v13,()) =>
  bif !(ltI v12 v13) then
   aB (aC9 (v0,v1,v11,v12,v13,((aE .i64 (v12 - (if v13 < (IntKind.wrap .i64 (0 - v13)) then (IntKind.wrap .i64 (0 - v13)) else v13))),(aE .i64 ((if v13 < (IntKind.wrap .i64 (0 - v13)) then (IntKind.wrap .i64 (0 - v13)) else v13) - v12))),0,())) fun z13 =>
   gY z13 (fun a14=>some (.inr (.inl (a14.1,a14.2.1,a14.2.2.1,())))) fun b15 =>
   some (.inl (b15.1,b15.2.1,b15.2.2.1,b15.2.2.2.1,(aE .i64 (b15.2.2.2.2.1 + 1)),()))
  else some (.inr (.inr ((v0,v1,v11,v12,()))))
def aCT (x : Shape.den TK) : Option (aR aBV):=bM aLO (2 ^ 64) x
abbrev UO : List (Nat×Kd):=[(0,.list TyE),(1,.list TyE),(11,.list TyE),(12,.int .i64)]
abbrev ZT : List (Ex×List (Nat×Kd)):=[(.ret,[(8,.int .i64),(9,.int .i64),(10,.bool)]),(.exit 0,[(0,.list TyE),(1,.list TyE),(11,.list TyE)])]
def aM3 (x : Shape.den UO) : Option (Shape.den UO ⊕ aR ZT):=match x with
 | (v0,v1,v11,v12,()) =>
  bif !(ltI 2000 v12) then
   aB (aCT (v0,v1,v11,v12,(IntKind.wrap .i64 (0 - v12)),())) fun z19 =>
   gY z19 (fun a20=>some (.inr (.inl (a20.1,a20.2.1,a20.2.2.1,())))) fun b21 =>
   bif ltI 16 b21.2.2.2.1 then
    some (.inr (.inr ((b21.1,b21.2.1,b21.2.2.1,()))))
   else some (.inl (b21.1,b21.2.1,b21.2.2.1,(aE .i64 (b21.2.2.2.1 + 1)),()))
  else some (.inr (.inr ((v0,v1,v11,()))))
def aB5 (x : Shape.den UO) : Option (aR ZT):=bM aM3 (2 ^ 64) x
def f49 (x : aI [.list TyE,.list TyE,.list TyE,.list TyE]) : Option (aI [.int .i64,.int .i64,.bool]):=match x with
 | (v0,v1,v2,v3,()) =>
  aB (f65 (v3,v2,1,(-1),())) fun y1 =>
  aB (aB5 (v0,v1,y1.1,0,())) fun z22 =>
  gY z22 (fun a23=>some (a23.1,a23.2.1,a23.2.2.1,())) fun b24 =>
  none
noncomputable def c49 : Code:=aT Tryz.f49
abbrev E49 : Env:=bE [e46,e65]
theorem aHD : aZ Tryz.prog E49:=aW ⟨aPT,aY5,trivial⟩
noncomputable def aGM : Code:=dT c49 0
noncomputable def aFS : Code:=dT aGM 0
noncomputable def aLW : Code:=dT aFS 0
def aXU (id : Nat) : Option aS:=bif Nat.beq id 9 then some ⟨TZ,aBS,aC9⟩ else bif Nat.beq id 6 then some ⟨TK,aBV,aCT⟩ else bif Nat.beq id 3 then some ⟨UO,ZT,aB5⟩ else none
theorem aS2 : ∀ x,dJ Tryz.prog E49 65 (aC Tryz.f49) aXU aLW TZ aBS x = aLF x:=by
 rintro ⟨v0,v1,v11,v12,v13,v42,v43,⟨⟩⟩
 kernel_rfl
theorem a89 : aF aLW = []:=by kernel_rfl
theorem aTA : aG aLW = 9:=by kernel_rfl
theorem aWU : cE Tryz.prog 65 aLW ⟨TZ,aBS,aC9⟩:=by
 exact cF aHD.callee aK.mixed _ (aD a89 trivial) aS2
theorem aQ9 : ∀ x,dJ Tryz.prog E49 65 (aC Tryz.f49) aXU aFS TK aBV x = aLO x:=by
 rintro ⟨v0,v1,v11,v12,v13,⟨⟩⟩
 kernel_rfl
theorem bB4 : aF aFS = [aLW]:=by kernel_rfl
theorem aS1 : aG aFS = 6:=by kernel_rfl
theorem aUZ : cE Tryz.prog 65 aFS ⟨TK,aBV,aCT⟩:=by
 exact cF aHD.callee aK.mixed _ (aD bB4 ⟨cG aTA rfl aWU,trivial⟩) aQ9
theorem aRT : ∀ x,dJ Tryz.prog E49 65 (aC Tryz.f49) aXU aGM UO ZT x = aM3 x:=by
 rintro ⟨v0,v1,v11,v12,⟨⟩⟩
 kernel_rfl
theorem a88 : aF aGM = [aFS]:=by kernel_rfl
theorem aSH : aG aGM = 3:=by kernel_rfl
theorem aU0 : cE Tryz.prog 65 aGM ⟨UO,ZT,aB5⟩:=by
 exact cF aHD.callee aK.mixed _ (aD a88 ⟨cG aS1 rfl aUZ,trivial⟩) aRT
theorem a27 : aF c49 = [aGM]:=by kernel_rfl
theorem bAW : ∀ x,bI Tryz.prog E49 Tryz.f49 (aC Tryz.f49) aXU c49 [.list TyE,.list TyE,.list TyE,.list TyE] [.int .i64,.int .i64,.bool] x = f49 x:=by
 rintro ⟨v0,v1,v2,v3,⟨⟩⟩
 kernel_rfl
theorem bFF : bY Tryz.prog 49 [.list TyE,.list TyE,.list TyE,.list TyE] [.int .i64,.int .i64,.bool] f49:=by
 exact aY aK aHD Tryz.func49 (c:=c49) (by kernel_rfl) (aU:=aC Tryz.f49) (lt:=aXU) (aD a27 ⟨cG aSH rfl aU0,trivial⟩) bAW
abbrev e49 : Ent:=⟨49,[.list TyE,.list TyE,.list TyE,.list TyE],[.int .i64,.int .i64,.bool],f49⟩
theorem a7D : Ent.OK Tryz.prog e49:=bFF

/-! schisma/isomorphy.Isomorphic -/
abbrev UF : List (Nat×Kd):=[(2,.box 25 TyA),(3,.box 25 TyA),(4,.box 49 (.prod TyB TyF)),(5,.box 4 .bool),(6,.box 30 TyE),(21,.agg (.prod TyA TyA)),(22,.int .i64)]
abbrev aAN : List (Ex×List (Nat×Kd)):=[(.ret,[(4,.box 49 (.prod TyB TyF)),(5,.box 4 .bool),(6,.box 30 TyE)]),(.exit 0,[(2,.box 25 TyA),(3,.box 25 TyA),(4,.box 49 (.prod TyB TyF)),(5,.box 4 .bool),(6,.box 30 TyE)])]
def aKD (x : Shape.den UF) : Option (Shape.den UF ⊕ aR aAN):=match x with
 | (v2,v3,v4,v5,v6,v21,v22,()) =>
  bif ltI v22 2 then
   bif eqI v22 0 then
    aB (f24 (v21.1,())) fun y3 =>
    bif !(eqI y3.1 0) then
     some (.inr (.inl (((0,(0,(0,0))),(0,0)),false,y3.1,())))
    else some (.inl (v2,v3,(v4.1,(v4.2.1,v4.2.2)),v5,v6,(v21.1,v21.2),(aE .i64 (v22 + 1)),()))
   else bif eqI v22 1 then aB (f24 (v21.2,())) fun y4 =>
   bif !(eqI y4.1 0) then
    some (.inr (.inl (((0,(0,(0,0))),(0,0)),false,y4.1,())))
   else some (.inl (v2,v3,(v4.1,(v4.2.1,v4.2.2)),v5,v6,(v21.1,v21.2),(aE .i64 (v22 + 1)),())) else none
  else some (.inr (.inr ((v2,v3,(v4.1,(v4.2.1,v4.2.2)),v5,v6,()))))
def aAS (x : Shape.den UF) : Option (aR aAN):=bM aKD (2 ^ 64) x
abbrev I3 : List (Nat×Kd):=[(2,.box 25 TyA),(3,.box 25 TyA),(4,.box 49 (.prod TyB TyF)),(5,.box 4 .bool),(6,.box 30 TyE),(67,.clo 62 [(.list TyF)])]
abbrev V8 : List (Ex×List (Nat×Kd)):=[(.normal,[(4,.box 49 (.prod TyB TyF)),(5,.box 4 .bool),(6,.box 30 TyE)]),(.ret,[(4,.box 49 (.prod TyB TyF)),(5,.box 4 .bool),(6,.box 30 TyE)])]
def aLX (x : Shape.den I3) (e : aI [.agg TyB]) : Option (Shape.den I3 ⊕ aR V8):=match x,e with
 | (v2,v3,v4,v5,v6,v67,()),(e0,()) =>
  aB (f40 (v2,e0,())) fun y12 =>
  aB (f48 (y12.1,v3,())) fun y13 =>
  bif !(eqI y13.1 0) then
   some (.inl (v2,v3,(v4.1,(v4.2.1,v4.2.2)),v5,v6,(v67.1,()),()))
  else aB (f49 (v2.2.2.1,v2.2.2.2,v2.2.1,v3.2.1,())) fun y14 =>
  bif y14.2.2.1 then
   bif !(ltI 1000 (if y14.1 < (IntKind.wrap .i64 (0 - y14.1)) then (IntKind.wrap .i64 (0 - y14.1)) else y14.1)) then
    bif !(ltI 1000 (if y14.2.1 < (IntKind.wrap .i64 (0 - y14.2.1)) then (IntKind.wrap .i64 (0 - y14.2.1)) else y14.2.1)) then
     some (.inr (.inr (((e0,(y14.1,y14.2.1)),true,0,()))))
    else some (.inl (v2,v3,(v4.1,(v4.2.1,v4.2.2)),v5,v6,(v67.1,()),()))
   else some (.inl (v2,v3,(v4.1,(v4.2.1,v4.2.2)),v5,v6,(v67.1,()),()))
  else some (.inl (v2,v3,(v4.1,(v4.2.1,v4.2.2)),v5,v6,(v67.1,()),()))
def aPZ (x : Shape.den I3) : tN [(.list TyF)]:=match x with
 | (v2,v3,v4,v5,v6,v67,())=>(v67.1,())
def aCY (x : Shape.den I3) : Option (aR V8):=aCS I3 V8 (fun x=>GU (aPZ x)) aLX x
def f27 (x : aI [.agg TyA,.agg TyA]) : Option (aI [.agg (.prod TyB TyF),.bool,.int .i64]):=match x with
 | (v0,v1,()) =>
  aB (aAS (v0,v1,((0,(0,(0,0))),(0,0)),false,0,(v0,v1),0,())) fun z5 =>
  gY z5 (fun a6=>some ((a6.1.1,(a6.1.2.1,a6.1.2.2)),a6.2.1,a6.2.2.1,())) fun b7 =>
  bif !(eqI (b7.1.2.1.length : Int) (b7.2.1.2.1.length : Int)) then
   some (((0,(0,(0,0))),(0,0)),false,5,())
  else aB (f47 (b7.1,())) fun y8 =>
  bif !(eqI y8.2.2.1 0) then
   some (((0,(0,(0,0))),(0,0)),false,y8.2.2.1,())
  else aB (f47 (b7.2.1,())) fun y9 =>
  bif !(eqI y9.2.2.1 0) then
   some (((0,(0,(0,0))),(0,0)),false,y9.2.2.1,())
  else aB (f25 (y8.1,y9.1,())) fun y10 =>
  bif y10.1 then
   aB (f38 (b7.1.1,())) fun y11 =>
   aB (aCY (b7.1,b7.2.1,(b7.2.2.1.1,(b7.2.2.1.2.1,b7.2.2.1.2.2)),b7.2.2.2.1,y9.2.2.1,(y11.1.1,()),())) fun z15 =>
   gY z15 (fun a16=>some (((0,(0,(0,0))),(0,0)),false,3,())) fun b17 =>
   some ((b17.1.1,(b17.1.2.1,b17.1.2.2)),b17.2.1,b17.2.2.1,())
  else some (((0,(0,(0,0))),(0,0)),false,0,())
noncomputable def c27 : Code:=aT Tryz.f27
abbrev E27 : Env:=bE [e24,e25,e38,e40,e47,e48,e49]
theorem aOI : aZ Tryz.prog E27:=aW ⟨aNK,bAZ,aI2,aG7,aWX,aH3,a7D,trivial⟩
noncomputable def aLR : Code:=inLoop (zO c27 0)
noncomputable def JG : Code:=zO c27 1
noncomputable def a5U : Code:=inLoop JG
def a0F (id : Nat) : Option aS:=bif Nat.beq id 2 then some ⟨UF,aAN,aAS⟩ else none
def a4L (id : Nat) : Option aS:=bif Nat.beq id 20 then some ⟨I3,V8,aCY⟩ else none
theorem aUD : aG aLR = 2:=by kernel_rfl
theorem a9L : bQ aLR = []:=by kernel_rfl
theorem aR9 : ∀ x,EM Tryz.prog E27 109 (nU Tryz.f27) a0F a4L false [] aLR UF aAN x = aKD x:=by
 rintro ⟨v2,v3,v4,v5,v6,v21,v22,⟨⟩⟩
 kernel_rfl
theorem aXN : qJ Tryz.prog 109 false [] (.loop aLR) ⟨UF,aAN,aAS⟩:=by
 exact vF aOI.callee aK.mixed _ (kK a9L trivial) aR9
theorem aUP : aG a5U = 20:=by kernel_rfl
theorem a9O : bQ a5U = []:=by kernel_rfl
theorem aKF : JG = .rangeFunc (DT JG) (R8 JG) (lW JG) (inLoop JG):=by kernel_rfl
theorem aS7 : ∀ y e,J9 Tryz.prog E27 109 (nU Tryz.f27) a0F a4L (R8 JG).toList (lW JG) (inLoop JG) [.agg TyB] I3 V8 y e = aLX y e:=by
 rintro ⟨v2,v3,v4,v5,v6,v67,⟨⟩⟩ ⟨e0,⟨⟩⟩
 kernel_rfl
theorem aZ6 : ∀ x,aAY 62 [(.list TyF)] I3 (DT JG) x = some (aPZ x):=by
 rintro ⟨v2,v3,v4,v5,v6,v67,⟨⟩⟩
 kernel_rfl
theorem aW2 : qJ Tryz.prog 109 false [] JG ⟨I3,V8,aCY⟩:=by
 exact FR aOI aK aKF Tryz.func62 (c:=aT Tryz.f62) (by kernel_rfl) a3M (by kernel_rfl) (kK a9O trivial) aZ6 aS7
theorem a2D : bQ c27 = [.loop aLR,JG]:=by kernel_rfl
theorem bBW : ∀ x,aAD Tryz.prog E27 Tryz.f27 (nU Tryz.f27) a0F a4L c27 [.agg TyA,.agg TyA] [.agg (.prod TyB TyF),.bool,.int .i64] x = f27 x:=by
 rintro ⟨v0,v1,⟨⟩⟩
 kernel_rfl
theorem bFA : bY Tryz.prog 27 [.agg TyA,.agg TyA] [.agg (.prod TyB TyF),.bool,.int .i64] f27:=by
 exact RK aK aOI Tryz.func27 (c:=c27) (by kernel_rfl) (aU:=nU Tryz.f27) (lt:=a0F) (rt:=a4L) (kK a2D ⟨xW aUD rfl aXN,A8 aKF aUP rfl aW2,trivial⟩) bBW
abbrev e27 : Ent:=⟨27,[.agg TyA,.agg TyA],[.agg (.prod TyB TyF),.bool,.int .i64],f27⟩
theorem a6T : Ent.OK Tryz.prog e27:=bFA

/-! schisma/schismalaw46.known -/
def g12 (x : aI []) : Option (aI [.bool]):=match x with
 | (()) =>
  aB (f26 ((1,([0],([2],[5]))),())) fun y1 =>
  aB (f26 ((2,([0],([2],[5]))),())) fun y2 =>
  aB (f28 ((1,([0],([1],[1]))),())) fun y3 =>
  aB (f27 ((1,([0],([2],[5]))),(1,([0],([5],[2]))),())) fun y4 =>
  bif eqI y1.2.1 0 then
   aB (f19 (y1.1,(1,([0],([(-5)],[(-2)]))),())) fun y5 =>
   bif y5.1 then
    bif eqI y2.2.1 0 then
     aB (f19 (y2.1,(2,([0],([(-5)],[(-3)]))),())) fun y6 =>
     bif y6.1 then
      bif eqI y3.2.1 0 then
       bif eqI (y3.1.length : Int) 2 then
        bif eqI y4.2.2.1 0 then
         some (y4.2.1,())
        else some (false,())
       else some (false,())
      else some (false,())
     else some (false,())
    else some (false,())
   else some (false,())
  else some (false,())
noncomputable def c12 : Code:=aT Tryz.f12
abbrev E12 : Env:=bE [e19,e26,e27,e28]
theorem a9V : aZ Tryz.prog E12:=aW ⟨aNW,a7S,a6T,a6O,trivial⟩
def bCH (id : Nat) : Option aS:=none
theorem a4J : aF c12 = []:=by kernel_rfl
theorem a6U : ∀ x,bI Tryz.prog E12 Tryz.f12 (aC Tryz.f12) bCH c12 [] [.bool] x = g12 x:=by
 rintro ⟨⟨⟩⟩
 kernel_rfl
theorem bEX : bY Tryz.prog 12 [] [.bool] g12:=by
 exact aY aK a9V Tryz.func12 (c:=c12) (by kernel_rfl) (aU:=aC Tryz.f12) (lt:=bCH) (aD a4J trivial) a6U
def f12 (x : aI []) : Option (aI [.bool]):=some (true,())
theorem a4N : ∀ x,g12 x = f12 x:=by
 rintro ⟨⟩
 kernel_rfl
theorem bEW : bY Tryz.prog 12 [] [.bool] f12:=by
 have h : g12 = f12:=funext a4N
 rw [← h]
 exact bEX
abbrev e12 : Ent:=⟨12,[],[.bool],f12⟩
theorem a8L : Ent.OK Tryz.prog e12:=bEW
/-! schisma/schismalaw46.IsomorphyTurns -/
abbrev aY6 : List (Nat×Kd):=[(2,.box 25 TyA),(3,.box 27 TyB),(5,.box 25 TyA),(6,.int .i64),(7,.list TyB),(8,.bool),(9,.int .i64)]
abbrev a5Q : List (Ex×List (Nat×Kd)):=[(.exit 0,[(2,.box 25 TyA),(3,.box 27 TyB),(5,.box 25 TyA),(6,.int .i64),(8,.bool)])]
def a1G (x : Shape.den aY6) : Option (Shape.den aY6 ⊕ aR a5Q):=match x with
 | (v2,v3,v5,v6,v7,v8,v9,()) =>
  bif ltI v9 (v7.length : Int) then
   bif v8 then
    some (.inl (v2,v3,v5,v6,v7,true,(aE .i64 (v9 + 1)),()))
   else bif aQ v9 v7.length then some (.inl (v2,v3,v5,v6,v7,(eqI ((v7.getD v9.toNat (0,(0,(0,0)))).1) v3.1 && (eqI ((v7.getD v9.toNat (0,(0,(0,0)))).2.1) v3.2.1 && (eqI ((v7.getD v9.toNat (0,(0,(0,0)))).2.2.1) v3.2.2.1 && (eqI ((v7.getD v9.toNat (0,(0,(0,0)))).2.2.2) v3.2.2.2 && true)))),(aE .i64 (v9 + 1)),())) else none
  else some (.inr ((v2,v3,v5,v6,v8,())))
def a1J (x : Shape.den aY6) : Option (aR a5Q):=bM a1G (2 ^ 64) x
def f3 (x : aI [.agg TyA,.agg TyB]) : Option (aI [.bool]):=match x with
 | (v0,v1,()) =>
  aB (f12 (())) fun y1 =>
  bif y1.1 then
   aB (f13 (v0,())) fun y2 =>
   bif y2.1 then
    aB (f14 (v0,())) fun y3 =>
    bif !(eqI y3.1 0) then
     aB (f12 (())) fun y4 =>
     some (y4.1,())
    else aB (f15 (v0,v1,())) fun y5 =>
    aB (f16 (v0.1,())) fun y6 =>
    aB (a1J (v0,v1,y5.1,y5.2.1,y6.1,false,0,())) fun z7 =>
    bif z7.2.2.2.2.1 then
     aB (f18 (z7.1,z7.2.1,())) fun y8 =>
     bif y8.2.1 then
      bif eqI z7.2.2.2.1 0 then
       aB (f19 (z7.2.2.1,y8.1,())) fun y9 =>
       some (y9.1,())
      else some (false,())
     else aB (f17 (z7.2.2.1,())) fun y10 =>
     bif y10.1 then
      some (eqI z7.2.2.2.1 4,())
     else some (false,())
    else aB (f17 (z7.2.2.1,())) fun y11 =>
    bif y11.1 then
     some (eqI z7.2.2.2.1 10,())
    else some (false,())
   else aB (f12 (())) fun y12 =>
   some (y12.1,())
  else aB (f12 (())) fun y13 =>
  some (y13.1,())
abbrev e3 : Ent:=⟨3,[.agg TyA,.agg TyB],[.bool],f3⟩
end Go.PM
set_option linter.unusedSimpArgs false
set_option linter.unusedVariables false
namespace Go.PM
open Go Go.RowKit Go.Proofs
set_option maxRecDepth 100000
theorem KY {τ : Type} (p : Nat→Prop) [DecidablePred p] (g : Nat→τ) : ∀ l : List Nat,(l.findSome? fun i=>if p i then some (g i) else none) = (l.find? fun i=>decide (p i)).map g
 | []=>rfl
 | i :: l=>by
  rw [List.findSome?_cons,List.find?_cons]
  by_cases h : p i
  ·simp [h]
  ·simp [h,KY p g l]
theorem aX8 (j : Nat) : (!(ltI (j : Int) 0)) = true:=by rw [aN,decide_eq_false (by omega)]; rfl
theorem aMX {s : List Int} {i : Nat} (h : i < s.length) : s.getD i 0 ∈ s:=by
 rw [List.getD_eq_getElem?_getD,List.getElem?_eq_getElem h]; exact List.getElem_mem h
theorem bAG (v : Int) : f60 (v,()) = some (decide (-1000000000 ≤ v∧v ≤ 1000000000),()):=by
 unfold f60; dsimp only
 simp only [aN,pB,cD]
 by_cases h : ¬ v < -1000000000
 ·rw [if_pos h]
  by_cases h2 : v ≤ 1000000000
  ·rw [decide_eq_true (show -1000000000 ≤ v∧v ≤ 1000000000 by omega),decide_eq_true (show ¬ 1000000000 < v by omega)]
  ·rw [decide_eq_false (show ¬ (-1000000000 ≤ v∧v ≤ 1000000000) by omega),decide_eq_false (show ¬ ¬ 1000000000 < v by omega)]
 ·rw [if_neg h,decide_eq_false (by omega)]
def okE (v : Int) : Prop:=-1000000000 ≤ v∧v ≤ 1000000000
instance (v : Int) : Decidable (okE v):=by unfold okE; infer_instance
theorem a7G (v : Int) : f59 (v,()) = some (decide (¬ okE v),()):=by
 unfold f59; dsimp only
 rw [bAG,aH]
 by_cases h : okE v
 ·rw [decide_eq_false (not_not_intro h)]
  unfold okE at h
  rw [decide_eq_true h]; rfl
 ·rw [decide_eq_true h]
  unfold okE at h
  rw [decide_eq_false h]; rfl
theorem bAA (v : Int) : f21 (v,()) = some (decide (okE v),()):=by
 unfold f21; dsimp only
 simp only [aN,pB,cD]
 by_cases h : ¬ 1000000000 < v
 ·rw [if_pos h]
  by_cases h2 : -1000000000 ≤ v
  ·rw [decide_eq_true (show okE v from ⟨by omega,by omega⟩),decide_eq_true (show ¬ v < -1000000000 by omega)]
  ·rw [decide_eq_false (show ¬ okE v from fun hh=>h2 hh.1),decide_eq_false (show ¬ ¬ v < -1000000000 by omega)]
 ·rw [if_neg h,decide_eq_false (show ¬ okE v from fun hh=>h (by have:=hh.2; omega))]
def rc (r : List Int) : Int:=if 64 < r.length then 4 else if (∀ i,i < r.length→okE (r.getD i 0)) then 0 else 4
theorem VX (r : List Int) : f37 (r,()) = some (rc r,()):=by
 unfold f37 rc; dsimp only
 simp only [aN,cD]
 by_cases h64 : 64 < r.length
 ·rw [if_pos h64,if_pos (by omega)]
 ·rw [if_neg h64,if_neg (by omega)]
  have hloop : wZ (r,(),(r.length : Int),0,()) = some ((((List.range r.length).find? fun i=>decide (¬ okE (r.getD i 0))).map fun i : Nat=>.inl ((i : Int),())).getD (.inr ())):=by
   rw [← KY (fun i=>¬ okE (r.getD i 0)) (fun i : Nat=>Sum.inl ((i : Int),()))]
   refine PS (N:=2 ^ 64) (step:=sP) (fun i=>(r,(),(r.length : Int),(i : Int),())) (fun i=>if ¬ okE (r.getD i 0) then some (.inl ((i : Int),())) else none) r.length (.inr ()) (by omega) ?_ ?_
   ·intro i hi
    simp only [sP,aN,dY,bA,pB,cD,Int.toNat_natCast]
    rw [if_pos (by omega),if_pos (by omega),a7G,aH,c7 i (by omega),cD]
    by_cases h : ¬ okE (r.getD i 0)
    ·rw [if_pos h,if_pos h]
    ·rw [if_neg h,if_neg h]
   ·simp only [sP,aN,cD]
    rw [if_neg (by omega)]
  have h70 : FW (r,(),()) = some ((((List.range r.length).find? fun i=>decide (¬ okE (r.getD i 0))).map fun i : Nat=>(i : Int)).getD (-1),()):=by
   unfold FW; dsimp only
   rw [hloop,aH]
   cases (List.range r.length).find? fun i=>decide (¬ okE (r.getD i 0)) <;> rfl
  unfold KN; dsimp only
  rw [h70,aH]
  cases hf : (List.range r.length).find? fun i=>decide (¬ okE (r.getD i 0)) with
  | none =>
   rw [if_pos (fun i hi=>by
    have:=List.find?_eq_none.1 hf i (List.mem_range.2 hi)
    simpa using this)]
   rfl
  | some i =>
   rw [if_neg (fun hall=>by
    have h1:=List.find?_some hf
    have h2:=List.mem_range.1 (List.mem_of_find?_eq_some hf)
    simp only [decide_eq_true_eq] at h1
    exact h1 (hall i h2))]
   show (aB (some (!(ltI ((i : Nat) : Int) 0),())) fun y1=>bif y1.1 then some (4,()) else some (0,())) = _
   rw [aH,aX8]; rfl
theorem bBB (a b : List Int) (ha : a.length ≤ 9223372036854775806) : f46 (a,b,()) = some (decide (a = b),()):=by
 unfold f46; dsimp only
 simp only [dY,pB,cD]
 by_cases hl : a.length = b.length
 ·rw [if_neg (by omega)]
  have : S8 (a,b,(a.length : Int),0,()) = some (((List.range a.length).findSome? fun i=>if ¬ a.getD i 0 = b.getD i 0 then some (.inl (false,())) else none).getD (.inr ())):=PS (N:=2 ^ 64) (step:=LY) (fun i=>(a,b,(a.length : Int),(i : Int),())) (fun i=>if ¬ a.getD i 0 = b.getD i 0 then some (.inl (false,())) else none) a.length (.inr ()) (by omega) (by
   intro i hi
   simp only [LY,aN,dY,bA,cD,pB,Int.toNat_natCast]
   rw [if_pos (by omega),if_pos ⟨by omega,by omega⟩,if_pos ⟨by omega,by omega⟩,c7 i (by omega)]
   by_cases h : ¬ a.getD i 0 = b.getD i 0
   ·rw [if_pos h,if_pos h]
   ·rw [if_neg h,if_neg h]) (by
   simp only [LY,aN,cD]
   rw [if_neg (by omega)])
  rw [this,KY (fun i=>¬ a.getD i 0 = b.getD i 0),aH]
  cases hf : (List.range a.length).find? fun i=>decide (¬ a.getD i 0 = b.getD i 0) with
  | none =>
   have hall : ∀ i,i < a.length→a.getD i 0 = b.getD i 0:=by
    intro i hi
    have:=List.find?_eq_none.1 hf i (List.mem_range.2 hi)
    simpa using this
   have : a = b:=by
    apply List.ext_getElem hl
    intro i h1 h2
    have:=hall i h1
    rw [List.getD_eq_getElem?_getD,List.getD_eq_getElem?_getD,List.getElem?_eq_getElem h1,List.getElem?_eq_getElem h2] at this
    exact this
   rw [decide_eq_true this]; rfl
  | some i =>
   have h1:=List.find?_some hf
   have : ¬ a = b:=fun e=>by subst e; simp at h1
   rw [decide_eq_false this]; rfl
 ·rw [if_pos (by omega),decide_eq_false]
  rintro rfl; exact hl rfl
theorem aN2 (a b : List Int) (ha : a.length ≤ 9223372036854775806) : f43 (a,b,()) = some (decide (a = b),()):=by
 unfold f43; dsimp only
 rw [bBB a b ha,aH]
abbrev Lay : Type:=Int×List Int×List Int×List Int
def ShL (l : Lay) : Prop:=l.2.1.length ≤ 1000∧l.2.2.1.length ≤ 1000∧l.2.2.2.length ≤ 1000
theorem aZU {a : Lay} (b : Lay) (h : ShL a) : f19 (a,b,()) = some (decide (a = b),()):=by
 obtain ⟨k,o,r,u⟩:=a
 obtain ⟨k',o',r',u'⟩:=b
 obtain ⟨h1,h2,h3⟩:=h
 dsimp only at h1 h2 h3
 unfold f19; dsimp only
 rw [aN2 _ _ (by omega),aN2 _ _ (by omega),aN2 _ _ (by omega),aH,aH,aH]
 simp only [dY,cD,Prod.mk.injEq]
 by_cases e1 : k = k'
 ·by_cases e2 : o = o'
  ·by_cases e3 : r = r'
   ·simp [e1,e2,e3]
   ·simp [e1,e2,e3]
  ·simp [e1,e2]
 ·simp [e1]
abbrev zL : Lay:=(0,[],[],[])
def ce (l : Lay) : Int :=
 if ¬ l.1 = 1∧¬ l.1 = 2 then 12 else
 if ¬ rc l.2.1 = 0 then rc l.2.1 else
 if ¬ rc l.2.2.1 = 0 then rc l.2.2.1 else if ¬ (l.2.2.1.length : Int) = l.2.1.length then 5 else
 if ¬ rc l.2.2.2 = 0 then rc l.2.2.2 else if ¬ (l.2.2.2.length : Int) = l.2.1.length then 5 else 0
def ce3 (l : Lay) : Option Int :=
 if ¬ rc l.2.1 = 0 then some (rc l.2.1) else
 if ¬ rc l.2.2.1 = 0 then some (rc l.2.2.1) else if ¬ (l.2.2.1.length : Int) = l.2.1.length then some 5 else
 if ¬ rc l.2.2.2 = 0 then some (rc l.2.2.2) else if ¬ (l.2.2.2.length : Int) = l.2.1.length then some 5 else none
def a9K : Option Int→Sum (Int×Unit) Unit
 | some e=>.inl (e,())
 | none=>.inr ()
theorem a5H (l : Lay) : ce l = if ¬ l.1 = 1∧¬ l.1 = 2 then 12 else (ce3 l).getD 0:=by
 unfold ce ce3
 repeat' split
 all_goals rfl
theorem aSR (l : Lay) : E9 (l,(l.2.1,l.2.2.1,l.2.2.2),0,()) = some (a9K (ce3 l)):=by
 obtain ⟨k,o,r,u⟩:=l
 have s0 : u7 ((k,o,r,u),(o,r,u),0,()) = if ¬ rc o = 0 then some (.inr (.inl (rc o,()))) else some (.inl ((k,o,r,u),(o,r,u),1,())):=by
  simp only [u7,aN,dY,pB,cD]
  rw [if_pos (by decide),if_pos trivial,VX,aH]
  dsimp only
  by_cases h : rc o = 0
  ·rw [if_neg (not_not_intro h),if_neg (not_not_intro trivial),if_neg (not_not_intro h)]; rfl
  ·rw [if_pos h,if_pos h]
 have s1 : u7 ((k,o,r,u),(o,r,u),1,()) = if ¬ rc r = 0 then some (.inr (.inl (rc r,()))) else if ¬ (r.length : Int) = o.length then some (.inr (.inl (5,()))) else some (.inl ((k,o,r,u),(o,r,u),2,())):=by
  simp only [u7,aN,dY,pB,cD]
  rw [if_pos (by decide),if_neg (by decide),if_pos trivial,VX,aH]
  rfl
 have s2 : u7 ((k,o,r,u),(o,r,u),2,()) = if ¬ rc u = 0 then some (.inr (.inl (rc u,()))) else if ¬ (u.length : Int) = o.length then some (.inr (.inl (5,()))) else some (.inl ((k,o,r,u),(o,r,u),3,())):=by
  simp only [u7,aN,dY,pB,cD]
  rw [if_pos (by decide),if_neg (by decide),if_neg (by decide),if_pos trivial,VX,aH]
  rfl
 have s3 : u7 ((k,o,r,u),(o,r,u),3,()) = some (.inr (.inr ())):=rfl
 unfold E9 ce3
 dsimp only
 rw [show (2 : Nat) ^ 64 = 18446744073709551612 + 1 + 1 + 1 + 1 from rfl,c8,s0]
 by_cases h0 : rc o = 0
 ·rw [if_neg (not_not_intro h0),if_neg (not_not_intro h0)]
  dsimp only
  rw [c8,s1]
  by_cases h1 : rc r = 0
  ·rw [if_neg (not_not_intro h1),if_neg (not_not_intro h1)]
   by_cases h2 : (r.length : Int) = o.length
   ·rw [if_neg (not_not_intro h2),if_neg (not_not_intro h2)]
    dsimp only
    rw [c8,s2]
    by_cases h3 : rc u = 0
    ·rw [if_neg (not_not_intro h3),if_neg (not_not_intro h3)]
     by_cases h4 : (u.length : Int) = o.length
     ·rw [if_neg (not_not_intro h4),if_neg (not_not_intro h4)]
      dsimp only
      rw [c8,s3]; rfl
     ·rw [if_pos h4,if_pos h4]; rfl
    ·rw [if_pos h3,if_pos h3]; rfl
   ·rw [if_pos h2,if_pos h2]; rfl
  ·rw [if_pos h1,if_pos h1]; rfl
 ·rw [if_pos h0,if_pos h0]; rfl
theorem bE4 (l : Lay) : f24 (l,()) = some (ce l,()):=by
 have hl:=aSR l
 rw [a5H]
 obtain ⟨k,o,r,u⟩:=l
 unfold f24
 dsimp only at hl ⊢
 simp only [dY,pB,cD,hl,aH]
 by_cases h1 : k = 1
 ·rw [if_neg (by omega),if_neg (by omega)]
  cases ce3 (k,o,r,u) <;> rfl
 ·by_cases h2 : k = 2
  ·rw [if_pos h1,if_neg (by omega),if_neg (by omega)]
   cases ce3 (k,o,r,u) <;> rfl
  ·rw [if_pos h1,if_pos h2,if_pos ⟨h1,h2⟩]
theorem aTG (l : Lay) : CF (l,[l.2.1,l.2.2.1,l.2.2.2],3,0,()) = some (a9K (ce3 l)):=by
 obtain ⟨k,o,r,u⟩:=l
 have s0 : uW ((k,o,r,u),[o,r,u],3,0,()) = if ¬ rc o = 0 then some (.inr (.inl (rc o,()))) else some (.inl ((k,o,r,u),[o,r,u],3,1,())):=by
  simp only [uW,aN,dY,bA,pB,cD]
  rw [if_pos (by decide),if_pos (by simp)]
  show (aB (f37 (o,())) _) = _
  rw [VX,aH]
  dsimp only
  by_cases h : rc o = 0
  ·rw [if_neg (not_not_intro h),if_neg (not_not_intro h),if_neg (not_not_intro (show ((([o,r,u] : List (List Int)).getD (Int.toNat 0) []).length : Int) = o.length from rfl))]; rfl
  ·rw [if_pos h,if_pos h]
 have s1 : uW ((k,o,r,u),[o,r,u],3,1,()) = if ¬ rc r = 0 then some (.inr (.inl (rc r,()))) else if ¬ (r.length : Int) = o.length then some (.inr (.inl (5,()))) else some (.inl ((k,o,r,u),[o,r,u],3,2,())):=by
  simp only [uW,aN,dY,bA,pB,cD]
  rw [if_pos (by decide),if_pos (by simp)]
  show (aB (f37 (r,())) _) = _
  rw [VX,aH]
  rfl
 have s2 : uW ((k,o,r,u),[o,r,u],3,2,()) = if ¬ rc u = 0 then some (.inr (.inl (rc u,()))) else if ¬ (u.length : Int) = o.length then some (.inr (.inl (5,()))) else some (.inl ((k,o,r,u),[o,r,u],3,3,())):=by
  simp only [uW,aN,dY,bA,pB,cD]
  rw [if_pos (by decide),if_pos (by simp)]
  show (aB (f37 (u,())) _) = _
  rw [VX,aH]
  rfl
 have s3 : uW ((k,o,r,u),[o,r,u],3,3,()) = some (.inr (.inr ())):=rfl
 unfold CF ce3
 dsimp only
 rw [show (2 : Nat) ^ 64 = 18446744073709551612 + 1 + 1 + 1 + 1 from rfl,c8,s0]
 by_cases h0 : rc o = 0
 ·rw [if_neg (not_not_intro h0),if_neg (not_not_intro h0)]
  dsimp only
  rw [c8,s1]
  by_cases h1 : rc r = 0
  ·rw [if_neg (not_not_intro h1),if_neg (not_not_intro h1)]
   by_cases h2 : (r.length : Int) = o.length
   ·rw [if_neg (not_not_intro h2),if_neg (not_not_intro h2)]
    dsimp only
    rw [c8,s2]
    by_cases h3 : rc u = 0
    ·rw [if_neg (not_not_intro h3),if_neg (not_not_intro h3)]
     by_cases h4 : (u.length : Int) = o.length
     ·rw [if_neg (not_not_intro h4),if_neg (not_not_intro h4)]
      dsimp only
      rw [c8,s3]; rfl
     ·rw [if_pos h4,if_pos h4]; rfl
    ·rw [if_pos h3,if_pos h3]; rfl
   ·rw [if_pos h2,if_pos h2]; rfl
  ·rw [if_pos h1,if_pos h1]; rfl
 ·rw [if_pos h0,if_pos h0]; rfl
theorem a8O (l : Lay) : f14 (l,()) = some (ce l,()):=by
 have hl:=aTG l
 rw [a5H]
 obtain ⟨k,o,r,u⟩:=l
 unfold f14
 dsimp only at hl ⊢
 simp only [dY,pB,cD]
 have hl' : CF ((k,(o,(r,u))),[o,r,u],(([o,r,u] : List (List Int)).length : Int),0,()) = some (a9K (ce3 (k,o,r,u))):=hl
 rw [hl',aH]
 by_cases h1 : k = 1
 ·rw [if_neg (by omega),if_neg (by omega)]
  cases ce3 (k,o,r,u) <;> rfl
 ·by_cases h2 : k = 2
  ·rw [if_pos h1,if_neg (by omega),if_neg (by omega)]
   cases ce3 (k,o,r,u) <;> rfl
  ·rw [if_pos h1,if_pos h2,if_pos ⟨h1,h2⟩]
end Go.PM
set_option linter.unusedSimpArgs false
set_option linter.unusedVariables false
namespace Go.PM
open Go Go.RowKit Go.Proofs
set_option maxRecDepth 100000
def mxE (a b : Int) (r s : List Int) (i : Nat) : Int:=aE .i64 (aE .i64 (a * r.getD i 0) + aE .i64 (b * s.getD i 0))
def mx (a b : Int) (r s : List Int) : List Int:=(List.range r.length).map (mxE a b r s)
theorem AZ (a b : Int) (r s : List Int) : (mx a b r s).length = r.length:=by simp [mx]
theorem aZK {a b : Int} {r s : List Int} (hl : s.length = r.length) (hr : r.length ≤ 1000) : f65 (r,s,a,b,()) = some (mx a b r s,()):=by
 have hloop : RO (r,s,a,b,[],(r.length : Int),0,()) = some (mx a b r s,()):=by
  refine cZ (N:=2 ^ 64) (step:=KG) (fun i=>(r,s,a,b,(List.range i).map (mxE a b r s),(r.length : Int),(i : Int),())) r.length _ (by omega) ?_ ?_
  ·intro i hi
   simp only [KG,aN,bA,fJ,cD,Int.toNat_natCast,List.length_map,List.length_range,List.length_singleton]
   rw [if_pos (by omega),if_pos (by omega),if_pos (by omega),if_pos (by omega),if_pos (by omega),c7 i (by omega),List.range_succ,List.map_append]
   rfl
  ·simp only [KG,aN,cD]
   rw [if_neg (by omega)]
   rfl
 unfold f65; dsimp only
 rw [hloop,aH]
def ftB (a b : Int) (r s : List Int) (n : Nat) : Bool:=(List.range n).all fun i=>decide (okE (mxE a b r s i))
theorem aVY {a b : Int} {r s : List Int} (hl : s.length = r.length) (hr : r.length ≤ 1000) : f42 (a,r,b,s,()) = some (mx a b r s,ftB a b r s r.length,()):=by
 have hloop : S3 (a,r,b,s,[],true,0,()) = some (mx a b r s,ftB a b r s r.length,()):=by
  refine cZ (N:=2 ^ 64) (step:=LA) (fun i=>(a,r,b,s,(List.range i).map (mxE a b r s),ftB a b r s i,(i : Int),())) r.length _ (by omega) ?_ ?_
  ·intro i hi
   have hn : ftB a b r s (i + 1) = (ftB a b r s i && decide (okE (mxE a b r s i))):=by
    unfold ftB
    rw [List.range_succ,List.all_append]; simp
   simp only [LA,aN,bA,fJ,cD,Int.toNat_natCast,List.length_map,List.length_range,List.length_singleton]
   have h1 : i ≤ 1048576:=by omega
   have h2 : 1 ≤ 1048576:=by omega
   rw [if_pos (by omega),if_pos (by omega),if_pos (by omega),c7 i (by omega),hn,List.range_succ,List.map_append]
   simp only [if_pos h1,if_pos h2]
   cases ftB a b r s i with
   | true =>
    rw [cond_true,bAA,aH]
    rfl
   | false=>rfl
  ·simp only [LA,aN,cD]
   rw [if_neg (by omega)]
   rfl
 unfold f42; dsimp only
 rw [hloop,aH]
theorem a5L {a b : Int} {r s : List Int} (hr : r.length ≤ 64) : rc (mx a b r s) = if ftB a b r s r.length = true then 0 else 4:=by
 unfold rc
 rw [if_neg (by rw [AZ]; omega)]
 have key : (∀ i,i < (mx a b r s).length→okE ((mx a b r s).getD i 0))↔ftB a b r s r.length = true:=by
  rw [AZ]
  unfold ftB
  rw [List.all_eq_true]
  have hg : ∀ i,i < r.length→(mx a b r s).getD i 0 = mxE a b r s i:=fun i hi=>by
   unfold mx
   rw [List.getD_eq_getElem?_getD,List.getElem?_map,List.getElem?_range hi]; rfl
  constructor
  ·intro h i hi
   have hi:=List.mem_range.1 hi
   have:=h i hi
   rw [hg i hi] at this
   exact decide_eq_true this
  ·intro h i hi
   rw [hg i hi]
   exact of_decide_eq_true (h i (List.mem_range.2 hi))
 by_cases h : ftB a b r s r.length = true
 ·rw [if_pos h,if_pos (key.2 h)]
 ·rw [if_neg h,if_neg fun hh=>h (key.1 hh)]
def trn (l : Lay) (g : S4) : Lay:=(l.1,l.2.1,mx g.1 g.2.2.1 l.2.2.1 l.2.2.2,mx g.2.1 g.2.2.2 l.2.2.1 l.2.2.2)
def aQB (l : Lay) (g : S4) : Bool:=ftB g.1 g.2.2.1 l.2.2.1 l.2.2.2 l.2.2.1.length && ftB g.2.1 g.2.2.2 l.2.2.1 l.2.2.2 l.2.2.1.length
theorem bB2 {l : Lay} (g : S4) (h0 : l.2.1.length ≤ 1000) (h1 : l.2.2.2.length = l.2.2.1.length) (h2 : l.2.2.1.length ≤ 1000) : f40 (l,g,()) = some (trn l g,()):=by
 obtain ⟨k,o,r,u⟩:=l
 obtain ⟨a,b,c,d⟩:=g
 dsimp only at h0 h1 h2
 unfold f40; dsimp only
 have hc : aRA (o,()) = some (o,()):=by
  unfold aRA; dsimp only
  rw [fJ,cD,if_pos (by omega)]
 rw [hc,aH,aZK h1 h2,aH,aZK h1 h2,aH]
 rfl
theorem bAL {l : Lay} (g : S4) (h1 : l.2.2.2.length = l.2.2.1.length) (h2 : l.2.2.1.length ≤ 1000) : f18 (l,g,()) = some (trn l g,aQB l g,()):=by
 obtain ⟨k,o,r,u⟩:=l
 obtain ⟨a,b,c,d⟩:=g
 dsimp only at h1 h2
 unfold f18 aQB; dsimp only
 rw [aVY h1 h2,aH,aVY h1 h2,aH]
 cases ftB a c r u r.length <;> rfl
def IQ (k : Int) : List (Int×Int):=if k = 2 then aQX else aQH
def kM (k : Int) : List S4:=if k = 2 then aBF else aCX
theorem a7Z (k : Int) : f61 (k,()) = some (IQ k,()):=by
 unfold f61 IQ; dsimp only
 rw [dY,cD]
 by_cases h : k = 2
 ·rw [if_pos h,if_pos h]; rfl
 ·rw [if_neg h,if_neg h]; rfl
theorem a63 (k : Int) : f38 (k,()) = some ((IQ k,()),()):=by
 unfold f38; dsimp only
 rw [a7Z,aH]
theorem aSQ (k : Int) : GU (IQ k,()) = some ((kM k).map fun g=>(g,())):=by
 unfold IQ kM
 by_cases h : k = 2
 ·rw [if_pos h,if_pos h]; rfl
 ·rw [if_neg h,if_neg h]; rfl
theorem a8X : f16 (1,()) = some (aCX,()):=by kernel_rfl
theorem bAS : f16 (2,()) = some (aBF,()):=by kernel_rfl
theorem a9N {k : Int} (h : k = 1 ∨ k = 2) : f16 (k,()) = some (kM k,()):=by
 rcases h with rfl | rfl
 ·exact a8X
 ·exact bAS
theorem aRI {k : Int} : (kM k).length ≤ 12:=by unfold kM; split <;> decide
end Go.PM
set_option linter.unusedSimpArgs false
set_option linter.unusedVariables false
namespace Go.PM
open Go Go.RowKit Go.Proofs
set_option maxRecDepth 100000
set_option maxHeartbeats 4000000
end Go.PM
set_option linter.unusedSimpArgs false
set_option linter.unusedVariables false
namespace Go.PM
open Go Go.RowKit Go.Proofs
set_option maxRecDepth 100000
set_option maxHeartbeats 4000000
end Go.PM
set_option linter.unusedSimpArgs false
set_option linter.unusedVariables false
namespace Go.PM
open Go Go.RowKit Go.Proofs
set_option maxRecDepth 100000
def Sm (B : Int) (r : List Int) : Prop:=∀ v ∈ r,-B ≤ v∧v ≤ B
structure N8 (B : Int) (l : Lay) : Prop where
 kind : l.1 = 1 ∨ l.1 = 2
 len : l.2.1.length ≤ 3
 right : l.2.2.1.length = l.2.1.length
 up : l.2.2.2.length = l.2.1.length
 o : Sm B l.2.1
 r : Sm B l.2.2.1
 u : Sm B l.2.2.2
theorem Sm.get {B : Int} {r : List Int} (h : Sm B r) {i : Nat} (hi : i < r.length) : -B ≤ r.getD i 0∧r.getD i 0 ≤ B:=h _ (aMX hi)
theorem LP {r : List Int} {B : Int} (h : Sm B r) (hB : B ≤ 1000000000) (hl : r.length ≤ 64) : rc r = 0:=by
 unfold rc
 rw [if_neg (by omega),if_pos]
 intro i hi
 have:=h.get hi
 unfold okE
 omega
theorem a43 {B : Int} {l : Lay} (h : N8 B l) (hB : B ≤ 1000000000) : ce l = 0:=by
 have h1:=h.len
 have h2:=h.right
 have h3:=h.up
 have e1 : rc l.2.1 = 0:=LP h.o hB (by omega)
 have e2 : rc l.2.2.1 = 0:=LP h.r hB (by omega)
 have e3 : rc l.2.2.2 = 0:=LP h.u hB (by omega)
 have hk:=h.kind
 unfold ce
 simp only [e1,e2,e3,h2,h3]
 rcases hk with hk | hk <;> simp [hk]
def CM (g : S4) : Prop:=(-1 ≤ g.1∧g.1 ≤ 1)∧(-1 ≤ g.2.1∧g.2.1 ≤ 1)∧(-1 ≤ g.2.2.1∧g.2.2.1 ≤ 1)∧(-1 ≤ g.2.2.2∧g.2.2.2 ≤ 1)
instance (g : S4) : Decidable (CM g):=by unfold CM; infer_instance
theorem aQV {k : Int} {g : S4} (h : g ∈ kM k) : CM g:=by
 have h4 : ∀ g ∈ aCX,CM g:=by decide
 have h6 : ∀ g ∈ aBF,CM g:=by decide
 unfold kM at h
 split at h
 ·exact h6 g h
 ·exact h4 g h
theorem aMB {a x B : Int} (ha : -1 ≤ a∧a ≤ 1) (hx : -B ≤ x∧x ≤ B) : -B ≤ a * x∧a * x ≤ B:=by
 rcases (by omega : a = -1 ∨ a = 0 ∨ a = 1) with rfl | rfl | rfl <;> omega
theorem aZA {a b B : Int} {r s : List Int} {i : Nat} (ha : -1 ≤ a∧a ≤ 1) (hb : -1 ≤ b∧b ≤ 1) (hr : -B ≤ r.getD i 0∧r.getD i 0 ≤ B) (hs : -B ≤ s.getD i 0∧s.getD i 0 ≤ B) (hB : B ≤ 1000000000) :
  mxE a b r s i = a * r.getD i 0 + b * s.getD i 0∧-(2 * B) ≤ mxE a b r s i∧mxE a b r s i ≤ 2 * B:=by
 have h1:=aMB ha hr
 have h2:=aMB hb hs
 have : mxE a b r s i = a * r.getD i 0 + b * s.getD i 0:=by
  unfold mxE
  rw [wrap64 (x:=a * r.getD i 0) (by omega) (by omega),wrap64 (x:=b * s.getD i 0) (by omega) (by omega),wrap64 (by omega) (by omega)]
 rw [this]
 omega
theorem TB {a b B : Int} {r s : List Int} (ha : -1 ≤ a∧a ≤ 1) (hb : -1 ≤ b∧b ≤ 1) (hr : Sm B r) (hs : Sm B s) (hl : s.length = r.length) (hB : B ≤ 1000000000) : Sm (2 * B) (mx a b r s):=by
 intro v hv
 unfold mx at hv
 obtain ⟨i,hi,rfl⟩:=List.mem_map.1 hv
 have hi:=List.mem_range.1 hi
 exact (aZA ha hb (hr.get hi) (hs.get (by omega)) hB).2
theorem QL {B : Int} {l : Lay} {g : S4} (h : N8 B l) (hg : CM g) (hB0 : 0 ≤ B) (hB : B ≤ 1000000000) : N8 (2 * B) (trn l g):=by
 have h1:=h.right
 have h2:=h.up
 refine ⟨h.kind,h.len,by show (mx _ _ _ _).length = _; rw [AZ]; exact h1,by show (mx _ _ _ _).length = _; rw [AZ]; exact h1,?_,?_,?_⟩
 ·intro v hv
  have:=h.o v hv
  omega
 ·exact TB hg.1 hg.2.2.1 h.r h.u (by omega) hB
 ·exact TB hg.2.1 hg.2.2.2 h.r h.u (by omega) hB
theorem aRM {k : Int} : 0 < (kM k).length:=by unfold kM; split <;> decide
end Go.PM
set_option linter.unusedSimpArgs false
set_option linter.unusedVariables false
namespace Go.PM
open Go Go.RowKit Go.Proofs
set_option maxRecDepth 100000
set_option maxHeartbeats 4000000
/-! schisma/schismalaw46.origin -/
def f50 (x : aI [.agg TyA]) : Option (aI [.list TyE,.int .i64]):=match x with
 | (v0,()) =>
  bif ltI 12 (v0.2.1.length : Int) then
   some ([],3,())
  else aB (kP ((v0.2.1.length : Int),[v0.2.2.1,v0.2.2.2],())) fun y1 =>
  bif !(eqI y1.2.1 0) then
   some ([],y1.2.1,())
  else aB (dB ((y1.1.1,y1.1.2),v0.2.1,())) fun y2 =>
  some (y2.1,y2.2.1,())
noncomputable def c50 : Code:=aT Tryz.f50
abbrev E50 : Env:=bE [L7,tF]
theorem a8Q : aZ Tryz.prog E50:=aW ⟨K6,vZ,trivial⟩
def bC5 (id : Nat) : Option aS:=none
theorem a2Z : aF c50 = []:=by kernel_rfl
theorem a6K : ∀ x,bI Tryz.prog E50 Tryz.f50 (aC Tryz.f50) bC5 c50 [.agg TyA] [.list TyE,.int .i64] x = f50 x:=by
 rintro ⟨v0,⟨⟩⟩
 kernel_rfl
theorem bFQ : bY Tryz.prog 50 [.agg TyA] [.list TyE,.int .i64] f50:=by
 exact aY aK a8Q Tryz.func50 (c:=c50) (by kernel_rfl) (aU:=aC Tryz.f50) (lt:=bC5) (aD a2Z trivial) a6K
abbrev e50 : Ent:=⟨50,[.agg TyA],[.list TyE,.int .i64],f50⟩
theorem a8C : Ent.OK Tryz.prog e50:=bFQ

/-! schisma/schismalaw46.canonical -/
abbrev TR : List (Nat×Kd):=[(1,.box 25 TyA),(2,.box 25 TyA),(4,.list TyB),(5,.box 25 TyA),(6,.bool),(7,.int .i64)]
abbrev aCI : List (Ex×List (Nat×Kd)):=[(.exit 0,[(1,.box 25 TyA),(2,.box 25 TyA),(5,.box 25 TyA),(6,.bool)])]
def FK (x : Shape.den TR) : Option (Shape.den TR ⊕ aR aCI):=match x with
 | (v1,v2,v4,v5,v6,v7,()) =>
  bif ltI v7 (v4.length : Int) then
   bif aQ v7 v4.length then aB (f18 (v1,((v4.getD v7.toNat (0,(0,(0,0)))).1,((v4.getD v7.toNat (0,(0,(0,0)))).2.1,((v4.getD v7.toNat (0,(0,(0,0)))).2.2.1,(v4.getD v7.toNat (0,(0,(0,0)))).2.2.2))),())) fun y7 =>
   bif v6 then
    aB (f35 (y7.1.2.2.1,v5.2.2.1,())) fun y8 =>
    bif eqI v7 0 then
     some (.inl (v1,v2,v4,y7.1,y7.2.1,(aE .i64 (v7 + 1)),()))
    else bif ltI y8.1 0 then
     some (.inl (v1,v2,v4,y7.1,y7.2.1,(aE .i64 (v7 + 1)),()))
    else bif eqI y8.1 0 then
     aB (f35 (y7.1.2.2.2,v5.2.2.2,())) fun y9 =>
     bif ltI y9.1 0 then
      some (.inl (v1,v2,v4,y7.1,y7.2.1,(aE .i64 (v7 + 1)),()))
     else some (.inl (v1,v2,v4,v5,y7.2.1,(aE .i64 (v7 + 1)),()))
    else some (.inl (v1,v2,v4,v5,y7.2.1,(aE .i64 (v7 + 1)),()))
   else aB (f35 (y7.1.2.2.1,v5.2.2.1,())) fun y10 =>
   bif eqI v7 0 then
    some (.inl (v1,v2,v4,y7.1,false,(aE .i64 (v7 + 1)),()))
   else bif ltI y10.1 0 then
    some (.inl (v1,v2,v4,y7.1,false,(aE .i64 (v7 + 1)),()))
   else bif eqI y10.1 0 then
    aB (f35 (y7.1.2.2.2,v5.2.2.2,())) fun y11 =>
    bif ltI y11.1 0 then
     some (.inl (v1,v2,v4,y7.1,false,(aE .i64 (v7 + 1)),()))
    else some (.inl (v1,v2,v4,v5,false,(aE .i64 (v7 + 1)),()))
   else some (.inl (v1,v2,v4,v5,false,(aE .i64 (v7 + 1)),())) else none
  else some (.inr ((v1,v2,v5,v6,())))
def LS (x : Shape.den TR) : Option (aR aCI):=bM FK (2 ^ 64) x
def f30 (x : aI [.agg TyA]) : Option (aI [.agg TyA,.bool]):=match x with
 | (v0,()) =>
  aB (f16 (v0.1,())) fun y1 =>
  aB (LS (v0,(0,([],([],[]))),y1.1,v0,true,0,())) fun z12 =>
  aB (f50 (z12.1,())) fun y13 =>
  bif z12.2.2.2.1 then
   some ((z12.2.2.1.1,(y13.1,(z12.2.2.1.2.2.1,z12.2.2.1.2.2.2))),eqI y13.2.1 0,())
  else some ((z12.2.2.1.1,(y13.1,(z12.2.2.1.2.2.1,z12.2.2.1.2.2.2))),false,())
noncomputable def c30 : Code:=aT Tryz.f30
abbrev E30 : Env:=bE [e16,e18,e35,e50]
theorem aXW : aZ Tryz.prog E30:=aW ⟨a5V,a74,aO6,a8C,trivial⟩
noncomputable def aKH : Code:=dT c30 0
def a8K (id : Nat) : Option aS:=bif Nat.beq id 5 then some ⟨TR,aCI,LS⟩ else none
theorem aR6 : ∀ x,dJ Tryz.prog E30 73 (aC Tryz.f30) a8K aKH TR aCI x = FK x:=by
 rintro ⟨v1,v2,v4,v5,v6,v7,⟨⟩⟩
 kernel_rfl
theorem a9F : aF aKH = []:=by kernel_rfl
theorem aR8 : aG aKH = 5:=by kernel_rfl
theorem aVA : cE Tryz.prog 73 aKH ⟨TR,aCI,LS⟩:=by
 exact cF aXW.callee aK.mixed _ (aD a9F trivial) aR6
theorem a1N : aF c30 = [aKH]:=by kernel_rfl
theorem bBS : ∀ x,bI Tryz.prog E30 Tryz.f30 (aC Tryz.f30) a8K c30 [.agg TyA] [.agg TyA,.bool] x = f30 x:=by
 rintro ⟨v0,⟨⟩⟩
 kernel_rfl
theorem bE7 : bY Tryz.prog 30 [.agg TyA] [.agg TyA,.bool] f30:=by
 exact aY aK aXW Tryz.func30 (c:=c30) (by kernel_rfl) (aU:=aC Tryz.f30) (lt:=a8K) (aD a1N ⟨cG aR8 rfl aVA,trivial⟩) bBS
abbrev e30 : Ent:=⟨30,[.agg TyA],[.agg TyA,.bool],f30⟩
theorem aYL : Ent.OK Tryz.prog e30:=bE7

end Go.PM
set_option linter.unusedSimpArgs false
set_option linter.unusedVariables false
namespace Go.PM
open Go Go.RowKit
def aOH (P : Program) (E : Env) (fn : Func) (aU : Nat) (lt rt : Nat→Option aS) (c : Code) (ae : TypeId) (t : Ty) (args rets : List Kd) (x : aI args) : Option (aI rets) :=
 bif Nat.ble (iP args x).length fn.ntmps then qS P E fn.ntmps aU lt rt false [] c (start aU 0 (iP args x)) [some (arB ae t [])] (aKT P fn.results.toList rets) else none
section
variable {P : Program}
theorem bBO {E : Env} (hP : B0 P) (hE : aZ P E) {g : Nat} {fn : Func} (hg : P.funcs[g]? = some fn) {c : Code} (hc : fn.body = some c) {aU : Nat} {lt rt : Nat→Option aS} {ae : TypeId} {t : Ty} {args rets : List Kd} {f : aI args→Option (aI rets)}
  (hl : ∀ a ∈ bQ c,DI P fn.ntmps lt rt false [] a) (hb : ∀ x,aOH P E fn aU lt rt c ae t args rets x = f x) : bY P g args rets f:=by
 intro x y hy
 rw [← hb] at hy
 unfold aOH at hy
 obtain ⟨hlen,hy⟩:=aM hy
 obtain ⟨⟨ex,F',H'⟩,h1,h2⟩:=iG hE.callee hP.mixed c _ _ _ _ hl hy
 obtain ⟨vs,q,hex,hvs,hq,hd⟩ : ∃ vs q,(ex = .normal ∨ ex = .ret)∧mY P F' H' fn.results.toList = some vs∧aNT H' (fC vs) = some q∧aL8 rets q = some y:=by
  unfold aKT at h1
  split at h1
  ·cases h1
  ·rename_i hne
   split at h1
   ·rename_i vs hvs
    split at h1
    ·rename_i q hq
     refine ⟨vs,q,?_,hvs,hq,h1⟩
     cases ex with
     | normal=>exact .inl rfl
     | ret=>exact .inr rfl
     | exit i=>exact absurd rfl (hne i)
    ·cases h1
   ·cases h1
 obtain ⟨hq1,hq2⟩:=A5 hq
 intro w G us hlt hv
 have at0 : ∀ (s : Nat) (k1 : Blk),([some (arB ae t [])] : Heap)[s]? = some (some k1)→s = 0∧k1 = arB ae t []:=by
  intro s k1 hs
  cases s with
  | zero=>simp only [List.getElem?_cons_zero,Option.some.injEq] at hs; exact ⟨rfl,hs.symm⟩
  | succ s=>simp at hs
 have hW : aV (oX w) (Gd.of G) ⟨fun _=>none,fun r=>if r = 0 then some 0 else none⟩ [some (arB ae t [])] w:=by
  refine ⟨(fun r k b h hb=>by cases hb),(fun r k g h hg=>?_),(fun r s k l b h _ _ _ hb=>by cases hb),hlt,(fun r hr=>⟨rfl,?_⟩),fun _ h=>h,⟨(fun _ _ _ h=>by cases h),(fun _ _ h=>by cases h),(fun _ _ h=>by cases h),(fun r k u l h hgr ht=>?_),(fun r s k k' u l u' l' h1 g1 t1 h2 g2 t2=>by rw [(at0 r k h1).1,(at0 s k' h2).1])⟩⟩
  ·obtain ⟨rfl,rfl⟩:=at0 r k h
   cases hg
   exact ⟨rfl,rfl⟩
  ·have : r ≠ 0:=by rintro rfl; simp at hr
   simp [this]
  ·obtain ⟨rfl,rfl⟩:=at0 r k h
   cases ht
   exact ⟨rfl,fun _ _=>rfl,fun j row hj=>by simp at hj⟩
 have e0 : Ext (oX w) w (Gd.of G) aL w (Gd.of G) ⟨fun _=>none,fun r=>if r = 0 then some 0 else none⟩ :=
  ⟨⟨fun b hb=>⟨hb,rfl⟩,fun _ _ h=>(by cases h),fun _ _ h=>(by cases h),fun _ _ h=>h,fun _ _ h=>h⟩,rfl,rfl,rfl,Nat.le_refl _,fun _ _ _=>rfl,fun _ h=>.inl h⟩
 refine ⟨enters hg (hP.names g fn hg) (by rw [hc]; rfl) _ _,(callsIn_wide (n:=0)).1 (callsIn_of_wp_marks hg hc trivial ?_)⟩
 have hI : I (oX w) w (Gd.of G) aL fn.ntmps (start aU 0 (iP args x)) [some (arB ae t [])] ⟨us ++ Array.replicate (fn.ntmps - us.size) undef,[]⟩ w:=⟨Gd.of G,_,e0,hW,rA hv.bD (Nat.le_of_ble_eq_true hlen)⟩
 refine wpIn_mono (h2 none 0 _ w (Gd.of G) aL _ w (fun _=>rfl) (fun r _=>⟨rfl,rfl⟩) hI.a8F) ?_
 rintro e1 ⟨tm,ds⟩ w' ⟨rfl,hI',_⟩
 have hend : ∀ w',IM (oX w) w (Gd.of G) aL fn.ntmps F' H' { tmps:=tm,defers:=[] } w'→LeavesIn Fence.wide 0 P fn tm (fun en w'=>∃ v' G',en = .returned v'∧Ext (oX w) w (Gd.of G) aL w' (Gd.of G') aL∧(∀ b,G' b→b < w'.heap.size)∧VR w' (Gd.of G') aL (aG9 rets y) v') [] .returning w':=by
  rintro w' ⟨G1,μ1,e1,e2,hF',_⟩
  obtain ⟨ws,h3,h4⟩:=lM (P:=P) e2 hF' hvs
  have hres : (results fn tm).run P w' = .ok (if hh : ws.toArray.size = 1 then ws.toArray[0] else .tuple ws.toArray) w':=by
   rw [tL,Array.mapM_eq_mapM_toList]
   simp only [Sem.run_bind,Sem.run_map,h3,Result.andThen_ok,Sem.run_pure]
  have hval:=xR (G:=⟨fun b=>G1 b ∨ ∃ r k,H'[r]? = some (some k)∧μ1.loc r = some b,G1.row⟩) (G':=Gd.of fun b=>G1 b ∨ ∃ r k,H'[r]? = some (some k)∧μ1.loc r = some b) (fun b h=>h) _ _ _ hq2
    (wS (G':=⟨fun b=>G1 b ∨ ∃ r k,H'[r]? = some (some k)∧μ1.loc r = some b,G1.row⟩) e2 (fun _ _ h=>h) (fun b hb=>.inl hb) (fun r k b hr _ hb=>.inr ⟨r,k,hr,hb⟩) depth _ q _ hq1 (nH h4))
  have hext : Ext (oX w) w (Gd.of G) aL w' (Gd.of fun b=>G1 b ∨ ∃ r k,H'[r]? = some (some k)∧μ1.loc r = some b) aL:={
   cW:=fun b hb=>⟨.inl (e1.cW b hb).1,(e1.cW b hb).2⟩
   map:=fun _ _ h=>h
   len:=fun _ _ h=>h
   room:=e1.room
   row:=fun _ _ h=>h
   os:=e1.os
   tape:=e1.tape
   output:=e1.output
   size:=e1.size
   old:=e1.old
   new:=fun b hb=>by
    rcases hb with hb | ⟨r,k,hr,hb⟩
    ·exact e1.new b hb
    ·obtain ⟨c,_,_,_,g5,g6⟩:=e2.blk r k b hr hb
     cases hf : k.frozen with
     | true=>exact e1.new b (g5 hf)
     | false=>exact .inr (g6 hf).1 }
  have hlt' : ∀ b,(G1 b ∨ ∃ r k,H'[r]? = some (some k)∧μ1.loc r = some b)→b < w'.heap.size:=by
   rintro b (hb | ⟨r,k,hr,hb⟩)
   ·exact e2.lt b hb
   ·exact e2.iS hr hb
  exact ⟨_,hres,_,_,rfl,hext,hlt',M4 hd hval⟩
 rcases hex with rfl | rfl
 ·exact pK (fun b hb=>hW.base b hb) hend ds w' hI'
 ·exact pK (fun b hb=>hW.base b hb) hend ds w' hI'
end
end Go.PM
namespace Go.Proofs
open Go.Shelf
def Tryz.aEE : Go.Shelf.Ren:=⟨fun | 6=>54 | 14=>71 | 15=>72 | 20=>88 | 21=>89 | 22=>90 | 23=>91 | 24=>92 | 25=>93 | 26=>94 | 27=>95 | 28=>96 | 29=>97 | 46=>125 | 47=>126 | 48=>127 | 49=>128 | 50=>129 | 57=>153 | n=>n,fun | 0=>0 | 3=>3 | 4=>4 | 5=>5 | 9=>9 | 22=>63 | 24=>25 | 25=>95 | 39=>125 | 45=>152 | 46=>153 | 50=>157 | 53=>160 | 55=>162 | 66=>196 | 70=>200 | 76=>223 | 77=>224 | n=>n,fun | n=>n⟩
theorem Tryz.aR3 : Go.Proofs.SlLaysF0.n6 Tryz.prog Tryz.aEE:={
 mixed:=by kernel_rfl
 f6:=⟨Tryz.f54.name,by decide,Tryz.func54.trans (congrArg some (by kernel_rfl))⟩
 f14:=⟨Tryz.f71.name,by decide,Tryz.func71.trans (congrArg some (by kernel_rfl))⟩
 f15:=Tryz.func72.trans (congrArg some (by kernel_rfl))
 f20:=⟨Tryz.f88.name,by decide,Tryz.func88.trans (congrArg some (by kernel_rfl))⟩
 f21:=⟨Tryz.f89.name,by decide,Tryz.func89.trans (congrArg some (by kernel_rfl))⟩
 f22:=⟨Tryz.f90.name,by decide,Tryz.func90.trans (congrArg some (by kernel_rfl))⟩
 f23:=⟨Tryz.f91.name,by decide,Tryz.func91.trans (congrArg some (by kernel_rfl))⟩
 f24:=⟨Tryz.f92.name,by decide,Tryz.func92.trans (congrArg some (by kernel_rfl))⟩
 f25:=⟨Tryz.f93.name,by decide,Tryz.func93.trans (congrArg some (by kernel_rfl))⟩
 f26:=⟨Tryz.f94.name,by decide,Tryz.func94.trans (congrArg some (by kernel_rfl))⟩
 f27:=⟨Tryz.f95.name,by decide,Tryz.func95.trans (congrArg some (by kernel_rfl))⟩
 f28:=Tryz.func96.trans (congrArg some (by kernel_rfl))
 f29:=Tryz.func97.trans (congrArg some (by kernel_rfl))
 f46:=⟨Tryz.f125.name,by decide,Tryz.func125.trans (congrArg some (by kernel_rfl))⟩
 f47:=Tryz.func126.trans (congrArg some (by kernel_rfl))
 f48:=Tryz.func127.trans (congrArg some (by kernel_rfl))
 f49:=⟨Tryz.f128.name,by decide,Tryz.func128.trans (congrArg some (by kernel_rfl))⟩
 f50:=⟨Tryz.f129.name,by decide,Tryz.func129.trans (congrArg some (by kernel_rfl))⟩
 f57:=⟨Tryz.f153.name,by decide,Tryz.func153.trans (congrArg some (by kernel_rfl))⟩
 t0:=Tryz.underlying0
 a0:=Tryz.isAgg0
 z0:=Tryz.sizeOf0
 v0:=Tryz.zeroValue0
 t3:=Tryz.underlying3
 a3:=Tryz.isAgg3
 z3:=Tryz.sizeOf3
 v3:=Tryz.zeroValue3
 t4:=Tryz.underlying4
 a4:=Tryz.isAgg4
 z4:=Tryz.sizeOf4
 v4:=Tryz.zeroValue4
 t5:=Tryz.underlying5
 a5:=Tryz.isAgg5
 z5:=Tryz.sizeOf5
 v5:=Tryz.zeroValue5
 t9:=Tryz.underlying9
 a9:=Tryz.isAgg9
 z9:=Tryz.sizeOf9
 v9:=Tryz.zeroValue9
 t22:=Tryz.underlying63
 a22:=Tryz.isAgg63
 z22:=Tryz.sizeOf63
 v22:=Tryz.zeroValue63
 t25:=Tryz.underlying95
 a25:=Tryz.isAgg95
 z25:=Tryz.sizeOf95
 v25:=Tryz.zeroValue95
 t39:=Tryz.underlying125
 a39:=Tryz.isAgg125
 z39:=Tryz.sizeOf125
 v39:=Tryz.zeroValue125
 t45:=Tryz.underlying152
 a45:=Tryz.isAgg152
 z45:=Tryz.sizeOf152
 v45:=Tryz.zeroValue152
 t46:=Tryz.underlying153
 a46:=Tryz.isAgg153
 z46:=Tryz.sizeOf153
 v46:=Tryz.zeroValue153
 t50:=Tryz.underlying157
 a50:=Tryz.isAgg157
 z50:=Tryz.sizeOf157
 v50:=Tryz.zeroValue157
 t53:=Tryz.underlying160
 a53:=Tryz.isAgg160
 z53:=Tryz.sizeOf160
 v53:=Tryz.zeroValue160
 t55:=Tryz.underlying162
 a55:=Tryz.isAgg162
 z55:=Tryz.sizeOf162
 v55:=Tryz.zeroValue162
 t66:=Tryz.underlying196
 a66:=Tryz.isAgg196
 z66:=Tryz.sizeOf196
 v66:=Tryz.zeroValue196
 t70:=Tryz.underlying200
 a70:=Tryz.isAgg200
 z70:=Tryz.sizeOf200
 v70:=Tryz.zeroValue200
 t76:=Tryz.underlying223
 a76:=Tryz.isAgg223
 z76:=Tryz.sizeOf223
 v76:=Tryz.zeroValue223
 t77:=Tryz.underlying224
 a77:=Tryz.isAgg224
 z77:=Tryz.sizeOf224
 v77:=Tryz.zeroValue224 }
open Go.RowKit Go.Lib Go.Sort in
/-- slices.SortFunc at structs: a permutation,sorted by 'cmp(a,b) < 0' (the shelf's contract,laid at this instance). -/
theorem Tryz.T0 {α : Type} [Inhabited α] (enc : α→List Value) (hk : ∀ x,(enc x).length = 4) (h1 : ∀ x,∀ v ∈ enc x,v.oneCell' = true) (cf : α→α→Int) (hO : SWO (ltOf cf)) (g : Nat) (cb : Array Value) (blk off cap : Nat) (d : Array α) (w : World) (eg : ∀ args w,(callFunc g args).run Tryz.prog w = .ok (.enter g args) w) (hcmp : CmpLays Tryz.prog g cb enc 4 cf blk off d.size w) (hH : HoldsK enc 4 w blk off d) (hblk : blk < w.heap.size) (hsz : d.size < 4611686018427387904) :
  Calls Tryz.prog 54 #[.slice (some ⟨blk,off,none⟩) d.size cap,.func (.func g) #[] cb] w fun e w' =>
   e = .returned (.tuple #[])∧∃ d' n os,PermIn 0 d.size d d'∧SortedIn (ltOf cf) 0 d.size d'∧w' = sortWorldK enc 4 w blk off n d' os:=AnyQ.slices_SortFunc Tryz.aR3 4 Tryz.isAgg25 Tryz.sizeOf25 enc hk h1 cf hO g cb blk off cap d w eg hcmp hH hblk hsz
end Go.Proofs
set_option linter.unusedSimpArgs false
set_option linter.unusedVariables false
namespace Go.PM
open Go Go.RowKit
def ins (x : Int) : List Int→List Int
 | []=>[x]
 | y :: l=>bif ltI y x then y :: ins x l else x :: y :: l
theorem aX3 (x : Int) : ∀ l,List.Perm (ins x l) (x :: l)
 | []=>.refl _
 | y :: l=>by
  unfold ins
  cases ltI y x with
  | true=>exact ((aX3 x l).cons y).trans (.swap x y l)
  | false=>exact .refl _
section
variable {P : Program} {n0 : Nat→Prop} {w : World} {G : Gd} {μ : Mp} {H : Heap}
theorem aP9 : ∀ (l : List Int),aJ (.int .i64) l = l.map fun n=>PV.lit (.int .i64 n)
 | []=>rfl
 | x :: l=>by rw [fO,aP9 l]; rfl
theorem aTQ (hW : aV n0 G μ H w) (os : Array Obj) : Ext n0 w G μ (Sort.grow w os) G μ∧aV n0 G μ H (Sort.grow w os):=by
 have hg : ∀ b,b < w.heap.size→(Sort.grow w os).heap[b]? = w.heap[b]?:=fun b hb=>by
  show (w.heap ++ os)[b]? = _
  rw [Array.getElem?_append_left hb]
 have e : Ext n0 w G μ (Sort.grow w os) G μ:={
  cW:=fun b hb=>⟨hb,hg b (hW.lt b hb)⟩
  map:=fun _ _ h=>h
  len:=fun _ _ h=>h
  room:=fun b n hb=>by
   obtain ⟨c,t,fr,h1,h2⟩:=hb
   exact ⟨c,t,fr,by rw [hg b (dC h1)]; exact h1,h2⟩
  row:=fun _ _ h=>h
  os:=rfl
  tape:=rfl
  output:=rfl
  size:=by show _ ≤ (w.heap ++ os).size; simp
  old:=fun b hb _=>hg b hb
  new:=fun b hb=>.inl hb }
 refine ⟨e,hW.aU e ⟨fun _=>rfl,fun j b hj=>⟨hg b (hW.rows.sep j b hj).1,id⟩⟩ (fun r k b hr hb=>⟨hg b (hW.iS hr hb),id⟩) fun b hb=>Nat.lt_of_lt_of_le (hW.lt b hb) e.size⟩

end
end Go.PM
set_option linter.unusedSimpArgs false
set_option linter.unusedVariables false
namespace Go.PM
open Go Go.RowKit
def aNZ {α : Type} (lt : α→α→Bool) (x : α) : List α→List α
 | []=>[x]
 | y :: l=>bif lt y x then y :: aNZ lt x l else x :: y :: l
def aHP {α : Type} (lt : α→α→Bool) : List α→List α
 | []=>[]
 | x :: l=>aNZ lt x (aHP lt l)
structure LO {α : Type} (D : α→Bool) (lt : α→α→Bool) : Prop where
 irrefl : ∀ x,D x = true→lt x x = false
 trans : ∀ x y z,D x = true→D y = true→D z = true→lt x y = true→lt y z = true→lt x z = true
 ntrans : ∀ x y z,D x = true→D y = true→D z = true→lt x y = false→lt y z = false→lt x z = false
 anti : ∀ x y,D x = true→D y = true→lt x y = false→lt y x = false→x = y
section
variable {α : Type} {D : α→Bool} {lt : α→α→Bool}
theorem VQ (x : α) : ∀ l,List.Perm (aNZ lt x l) (x :: l)
 | []=>.refl _
 | y :: l=>by
  unfold aNZ
  cases lt y x with
  | true=>exact ((VQ x l).cons y).trans (.swap x y l)
  | false=>exact .refl _
theorem M6 : ∀ l : List α,List.Perm (aHP lt l) l
 | []=>.refl _
 | x :: l=>(VQ x (aHP lt l)).trans ((M6 l).cons x)
theorem W0 (h : LO D lt) (x : α) (hx : D x = true) : ∀ l : List α,(∀ y ∈ l,D y = true)→l.Pairwise (fun a b=>lt b a = false)→(aNZ lt x l).Pairwise (fun a b=>lt b a = false)
 | [],_,_=>by simp [aNZ]
 | y :: l,hd,hs=>by
  have ⟨h1,h2⟩:=List.pairwise_cons.1 hs
  have hy:=hd y (by simp)
  unfold aNZ
  cases hb : lt y x with
  | true =>
   refine List.pairwise_cons.2 ⟨fun z hz=>?_,W0 h x hx l (fun z hz=>hd z (by simp [hz])) h2⟩
   rcases List.mem_cons.1 ((VQ x l).mem_iff.1 hz) with rfl | hz
   ·cases hc : lt z y with
    | false=>rfl
    | true=>have:=h.trans z y z hx hy hx hc hb; rw [h.irrefl z hx] at this; cases this
   ·exact h1 z hz
  | false =>
   refine List.pairwise_cons.2 ⟨fun z hz=>?_,hs⟩
   rcases List.mem_cons.1 hz with rfl | hz
   ·exact hb
   ·exact h.ntrans z y x (hd z (by simp [hz])) hy hx (h1 z hz) hb
theorem XG (h : LO D lt) : ∀ l : List α,(∀ y ∈ l,D y = true)→(aHP lt l).Pairwise (fun a b=>lt b a = false)
 | [],_=>.nil
 | x :: l,hd=>W0 h x (hd x (by simp)) _ (fun y hy=>hd y (by simp [(M6 l).mem_iff.1 hy])) (XG h l fun y hy=>hd y (by simp [hy]))
theorem aKV (h : LO D lt) {l l' : List α} (hd : ∀ y ∈ l,D y = true) (hp : List.Perm l' l) (hs : l'.Pairwise (fun a b=>lt b a = false)) : aHP lt l = l':=by
 refine List.Perm.eq_of_pairwise (le:=fun a b=>lt b a = false) (fun a b ha hb h1 h2=>?_) (XG h l hd) hs ((M6 l).trans hp.symm)
 exact h.anti a b (hd a ((M6 l).mem_iff.1 ha)) (hd b (hp.mem_iff.1 hb)) h2 h1
end
end Go.PM
set_option linter.unusedSimpArgs false
set_option linter.unusedVariables false
namespace Go.PM
open Go Go.RowKit
section
variable {P : Program} {n0 : Nat→Prop} {w w' : World} {G G' : Gd} {μ μ' : Mp} {H : Heap}
theorem aFL {b : Nat} : ∀ {ps : List PV} {off : Nat},aP w G μ b off ps→∃ vs : List Value,VRs w G μ ps vs∧vs.length = ps.length∧∀ c (hc : c < vs.length),w.cell? ⟨b,off + c,none⟩ = some vs[c]
 | [],off,_=>⟨[],by rw [VRs],rfl,fun c hc=>absurd hc (Nat.not_lt_zero _)⟩
 | p :: ps,off,h=>by
  rw [aP] at h
  obtain ⟨⟨v,h1,h2⟩,h3⟩:=h
  obtain ⟨vs,k1,k2,k3⟩:=aFL h3
  refine ⟨v :: vs,?_,by simp [k2],fun c hc=>?_⟩
  ·rw [VRs]; exact ⟨v,vs,rfl,h2,k1⟩
  ·cases c with
   | zero=>exact h1
   | succ c =>
    have:=k3 c (by simpa using hc)
    rw [Nat.add_assoc,Nat.add_comm 1 c] at this
    simpa using this
theorem PZ (t : Ty) : ∀ (l : List t.den) (i c : Nat) (hi : i < l.length),c < t.size→(aJ t l)[i * t.size + c]? = (enc t l[i])[c]?
 | [],i,c,hi,_=>by cases hi
 | x :: l,0,c,hi,hc=>by
  rw [fO,Nat.zero_mul,Nat.zero_add,List.getElem?_append_left (by rw [jF]; exact hc)]; rfl
 | x :: l,i + 1,c,hi,hc=>by
  rw [fO,List.getElem?_append_right (by rw [jF,Nat.add_mul]; omega),jF,show (i + 1) * t.size + c - t.size = i * t.size + c by rw [Nat.add_mul]; omega,PZ t l i c (by simpa using hi) hc]
  rfl
structure ElK (t : Ty) where
 x : t.den
 vs : List Value
def aE1 {t : Ty} (w : World) (G : Nat→Prop) (D : t.den→Bool) (e : ElK t) : Prop:=D e.x = true∧VRs w (Gd.of G) aL (enc t e.x) e.vs∧e.vs.length = t.size
def UM {α : Type} (D : List α→α→Bool) (lt : α→α→Bool) (l : List α) : Option (List α):=bif Nat.blt 0 l.length && Nat.blt l.length 4611686018427387904 && l.all (D l) then some (aHP lt l) else none
def aHB (t : Ty) (g2 : FuncId) (D : List t.den→t.den→Bool) (lt : t.den→t.den→Bool) (args : List PV) (H : Heap) : Option aM8:=match args with
 | [.own r sz,p]=>match fZ H r with
  | some k=>match k.tag with
   | some g=>match vW g.t t g.l with
    | some l=>match aQL g2 p with
     | some _=>bif Nat.beq sz t.size && !k.frozen then some ⟨List t.den,UM D lt l,fun l'=>(.tuple [],H.set r (some ⟨aJ t l',k.ty,k.grown,false,some ⟨t,l'⟩⟩))⟩ else none
     | none=>none
    | none=>none
   | none=>none
  | none=>none
 | _=>none
def aXO (P : Program) (g2 : FuncId) (t : Ty) (D : t.den→Bool) (cf : t.den→t.den→Int) : Prop :=
 ∀ (w : World) (G : Nat→Prop) (x y : t.den) (vx vy : List Value),Lt w G→D x = true→D y = true→VRs w (Gd.of G) aL (enc t x) vx→VRs w (Gd.of G) aL (enc t y) vy →
  Calls P g2 #[.agg vx.toArray,.agg vy.toArray] w fun e w'=>e = .returned (.int .i64 (cf x y))∧∃ q os',w' = Sort.grow (w.drewN q) os'

theorem aTT {g g2 : FuncId} {t : Ty} (hpl : t.plain = true) (hk0 : 0 < t.size) {D : List t.den→t.den→Bool} {cf : t.den→t.den→Int}
  (hLO : ∀ l,LO (D l) fun x y=>decide (cf x y < 0)) (hf : ∀ l,aXO P g2 t (D l) cf)
  (henter : ∀ (xs : Array Value) (w : World),(callFunc g xs).run P w = .ok (.enter g xs) w) (eg : ∀ (xs : Array Value) (w : World),(callFunc g2 xs).run P w = .ok (.enter g2 xs) w)
  (hS : ∀ {α : Type} [Inhabited α] (enc : α→List Value) (hk : ∀ x,(enc x).length = t.size) (h1 : ∀ x,∀ v ∈ enc x,v.oneCell' = true) (cf : α→α→Int) (hO : Sort.SWO (Proofs.ltOf cf)) (cb : Array Value) (blk off cap : Nat) (d : Array α) (w : World) (hcmp : Proofs.CmpLays P g2 cb enc t.size cf blk off d.size w) (hH : Sort.HoldsK enc t.size w blk off d) (hblk : blk < w.heap.size) (hsz : d.size < 4611686018427387904),
   Calls P g #[.slice (some ⟨blk,off,none⟩) d.size cap,.func (.func g2) #[] cb] w fun e w'=>e = .returned (.tuple #[])∧∃ d' n os,Sort.PermIn 0 d.size d d'∧Sort.SortedIn (Proofs.ltOf cf) 0 d.size d'∧w' = Proofs.sortWorldK enc t.size w blk off n d' os) :
  FH P (g,aHB t g2 D (fun x y=>decide (cf x y < 0))):=by
 intro args H rh h y hy n0 G μ w us hW hv
 change aHB t g2 D (fun x y=>decide (cf x y < 0)) args H = some rh at h
 show pL P n0 w G μ g us.toArray (rh.out y).1 (rh.out y).2
 unfold aHB at h
 split at h
 ·rename_i r sz p
  split at h
  ·rename_i k hk
   split at h
   ·rename_i gg hg
    split at h
    ·rename_i l hl
     split at h
     ·rename_i pk hpk
      obtain ⟨hb,h⟩:=VN h
      simp only [Bool.and_eq_true,Bool.not_eq_true'] at hb
      have hfz:=hb.2
      replace hb:=Nat.eq_of_beq_eq_true hb.1
      simp only [Option.some.injEq] at h
      subst h
      subst hb
      unfold UM at hy
      obtain ⟨hlen,hy⟩:=aM hy
      simp only [Option.some.injEq] at hy
      subst hy
      simp only [Bool.and_eq_true] at hlen
      obtain ⟨⟨hl0,hlen⟩,hall⟩:=hlen
      have hl0:=dP hl0
      have hlen:=dP hlen
      obtain ⟨gt,gl⟩:=gg
      obtain ⟨e0,he⟩:=l4 hl
      dsimp only at e0 he
      subst e0
      dsimp only at he
      subst he
      clear hl
      dsimp only at hl0 hlen hall hg ⊢
      obtain ⟨hcells,hmlen⟩:=hW.tags r k _ (aO hk) hg
      dsimp only at hcells hmlen
      have hLO:=hLO gl
      have hf:=hf gl
      have hD : ∀ x ∈ gl,D gl x = true:=List.all_eq_true.1 hall
      generalize hDD : D gl = D' at hLO hf hD
      rw [VRs] at hv
      obtain ⟨v,us1,rfl,h1,h2⟩:=hv
      rw [VRs] at h2
      obtain ⟨pv,us2,rfl,h2,h3⟩:=h2
      rw [VRs] at h3
      subst h3
      have hpv : pv = .func (.func g2) #[] #[]:=by
       have:=LW (g:=g2) (p:=p) hpk
       rw [this,VR] at h2
       exact h2
      subst hpv
      rw [VR] at h1
      obtain ⟨n,h3,h4⟩:=h1
      rw [hmlen] at h3
      cases h3
      rcases h4 with ⟨h5,ao,rfl⟩ | ⟨b,c,h5,rfl,h7,h8⟩
      ·omega
      refine ⟨henter _ _,?_⟩
      obtain ⟨cc,a1,a2,a3,_,a5⟩:=hW.blk r k b (aO hk) h5
      have hnG:=(a5 hfz).2
      rw [hcells] at a2
      have each : ∀ i (hi : i < gl.length),∃ e : ElK gt,aE1 w G.ok D' e∧e.x = gl[i]∧∀ c (hc : c < e.vs.length),w.cell? ⟨b,i * gt.size + c,none⟩ = some e.vs[c]:=fun i hi=>by
       have hcs : aP w G μ b (i * gt.size) (enc gt gl[i]):=aP.mk fun c p hp=>by
        have hc : c < gt.size:=by
         have:=(List.getElem?_eq_some_iff.1 hp).1
         rwa [jF] at this
        have:=a2.get (i:=i * gt.size + c) (p:=p) (by rw [PZ gt gl i c hi hc]; exact hp)
        rwa [Nat.zero_add] at this
       obtain ⟨vs,v1,v2,v3⟩:=aFL hcs
       have v1 : VRs w G aL (enc gt gl[i]) vs:=cH _ _ (wR _ _) v1
       exact ⟨⟨gl[i],vs⟩,⟨hD _ (List.getElem_mem hi),lP (G:=G) (G':=Gd.of G.ok) (fun b h=>h) _ _ _ (tX _ _ hpl) v1,by rw [v2,jF]⟩,rfl,v3⟩
      obtain ⟨x0,x0ok,_⟩:=each 0 hl0
      have inst : Inhabited {e : ElK gt // aE1 w G.ok D' e}:=⟨⟨x0,x0ok⟩⟩
      have each2 : ∀ i,∃ e : {e : ElK gt // aE1 w G.ok D' e},∀ hi : i < gl.length,e.1.x = gl[i]∧∀ c (hc : c < e.1.vs.length),w.cell? ⟨b,i * gt.size + c,none⟩ = some e.1.vs[c]:=fun i=>by
       by_cases hi : i < gl.length
       ·obtain ⟨e,e1,e2⟩:=each i hi
        exact ⟨⟨e,e1⟩,fun _=>e2⟩
       ·exact ⟨default,fun h=>absurd h hi⟩
      obtain ⟨f,hfx⟩:=Classical.axiomOfChoice each2
      obtain ⟨d,hd⟩ : ∃ d : Array {e : ElK gt // aE1 w G.ok D' e},d = ((List.range gl.length).map f).toArray:=⟨_,rfl⟩
      have hds : d.size = gl.length:=by rw [hd]; simp
      have hdg : ∀ i,i < gl.length→d[i]! = f i:=fun i hi=>by
       rw [getElem!_pos d i (by omega)]
       simp [hd]
      obtain ⟨en,hen⟩ : ∃ en : {e : ElK gt // aE1 w G.ok D' e}→List Value,en = fun e=>e.1.vs:=⟨_,rfl⟩
      have hek : ∀ x,(en x).length = gt.size:=fun x=>by rw [hen]; exact x.2.2.2
      have he1 : ∀ x,∀ v ∈ en x,v.oneCell' = true:=fun x=>by rw [hen]; exact YW gt x.1.x x.1.vs x.2.2.1
      have hcell : ∀ j,j < gl.length * gt.size→w.cell? ⟨b,j,none⟩ = some (Sort.flatK en gt.size d)[j]!:=fun j hj=>by
       have hj1 : j / gt.size < gl.length:=Nat.div_lt_of_lt_mul (by rw [Nat.mul_comm]; exact hj)
       have hj2 : j % gt.size < gt.size:=Nat.mod_lt _ hk0
       rw [Sort.get_flatK _ _ _ _ (by rw [hds]; exact hj),hdg _ hj1]
       have:=(hfx _ hj1).2 (j % gt.size) (by rw [(f (j / gt.size)).2.2.2]; exact hj2)
       rw [Nat.mul_comm,Nat.div_add_mod] at this
       rw [this,hen]
       congr 1
       rw [getElem!_pos]
      have hcs : gl.length * gt.size ≤ cc.size:=by
       rcases Nat.lt_or_ge cc.size (gl.length * gt.size) with hlt | hge
       ·have:=hcell cc.size hlt
        simp [World.cell?,a1] at this
       ·exact hge
      have hT : ∀ (m : Nat) (F : Array Value),B7 { w with drawn:=w.drawn + m } (Sort.putRow id (Sort.ahead w m) b 0 F) b (Sort.putCells id 0 F cc) k.ty:=fun m F=>{
       at_:=by
        show (w.heap.modify b _)[b]? = _
        rw [Array.getElem?_modify,if_pos rfl,a1]; rfl
       other:=fun x hx=>by
        show (w.heap.modify b _)[x]? = _
        rw [Array.getElem?_modify,if_neg (Ne.symm hx)]
       os:=rfl
       tape:=rfl
       output:=rfl
       size:=by show (w.heap.modify b _).size = _; simp
       drawn:=rfl }
      have hps : ∀ F : Array Value,(Sort.putCells id 0 F cc).size = cc.size:=fun F=>by simp [Sort.putCells]
      have e12 : ∀ (m : Nat) (F : Array Value),Ext n0 w G μ (Sort.putRow id (Sort.ahead w m) b 0 F) G μ:=fun m F =>
       (R2 (n0:=n0) (w:=w) (G:=G) (μ:=μ) (Nat.le_add_right w.drawn m)).trans (o8 (GF hW (w.drawn + m)) (aO hk) hfz h5 (c:=cc) (by exact a1) (hT m F) (hps F))
      have growE : ∀ {w1 : World} (os : Array Obj),(∀ b,G b→b < w1.heap.size)→Ext n0 w1 G μ (Sort.grow w1 os) G μ:=fun {w1} os hlt=>by
       have hgr : ∀ b,b < w1.heap.size→(Sort.grow w1 os).heap[b]? = w1.heap[b]?:=fun b hb=>by
        show (w1.heap ++ os)[b]? = _
        rw [Array.getElem?_append_left hb]
       exact {
        cW:=fun b hb=>⟨hb,hgr b (hlt b hb)⟩
        map:=fun _ _ h=>h
        len:=fun _ _ h=>h
        row:=fun _ _ h=>h
        room:=fun b n hb=>by
         obtain ⟨c,t,fr,h1,h2⟩:=hb
         exact ⟨c,t,fr,by rw [hgr b (dC h1)]; exact h1,h2⟩
        os:=rfl
        tape:=rfl
        output:=rfl
        size:=by show _ ≤ (w1.heap ++ os).size; simp
        old:=fun b hb _=>hgr b hb
        new:=fun b hb=>.inl hb }
      have hlt1 : ∀ (m : Nat) (F : Array Value) b',G b'→b' < (Sort.putRow id (Sort.ahead w m) b 0 F).heap.size:=fun m F b' hb'=>Nat.lt_of_lt_of_le (hW.lt b' hb') (e12 m F).size
      have e123 : ∀ (m : Nat) (F : Array Value) (os : Array Obj),Ext n0 w G μ (Sort.grow (Sort.putRow id (Sort.ahead w m) b 0 F) os) G μ:=fun m F os=>(e12 m F).trans (growE os (hlt1 m F))
      have hH : Sort.HoldsK en gt.size w b 0 d:=by
       intro j hj
       rw [Sort.size_flatK,hds] at hj
       refine ⟨?_,by simp [World.frozen?,a1]⟩
       rw [Nat.zero_add]
       exact hcell j hj
      have hO : Sort.SWO (Proofs.ltOf fun x y : {e : ElK gt // aE1 w G.ok D' e}=>cf x.1.x y.1.x) :=
       ⟨fun x=>hLO.irrefl _ x.2.1,fun x y z=>hLO.trans _ _ _ x.2.1 y.2.1 z.2.1,fun x y z=>hLO.ntrans _ _ _ x.2.1 y.2.1 z.2.1⟩
      have hcmp : Proofs.CmpLays P g2 #[] en gt.size (fun x y=>cf x.1.x y.1.x) b 0 d.size w:=by
       intro m os dk _ x y
       have eW:=e123 m (Sort.flatK en gt.size dk) os
       have mono0 : Mono w (Gd.of G.ok) aL (Proofs.sortWorldK en gt.size w b 0 m dk os) (Gd.of G.ok) aL:=⟨fun b hb=>⟨hb,(eW.cW b hb).2⟩,fun _ _ h=>h,fun _ _ h=>h,eW.room,fun _ _ h=>h⟩
       have hx:=VRs.mono mono0 _ _ x.2.2.1
       have hy:=VRs.mono mono0 _ _ y.2.2.1
       have hlt : Lt (Proofs.sortWorldK en gt.size w b 0 m dk os) G.ok:=hW.lt.step (fun b hb=>⟨hb,(eW.cW b hb).2⟩) fun b' hb'=>Nat.lt_of_lt_of_le (hW.lt b' hb') eW.size
       have:=hf _ G.ok x.1.x y.1.x _ _ hlt x.2.1 y.2.1 hx hy
       rw [hen] at this ⊢
       exact this
      have hcall:=hS en hek he1 (fun x y=>cf x.1.x y.1.x) hO #[] b 0 c d w hcmp hH (dC a1) (by omega)
      rw [hds] at hcall
      refine hcall.mono ?_
      rintro e w' ⟨rfl,d',m,os,⟨hp1,-,hp3⟩,hs,rfl⟩
      have hd's : d'.size = gl.length:=by rw [hp1,hds]
      have hgl : d.toList.map (fun x=>x.1.x) = gl:=by
       apply List.ext_getElem
       ·simp [hds]
       ·intro i h1 h2
        have:=hdg i h2
        rw [getElem!_pos d i (by omega)] at this
        simp only [List.getElem_map,Array.getElem_toList,this]
        exact (hfx i h2).1
      have hperm : List.Perm (d'.toList.map fun x=>x.1.x) gl:=by
       have hh : List.Perm (d'.toList.map fun x=>x.1.x) (d.toList.map fun x=>x.1.x):=by
        refine List.Perm.map _ ?_
        have q1 : d'.extract 0 gl.length = d':=by rw [← hd's]; simp
        have q2 : d.extract 0 gl.length = d:=by rw [← hds]; simp
        rw [q1,q2] at hp3
        exact hp3
       rwa [hgl] at hh
      have hsort : (d'.toList.map fun x=>x.1.x).Pairwise (fun a b=>decide (cf b a < 0) = false):=by
       refine List.pairwise_map.2 (List.pairwise_iff_getElem.2 fun i j hi hj hij=>?_)
       have:=hs i j (Nat.zero_le _) hij (by simpa [hd's] using hj)
       rw [getElem!_pos d' i (by simpa using hi),getElem!_pos d' j (by simpa using hj)] at this
       simpa [Proofs.ltOf] using this
      have hL : aHP (fun x y=>decide (cf x y < 0)) gl = d'.toList.map fun x=>x.1.x:=aKV hLO hD hperm hsort
      have hLl : (d'.toList.map fun x=>x.1.x).length = gl.length:=by simp [hd's]
      rw [hL]
      have hnew : ∀ i (hi : i < gl.length * gt.size),(Sort.putCells id 0 (Sort.flatK en gt.size d') cc)[i]? = some (Sort.flatK en gt.size d')[i]!:=fun i hi=>by
       have h9 : i < cc.size:=by omega
       have h10 : i < (Sort.flatK en gt.size d').size:=by rw [Sort.size_flatK,hd's]; exact hi
       simp only [Sort.putCells,Array.getElem?_mapIdx,Array.getElem?_eq_getElem h9,Option.map_some,Nat.zero_le,true_and,Nat.zero_add,h10,if_true,Nat.sub_zero,id]
      have hkk : aP (Sort.putRow id (Sort.ahead w m) b 0 (Sort.flatK en gt.size d')) G μ b 0 (aJ gt (d'.toList.map fun x=>x.1.x)):=by
       refine aP.mk fun j p hp=>?_
       have hj : j < gl.length * gt.size:=by
        have:=(List.getElem?_eq_some_iff.1 hp).1
        rwa [bB,hLl] at this
       have hj1 : j / gt.size < gl.length:=Nat.div_lt_of_lt_mul (by rw [Nat.mul_comm]; exact hj)
       have hj2 : j % gt.size < gt.size:=Nat.mod_lt _ hk0
       have hj3 : j / gt.size < d'.size:=by omega
       have hjj : j / gt.size * gt.size + j % gt.size = j:=by rw [Nat.mul_comm]; exact Nat.div_add_mod _ _
       rw [← hjj,PZ gt _ _ _ (by rw [hLl]; exact hj1) hj2] at hp
       simp only [List.getElem_map,Array.getElem_toList] at hp
       have hx:=d'[j / gt.size].2.2.1
       obtain ⟨v,q1,q2⟩:=hx.get hp
       have q2' : VR w G μ p v:=by
        have h3:=xR (G:=Gd.of G.ok) (G':=G) (fun b h=>h) aL p v ?_ q2
        ·exact h3.bD
        ·have:=tX gt d'[j / gt.size].1.x hpl
         exact PT this (List.mem_of_getElem? hp)
       refine ⟨v,?_,VR.mono (e12 m _).toMono _ _ q2'⟩
       simp only [World.cell?,(hT m _).at_,Nat.zero_add]
       rw [hnew j hj,Sort.get_flatK _ _ _ _ (by rw [hd's]; exact hj),getElem!_pos d' _ hj3,hen,List.getElem!_eq_getElem?_getD,q1]
       rfl
      have w1:=GF hW (w.drawn + m)
      have w2:=qU w1 (aO hk) hfz h5 (c:=cc) (k':=⟨aJ gt (d'.toList.map fun x=>x.1.x),k.ty,k.grown,false,some ⟨gt,d'.toList.map fun x=>x.1.x⟩⟩) (by exact a1) (hT m _) (hps _) rfl hkk
       (fun hgr=>by rw [hps,a3 hgr,hcells,bB,bB,hLl])
       (fun g hg=>by cases hg; exact ⟨rfl,by rw [hmlen,hLl]⟩)
       (fun t l h1 h2=>by cases h2; cases hpl)
      obtain ⟨e3,w3⟩:=aTQ w2 os
      refine ⟨_,G,μ,rfl,(e12 m _).trans e3,w3,?_⟩
      rw [VR]; exact ⟨#[],rfl,by rw [VRs]⟩
     ·cases h
    ·cases h
   ·cases h
  ·cases h
 ·cases h
end
end Go.PM
set_option linter.unusedSimpArgs false
set_option linter.unusedVariables false
namespace Go.PM
def cmpL : List Int→List Int→Int
 | [],[]=>0
 | [],_ :: _=>-1
 | _ :: _,[]=>1
 | a :: l,b :: m=>if a < b then -1 else if b < a then 1 else cmpL l m
theorem MO : ∀ l,cmpL l l = 0
 | []=>rfl
 | a :: l=>by simp [cmpL,MO l]
theorem MR : ∀ {l m : List Int},¬ cmpL l m < 0→¬ cmpL m l < 0→l = m
 | [],[],_,_=>rfl
 | [],_ :: _,h,_=>by simp [cmpL] at h
 | _ :: _,[],_,h=>by simp [cmpL] at h
 | a :: l,b :: m,h,k=>by
  simp only [cmpL] at h k
  by_cases h1 : a < b
  ·simp [h1] at h
  ·by_cases h2 : b < a
   ·simp [h2] at k
   ·rw [if_neg h1,if_neg h2] at h
    rw [if_neg h2,if_neg h1] at k
    have : a = b:=by omega
    rw [this,MR h k]
theorem BX : ∀ {l m n : List Int},cmpL l m < 0→cmpL m n < 0→cmpL l n < 0
 | [],[],_,h,_=>by simp [cmpL] at h
 | [],_ :: _,[],_,k=>by simp [cmpL] at k
 | [],_ :: _,_ :: _,_,_=>by simp [cmpL]
 | _ :: _,[],_,h,_=>by simp [cmpL] at h
 | _ :: _,_ :: _,[],_,k=>by simp [cmpL] at k
 | a :: l,b :: m,c :: n,h,k=>by
  simp only [cmpL] at h k ⊢
  by_cases h1 : a < b
  ·by_cases h3 : b < c
   ·rw [if_pos (show a < c by omega)]; omega
   ·by_cases h4 : c < b
    ·rw [if_neg h3,if_pos h4] at k; omega
    ·rw [if_pos (show a < c by omega)]; omega
  ·by_cases h2 : b < a
   ·rw [if_neg h1,if_pos h2] at h; omega
   ·rw [if_neg h1,if_neg h2] at h
    by_cases h3 : b < c
    ·rw [if_pos (show a < c by omega)]; omega
    ·by_cases h4 : c < b
     ·rw [if_neg h3,if_pos h4] at k; omega
     ·rw [if_neg h3,if_neg h4] at k
      rw [if_neg (show ¬ a < c by omega),if_neg (show ¬ c < a by omega)]
      exact BX h k
theorem RS {α β : Type} (f : Nat→Option α) (g : α→β) : ∀ l : List Nat,(l.findSome? fun i=>(f i).map g) = (l.findSome? f).map g
 | []=>rfl
 | i :: l=>by
  rw [List.findSome?_cons,List.findSome?_cons]
  cases h : f i with
  | some y=>rfl
  | none=>exact RS f g l
def T6 (l m : List Int) (i : Nat) : Option Int :=
 if ¬ i < m.length then some 1 else if l.getD i 0 < m.getD i 0 then some (-1) else if m.getD i 0 < l.getD i 0 then some 1 else none
theorem aRP : ∀ (l m : List Int) (j : Nat),((List.range' j (l.length - j)).findSome? (T6 l m)).getD (if l.length < m.length then -1 else 0) = cmpL (l.drop j) (m.drop j) ∨ l.length < j
 | l,m,j=>by
  rcases Nat.lt_or_ge l.length j with h | h
  ·exact .inr h
  ·left
   generalize hn : l.length - j = n
   induction n generalizing j with
   | zero =>
    have h1 : l.drop j = []:=List.drop_eq_nil_of_le (by omega)
    rw [h1]
    simp only [List.range'_zero,List.findSome?_nil,Option.getD_none]
    by_cases h2 : l.length < m.length
    ·rw [if_pos h2,List.drop_eq_getElem_cons (show j < m.length by omega)]; rfl
    ·rw [if_neg h2,List.drop_eq_nil_of_le (show m.length ≤ j by omega)]; rfl
   | succ n ih =>
    have hj : j < l.length:=by omega
    rw [List.range'_succ,List.findSome?_cons,List.drop_eq_getElem_cons hj]
    unfold T6
    by_cases h2 : j < m.length
    ·rw [if_neg (fun h=>h h2),List.drop_eq_getElem_cons h2]
     have g1 : l.getD j 0 = l[j]:=by rw [List.getD_eq_getElem?_getD,List.getElem?_eq_getElem hj]; rfl
     have g2 : m.getD j 0 = m[j]:=by rw [List.getD_eq_getElem?_getD,List.getElem?_eq_getElem h2]; rfl
     rw [g1,g2]
     simp only [cmpL]
     by_cases h3 : l[j] < m[j]
     ·rw [if_pos h3,if_pos h3]; rfl
     ·rw [if_neg h3,if_neg h3]
      by_cases h4 : m[j] < l[j]
      ·rw [if_pos h4,if_pos h4]; rfl
      ·rw [if_neg h4,if_neg h4]
       exact ih (j + 1) (by omega) (by omega)
    ·rw [if_pos h2,List.drop_eq_nil_of_le (show m.length ≤ j by omega)]; rfl

theorem aJJ : ∀ {l m : List Int},cmpL l m = 0→l = m
 | [],[],_=>rfl
 | [],_ :: _,h=>by simp [cmpL] at h
 | _ :: _,[],h=>by simp [cmpL] at h
 | a :: l,b :: m,h=>by
  simp only [cmpL] at h
  by_cases h1 : a < b
  ·rw [if_pos h1] at h; omega
  ·rw [if_neg h1] at h
   by_cases h2 : b < a
   ·rw [if_pos h2] at h; omega
   ·rw [if_neg h2] at h
    rw [aJJ h,show a = b by omega]
def XR (a b : List Int×List Int) : Int:=if ¬ cmpL a.1 b.1 = 0 then cmpL a.1 b.1 else cmpL a.2 b.2
def least {α : Type} (f : α→List Int×List Int) : List α→α→α
 | [],b=>b
 | x :: l,b=>least f l (if XR (f x) (f b) < 0 then x else b)
theorem aFG {α : Type} (f : α→List Int×List Int) : ∀ (l : List α) (b : α),least f l b = b ∨ least f l b ∈ l
 | [],b=>.inl rfl
 | x :: l,b=>by
  unfold least
  rcases aFG f l (if XR (f x) (f b) < 0 then x else b) with h | h
  ·rw [h]
   split
   ·exact .inr (by simp)
   ·exact .inl rfl
  ·exact .inr (List.mem_cons_of_mem _ h)
theorem aC3 {α : Type} (f : α→List Int×List Int) (x : α) : ∀ (l : List α) (b : α),least f (l ++ [x]) b = if XR (f x) (f (least f l b)) < 0 then x else least f l b
 | [],b=>rfl
 | y :: l,b=>by
  rw [List.cons_append,least,least,aC3 f x l]
end Go.PM
set_option linter.unusedSimpArgs false
set_option linter.unusedVariables false
namespace Go.PM
open Go Go.RowKit Go.Proofs
set_option maxRecDepth 100000
set_option maxHeartbeats 4000000
theorem aIC {p : Prop} (h : p) : Hid p:=h
theorem aH1 (b1 o1 c1 b2 o2 c2 : Nat) (l m : List Int) (w : World) (hl : ∀ j x,l[j]? = some x→w.cell? ⟨b1,o1 + j,none⟩ = some (.int .i64 x)) (hm : ∀ j x,m[j]? = some x→w.cell? ⟨b2,o2 + j,none⟩ = some (.int .i64 x)) (hln : l.length ≤ 1048576) (hmn : m.length ≤ 1048576) :
  Calls Tryz.prog 57 #[.slice (some ⟨b1,o1,none⟩) l.length c1,.slice (some ⟨b2,o2,none⟩) m.length c2] w fun e w'=>e = .returned (.int .i64 (cmpL l m))∧w' = w:=by
 have HL:=aIC hl
 have HM:=aIC hm
 clear hl hm
 have e74 : ∀ args w,(callFunc 74 args).run Tryz.prog w = .ok (.enter 74 args) w:=fun args w=>enters Tryz.func74 (by kernel_rfl) (by kernel_rfl) args w
 go_enter Tryz.func57,Tryz.ntmps57
 go_wp2
 go_loop [11] (fun i=>∃ k : Nat,k ≤ l.length∧i = .int .i64 k∧Hid (cmpL (l.drop k) (m.drop k) = cmpL l m)) (fun i=>l.length - (RowKit.intOf i).toNat)
 case atStart=>exact ⟨0,Nat.zero_le _,rfl,aIC rfl⟩
 case round =>
  obtain ⟨k,hk,rfl,hc⟩:=hrel
  by_cases hkn : k < l.length
  ·obtain ⟨x,hx⟩ : ∃ x,l[k]? = some x:=⟨l[k],List.getElem?_eq_getElem hkn⟩
   have hcx:=HL.out k x hx
   have hdx : l.drop k = x :: l.drop (k + 1):=by
    rw [List.drop_eq_getElem_cons hkn]
    congr 1
    exact (List.getElem?_eq_some_iff.1 hx).2
   by_cases hkm : k < m.length
   ·obtain ⟨y,hy⟩ : ∃ y,m[k]? = some y:=⟨m[k],List.getElem?_eq_getElem hkm⟩
    have hcy:=HM.out k y hy
    have hdy : m.drop k = y :: m.drop (k + 1):=by
     rw [List.drop_eq_getElem_cons hkm]
     congr 1
     exact (List.getElem?_eq_some_iff.1 hy).2
    have hc2 : Hid ((if x < y then -1 else if y < x then 1 else cmpL (l.drop (k + 1)) (m.drop (k + 1))) = cmpL l m):=by
     have:=hc.out
     rw [hdx,hdy] at this
     exact this
    clear hdx hdy hc hx hy
    go_wp2_with (go_at_fn 74; refine (Tryz.cmp_Compare_int x y w).mono ?_; rintro e w' ⟨rfl,rfl⟩)
    ·rename_i h
     have e : Lib.compareInt x y = cmpL l m:=by
      rw [← hc2.out]
      unfold Lib.compareInt at h ⊢
      by_cases h1 : x < y
      ·rw [if_pos h1,if_pos h1]
      ·by_cases h2 : y < x
       ·rw [if_neg h1,if_pos h2,if_neg h1,if_pos h2]
       ·rw [if_neg h1,if_neg h2] at h; simp at h
     clear hc2
     go_ret
     exact ⟨congrArg (fun z=>Ending.returned (.int .i64 z)) e,rfl⟩
    ·rename_i h
     refine ⟨⟨k + 1,by omega,by go_num,aIC ?_⟩,by simp [RowKit.intOf]; omega⟩
     rw [← hc2.out]
     unfold Lib.compareInt at h
     by_cases h1 : x < y
     ·rw [if_pos h1] at h; simp at h
     ·by_cases h2 : y < x
      ·rw [if_neg h1,if_pos h2] at h; simp at h
      ·rw [if_neg h1,if_neg h2]
   ·have hc2 : Hid (1 = cmpL l m):=by
     have:=hc.out
     rw [hdx,List.drop_eq_nil_of_le (show m.length ≤ k by omega)] at this
     exact this
    clear hdx hc hx
    go_wp2
    go_ret
    exact ⟨congrArg (fun z=>Ending.returned (.int .i64 z)) hc2.out,rfl⟩
  ·have hke : k = l.length:=by omega
   subst hke
   have hc2 : Hid ((if l.length < m.length then -1 else 0) = cmpL l m):=by
    have:=hc.out
    rw [List.drop_length] at this
    rw [← this]
    by_cases h : l.length < m.length
    ·rw [if_pos h,List.drop_eq_getElem_cons h]; rfl
    ·rw [if_neg h,List.drop_eq_nil_of_le (show m.length ≤ l.length by omega)]; rfl
   clear hc
   go_wp2
   ·rename_i h
    have e:=hc2.out
    rw [if_pos (by omega)] at e
    clear hc2
    go_ret
    exact ⟨congrArg (fun z=>Ending.returned (.int .i64 z)) e,rfl⟩
   ·rename_i h
    have e:=hc2.out
    rw [if_neg (by omega)] at e
    clear hc2
    go_ret
    exact ⟨congrArg (fun z=>Ending.returned (.int .i64 z)) e,rfl⟩
theorem aII (ao bo : Option Addr) (c1 c2 n : Nat) (w : World) :
  Calls Tryz.prog 57 #[.slice ao 0 c1,.slice bo n c2] w fun e w'=>e = .returned (.int .i64 (if 0 < n then -1 else 0))∧w' = w:=by
 have e74 : ∀ args w,(callFunc 74 args).run Tryz.prog w = .ok (.enter 74 args) w:=fun args w=>enters Tryz.func74 (by kernel_rfl) (by kernel_rfl) args w
 go_enter Tryz.func57,Tryz.ntmps57
 go_wp2
 go_loop [11] (fun i=>i = .int .i64 0) (fun i=>0)
 case atStart=>rfl
 case round =>
  subst hrel
  go_wp2
  all_goals (go_ret; exact ⟨rfl,rfl⟩)
theorem aIE (b1 o1 n : Nat) (bo : Option Addr) (c1 c2 : Nat) (x : Int) (w : World) (hn : 0 < n) (hx : w.cell? ⟨b1,o1,none⟩ = some (.int .i64 x)) :
  Calls Tryz.prog 57 #[.slice (some ⟨b1,o1,none⟩) n c1,.slice bo 0 c2] w fun e w'=>e = .returned (.int .i64 1)∧w' = w:=by
 have e74 : ∀ args w,(callFunc 74 args).run Tryz.prog w = .ok (.enter 74 args) w:=fun args w=>enters Tryz.func74 (by kernel_rfl) (by kernel_rfl) args w
 go_enter Tryz.func57,Tryz.ntmps57
 go_wp2
 go_loop [11] (fun i=>i = .int .i64 0) (fun i=>0)
 case atStart=>rfl
 case round =>
  subst hrel
  go_wp2
  all_goals (go_ret; exact ⟨rfl,rfl⟩)
theorem aG6 {w : World} {G : Nat→Prop} {l m : List Int} {v u : Value} (hv : VR w (Gd.of G) aL (qL (.int .i64) l none) v) (hu : VR w (Gd.of G) aL (qL (.int .i64) m none) u) (hl : l.length ≤ 1048576) (hm : m.length ≤ 1048576) :
  Calls Tryz.prog 57 #[v,u] w fun e w'=>e = .returned (.int .i64 (cmpL l m))∧w' = w:=by
 unfold qL at hv hu
 rw [VR] at hv hu
 obtain ⟨hv,-⟩:=hv
 obtain ⟨hu,-⟩:=hu
 rw [VR] at hv hu
 obtain ⟨ao,c,rfl,-,-,h1⟩:=hv
 obtain ⟨bo,d,rfl,-,-,h2⟩:=hu
 cases l with
 | nil =>
  refine (aII ao bo c d m.length w).mono ?_
  rintro e w' ⟨rfl,rfl⟩
  refine ⟨?_,rfl⟩
  cases m with
  | nil=>rfl
  | cons y m=>rfl
 | cons x l =>
  rcases h1 with h1 | ⟨b,off,rfl,-,h1⟩
  ·cases h1
  have hc : ∀ (zs : List Int) (b off : Nat),aP w (Gd.of G) aL b off (aJ (.int .i64) zs)→∀ j z,zs[j]? = some z→w.cell? ⟨b,off + j,none⟩ = some (.int .i64 z):=fun zs b off h j z hz=>by
   obtain ⟨v,g1,g2⟩:=h.get (i:=j) (p:=.lit (.int .i64 z)) (by rw [aP9,List.getElem?_map,hz]; rfl)
   rw [VR] at g2
   rw [g1,g2]
  cases m with
  | nil =>
   refine (aIE b off (l.length + 1) bo c d x w (Nat.succ_pos _) (by simpa using hc _ _ _ h1 0 x rfl)).mono ?_
   rintro e w' ⟨rfl,rfl⟩
   exact ⟨rfl,rfl⟩
  | cons y m =>
   rcases h2 with h2 | ⟨b2,off2,rfl,-,h2⟩
   ·cases h2
   exact aH1 b off c b2 off2 d (x :: l) (y :: m) w (hc _ _ _ h1) (hc _ _ _ h2) hl hm
theorem JK {w : World} {G : Nat→Prop} {l m : List Int} {v u : Value} (hv : VR w (Gd.of G) aL (qL (.int .i64) l none) v) (hu : VR w (Gd.of G) aL (qL (.int .i64) m none) u) (hl : l.length ≤ 1048576) (hm : m.length ≤ 1048576) :
  Calls Tryz.prog 35 #[v,u] w fun e w'=>e = .returned (.int .i64 (cmpL l m))∧w' = w:=by
 have e57 : ∀ args w,(callFunc 57 args).run Tryz.prog w = .ok (.enter 57 args) w:=fun args w=>enters Tryz.func57 (by kernel_rfl) (by kernel_rfl) args w
 have h:=aG6 hv hu hl hm
 clear hv hu
 go_enter Tryz.func35,Tryz.ntmps35
 go_wp2_with (go_at_fn 57; refine h.mono ?_; rintro e w' ⟨rfl,rfl⟩)
 go_ret
 exact ⟨rfl,rfl⟩
abbrev Q4 : Ty:=.prod (.int .i64) (.prod (.list (.int .i64)) (.prod (.list (.int .i64)) (.list (.int .i64))))
def cfL (x y : Q4.den) : Int:=if cmpL x.2.2.1 y.2.2.1 ≠ 0 then cmpL x.2.2.1 y.2.2.1 else cmpL x.2.2.2 y.2.2.2
theorem aOY {w : World} {G : Nat→Prop} {x y : Q4.den} {vx vy : List Value} (hG : Lt w G) (hx : VRs w (Gd.of G) aL (enc Q4 x) vx) (hy : VRs w (Gd.of G) aL (enc Q4 y) vy) (h1 : x.2.2.1.length ≤ 1048576) (h2 : x.2.2.2.length ≤ 1048576) (h3 : y.2.2.1.length ≤ 1048576) (h4 : y.2.2.2.length ≤ 1048576) :
  Calls Tryz.prog 48 #[.agg vx.toArray,.agg vy.toArray] w fun e w'=>e = .returned (.int .i64 (cfL x y))∧∃ q os',w' = Sort.grow (w.drewN q) os':=by
 obtain ⟨a,b,r,u⟩:=x
 obtain ⟨a',b',r',u'⟩:=y
 have four : ∀ {a : Int} {b r u : List Int} {vs : List Value},VRs w (Gd.of G) aL (enc Q4 (a,b,r,u)) vs→∃ v1 v2 v3 v4,vs = [v1,v2,v3,v4]∧VR w (Gd.of G) aL (qL (.int .i64) r none) v3∧VR w (Gd.of G) aL (qL (.int .i64) u none) v4:=by
  intro a b r u vs h
  have h : VRs w (Gd.of G) aL [.lit (.int .i64 a),qL (.int .i64) b none,qL (.int .i64) r none,qL (.int .i64) u none] vs:=h
  rw [VRs] at h
  obtain ⟨v1,us,rfl,-,h⟩:=h
  rw [VRs] at h
  obtain ⟨v2,us,rfl,-,h⟩:=h
  rw [VRs] at h
  obtain ⟨v3,us,rfl,k3,h⟩:=h
  rw [VRs] at h
  obtain ⟨v4,us,rfl,k4,h⟩:=h
  rw [VRs] at h
  subst h
  exact ⟨v1,v2,v3,v4,rfl,k3,k4⟩
 obtain ⟨v1,v2,v3,v4,rfl,k3,k4⟩:=four hx
 obtain ⟨u1,u2,u3,u4,rfl,j3,j4⟩:=four hy
 clear hx hy four
 have hm : ∀ o1 o2,Mono w (Gd.of G) aL ((w.alloc o1).alloc o2) (Gd.of G) aL:=fun o1 o2=>by
  have hh : ∀ b,b < w.heap.size→((w.alloc o1).alloc o2).heap[b]? = w.heap[b]?:=fun b hb=>by
   rw [Below.heap_alloc _ _ _ (by simp; omega),Below.heap_alloc _ _ _ hb]
  exact ⟨fun b hb=>⟨hb,hh b (hG.lt b hb)⟩,fun _ _ h=>h,fun _ _ h=>h,fun b n ⟨c,t,fr,e1,e2⟩=>⟨c,t,fr,by rw [hh b (dC e1)]; exact e1,e2⟩,fun _ _ h=>h⟩
 have hl1 : ∀ o1 o2,Calls Tryz.prog 35 #[v3,u3] ((w.alloc o1).alloc o2) fun e w2=>e = .returned (.int .i64 (cmpL r r'))∧w2 = (w.alloc o1).alloc o2:=fun o1 o2 =>
  JK (VR.mono (hm o1 o2) _ _ k3) (VR.mono (hm o1 o2) _ _ j3) h1 h3
 have hl2 : ∀ o1 o2,Calls Tryz.prog 35 #[v4,u4] ((w.alloc o1).alloc o2) fun e w2=>e = .returned (.int .i64 (cmpL u u'))∧w2 = (w.alloc o1).alloc o2:=fun o1 o2 =>
  JK (VR.mono (hm o1 o2) _ _ k4) (VR.mono (hm o1 o2) _ _ j4) h2 h4
 have hgr : ∀ o1 o2,∃ q os',(w.alloc o1).alloc o2 = Sort.grow (w.drewN q) os':=fun o1 o2=>⟨0,#[o1,o2],by rw [Sort.alloc_eq_grow,Sort.alloc_eq_grow,Sort.grow_grow]; rfl⟩
 obtain ⟨z,hz⟩ : ∃ z,z = cfL (a,b,r,u) (a',b',r',u'):=⟨_,rfl⟩
 rw [← hz]
 have Hz:=aIC hz
 have Hm:=aIC hm
 clear hz hm k3 k4 j3 j4
 generalize hc1 : cmpL r r' = q1 at hl1
 generalize hc2 : cmpL u u' = q2 at hl2
 have H1:=aIC hc1
 have H2:=aIC hc2
 have Hg:=aIC hgr
 clear hc1 hc2 hgr h1 h2 h3 h4 hG
 have e35 : ∀ args w,(callFunc 35 args).run Tryz.prog w = .ok (.enter 35 args) w:=fun args w=>enters Tryz.func35 (by kernel_rfl) (by kernel_rfl) args w
 go_enter Tryz.func48,Tryz.ntmps48
 go_wp2_with (go_at_fn 35; first | (refine (hl1 _ _).mono ?_; rintro e w' ⟨rfl,rfl⟩) | (refine (hl2 _ _).mono ?_; rintro e w' ⟨rfl,rfl⟩))
 ·rename_i h
  have e : q1 = z:=by
   rw [Hz.out]
   unfold cfL
   show q1 = if cmpL r r' ≠ 0 then cmpL r r' else cmpL u u'
   rw [H1.out,if_pos (by simpa using h)]
  go_ret
  exact ⟨congrArg (fun z=>Ending.returned (.int .i64 z)) e,Hg.out _ _⟩
 ·rename_i h
  have e : q2 = z:=by
   rw [Hz.out]
   unfold cfL
   show q2 = if cmpL r r' ≠ 0 then cmpL r r' else cmpL u u'
   rw [H1.out,H2.out,if_neg (by simpa using h)]
  go_ret
  exact ⟨congrArg (fun z=>Ending.returned (.int .i64 z)) e,Hg.out _ _⟩
def NY (l : List Q4.den) (x : Q4.den) : Bool:=(match l with
 | []=>false
 | y :: _=>decide (x.1 = y.1) && decide (x.2.1 = y.2.1)) && (Nat.ble x.2.2.1.length 1048576 && Nat.ble x.2.2.2.length 1048576)
def ltL (x y : Q4.den) : Bool:=decide (cfL x y < 0)
theorem YZ {x y : Q4.den} : cfL x y < 0↔cmpL x.2.2.1 y.2.2.1 < 0 ∨ x.2.2.1 = y.2.2.1∧cmpL x.2.2.2 y.2.2.2 < 0:=by
 unfold cfL
 by_cases h : cmpL x.2.2.1 y.2.2.1 = 0
 ·rw [if_neg (by simpa using h)]
  have e : x.2.2.1 = y.2.2.1:=aJJ h
  constructor
  ·exact fun k=>.inr ⟨e,k⟩
  ·rintro (k | ⟨-,k⟩)
   ·omega
   ·exact k
 ·rw [if_pos h]
  constructor
  ·exact .inl
  ·rintro (k | ⟨k,-⟩)
   ·exact k
   ·rw [k,MO] at h; exact absurd rfl h
theorem a8V (l : List Q4.den) : LO (NY l) fun x y=>decide (cfL x y < 0) where
 irrefl x _:=by
  rw [decide_eq_false_iff_not,YZ,MO,MO]; simp
 trans x y z _ _ _ h k:=by
  rw [decide_eq_true_eq,YZ] at *
  rcases h with h | ⟨h1,h2⟩
  ·rcases k with k | ⟨k1,k2⟩
   ·exact .inl (BX h k)
   ·rw [← k1]; exact .inl h
  ·rcases k with k | ⟨k1,k2⟩
   ·rw [h1]; exact .inl k
   ·exact .inr ⟨h1.trans k1,BX h2 k2⟩
 ntrans x y z _ _ _ h k:=by
  rw [decide_eq_false_iff_not,YZ] at *
  have tri : ∀ a b : List Int,cmpL a b < 0 ∨ a = b ∨ cmpL b a < 0:=fun a b=>by
   by_cases h1 : cmpL a b < 0
   ·exact .inl h1
   ·by_cases h2 : cmpL b a < 0
    ·exact .inr (.inr h2)
    ·exact .inr (.inl (MR h1 h2))
  rintro (g | ⟨g1,g2⟩)
  ·rcases tri x.2.2.1 y.2.2.1 with a | a | a
   ·exact h (.inl a)
   ·rw [a] at g; exact k (.inl g)
   ·exact k (.inl (BX a g))
  ·rcases tri x.2.2.1 y.2.2.1 with a | a | a
   ·exact h (.inl a)
   ·rcases tri x.2.2.2 y.2.2.2 with c | c | c
    ·exact h (.inr ⟨a,c⟩)
    ·rw [c] at g2; exact k (.inr ⟨a.symm.trans g1,g2⟩)
    ·exact k (.inr ⟨a.symm.trans g1,BX c g2⟩)
   ·exact k (.inl (by rw [g1] at a; exact a))
 anti x y hx hy h k:=by
  have h : ¬ cfL x y < 0:=by simpa using h
  have k : ¬ cfL y x < 0:=by simpa using k
  rw [YZ] at h k
  have e1 : x.2.2.1 = y.2.2.1:=MR (fun a=>h (.inl a)) (fun a=>k (.inl a))
  have e2 : x.2.2.2 = y.2.2.2:=MR (fun a=>h (.inr ⟨e1,a⟩)) (fun a=>k (.inr ⟨e1.symm,a⟩))
  unfold NY at hx hy
  cases l with
  | nil=>simp at hx
  | cons z l =>
   simp only [Bool.and_eq_true,decide_eq_true_eq] at hx hy
   obtain ⟨x1,x2,x3,x4⟩:=x
   obtain ⟨y1,y2,y3,y4⟩:=y
   dsimp only at hx hy e1 e2
   rw [e1,e2,hx.1.1,hx.1.2,hy.1.1,hy.1.2]
theorem aSN (l : List Q4.den) : aXO Tryz.prog 48 Q4 (NY l) cfL:=by
 intro w G x y vx vy hG hx hy kx ky
 unfold NY at hx hy
 simp only [Bool.and_eq_true] at hx hy
 exact aOY hG kx ky (Nat.le_of_ble_eq_true hx.2.1) (Nat.le_of_ble_eq_true hx.2.2) (Nat.le_of_ble_eq_true hy.2.1) (Nat.le_of_ble_eq_true hy.2.2)
abbrev s54 : Shr:=(54,aHB Q4 48 NY ltL)
theorem a6M : FH Tryz.prog s54 :=
 aTT (t:=Q4) rfl (by decide) a8V aSN (fun _ _=>enters Tryz.func54 (by kernel_rfl) (by kernel_rfl) _ _) (fun _ _=>enters Tryz.func48 (by kernel_rfl) (by kernel_rfl) _ _)
  (fun enc hk h1 cf hO cb blk off cap d w hcmp hH hblk hsz=>Tryz.T0 enc hk h1 cf hO 48 cb blk off cap d w (fun _ _=>enters Tryz.func48 (by kernel_rfl) (by kernel_rfl) _ _) hcmp hH hblk hsz)
end Go.PM
set_option linter.unusedSimpArgs false
set_option linter.unusedVariables false
namespace Go.PM
open Go Go.RowKit Go.Proofs
set_option maxRecDepth 100000
set_option maxHeartbeats 4000000
/-! schisma/isomorphy.checkBox -/
abbrev VO : List (Nat×Kd):=[(1,.box 68 (.prod (.int .i64) (.prod (.int .i64) (.int .i64)))),(4,.int .i64),(5,.int .i64),(36,.int .i64),(37,.int .i64)]
abbrev aA2 : List (Ex×List (Nat×Kd)):=[(.ret,[(2,.int .i64),(3,.int .i64)]),(.exit 0,[(4,.int .i64)])]
def aLB (x : Shape.den VO) : Option (Shape.den VO ⊕ aR aA2):=match x with
 | (v1,v4,v5,v36,v37,()) =>
  bif ltI v37 v36 then
   bif ltI 100000 (aE .i64 (v5 * (aE .i64 ((aE .i64 ((aE .i64 (2 * v1.2.2)) + 1)) * (aE .i64 ((aE .i64 (2 * v1.2.2)) + 1)))))) then
    some (.inr (.inl (0,4,())))
   else some (.inl ((v1.1,(v1.2.1,v1.2.2)),(aE .i64 (v4 * (aE .i64 ((aE .i64 (2 * v1.2.2)) + 1)))),(aE .i64 (v5 * (aE .i64 ((aE .i64 ((aE .i64 (2 * v1.2.2)) + 1)) * (aE .i64 ((aE .i64 (2 * v1.2.2)) + 1)))))),v36,(aE .i64 (v37 + 1)),()))
  else some (.inr (.inr ((v4,()))))
def F7 (x : Shape.den VO) : Option (aR aA2):=bM aLB (2 ^ 64) x
def f51 (x : aI [.agg (.prod (.int .i64) (.prod (.int .i64) (.int .i64)))]) : Option (aI [.int .i64,.int .i64]):=match x with
 | (v0,()) =>
  bif !(eqI v0.1 1) then
   bif !(eqI v0.1 2) then
    some (0,12,())
   else bif ltI v0.2.1 0 then
    some (0,3,())
   else bif ltI 4 v0.2.1 then
    some (0,3,())
   else bif ltI v0.2.2 0 then
    some (0,3,())
   else bif ltI 0 v0.2.1 then
    bif ltI 100000 v0.2.2 then
     some (0,4,())
    else aB (F7 ((v0.1,(v0.2.1,v0.2.2)),1,1,v0.2.1,0,())) fun z1 =>
    gY z1 (fun a2=>some (a2.1,a2.2.1,())) fun b3 =>
    some (b3.1,0,())
   else aB (F7 ((v0.1,(v0.2.1,v0.2.2)),1,1,v0.2.1,0,())) fun z4 =>
   gY z4 (fun a5=>some (a5.1,a5.2.1,())) fun b6 =>
   some (b6.1,0,())
  else bif ltI v0.2.1 0 then
   some (0,3,())
  else bif ltI 4 v0.2.1 then
   some (0,3,())
  else bif ltI v0.2.2 0 then
   some (0,3,())
  else bif ltI 0 v0.2.1 then
   bif ltI 100000 v0.2.2 then
    some (0,4,())
   else aB (F7 ((v0.1,(v0.2.1,v0.2.2)),1,1,v0.2.1,0,())) fun z7 =>
   gY z7 (fun a8=>some (a8.1,a8.2.1,())) fun b9 =>
   some (b9.1,0,())
  else aB (F7 ((v0.1,(v0.2.1,v0.2.2)),1,1,v0.2.1,0,())) fun z10 =>
  gY z10 (fun a11=>some (a11.1,a11.2.1,())) fun b12 =>
  some (b12.1,0,())
noncomputable def c51 : Code:=aT Tryz.f51
abbrev E51 : Env:=bE []
theorem aV3 : aZ Tryz.prog E51:=aW trivial
noncomputable def aLK : Code:=dT c51 0
def a9B (id : Nat) : Option aS:=bif Nat.beq id 9 then some ⟨VO,aA2,F7⟩ else none
theorem aS5 : ∀ x,dJ Tryz.prog E51 60 (aC Tryz.f51) a9B aLK VO aA2 x = aLB x:=by
 rintro ⟨v1,v4,v5,v36,v37,⟨⟩⟩
 kernel_rfl
theorem a7A : aF aLK = []:=by kernel_rfl
theorem aSX : aG aLK = 9:=by kernel_rfl
theorem aY2 : cE Tryz.prog 60 aLK ⟨VO,aA2,F7⟩:=by
 exact cF aV3.callee aK.mixed _ (aD a7A trivial) aS5
theorem a1A : aF c51 = [aLK]:=by kernel_rfl
theorem a9S : ∀ x,bI Tryz.prog E51 Tryz.f51 (aC Tryz.f51) a9B c51 [.agg (.prod (.int .i64) (.prod (.int .i64) (.int .i64)))] [.int .i64,.int .i64] x = f51 x:=by
 rintro ⟨v0,⟨⟩⟩
 kernel_rfl
theorem bFB : bY Tryz.prog 51 [.agg (.prod (.int .i64) (.prod (.int .i64) (.int .i64)))] [.int .i64,.int .i64] f51:=by
 exact aY aK aV3 Tryz.func51 (c:=c51) (by kernel_rfl) (aU:=aC Tryz.f51) (lt:=a9B) (aD a1A ⟨cG aSX rfl aY2,trivial⟩) a9S
abbrev e51 : Ent:=⟨51,[.agg (.prod (.int .i64) (.prod (.int .i64) (.int .i64)))],[.int .i64,.int .i64],f51⟩
theorem bB5 : Ent.OK Tryz.prog e51:=bFB

/-! schisma/isomorphy.rowOf -/
abbrev UK : List (Nat×Kd):=[(1,.int .i64),(2,.box 68 (.prod (.int .i64) (.prod (.int .i64) (.int .i64)))),(5,.own 3 (.int .i64)),(6,.int .i64)]
abbrev Y9 : List (Ex×List (Nat×Kd)):=[(.exit 0,[(5,.own 3 (.int .i64))])]
def LD (x : Shape.den UK) : Option (Shape.den UK ⊕ aR Y9):=match x with
 | (v1,v2,v5,v6,()) =>
  bif !(ltI v6 0) then
   bif eqI (aE .i64 ((aE .i64 (2 * v2.2.2)) + 1)) 0 then none else bif aQ v6 v5.length then bif Nat.blt v6.toNat v5.length then bif eqI (aE .i64 ((aE .i64 (2 * v2.2.2)) + 1)) 0 then none else some (.inl ((aE .i64 (v1.tdiv (aE .i64 ((aE .i64 (2 * v2.2.2)) + 1)))),(v2.1,(v2.2.1,v2.2.2)),(v5.set v6.toNat (aE .i64 ((v1.tmod (aE .i64 ((aE .i64 (2 * v2.2.2)) + 1))) - v2.2.2))),(aE .i64 (v6 - 1)),())) else none else none
  else some (.inr ((v5,())))
def LX (x : Shape.den UK) : Option (aR Y9):=bM LD (2 ^ 64) x
def f52 (x : aI [.agg (.prod (.int .i64) (.prod (.int .i64) (.int .i64))),.int .i64]) : Option (aI [.list (.int .i64)]):=match x with
 | (v0,v1,()) =>
  bif !(ltI v0.2.1 0) then bif !(ltI v0.2.1 v0.2.1) then bif !(ltI 1048576 v0.2.1) then aB (LX (v1,(v0.1,(v0.2.1,v0.2.2)),(List.replicate v0.2.1.toNat 0),(aE .i64 (v0.2.1 - 1)),())) fun z1 =>
  some (z1.1,()) else none else none else none
noncomputable def c52 : Code:=aT Tryz.f52
abbrev E52 : Env:=bE []
theorem aWI : aZ Tryz.prog E52:=aW trivial
noncomputable def aMR : Code:=dT c52 0
def a7M (id : Nat) : Option aS:=bif Nat.beq id 3 then some ⟨UK,Y9,LX⟩ else none
theorem aUL : ∀ x,dJ Tryz.prog E52 36 (aC Tryz.f52) a7M aMR UK Y9 x = LD x:=by
 rintro ⟨v1,v2,v5,v6,⟨⟩⟩
 kernel_rfl
theorem bAF : aF aMR = []:=by kernel_rfl
theorem aTZ : aG aMR = 3:=by kernel_rfl
theorem aVU : cE Tryz.prog 36 aMR ⟨UK,Y9,LX⟩:=by
 exact cF aWI.callee aK.mixed _ (aD bAF trivial) aUL
theorem a3Q : aF c52 = [aMR]:=by kernel_rfl
theorem bAN : ∀ x,bI Tryz.prog E52 Tryz.f52 (aC Tryz.f52) a7M c52 [.agg (.prod (.int .i64) (.prod (.int .i64) (.int .i64))),.int .i64] [.list (.int .i64)] x = f52 x:=by
 rintro ⟨v0,v1,⟨⟩⟩
 kernel_rfl
theorem bFS : bY Tryz.prog 52 [.agg (.prod (.int .i64) (.prod (.int .i64) (.int .i64))),.int .i64] [.list (.int .i64)] f52:=by
 exact aY aK aWI Tryz.func52 (c:=c52) (by kernel_rfl) (aU:=aC Tryz.f52) (lt:=a7M) (aD a3Q ⟨cG aTZ rfl aVU,trivial⟩) bAN
abbrev e52 : Ent:=⟨52,[.agg (.prod (.int .i64) (.prod (.int .i64) (.int .i64))),.int .i64],[.list (.int .i64)],f52⟩
theorem bA0 : Ent.OK Tryz.prog e52:=bFS

/-! schisma/row.Text -/
abbrev rO : List (Nat×Kd):=[(1,.bool),(7,.own 9 .str),(16,.list (.int .i64)),(17,.int .i64),(18,.int .i64)]
abbrev vN : List (Ex×List (Nat×Kd)):=[(.exit 0,[(1,.bool),(7,.own 9 .str)])]
def rD (x : Shape.den rO) : Option (Shape.den rO ⊕ aR vN):=match x with
 | (v1,v7,v16,v17,v18,()) =>
  bif ltI v18 v17 then
   bif aQ v18 v16.length then aB (lJ ((v16.getD v18.toNat 0),())) fun y3 =>
   bif Nat.ble [y3.1].length 1048576 then bif Nat.ble v7.length 1048576 then some (.inl (v1,(v7 ++ [y3.1]),v16,v17,(aE .i64 (v18 + 1)),())) else none else none else none
  else some (.inr ((v1,v7,())))
def qR (x : Shape.den rO) : Option (aR vN):=bM rD (2 ^ 64) x
def wN (x : aI [.list (.int .i64),.bool]) : Option (aI [.str,.int .i64]):=match x with
 | (v0,v1,()) =>
  aB (pA (v0,())) fun y1 =>
  bif !(eqI y1.1 0) then
   some ((ByteArray.mk #[]),y1.1,())
  else aB (qR (v1,[],v0,(v0.length : Int),0,())) fun z4 =>
  aB (nG (z4.2.1,(ByteArray.mk #[32]),())) fun y5 =>
  bif z4.1 then
   bif Nat.ble ((ByteArray.mk #[91]).size + y5.1.size) 9223372036854775807 then bif Nat.ble (((ByteArray.mk #[91]) ++ y5.1).size + (ByteArray.mk #[62]).size) 9223372036854775807 then some ((((ByteArray.mk #[91]) ++ y5.1) ++ (ByteArray.mk #[62])),0,()) else none else none
  else bif Nat.ble ((ByteArray.mk #[60]).size + y5.1.size) 9223372036854775807 then bif Nat.ble (((ByteArray.mk #[60]) ++ y5.1).size + (ByteArray.mk #[93]).size) 9223372036854775807 then some ((((ByteArray.mk #[60]) ++ y5.1) ++ (ByteArray.mk #[93])),0,()) else none else none
noncomputable def M3 : Code:=aT Tryz.f70
abbrev TT : Env:=bE [IK,EV,N1]
theorem S7 : aZ Tryz.prog TT:=aW ⟨EZ,FJ,VP,trivial⟩
noncomputable def xU : Code:=dT M3 0
def P6 (id : Nat) : Option aS:=bif Nat.beq id 6 then some ⟨rO,vN,qR⟩ else none
theorem X2 : ∀ x,dJ Tryz.prog TT 37 (aC Tryz.f70) P6 xU rO vN x = rD x:=by
 rintro ⟨v1,v7,v16,v17,v18,⟨⟩⟩
 kernel_rfl
theorem aHS : aF xU = []:=by kernel_rfl
theorem XV : aG xU = 6:=by kernel_rfl
theorem aB3 : cE Tryz.prog 37 xU ⟨rO,vN,qR⟩:=by
 exact cF S7.callee aK.mixed _ (aD aHS trivial) X2
theorem aDS : aF M3 = [xU]:=by kernel_rfl
theorem aH6 : ∀ x,bI Tryz.prog TT Tryz.f70 (aC Tryz.f70) P6 M3 [.list (.int .i64),.bool] [.str,.int .i64] x = wN x:=by
 rintro ⟨v0,v1,⟨⟩⟩
 kernel_rfl
theorem aNU : bY Tryz.prog 70 [.list (.int .i64),.bool] [.str,.int .i64] wN:=by
 exact aY aK S7 Tryz.func70 (c:=M3) (by kernel_rfl) (aU:=aC Tryz.f70) (lt:=P6) (aD aDS ⟨cG XV rfl aB3,trivial⟩) aH6
abbrev aEZ : Ent:=⟨70,[.list (.int .i64),.bool],[.str,.int .i64],wN⟩
theorem aJD : Ent.OK Tryz.prog aEZ:=aNU

/-! schisma/isomorphy.key -/
def f53 (x : aI [.agg (.prod (.int .i64) (.prod (.list (.int .i64)) (.prod (.list (.int .i64)) (.list (.int .i64)))))]) : Option (aI [.str]):=match x with
 | (v0,()) =>
  aB (wN (v0.2.2.1,true,())) fun y1 =>
  aB (wN (v0.2.2.2,true,())) fun y2 =>
  bif Nat.ble (y1.1.size + y2.1.size) 9223372036854775807 then some ((y1.1 ++ y2.1),()) else none
noncomputable def c53 : Code:=aT Tryz.f53
abbrev E53 : Env:=bE [aEZ]
theorem bA4 : aZ Tryz.prog E53:=aW ⟨aJD,trivial⟩
def bCZ (id : Nat) : Option aS:=none
theorem a1L : aF c53 = []:=by kernel_rfl
theorem a57 : ∀ x,bI Tryz.prog E53 Tryz.f53 (aC Tryz.f53) bCZ c53 [.agg (.prod (.int .i64) (.prod (.list (.int .i64)) (.prod (.list (.int .i64)) (.list (.int .i64)))))] [.str] x = f53 x:=by
 rintro ⟨v0,⟨⟩⟩
 kernel_rfl
theorem bEV : bY Tryz.prog 53 [.agg (.prod (.int .i64) (.prod (.list (.int .i64)) (.prod (.list (.int .i64)) (.list (.int .i64)))))] [.str] f53:=by
 exact aY aK bA4 Tryz.func53 (c:=c53) (by kernel_rfl) (aU:=aC Tryz.f53) (lt:=bCZ) (aD a1L trivial) a57
abbrev e53 : Ent:=⟨53,[.agg (.prod (.int .i64) (.prod (.list (.int .i64)) (.prod (.list (.int .i64)) (.list (.int .i64)))))],[.str],f53⟩
theorem a9M : Ent.OK Tryz.prog e53:=bEV

/-! schisma/isomorphy.All -/
abbrev EF : List (Nat×Kd):=[(1,.box 68 (.prod (.int .i64) (.prod (.int .i64) (.int .i64)))),(2,.own 25 (.prod (.int .i64) (.prod (.list (.int .i64)) (.prod (.list (.int .i64)) (.list (.int .i64)))))),(3,.int .i64),(4,.int .i64),(6,.mpk 0),(7,.own 25 (.prod (.int .i64) (.prod (.list (.int .i64)) (.prod (.list (.int .i64)) (.list (.int .i64)))))),(8,.int .i64),(10,.box 25 (.prod (.int .i64) (.prod (.list (.int .i64)) (.prod (.list (.int .i64)) (.list (.int .i64)))))),(11,.box 25 (.prod (.int .i64) (.prod (.list (.int .i64)) (.prod (.list (.int .i64)) (.list (.int .i64)))))),(24,.int .i64),(25,.int .i64),(28,.int .i64),(29,.int .i64),(47,.clo 62 [(.list (.prod (.int .i64) (.int .i64)))]),(100000,.ar 1000000 .str)]
abbrev PU : List (Ex×List (Nat×Kd)):=[(.normal,[(1,.box 68 (.prod (.int .i64) (.prod (.int .i64) (.int .i64)))),(2,.own 25 (.prod (.int .i64) (.prod (.list (.int .i64)) (.prod (.list (.int .i64)) (.list (.int .i64)))))),(3,.int .i64),(4,.int .i64),(6,.mpk 0),(7,.own 25 (.prod (.int .i64) (.prod (.list (.int .i64)) (.prod (.list (.int .i64)) (.list (.int .i64)))))),(8,.int .i64),(11,.box 25 (.prod (.int .i64) (.prod (.list (.int .i64)) (.prod (.list (.int .i64)) (.list (.int .i64)))))),(24,.int .i64),(25,.int .i64),(28,.int .i64),(29,.int .i64),(100000,.ar 1000000 .str)])]
def S5 (x : Shape.den EF) (e : aI [.agg (.prod (.int .i64) (.prod (.int .i64) (.prod (.int .i64) (.int .i64))))]) : Option (Shape.den EF ⊕ aR PU):=match x,e with
 | (v1,v2,v3,v4,v6,v7,v8,v10,v11,v24,v25,v28,v29,v47,v100000,()),(e0,()) =>
  aB (f40 ((v10.1,(v10.2.1,(v10.2.2.1,v10.2.2.2))),(e0.1,(e0.2.1,(e0.2.2.1,e0.2.2.2))),())) fun y5 =>
  aB (f48 ((y5.1.1,(y5.1.2.1,(y5.1.2.2.1,y5.1.2.2.2))),(v11.1,(v11.2.1,(v11.2.2.1,v11.2.2.2))),())) fun y6 =>
  bif ltI y6.1 0 then
   some (.inl ((v1.1,(v1.2.1,v1.2.2)),v2,v3,v4,(),v7,v8,(v10.1,(v10.2.1,(v10.2.2.1,v10.2.2.2))),(y5.1.1,(y5.1.2.1,(y5.1.2.2.1,y5.1.2.2.2))),v24,v25,v28,v29,(v47.1,()),v100000,()))
  else some (.inl ((v1.1,(v1.2.1,v1.2.2)),v2,v3,v4,(),v7,v8,(v10.1,(v10.2.1,(v10.2.2.1,v10.2.2.2))),(v11.1,(v11.2.1,(v11.2.2.1,v11.2.2.2))),v24,v25,v28,v29,(v47.1,()),v100000,()))
def aJF (x : Shape.den EF) : tN [(.list (.prod (.int .i64) (.int .i64)))]:=match x with
 | (v1,v2,v3,v4,v6,v7,v8,v10,v11,v24,v25,v28,v29,v47,v100000,())=>(v47.1,())
def FF (x : Shape.den EF) : Option (aR PU):=aCS EF PU (fun x=>GU (aJF x)) S5 x
abbrev K2 : List (Nat×Kd):=[(1,.box 68 (.prod (.int .i64) (.prod (.int .i64) (.int .i64)))),(2,.own 25 (.prod (.int .i64) (.prod (.list (.int .i64)) (.prod (.list (.int .i64)) (.list (.int .i64)))))),(3,.int .i64),(4,.int .i64),(6,.mpk 0),(7,.own 25 (.prod (.int .i64) (.prod (.list (.int .i64)) (.prod (.list (.int .i64)) (.list (.int .i64)))))),(8,.int .i64),(24,.int .i64),(25,.int .i64),(28,.int .i64),(29,.int .i64),(100000,.ar 1000000 .str)]
abbrev PR : List (Ex×List (Nat×Kd)):=[(.exit 2,[(1,.box 68 (.prod (.int .i64) (.prod (.int .i64) (.int .i64)))),(2,.own 25 (.prod (.int .i64) (.prod (.list (.int .i64)) (.prod (.list (.int .i64)) (.list (.int .i64)))))),(3,.int .i64),(4,.int .i64),(6,.mpk 0),(7,.own 25 (.prod (.int .i64) (.prod (.list (.int .i64)) (.prod (.list (.int .i64)) (.list (.int .i64)))))),(24,.int .i64),(25,.int .i64),(100000,.ar 1000000 .str)])]
def QS (x : Shape.den K2) : Option (Shape.den K2 ⊕ aR PR):=match x with
 | (v1,v2,v3,v4,v6,v7,v8,v24,v25,v28,v29,v100000,()) =>
  bif ltI v29 v28 then
   bif !(ltI v1.2.1 0) then bif !(ltI v1.2.1 v1.2.1) then bif !(ltI 1048576 v1.2.1) then aB (f52 ((v1.1,(v1.2.1,v1.2.2)),v8,())) fun y9 =>
   aB (f52 ((v1.1,(v1.2.1,v1.2.2)),v29,())) fun y10 =>
   aB (f38 (v1.1,())) fun y11 =>
   aB (FF ((v1.1,(v1.2.1,v1.2.2)),v2,v3,v4,(),v7,v8,(v1.1,((List.replicate v1.2.1.toNat 0),(y9.1,y10.1))),(v1.1,((List.replicate v1.2.1.toNat 0),(y9.1,y10.1))),v24,v25,v28,v29,(y11.1.1,()),v100000,())) fun z12 =>
   aB (f53 ((z12.2.2.2.2.2.2.2.1.1,(z12.2.2.2.2.2.2.2.1.2.1,(z12.2.2.2.2.2.2.2.1.2.2.1,z12.2.2.2.2.2.2.2.1.2.2.2))),())) fun y13 =>
   bif Nat.blt 0 z12.2.2.2.2.2.2.2.2.2.2.2.2.1.length then bif (QC (z12.2.2.2.2.2.2.2.2.2.2.2.2.1.getD 0 []) y13.1) then
    some (.inl ((z12.1.1,(z12.1.2.1,z12.1.2.2)),z12.2.1,z12.2.2.1,z12.2.2.2.1,(),z12.2.2.2.2.2.1,z12.2.2.2.2.2.2.1,z12.2.2.2.2.2.2.2.2.1,z12.2.2.2.2.2.2.2.2.2.1,z12.2.2.2.2.2.2.2.2.2.2.1,(aE .i64 (z12.2.2.2.2.2.2.2.2.2.2.2.1 + 1)),z12.2.2.2.2.2.2.2.2.2.2.2.2.1,()))
   else bif Nat.blt 0 z12.2.2.2.2.2.2.2.2.2.2.2.2.1.length then bif Nat.ble [(z12.2.2.2.2.2.2.2.1.1,(z12.2.2.2.2.2.2.2.1.2.1,(z12.2.2.2.2.2.2.2.1.2.2.1,z12.2.2.2.2.2.2.2.1.2.2.2)))].length 1048576 then bif Nat.ble z12.2.2.2.2.2.1.length 1048576 then some (.inl ((z12.1.1,(z12.1.2.1,z12.1.2.2)),z12.2.1,z12.2.2.1,z12.2.2.2.1,(),(z12.2.2.2.2.2.1 ++ [(z12.2.2.2.2.2.2.2.1.1,(z12.2.2.2.2.2.2.2.1.2.1,(z12.2.2.2.2.2.2.2.1.2.2.1,z12.2.2.2.2.2.2.2.1.2.2.2)))]),z12.2.2.2.2.2.2.1,z12.2.2.2.2.2.2.2.2.1,z12.2.2.2.2.2.2.2.2.2.1,z12.2.2.2.2.2.2.2.2.2.2.1,(aE .i64 (z12.2.2.2.2.2.2.2.2.2.2.2.1 + 1)),(aOD z12.2.2.2.2.2.2.2.2.2.2.2.2.1 0 y13.1),())) else none else none else none else none else none else none else none
  else some (.inr (((v1.1,(v1.2.1,v1.2.2)),v2,v3,v4,(),v7,v24,v25,v100000,())))
def GL (x : Shape.den K2) : Option (aR PR):=bM QS (2 ^ 64) x
abbrev PW : List (Nat×Kd):=[(1,.box 68 (.prod (.int .i64) (.prod (.int .i64) (.int .i64)))),(2,.own 25 (.prod (.int .i64) (.prod (.list (.int .i64)) (.prod (.list (.int .i64)) (.list (.int .i64)))))),(3,.int .i64),(4,.int .i64),(6,.mpk 0),(7,.own 25 (.prod (.int .i64) (.prod (.list (.int .i64)) (.prod (.list (.int .i64)) (.list (.int .i64)))))),(24,.int .i64),(25,.int .i64),(100000,.ar 1000000 .str)]
abbrev TV : List (Ex×List (Nat×Kd)):=[(.exit 0,[(7,.own 25 (.prod (.int .i64) (.prod (.list (.int .i64)) (.prod (.list (.int .i64)) (.list (.int .i64)))))),(100000,.ar 1000000 .str)])]
def aCR (x : Shape.den PW) : Option (Shape.den PW ⊕ aR TV):=match x with
 | (v1,v2,v3,v4,v6,v7,v24,v25,v100000,()) =>
  bif ltI v25 v24 then
   aB (GL ((v1.1,(v1.2.1,v1.2.2)),v2,v3,v4,(),v7,v25,v24,v25,v4,0,v100000,())) fun z15 =>
   some (.inl ((z15.1.1,(z15.1.2.1,z15.1.2.2)),z15.2.1,z15.2.2.1,z15.2.2.2.1,(),z15.2.2.2.2.2.1,z15.2.2.2.2.2.2.1,(aE .i64 (z15.2.2.2.2.2.2.2.1 + 1)),z15.2.2.2.2.2.2.2.2.1,()))
  else some (.inr ((v7,v100000,())))
def KJ (x : Shape.den PW) : Option (aR TV):=bM aCR (2 ^ 64) x
def f32 (x : aI [.agg (.prod (.int .i64) (.prod (.int .i64) (.int .i64)))]) : Option (aI [.list (.prod (.int .i64) (.prod (.list (.int .i64)) (.prod (.list (.int .i64)) (.list (.int .i64))))),.int .i64]):=match x with
 | (v0,()) =>
  aB (f51 ((v0.1,(v0.2.1,v0.2.2)),())) fun y1 =>
  bif !(eqI y1.2.1 0) then
   some ([],y1.2.1,())
  else aB (KJ ((v0.1,(v0.2.1,v0.2.2)),[],0,y1.1,(),[],y1.1,0,[[]],())) fun z16 =>
  aB (UM NY ltL z16.1) fun y17 =>
  some (y17,0,())
noncomputable def c32 : Code:=aT Tryz.f32
abbrev E32 : Env:=aIL [e38,e40,e48,e51,e52,e53] [s54]
theorem aIR : aZ Tryz.prog E32:=DX ⟨aI2,aG7,aH3,bB5,bA0,a9M,trivial⟩ ⟨a6M,trivial⟩
noncomputable def aGL : Code:=inLoop (zO c32 0)
noncomputable def aE2 : Code:=inLoop (zO aGL 0)
noncomputable def I9 : Code:=zO aE2 0
noncomputable def a5K : Code:=inLoop I9
def aWO (id : Nat) : Option aS:=bif Nat.beq id 10 then some ⟨K2,PR,GL⟩ else bif Nat.beq id 7 then some ⟨PW,TV,KJ⟩ else none
def aYQ (id : Nat) : Option aS:=bif Nat.beq id 16 then some ⟨EF,PU,FF⟩ else none
theorem aSU : aG a5K = 16:=by kernel_rfl
theorem bAY : bQ a5K = []:=by kernel_rfl
theorem aL2 : I9 = .rangeFunc (DT I9) (R8 I9) (lW I9) (inLoop I9):=by kernel_rfl
theorem aRX : ∀ y e,J9 Tryz.prog E32 74 (nU Tryz.f32) aWO aYQ (R8 I9).toList (lW I9) (inLoop I9) [.agg (.prod (.int .i64) (.prod (.int .i64) (.prod (.int .i64) (.int .i64))))] EF PU y e = S5 y e:=by
 rintro ⟨v1,v2,v3,v4,v6,v7,v8,v10,v11,v24,v25,v28,v29,v47,v100000,⟨⟩⟩ ⟨e0,⟨⟩⟩
 kernel_rfl
theorem aZ9 : ∀ x,aAY 62 [(.list (.prod (.int .i64) (.int .i64)))] EF (DT I9) x = some (aJF x):=by
 rintro ⟨v1,v2,v3,v4,v6,v7,v8,v10,v11,v24,v25,v28,v29,v47,v100000,⟨⟩⟩
 kernel_rfl
theorem aXB : qJ Tryz.prog 74 false [] I9 ⟨EF,PU,FF⟩:=by
 exact FR aIR aK aL2 Tryz.func62 (c:=aT Tryz.f62) (by kernel_rfl) a3M (by kernel_rfl) (kK bAY trivial) aZ9 aRX
theorem aQ5 : aG aE2 = 10:=by kernel_rfl
theorem a94 : bQ aE2 = [I9]:=by kernel_rfl
theorem aSG : ∀ x,EM Tryz.prog E32 74 (nU Tryz.f32) aWO aYQ false [] aE2 K2 PR x = QS x:=by
 rintro ⟨v1,v2,v3,v4,v6,v7,v8,v24,v25,v28,v29,v100000,⟨⟩⟩
 kernel_rfl
theorem aXA : qJ Tryz.prog 74 false [] (.loop aE2) ⟨K2,PR,GL⟩:=by
 exact vF aIR.callee aK.mixed _ (kK a94 ⟨A8 aL2 aSU rfl aXB,trivial⟩) aSG
theorem aT3 : aG aGL = 7:=by kernel_rfl
theorem a6E : bQ aGL = [.loop aE2]:=by kernel_rfl
theorem aUK : ∀ x,EM Tryz.prog E32 74 (nU Tryz.f32) aWO aYQ false [] aGL PW TV x = aCR x:=by
 rintro ⟨v1,v2,v3,v4,v6,v7,v24,v25,v100000,⟨⟩⟩
 kernel_rfl
theorem aXK : qJ Tryz.prog 74 false [] (.loop aGL) ⟨PW,TV,KJ⟩:=by
 exact vF aIR.callee aK.mixed _ (kK a6E ⟨xW aQ5 rfl aXA,trivial⟩) aUK
theorem a0Q : bQ c32 = [.loop aGL]:=by kernel_rfl
theorem a6X : ∀ x,aOH Tryz.prog E32 Tryz.f32 (nU Tryz.f32) aWO aYQ c32 1000000 .str [.agg (.prod (.int .i64) (.prod (.int .i64) (.int .i64)))] [.list (.prod (.int .i64) (.prod (.list (.int .i64)) (.prod (.list (.int .i64)) (.list (.int .i64))))),.int .i64] x = f32 x:=by
 rintro ⟨v0,⟨⟩⟩
 kernel_rfl
theorem bEQ : bY Tryz.prog 32 [.agg (.prod (.int .i64) (.prod (.int .i64) (.int .i64)))] [.list (.prod (.int .i64) (.prod (.list (.int .i64)) (.prod (.list (.int .i64)) (.list (.int .i64))))),.int .i64] f32:=by
 exact bBO aK aIR Tryz.func32 (c:=c32) (by kernel_rfl) (aU:=nU Tryz.f32) (lt:=aWO) (rt:=aYQ) (kK a0Q ⟨xW aT3 rfl aXK,trivial⟩) a6X
abbrev e32 : Ent:=⟨32,[.agg (.prod (.int .i64) (.prod (.int .i64) (.int .i64)))],[.list (.prod (.int .i64) (.prod (.list (.int .i64)) (.prod (.list (.int .i64)) (.list (.int .i64))))),.int .i64],f32⟩
theorem aYJ : Ent.OK Tryz.prog e32:=bEQ

/-! schisma/isomorphy.Count -/
def f33 (x : aI [.agg (.prod (.int .i64) (.prod (.int .i64) (.int .i64)))]) : Option (aI [.int .i64,.int .i64]):=match x with
 | (v0,()) =>
  aB (f32 ((v0.1,(v0.2.1,v0.2.2)),())) fun y1 =>
  some ((y1.1.length : Int),y1.2.1,())
noncomputable def c33 : Code:=aT Tryz.f33
abbrev E33 : Env:=bE [e32]
theorem bB1 : aZ Tryz.prog E33:=aW ⟨aYJ,trivial⟩
def bCL (id : Nat) : Option aS:=none
theorem a30 : aF c33 = []:=by kernel_rfl
theorem a62 : ∀ x,bI Tryz.prog E33 Tryz.f33 (aC Tryz.f33) bCL c33 [.agg (.prod (.int .i64) (.prod (.int .i64) (.int .i64)))] [.int .i64,.int .i64] x = f33 x:=by
 rintro ⟨v0,⟨⟩⟩
 kernel_rfl
theorem bFR : bY Tryz.prog 33 [.agg (.prod (.int .i64) (.prod (.int .i64) (.int .i64)))] [.int .i64,.int .i64] f33:=by
 exact aY aK bB1 Tryz.func33 (c:=c33) (by kernel_rfl) (aU:=aC Tryz.f33) (lt:=bCL) (aD a30 trivial) a62
abbrev e33 : Ent:=⟨33,[.agg (.prod (.int .i64) (.prod (.int .i64) (.int .i64)))],[.int .i64,.int .i64],f33⟩
theorem a9T : Ent.OK Tryz.prog e33:=bFR
end Go.PM
set_option linter.unusedSimpArgs false
set_option linter.unusedVariables false
namespace Go.PM
open Go Go.RowKit Go.Proofs
set_option maxRecDepth 100000
set_option maxHeartbeats 4000000
/-! schisma/schismalaw46.classes -/
abbrev O7 : List (Nat×Kd):=[(1,.list (.prod (.int .i64) (.prod (.list (.int .i64)) (.prod (.list (.int .i64)) (.list (.int .i64)))))),(2,.box 68 (.prod (.int .i64) (.prod (.int .i64) (.int .i64)))),(5,.int .i64),(6,.int .i64)]
abbrev TJ : List (Ex×List (Nat×Kd)):=[(.exit 0,[(1,.list (.prod (.int .i64) (.prod (.list (.int .i64)) (.prod (.list (.int .i64)) (.list (.int .i64)))))),(2,.box 68 (.prod (.int .i64) (.prod (.int .i64) (.int .i64)))),(5,.int .i64)])]
def aDA (x : Shape.den O7) : Option (Shape.den O7 ⊕ aR TJ):=match x with
 | (v1,v2,v5,v6,()) =>
  bif ltI v6 (aE .i64 (2 * v2.2.1)) then
   some (.inl (v1,(v2.1,(v2.2.1,v2.2.2)),(aE .i64 (v5 * (aE .i64 ((aE .i64 (2 * v2.2.2)) + 1)))),(aE .i64 (v6 + 1)),()))
  else some (.inr ((v1,(v2.1,(v2.2.1,v2.2.2)),v5,())))
def LQ (x : Shape.den O7) : Option (aR TJ):=bM aDA (2 ^ 64) x
abbrev UT : List (Nat×Kd):=[(1,.list (.prod (.int .i64) (.prod (.list (.int .i64)) (.prod (.list (.int .i64)) (.list (.int .i64)))))),(2,.box 68 (.prod (.int .i64) (.prod (.int .i64) (.int .i64)))),(5,.int .i64),(7,.own 4 .bool),(8,.int .i64),(9,.int .i64),(10,.bag2 25 (.prod (.int .i64) (.list (.int .i64))) 3 (.int .i64) 3 (.int .i64)),(11,.int .i64),(12,.int .i64)]
abbrev aB7 : List (Ex×List (Nat×Kd)):=[(.exit 4,[(1,.list (.prod (.int .i64) (.prod (.list (.int .i64)) (.prod (.list (.int .i64)) (.list (.int .i64)))))),(2,.box 68 (.prod (.int .i64) (.prod (.int .i64) (.int .i64)))),(5,.int .i64),(7,.own 4 .bool),(8,.int .i64),(9,.int .i64),(10,.bag2 25 (.prod (.int .i64) (.list (.int .i64))) 3 (.int .i64) 3 (.int .i64))])]
def K5 (x : Shape.den UT) : Option (Shape.den UT ⊕ aR aB7):=match x with
 | (v1,v2,v5,v7,v8,v9,v10,v11,v12,()) =>
  bif ltI v12 (aE .i64 (2 * v2.2.1)) then
   bif ltI v12 v2.2.1 then
    bif eqI (aE .i64 ((aE .i64 (2 * v2.2.2)) + 1)) 0 then none else bif Nat.ble [(aE .i64 ((v11.tmod (aE .i64 ((aE .i64 (2 * v2.2.2)) + 1))) - v2.2.2))].length 1048576 then bif Nat.ble v10.2.1.length 1048576 then bif eqI (aE .i64 ((aE .i64 (2 * v2.2.2)) + 1)) 0 then none else some (.inl (v1,(v2.1,(v2.2.1,v2.2.2)),v5,v7,v8,v9,((v10.1.1,v10.1.2),((v10.2.1 ++ [(aE .i64 ((v11.tmod (aE .i64 ((aE .i64 (2 * v2.2.2)) + 1))) - v2.2.2))]),v10.2.2)),(aE .i64 (v11.tdiv (aE .i64 ((aE .i64 (2 * v2.2.2)) + 1)))),(aE .i64 (v12 + 1)),())) else none else none
   else bif eqI (aE .i64 ((aE .i64 (2 * v2.2.2)) + 1)) 0 then none else bif Nat.ble [(aE .i64 ((v11.tmod (aE .i64 ((aE .i64 (2 * v2.2.2)) + 1))) - v2.2.2))].length 1048576 then bif Nat.ble v10.2.2.length 1048576 then bif eqI (aE .i64 ((aE .i64 (2 * v2.2.2)) + 1)) 0 then none else some (.inl (v1,(v2.1,(v2.2.1,v2.2.2)),v5,v7,v8,v9,((v10.1.1,v10.1.2),(v10.2.1,(v10.2.2 ++ [(aE .i64 ((v11.tmod (aE .i64 ((aE .i64 (2 * v2.2.2)) + 1))) - v2.2.2))]))),(aE .i64 (v11.tdiv (aE .i64 ((aE .i64 (2 * v2.2.2)) + 1)))),(aE .i64 (v12 + 1)),())) else none else none
  else some (.inr ((v1,(v2.1,(v2.2.1,v2.2.2)),v5,v7,v8,v9,((v10.1.1,v10.1.2),(v10.2.1,v10.2.2)),())))
def K1 (x : Shape.den UT) : Option (aR aB7):=bM K5 (2 ^ 64) x
abbrev HV : List (Nat×Kd):=[(1,.list (.prod (.int .i64) (.prod (.list (.int .i64)) (.prod (.list (.int .i64)) (.list (.int .i64)))))),(2,.box 68 (.prod (.int .i64) (.prod (.int .i64) (.int .i64)))),(5,.int .i64),(7,.own 4 .bool),(8,.int .i64),(9,.int .i64),(13,.box 25 (.prod (.int .i64) (.prod (.list (.int .i64)) (.prod (.list (.int .i64)) (.list (.int .i64)))))),(15,.bool),(16,.int .i64)]
abbrev MD : List (Ex×List (Nat×Kd)):=[(.exit 6,[(1,.list (.prod (.int .i64) (.prod (.list (.int .i64)) (.prod (.list (.int .i64)) (.list (.int .i64)))))),(2,.box 68 (.prod (.int .i64) (.prod (.int .i64) (.int .i64)))),(5,.int .i64),(7,.own 4 .bool),(8,.int .i64),(9,.int .i64),(15,.bool)])]
def aDB (x : Shape.den HV) : Option (Shape.den HV ⊕ aR MD):=match x with
 | (v1,v2,v5,v7,v8,v9,v13,v15,v16,()) =>
  bif ltI v16 (v1.length : Int) then
   bif aQ v16 v1.length then aB (f19 (((v1.getD v16.toNat (0,([],([],[])))).1,((v1.getD v16.toNat (0,([],([],[])))).2.1,((v1.getD v16.toNat (0,([],([],[])))).2.2.1,(v1.getD v16.toNat (0,([],([],[])))).2.2.2))),(v13.1,(v13.2.1,(v13.2.2.1,v13.2.2.2))),())) fun y6 =>
   bif y6.1 then
    bif aQ v16 v7.length then bif Nat.blt v16.toNat v7.length then bif (v7.getD v16.toNat false) then
     some (.inl (v1,(v2.1,(v2.2.1,v2.2.2)),v5,v7,v8,v9,(v13.1,(v13.2.1,(v13.2.2.1,v13.2.2.2))),true,(aE .i64 (v16 + 1)),()))
    else bif aQ v16 v7.length then bif Nat.blt v16.toNat v7.length then some (.inl (v1,(v2.1,(v2.2.1,v2.2.2)),v5,(v7.set v16.toNat true),(aE .i64 (v8 + 1)),v9,(v13.1,(v13.2.1,(v13.2.2.1,v13.2.2.2))),true,(aE .i64 (v16 + 1)),())) else none else none else none else none
   else some (.inl (v1,(v2.1,(v2.2.1,v2.2.2)),v5,v7,v8,v9,(v13.1,(v13.2.1,(v13.2.2.1,v13.2.2.2))),v15,(aE .i64 (v16 + 1)),())) else none
  else some (.inr ((v1,(v2.1,(v2.2.1,v2.2.2)),v5,v7,v8,v9,v15,())))
def K3 (x : Shape.den HV) : Option (aR MD):=bM aDB (2 ^ 64) x
abbrev KX : List (Nat×Kd):=[(1,.list (.prod (.int .i64) (.prod (.list (.int .i64)) (.prod (.list (.int .i64)) (.list (.int .i64)))))),(2,.box 68 (.prod (.int .i64) (.prod (.int .i64) (.int .i64)))),(5,.int .i64),(7,.own 4 .bool),(8,.int .i64),(9,.int .i64)]
abbrev PO : List (Ex×List (Nat×Kd)):=[(.ret,[(4,.int .i64)]),(.exit 2,[(8,.int .i64)])]
def aB1 (x : Shape.den KX) : Option (Shape.den KX ⊕ aR PO):=match x with
 | (v1,v2,v5,v7,v8,v9,()) =>
  bif ltI v9 v5 then
   bif !(ltI v2.2.1 0) then bif !(ltI v2.2.1 v2.2.1) then bif !(ltI 1048576 v2.2.1) then aB (K1 (v1,(v2.1,(v2.2.1,v2.2.2)),v5,v7,v8,v9,((v2.1,(List.replicate v2.2.1.toNat 0)),([],[])),v9,0,())) fun z8 =>
   aB (f58 ((z8.2.2.2.2.2.2.1.1.1,(z8.2.2.2.2.2.2.1.1.2,(z8.2.2.2.2.2.2.1.2.1,z8.2.2.2.2.2.2.1.2.2))),())) fun y9 =>
   bif y9.1 then
    some (.inl (z8.1,(z8.2.1.1,(z8.2.1.2.1,z8.2.1.2.2)),z8.2.2.1,z8.2.2.2.1,z8.2.2.2.2.1,(aE .i64 (z8.2.2.2.2.2.1 + 1)),()))
   else aB (f30 ((z8.2.2.2.2.2.2.1.1.1,(z8.2.2.2.2.2.2.1.1.2,(z8.2.2.2.2.2.2.1.2.1,z8.2.2.2.2.2.2.1.2.2))),())) fun y10 =>
   aB (K3 (z8.1,(z8.2.1.1,(z8.2.1.2.1,z8.2.1.2.2)),z8.2.2.1,z8.2.2.2.1,z8.2.2.2.2.1,z8.2.2.2.2.2.1,(y10.1.1,(y10.1.2.1,(y10.1.2.2.1,y10.1.2.2.2))),false,0,())) fun z11 =>
   bif z11.2.2.2.2.2.2.1 then
    some (.inl (z11.1,(z11.2.1.1,(z11.2.1.2.1,z11.2.1.2.2)),z11.2.2.1,z11.2.2.2.1,z11.2.2.2.2.1,(aE .i64 (z11.2.2.2.2.2.1 + 1)),()))
   else some (.inr (.inl ((-1),()))) else none else none else none
  else some (.inr (.inr ((v8,()))))
def KK (x : Shape.den KX) : Option (aR PO):=bM aB1 (2 ^ 64) x
def f36 (x : aI [.agg (.prod (.int .i64) (.prod (.int .i64) (.int .i64))),.list (.prod (.int .i64) (.prod (.list (.int .i64)) (.prod (.list (.int .i64)) (.list (.int .i64)))))]) : Option (aI [.int .i64]):=match x with
 | (v0,v1,()) =>
  aB (LQ (v1,(v0.1,(v0.2.1,v0.2.2)),1,0,())) fun z1 =>
  bif !(ltI (z1.1.length : Int) 0) then bif !(ltI (z1.1.length : Int) (z1.1.length : Int)) then bif !(ltI 1048576 (z1.1.length : Int)) then aB (KK (z1.1,(z1.2.1.1,(z1.2.1.2.1,z1.2.1.2.2)),z1.2.2.1,(List.replicate ((z1.1.length : Int).toNat) false),0,0,())) fun z12 =>
  gY z12 (fun a13=>some (a13.1,())) fun b14 =>
  some (b14.1,()) else none else none else none
noncomputable def c36 : Code:=aT Tryz.f36
abbrev E36 : Env:=bE [e19,e30,e58]
theorem aCL : aZ Tryz.prog E36:=aW ⟨aNW,aYL,a5W,trivial⟩
noncomputable def aK5 : Code:=inLoop (zO c36 0)
noncomputable def ZK : Code:=inLoop (zO c36 1)
noncomputable def aMI : Code:=inLoop (zO ZK 0)
noncomputable def aJK : Code:=inLoop (zO ZK 1)
def aRZ (id : Nat) : Option aS:=bif Nat.beq id 3 then some ⟨O7,TJ,LQ⟩ else bif Nat.beq id 14 then some ⟨UT,aB7,K1⟩ else bif Nat.beq id 24 then some ⟨HV,MD,K3⟩ else bif Nat.beq id 9 then some ⟨KX,PO,KK⟩ else none
def aUG (id : Nat) : Option aS:=none
theorem aSP : aG aK5 = 3:=by kernel_rfl
theorem bAT : bQ aK5 = []:=by kernel_rfl
theorem aSJ : ∀ x,EM Tryz.prog E36 122 (nU Tryz.f36) aRZ aUG false [] aK5 O7 TJ x = aDA x:=by
 rintro ⟨v1,v2,v5,v6,⟨⟩⟩
 kernel_rfl
theorem aXC : qJ Tryz.prog 122 false [] (.loop aK5) ⟨O7,TJ,LQ⟩:=by
 exact vF aCL.callee aK.mixed _ (kK bAT trivial) aSJ
theorem aSC : aG aMI = 14:=by kernel_rfl
theorem a98 : bQ aMI = []:=by kernel_rfl
theorem aST : ∀ x,EM Tryz.prog E36 122 (nU Tryz.f36) aRZ aUG false [] aMI UT aB7 x = K5 x:=by
 rintro ⟨v1,v2,v5,v7,v8,v9,v10,v11,v12,⟨⟩⟩
 kernel_rfl
theorem aXG : qJ Tryz.prog 122 false [] (.loop aMI) ⟨UT,aB7,K1⟩:=by
 exact vF aCL.callee aK.mixed _ (kK a98 trivial) aST
theorem aSS : aG aJK = 24:=by kernel_rfl
theorem a95 : bQ aJK = []:=by kernel_rfl
theorem aT4 : ∀ x,EM Tryz.prog E36 122 (nU Tryz.f36) aRZ aUG false [] aJK HV MD x = aDB x:=by
 rintro ⟨v1,v2,v5,v7,v8,v9,v13,v15,v16,⟨⟩⟩
 kernel_rfl
theorem aYG : qJ Tryz.prog 122 false [] (.loop aJK) ⟨HV,MD,K3⟩:=by
 exact vF aCL.callee aK.mixed _ (kK a95 trivial) aT4
theorem aTU : aG ZK = 9:=by kernel_rfl
theorem a7T : bQ ZK = [.loop aMI,.loop aJK]:=by kernel_rfl
theorem aT8 : ∀ x,EM Tryz.prog E36 122 (nU Tryz.f36) aRZ aUG false [] ZK KX PO x = aB1 x:=by
 rintro ⟨v1,v2,v5,v7,v8,v9,⟨⟩⟩
 kernel_rfl
theorem aXS : qJ Tryz.prog 122 false [] (.loop ZK) ⟨KX,PO,KK⟩:=by
 exact vF aCL.callee aK.mixed _ (kK a7T ⟨xW aSC rfl aXG,xW aSS rfl aYG,trivial⟩) aT8
theorem a0N : bQ c36 = [.loop aK5,.loop ZK]:=by kernel_rfl
theorem a8G : ∀ x,aAD Tryz.prog E36 Tryz.f36 (nU Tryz.f36) aRZ aUG c36 [.agg (.prod (.int .i64) (.prod (.int .i64) (.int .i64))),.list (.prod (.int .i64) (.prod (.list (.int .i64)) (.prod (.list (.int .i64)) (.list (.int .i64)))))] [.int .i64] x = f36 x:=by
 rintro ⟨v0,v1,⟨⟩⟩
 kernel_rfl
theorem bEK : bY Tryz.prog 36 [.agg (.prod (.int .i64) (.prod (.int .i64) (.int .i64))),.list (.prod (.int .i64) (.prod (.list (.int .i64)) (.prod (.list (.int .i64)) (.list (.int .i64)))))] [.int .i64] f36:=by
 exact RK aK aCL Tryz.func36 (c:=c36) (by kernel_rfl) (aU:=nU Tryz.f36) (lt:=aRZ) (rt:=aUG) (kK a0N ⟨xW aSP rfl aXC,xW aTU rfl aXS,trivial⟩) a8G
abbrev e36 : Ent:=⟨36,[.agg (.prod (.int .i64) (.prod (.int .i64) (.int .i64))),.list (.prod (.int .i64) (.prod (.list (.int .i64)) (.prod (.list (.int .i64)) (.list (.int .i64)))))],[.int .i64],f36⟩
theorem a83 : Ent.OK Tryz.prog e36:=bEK

/-! schisma/schismalaw46.IsomorphyLists -/
abbrev LI : List (Nat×Kd):=[(7,.box 68 (.prod (.int .i64) (.prod (.int .i64) (.int .i64)))),(8,.list (.prod (.int .i64) (.prod (.list (.int .i64)) (.prod (.list (.int .i64)) (.list (.int .i64)))))),(10,.int .i64),(12,.int .i64)]
abbrev P5 : List (Ex×List (Nat×Kd)):=[(.ret,[(6,.bool)]),(.exit 0,[(7,.box 68 (.prod (.int .i64) (.prod (.int .i64) (.int .i64)))),(8,.list (.prod (.int .i64) (.prod (.list (.int .i64)) (.prod (.list (.int .i64)) (.list (.int .i64)))))),(10,.int .i64)])]
def aA7 (x : Shape.den LI) : Option (Shape.den LI ⊕ aR P5):=match x with
 | (v7,v8,v10,v12,()) =>
  bif ltI v12 (v8.length : Int) then
   bif aQ v12 v8.length then aB (f30 (((v8.getD v12.toNat (0,([],([],[])))).1,((v8.getD v12.toNat (0,([],([],[])))).2.1,((v8.getD v12.toNat (0,([],([],[])))).2.2.1,(v8.getD v12.toNat (0,([],([],[])))).2.2.2))),())) fun y10 =>
   bif aQ v12 v8.length then aB (f14 (((v8.getD v12.toNat (0,([],([],[])))).1,((v8.getD v12.toNat (0,([],([],[])))).2.1,((v8.getD v12.toNat (0,([],([],[])))).2.2.1,(v8.getD v12.toNat (0,([],([],[])))).2.2.2))),())) fun y11 =>
   bif !(eqI y11.1 0) then
    some (.inr (.inl (false,())))
   else bif y10.2.1 then
    bif aQ v12 v8.length then aB (f19 ((y10.1.1,(y10.1.2.1,(y10.1.2.2.1,y10.1.2.2.2))),((v8.getD v12.toNat (0,([],([],[])))).1,((v8.getD v12.toNat (0,([],([],[])))).2.1,((v8.getD v12.toNat (0,([],([],[])))).2.2.1,(v8.getD v12.toNat (0,([],([],[])))).2.2.2))),())) fun y12 =>
    bif y12.1 then
     bif aQ v12 v8.length then aB (f34 ((v8.getD v12.toNat (0,([],([],[])))).2.1,())) fun y13 =>
     bif y13.1 then
      bif aQ v12 v8.length then bif !(eqI (((v8.getD v12.toNat (0,([],([],[])))).2.2.1).length : Int) v7.2.1) then
       some (.inr (.inl (false,())))
      else bif ltI 0 v12 then
       bif aQ (aE .i64 (v12 - 1)) v8.length then bif aQ v12 v8.length then aB (f35 ((v8.getD ((aE .i64 (v12 - 1)).toNat) (0,([],([],[])))).2.2.1,(v8.getD v12.toNat (0,([],([],[])))).2.2.1,())) fun y14 =>
       bif ltI 0 y14.1 then
        some (.inr (.inl (false,())))
       else bif eqI y14.1 0 then
        bif aQ (aE .i64 (v12 - 1)) v8.length then bif aQ v12 v8.length then aB (f35 ((v8.getD ((aE .i64 (v12 - 1)).toNat) (0,([],([],[])))).2.2.2,(v8.getD v12.toNat (0,([],([],[])))).2.2.2,())) fun y15 =>
        bif !(ltI y15.1 0) then
         some (.inr (.inl (false,())))
        else some (.inl ((v7.1,(v7.2.1,v7.2.2)),v8,v10,(aE .i64 (v12 + 1)),())) else none else none
       else some (.inl ((v7.1,(v7.2.1,v7.2.2)),v8,v10,(aE .i64 (v12 + 1)),())) else none else none
      else some (.inl ((v7.1,(v7.2.1,v7.2.2)),v8,v10,(aE .i64 (v12 + 1)),())) else none
     else some (.inr (.inl (false,()))) else none
    else some (.inr (.inl (false,()))) else none
   else some (.inr (.inl (false,()))) else none else none
  else some (.inr (.inr (((v7.1,(v7.2.1,v7.2.2)),v8,v10,()))))
def u9 (x : Shape.den LI) : Option (aR P5):=bM aA7 (2 ^ 64) x
def f11 (x : aI [.bool,.int .u8,.int .u8]) : Option (aI [.bool]):=match x with
 | (v0,v1,v2,()) =>
  aB (f12 (())) fun y1 =>
  bif y1.1 then
   bif eqI (IntKind.wrap .i64 (v1.tmod 3)) 1 then
    bif v0 then
     aB (f32 ((2,((IntKind.wrap .i64 (v1.tmod 3)),(IntKind.wrap .i64 (v2.tmod 7)))),())) fun y2 =>
     aB (f33 ((2,((IntKind.wrap .i64 (v1.tmod 3)),(IntKind.wrap .i64 (v2.tmod 7)))),())) fun y3 =>
     bif !(eqI y2.2.1 0) then
      some (false,())
     else bif !(eqI y3.2.1 0) then
      some (false,())
     else bif !(eqI y3.1 (y2.1.length : Int)) then
      some (false,())
     else aB (u9 ((2,((IntKind.wrap .i64 (v1.tmod 3)),(IntKind.wrap .i64 (v2.tmod 7)))),y2.1,y3.1,0,())) fun z16 =>
     gY z16 (fun a17=>some (a17.1,())) fun b18 =>
     aB (f36 ((b18.1.1,(b18.1.2.1,b18.1.2.2)),b18.2.1,())) fun y19 =>
     some (eqI b18.2.2.1 y19.1,())
    else aB (f32 ((1,((IntKind.wrap .i64 (v1.tmod 3)),(IntKind.wrap .i64 (v2.tmod 7)))),())) fun y20 =>
    aB (f33 ((1,((IntKind.wrap .i64 (v1.tmod 3)),(IntKind.wrap .i64 (v2.tmod 7)))),())) fun y21 =>
    bif !(eqI y20.2.1 0) then
     some (false,())
    else bif !(eqI y21.2.1 0) then
     some (false,())
    else bif !(eqI y21.1 (y20.1.length : Int)) then
     some (false,())
    else aB (u9 ((1,((IntKind.wrap .i64 (v1.tmod 3)),(IntKind.wrap .i64 (v2.tmod 7)))),y20.1,y21.1,0,())) fun z22 =>
    gY z22 (fun a23=>some (a23.1,())) fun b24 =>
    aB (f36 ((b24.1.1,(b24.1.2.1,b24.1.2.2)),b24.2.1,())) fun y25 =>
    some (eqI b24.2.2.1 y25.1,())
   else bif v0 then
    aB (f32 ((2,((IntKind.wrap .i64 (v1.tmod 3)),(IntKind.wrap .i64 (v2.tmod 3)))),())) fun y26 =>
    aB (f33 ((2,((IntKind.wrap .i64 (v1.tmod 3)),(IntKind.wrap .i64 (v2.tmod 3)))),())) fun y27 =>
    bif !(eqI y26.2.1 0) then
     some (false,())
    else bif !(eqI y27.2.1 0) then
     some (false,())
    else bif !(eqI y27.1 (y26.1.length : Int)) then
     some (false,())
    else aB (u9 ((2,((IntKind.wrap .i64 (v1.tmod 3)),(IntKind.wrap .i64 (v2.tmod 3)))),y26.1,y27.1,0,())) fun z28 =>
    gY z28 (fun a29=>some (a29.1,())) fun b30 =>
    aB (f36 ((b30.1.1,(b30.1.2.1,b30.1.2.2)),b30.2.1,())) fun y31 =>
    some (eqI b30.2.2.1 y31.1,())
   else aB (f32 ((1,((IntKind.wrap .i64 (v1.tmod 3)),(IntKind.wrap .i64 (v2.tmod 3)))),())) fun y32 =>
   aB (f33 ((1,((IntKind.wrap .i64 (v1.tmod 3)),(IntKind.wrap .i64 (v2.tmod 3)))),())) fun y33 =>
   bif !(eqI y32.2.1 0) then
    some (false,())
   else bif !(eqI y33.2.1 0) then
    some (false,())
   else bif !(eqI y33.1 (y32.1.length : Int)) then
    some (false,())
   else aB (u9 ((1,((IntKind.wrap .i64 (v1.tmod 3)),(IntKind.wrap .i64 (v2.tmod 3)))),y32.1,y33.1,0,())) fun z34 =>
   gY z34 (fun a35=>some (a35.1,())) fun b36 =>
   aB (f36 ((b36.1.1,(b36.1.2.1,b36.1.2.2)),b36.2.1,())) fun y37 =>
   some (eqI b36.2.2.1 y37.1,())
  else some (false,())
noncomputable def c11 : Code:=aT Tryz.f11
abbrev E11 : Env:=bE [e12,e14,e19,e30,e32,e33,e34,e35,e36]
theorem aU3 : aZ Tryz.prog E11:=aW ⟨a8L,a7J,aNW,aYL,aYJ,a9T,a7R,aO6,a83,trivial⟩
noncomputable def aM0 : Code:=dT c11 0
def a7O (id : Nat) : Option aS:=bif Nat.beq id 13 then some ⟨LI,P5,u9⟩ else none
theorem aQ4 : ∀ x,dJ Tryz.prog E11 149 (aC Tryz.f11) a7O aM0 LI P5 x = aA7 x:=by
 rintro ⟨v7,v8,v10,v12,⟨⟩⟩
 kernel_rfl
theorem a7Q : aF aM0 = []:=by kernel_rfl
theorem aTB : aG aM0 = 13:=by kernel_rfl
theorem aY3 : cE Tryz.prog 149 aM0 ⟨LI,P5,u9⟩:=by
 exact cF aU3.callee aK.mixed _ (aD a7Q trivial) aQ4
theorem aZ8 : aF c11 = [aM0]:=by kernel_rfl
theorem bAH : ∀ x,bI Tryz.prog E11 Tryz.f11 (aC Tryz.f11) a7O c11 [.bool,.int .u8,.int .u8] [.bool] x = f11 x:=by
 rintro ⟨v0,v1,v2,⟨⟩⟩
 kernel_rfl
theorem bFM : bY Tryz.prog 11 [.bool,.int .u8,.int .u8] [.bool] f11:=by
 exact aY aK aU3 Tryz.func11 (c:=c11) (by kernel_rfl) (aU:=aC Tryz.f11) (lt:=a7O) (aD aZ8 ⟨cG aTB rfl aY3,trivial⟩) bAH
end Go.PM
set_option linter.unusedSimpArgs false
set_option linter.unusedVariables false
namespace Go.PM
open Go Go.RowKit Go.Proofs
set_option maxRecDepth 100000
def tJ (k r m : Int) : Option (aI [.bool]) :=
 aB (f32 ((k,(r,m)),())) fun y2 =>
 aB (f33 ((k,(r,m)),())) fun y3 =>
 bif !(eqI y2.2.1 0) then
  some (false,())
 else bif !(eqI y3.2.1 0) then
  some (false,())
 else bif !(eqI y3.1 (y2.1.length : Int)) then
  some (false,())
 else aB (u9 ((k,(r,m)),y2.1,y3.1,0,())) fun z16 =>
 gY z16 (fun a17=>some (a17.1,())) fun b18 =>
 aB (f36 ((b18.1.1,(b18.1.2.1,b18.1.2.2)),b18.2.1,())) fun y19 =>
 some (eqI b18.2.2.1 y19.1,())
theorem a3W (h : Bool) (r m : Int) : f11 (h,r,m,()) = tJ (bif h then 2 else 1) (IntKind.wrap .i64 (r.tmod 3)) (bif eqI (IntKind.wrap .i64 (r.tmod 3)) 1 then IntKind.wrap .i64 (m.tmod 7) else IntKind.wrap .i64 (m.tmod 3)):=by
 unfold f11 tJ
 dsimp only
 cases h <;> cases eqI (IntKind.wrap .i64 (r.tmod 3)) 1 <;> rfl
theorem bCK {r m : Int} (hr : 0 ≤ r∧r ≤ 255) (hm : 0 ≤ m∧m ≤ 255) : ∃ r' m' : Nat,IntKind.wrap .i64 (r.tmod 3) = (r' : Int)∧(bif eqI (IntKind.wrap .i64 (r.tmod 3)) 1 then IntKind.wrap .i64 (m.tmod 7) else IntKind.wrap .i64 (m.tmod 3)) = (m' : Int)∧r' ≤ 2∧m' ≤ 6∧(r' = 1 ∨ m' ≤ 2):=by
 obtain ⟨a,rfl⟩ : ∃ a : Nat,r = a:=⟨r.toNat,by omega⟩
 obtain ⟨b,rfl⟩ : ∃ b : Nat,m = b:=⟨m.toNat,by omega⟩
 have h1 : Int.tmod (a : Int) 3 = ((a % 3 : Nat) : Int):=rfl
 have h2 : Int.tmod (b : Int) 7 = ((b % 7 : Nat) : Int):=rfl
 have h3 : Int.tmod (b : Int) 3 = ((b % 3 : Nat) : Int):=rfl
 have w : ∀ n : Nat,n ≤ 255→IntKind.wrap .i64 (n : Int) = (n : Int):=fun n hn=>a2N (by omega) (by omega)
 rw [h1,h2,h3,w _ (by omega),w _ (by omega),w _ (by omega),dY]
 by_cases h : ((a % 3 : Nat) : Int) = 1
 ·rw [decide_eq_true h]
  exact ⟨a % 3,b % 7,rfl,rfl,by omega,by omega,.inl (by omega)⟩
 ·rw [decide_eq_false h]
  exact ⟨a % 3,b % 3,rfl,rfl,by omega,by omega,.inr (by omega)⟩
end Go.PM
set_option linter.unusedSimpArgs false
set_option linter.unusedVariables false
namespace Go.PM
open Go Go.RowKit Go.Proofs
set_option maxRecDepth 100000
def Dn (u : Nat) : ByteArray:=⟨(Lib.decDigits u).toArray⟩
def Zn (n : Int) : ByteArray:=⟨(Lib.itoa n).toArray⟩
theorem qI (u : Nat) : (Dn u).data.toList = Lib.decDigits u:=by simp [Dn]
theorem a4V (n : Int) : (Zn n).data.toList = Lib.itoa n:=by simp [Zn]
theorem P2 (u : Nat) : Zn (u : Int) = Dn u:=by unfold Zn Dn; rw [Lib.itoa_nonneg]
theorem aMQ {n : Int} (h : n.natAbs < 10 ^ 20) : rX n = Zn n:=ZX h
theorem IP {n : Int} (h : n < 0) : (Zn n).data.toList = 45 :: Lib.decDigits n.natAbs:=by
 rw [a4V,Lib.itoa,if_pos h]
theorem HO {n : Int} (h : 0 ≤ n) : Zn n = Dn n.natAbs:=by
 obtain ⟨u,rfl⟩ : ∃ u : Nat,n = u:=⟨n.natAbs,by omega⟩
 rw [P2]; congr 1
theorem CS {a b : ByteArray} (h : a.data.toList = b.data.toList) : a = b:=by
 cases a; cases b
 congr 1
 exact Array.ext' h
theorem FZ (a : ByteArray) : a.size = a.data.toList.length:=by
 cases a; rfl
theorem aAK (l m : List UInt8) : ∀ (acc : Nat),Lib.decFrom acc (l ++ m) = (Lib.decFrom acc l).bind fun a=>Lib.decFrom a m:=by
 induction l with
 | nil=>intro acc; rfl
 | cons b l ih =>
  intro acc
  rw [List.cons_append,Lib.decFrom,Lib.decFrom]
  split
  ·exact ih _
  ·rfl
theorem aF8 {d : Nat} (h : d < 10) : Lib.digitVal (UInt8.ofNat (48 + d)) = some d:=by
 have h1 : (UInt8.ofNat (48 + d)).toNat = 48 + d:=by
  rw [UInt8.toNat_ofNat']
  omega
 unfold Lib.digitVal
 rw [h1,if_pos (by omega)]
 congr 1
 omega
theorem iY (u : Nat) : Lib.decFrom 0 (Lib.decDigits u) = some u:=by
 induction u using Nat.strongRecOn with
 | _ u ih =>
  rw [Lib.decDigits]
  split
  ·rename_i h
   rw [Lib.decFrom,aF8 h]
   simp [Lib.decFrom]
  ·rename_i h
   rw [aAK,ih (u / 10) (by omega)]
   simp only [Option.bind_some]
   rw [Lib.decFrom,aF8 (Nat.mod_lt _ (by decide))]
   simp only [Lib.decFrom]
   congr 1
   omega
theorem uX (u : Nat) : Lib.decDigits u ≠ []:=by
 rw [Lib.decDigits]
 split <;> simp
theorem wV (u : Nat) : ∀ b ∈ Lib.decDigits u,48 ≤ b.toNat∧b.toNat ≤ 57:=by
 induction u using Nat.strongRecOn with
 | _ u ih =>
  intro b hb
  rw [Lib.decDigits] at hb
  have key : ∀ d,d < 10→48 ≤ (UInt8.ofNat (48 + d)).toNat∧(UInt8.ofNat (48 + d)).toNat ≤ 57:=fun d h=>by
   rw [UInt8.toNat_ofNat']; omega
  split at hb
  ·rename_i h
   simp only [List.mem_singleton] at hb
   subst hb
   exact key u h
  ·rename_i h
   simp only [List.mem_append,List.mem_singleton] at hb
   rcases hb with hb | rfl
   ·exact ih (u / 10) (by omega) b hb
   ·exact key _ (Nat.mod_lt _ (by decide))
theorem aUY {a b : Nat} (h : Dn a = Dn b) : a = b:=by
 have h1:=congrArg (fun x : ByteArray=>Lib.decFrom 0 x.data.toList) h
 simp only [qI,iY] at h1
 exact Option.some.inj h1
theorem W4 {n : Int} (h : n < 0) (m : Nat) : Zn n ≠ Dn m:=by
 intro e
 have h1:=congrArg (fun x : ByteArray=>x.data.toList) e
 simp only [IP h,qI] at h1
 have:=wV m 45 (by rw [← h1]; simp)
 have e45 : (45 : UInt8).toNat = 45:=by decide
 omega
theorem a9C {a b : Int} (h : Zn a = Zn b) : a = b:=by
 rcases (by omega : a < 0 ∨ 0 ≤ a) with ha | ha
 ·rcases (by omega : b < 0 ∨ 0 ≤ b) with hb | hb
  ·have h1:=congrArg (fun x : ByteArray=>x.data.toList) h
   simp only [IP ha,IP hb,List.cons.injEq,true_and] at h1
   have h2:=congrArg (Lib.decFrom 0) h1
   rw [iY,iY] at h2
   have:=Option.some.inj h2
   omega
  ·rw [HO hb] at h
   exact absurd h (W4 ha _)
 ·rcases (by omega : b < 0 ∨ 0 ≤ b) with hb | hb
  ·rw [HO ha] at h
   exact absurd h.symm (W4 hb _)
  ·rw [HO ha,HO hb] at h
   have:=aUY h
   omega
theorem aYH (a b : ByteArray) : eqS a b = decide (a = b):=by
 unfold eqS
 by_cases h : a = b
 ·subst h; simp
 ·have : ¬ a.data = b.data:=fun e=>h (CS (by rw [e]))
  simp [h,this]
theorem bEO : ByteArray.mk #[48] = Dn 0:=CS (by rw [qI,Lib.decDigits]; rfl)
theorem bFG : ByteArray.mk #[49] = Dn 1:=CS (by rw [qI,Lib.decDigits]; rfl)
theorem wX (n : Int) : eqS (Zn n) (ByteArray.mk #[48]) = decide (n = 0):=by
 rw [aYH,bEO,show Dn 0 = Zn 0 from (P2 0).symm]
 by_cases h : n = 0
 ·subst h; simp
 ·have : ¬ Zn n = Zn 0:=fun e=>h (a9C e)
  simp [h,this]
theorem aGX (n : Nat) : eqS (Dn n) (ByteArray.mk #[48]) = decide (n = 0):=by
 rw [← P2,wX]
 simp
theorem AM (u : Nat) : (Dn u).size = Lib.nDigits u:=by rw [FZ,qI,Lib.decDigits_length]
theorem xQ {n : Int} (h : n < 0) : (Zn n).size = Lib.nDigits n.natAbs + 1:=by rw [FZ,IP h,List.length_cons,Lib.decDigits_length]
theorem j7 {u k : Nat} : u < 10 ^ (k + 1)→Lib.nDigits u ≤ k + 1:=by
 induction k generalizing u with
 | zero=>intro h; rw [Lib.nDigits_small (by simpa using h)]; exact Nat.le_refl _
 | succ k ih =>
  intro h
  by_cases h1 : u < 10
  ·rw [Lib.nDigits_small h1]; omega
  ·rw [Lib.nDigits_big h1]
   have:=ih (u:=u / 10) (by rw [Nat.pow_succ] at h; omega)
   omega
theorem kL (u : Nat) : u < 10 ^ Lib.nDigits u:=by
 have:=Lib.decFrom_lt _ _ _ (iY u)
 rw [Lib.decDigits_length] at this
 simpa using this
theorem nDigits_pos (u : Nat) : 1 ≤ Lib.nDigits u:=by
 rw [Lib.nDigits]; split <;> omega

theorem a2V (n : Int) : Lib.atoi (Zn n).data.toList = some n:=by
 rcases (by omega : n < 0 ∨ 0 ≤ n) with h | h
 ·rw [IP h]
  have hne : (Lib.decDigits n.natAbs).isEmpty = false:=by
   cases e : Lib.decDigits n.natAbs with
   | nil=>exact absurd e (uX _)
   | cons _ _=>rfl
  simp only [Lib.atoi,Lib.decNat,hne,iY]
  simp
  omega
 ·rw [HO h,qI]
  have h1:=iY n.natAbs
  have h2:=wV n.natAbs
  cases e : Lib.decDigits n.natAbs with
  | nil=>exact absurd e (uX _)
  | cons b r =>
   rw [e] at h1 h2
   have hb:=h2 b (by simp)
   have n45 : (b == 45) = false:=by
    rw [beq_eq_false_iff_ne]; rintro rfl
    have : (45 : UInt8).toNat = 45:=by decide
    omega
   have n43 : (b == 43) = false:=by
    rw [beq_eq_false_iff_ne]; rintro rfl
    have : (43 : UInt8).toNat = 43:=by decide
    omega
   simp only [Lib.atoi,n45,n43,Lib.decNat,h1]
   simp
   omega
theorem aFY (u : Nat) : Lib.decNat (Dn u).data.toList = some u:=by
 have hne : (Lib.decDigits u).isEmpty = false:=by
  cases e : Lib.decDigits u with
  | nil=>exact absurd e (uX _)
  | cons _ _=>rfl
 simp only [qI,Lib.decNat,hne,iY]
 simp
theorem PL : ∀ (l : List UInt8) (acc n : Nat),Lib.decFrom acc l = some n→acc * 10 ^ l.length ≤ n
 | [],acc,n,h=>by
  obtain rfl:=Option.some.inj h
  simp
 | b :: l,acc,n,h=>by
  rw [Lib.decFrom] at h
  split at h
  ·rename_i d hd
   have:=PL l _ n h
   rw [List.length_cons,Nat.pow_succ]
   have h1 : (acc * 10 + d) * 10 ^ l.length = acc * (10 ^ l.length * 10) + d * 10 ^ l.length:=by grind
   omega
  ·cases h
theorem GK : ∀ (l m : List UInt8) (acc x y : Nat),l.length = m.length→Lib.decFrom acc l = some x→Lib.decFrom acc m = some y→Op.bytesLess l m = decide (x < y)
 | [],[],acc,x,y,_,h1,h2=>by
  obtain rfl:=Option.some.inj h1
  obtain rfl:=Option.some.inj h2
  simp [Op.bytesLess]
 | [],_ :: _,_,_,_,h,_,_=>by simp at h
 | _ :: _,[],_,_,_,h,_,_=>by simp at h
 | c :: l,d :: m,acc,x,y,h,h1,h2=>by
  have hl : l.length = m.length:=by simpa using h
  have digit : ∀ (b : UInt8) (e : Nat),Lib.digitVal b = some e→b.toNat = 48 + e∧e < 10:=by
   intro b e he
   unfold Lib.digitVal at he
   split at he
   ·have:=Option.some.inj he
    omega
   ·cases he
  rw [Lib.decFrom] at h1 h2
  split at h1
  ·rename_i e1 he1
   split at h2
   ·rename_i e2 he2
    obtain ⟨c1,c2⟩:=digit c e1 he1
    obtain ⟨d1,d2⟩:=digit d e2 he2
    have x1:=Lib.decFrom_lt l _ x h1
    have x2:=PL l _ x h1
    have y1:=Lib.decFrom_lt m _ y h2
    have y2:=PL m _ y h2
    rw [hl] at x1 x2
    rw [Op.bytesLess]
    rcases Nat.lt_trichotomy e1 e2 with g | g | g
    ·have lt : c < d:=by rw [UInt8.lt_iff_toNat_lt]; omega
     have : (acc * 10 + e1 + 1) * 10 ^ m.length ≤ (acc * 10 + e2) * 10 ^ m.length:=Nat.mul_le_mul_right _ (by omega)
     have hxy : x < y:=by omega
     simp [lt,hxy]
    ·subst g
     have e : c = d:=UInt8.toNat_inj.1 (by omega)
     subst e
     have lt : ¬ c < c:=by rw [UInt8.lt_iff_toNat_lt]; omega
     simp [lt,GK l m _ x y hl h1 h2]
    ·have lt : ¬ c < d:=by rw [UInt8.lt_iff_toNat_lt]; omega
     have ne : ¬ c = d:=by rintro rfl; omega
     have : (acc * 10 + e2 + 1) * 10 ^ m.length ≤ (acc * 10 + e1) * 10 ^ m.length:=Nat.mul_le_mul_right _ (by omega)
     have hxy : ¬ x < y:=by omega
     simp [lt,ne,hxy]
   ·cases h2
  ·cases h1
theorem a68 {a b : Nat} (h : Lib.nDigits a = Lib.nDigits b) : ltS (Dn a) (Dn b) = decide (a < b):=by
 unfold ltS
 rw [qI,qI]
 exact GK _ _ 0 a b (by rw [Lib.decDigits_length,Lib.decDigits_length,h]) (iY a) (iY b)
theorem qX {a b : Nat} (h : a ≤ b) : Lib.nDigits a ≤ Lib.nDigits b:=by
 obtain ⟨k,hk⟩ : ∃ k,Lib.nDigits b = k + 1:=⟨Lib.nDigits b - 1,by have:=nDigits_pos b; omega⟩
 rw [hk]
 refine j7 (Nat.lt_of_le_of_lt h ?_)
 rw [← hk]
 exact kL b
theorem bBI (a b : Nat) : eqS (Dn a) (Dn b) = decide (a = b):=by
 rw [aYH]
 by_cases h : a = b
 ·subst h; simp
 ·have : ¬ Dn a = Dn b:=fun e=>h (aUY e)
  simp [h,this]
def QO (a b : Nat) : Int:=if a < b then -1 else if b < a then 1 else 0
theorem pS (a b : Nat) (ha : Lib.nDigits a < 2 ^ 32) (hb : Lib.nDigits b < 2 ^ 32) : cP (Dn a,Dn b,()) = some (QO a b,()):=by
 unfold cP
 dsimp only
 rw [AM,AM]
 have hpa:=nDigits_pos a
 have hpb:=nDigits_pos b
 by_cases h : Lib.nDigits a = Lib.nDigits b
 ·have h1 : eqI (Lib.nDigits a : Int) (Lib.nDigits b : Int) = true:=by rw [dY]; simp [h]
  rw [h1,a68 h,bBI]
  simp only [Bool.not_true,cond_false]
  unfold QO
  by_cases h2 : a < b
  ·simp [h2]
  ·by_cases h3 : a = b
   ·subst h3; simp
   ·have : b < a:=by omega
    simp [h2,h3,this]
 ·have h1 : eqI (Lib.nDigits a : Int) (Lib.nDigits b : Int) = false:=by rw [dY]; simp; omega
  rw [h1]
  simp only [Bool.not_false,cond_true]
  rw [wrap64 (by omega) (by omega)]
  congr 2
  unfold QO
  by_cases h2 : a < b
  ·have:=qX (Nat.le_of_lt h2)
   have h4 : ¬ (-1 : Int) < (Lib.nDigits a : Int) - (Lib.nDigits b : Int):=by omega
   rw [if_pos h2,if_neg h4]
   rfl
  ·have h3 : b < a:=by
    rcases Nat.lt_or_ge b a with g | g
    ·exact g
    ·have : a = b:=by omega
     subst this; exact absurd rfl h
   have:=qX (Nat.le_of_lt h3)
   have h4 : (-1 : Int) < (Lib.nDigits a : Int) - (Lib.nDigits b : Int):=by omega
   have h5 : ¬ (Lib.nDigits a : Int) - (Lib.nDigits b : Int) < 1:=by omega
   rw [if_neg h2,if_pos h3,if_pos h4,if_neg h5]

/-! whole -/
theorem oK (n : Int) (h1 : -9223372036854775808 ≤ n) (h2 : n < 9223372036854775808) : gK (n,()) = some (Zn n,()):=by
 unfold gK lJ
 have e1 : ltI n (-9223372036854775808) = false:=by rw [aN]; simp; omega
 have e2 : ltI 9223372036854775807 n = false:=by rw [aN]; simp; omega
 simp only [e1,e2,Bool.not_false,Bool.and_self,cond_true,aH,aMQ (n:=n) (by omega)]
theorem BH (u : Nat) (h : u < 18446744073709551616) : lL ((u : Int),()) = some (Dn u,()):=by
 unfold lL kZ
 have e1 : ltI (u : Int) 0 = false:=by rw [aN]; simp
 have e2 : ltI (u : Int) 18446744073709551616 = true:=by rw [aN]; simp; omega
 have e3 : eqI 10 10 = true:=by decide
 simp only [e1,e2,e3,Bool.not_false,Bool.and_self,cond_true,aH,aMQ (n:=(u : Int)) (by simp; omega),P2]
theorem OJ (u : Nat) (h : Lib.nDigits u ≤ 18) : lZ (Dn u,()) = some ((u : Int),true,()):=by
 unfold lZ lR
 have e1 : Nat.ble (Dn u).size 1000000000 = true:=by rw [fJ,AM]; simp; omega
 have e2 : eqI 10 10 = true:=by decide
 have e3 : eqI 64 64 = true:=by decide
 have e4 : Lib.parseUintB 64 (Dn u).data.toList = .ok u:=by
  rw [Lib.parseUintB_64,Lib.parseMag_short _ (by rw [qI,Lib.decDigits_length]; exact h),aFY]
  rfl
 simp only [e1,e2,e3,Bool.and_self,cond_true,aH,e4]
theorem AO (a b : Nat) (ha : Lib.nDigits a ≤ 18) (hb : Lib.nDigits b ≤ 18) : kI (Dn a,Dn b,()) = some ((a : Int),(b : Int),true,()):=by
 unfold kI
 have e1 : ltI 18 ((Dn a).size : Int) = false:=by rw [aN,AM]; simp; omega
 have e2 : ltI 18 ((Dn b).size : Int) = false:=by rw [aN,AM]; simp; omega
 simp only [e1,e2,cond_false,OJ a ha,OJ b hb,aH]
theorem MT {s : ByteArray} {c : UInt8} {l : List UInt8} (h : s.data.toList = c :: l) : aDQ s 0 = (c.toNat : Int):=by
 have h1 : s[0]? = some c:=by
  have h2 : s.size = l.length + 1:=by rw [FZ,h]; rfl
  have h3 : s.data[0]? = some c:=by
   rw [← Array.getElem?_toList,h]; rfl
  have h4 : s[0]? = s.data[0]?:=by
   cases s; rfl
  rw [h4,h3]
 unfold aDQ
 rw [h1]
theorem aQJ (u : Nat) : ∃ c l,(Dn u).data.toList = c :: l∧c.toNat ≠ 45:=by
 have h:=wV u
 rw [qI]
 cases e : Lib.decDigits u with
 | nil=>exact absurd e (uX _)
 | cons c l =>
  rw [e] at h
  have:=h c (by simp)
  exact ⟨c,l,rfl,by omega⟩
theorem aHG {s : ByteArray} {c : UInt8} {l : List UInt8} (h : s.data.toList = c :: l) : s.extract 1 s.size = ⟨l.toArray⟩:=by
 refine CS ?_
 have h1 : (s.extract 1 s.size).data = s.data.extract 1 s.data.size:=ByteArray.data_extract
 rw [h1,Array.toList_extract,List.extract_eq_take_drop,h]
 have h2 : s.data.size = l.length + 1:=by rw [← Array.length_toList,h]; rfl
 rw [h2]
 simp
theorem lI (n : Int) : bJ (Zn n,()) = some (decide (n < 0),Dn n.natAbs,()):=by
 unfold bJ
 by_cases h : n < 0
 ·have hz:=IP h
  have e1 : ltI 0 ((Zn n).size : Int) = true:=by rw [aN,xQ h]; simp <;> omega
  have e2 : aQ 0 (Zn n).size = true:=by rw [bA,xQ h]; simp <;> omega
  have e3 : aDQ (Zn n) 0 = 45:=by rw [MT hz]; rfl
  have e4 : Nat.ble 1 (Zn n).size = true:=by rw [fJ,xQ h]; simp
  have e5 : Nat.ble (Zn n).size (Zn n).size = true:=by rw [fJ]; simp
  have e6 : eqI 45 45 = true:=by decide
  simp only [e1,e2,e3,e4,e5,e6,cond_true,aHG hz,h,decide_true,Dn]
 ·rw [HO (by omega)]
  obtain ⟨c,l,h1,h2⟩:=aQJ n.natAbs
  have hs : (Dn n.natAbs).size = l.length + 1:=by rw [FZ,h1]; rfl
  have e1 : ltI 0 ((Dn n.natAbs).size : Int) = true:=by rw [aN,hs]; simp <;> omega
  have e2 : aQ 0 (Dn n.natAbs).size = true:=by rw [bA,hs]; simp <;> omega
  have e3 : eqI (aDQ (Dn n.natAbs) 0) 45 = false:=by rw [MT h1,dY]; simp <;> omega
  simp only [e1,e2,e3,cond_true,cond_false,h,decide_false]
theorem aC4 (b : Bool) (m : Nat) (hm : Lib.nDigits m < 2 ^ 32) : aA (b,Dn m,()) = some (Zn (if b then -(m : Int) else m),()):=by
 unfold aA
 cases b with
 | false=>simp [P2]
 | true =>
  have e2 : Nat.ble ((ByteArray.mk #[45]).size + (Dn m).size) 9223372036854775807 = true:=by
   rw [fJ,AM]
   have : (ByteArray.mk #[45]).size = 1:=rfl
   rw [this]; simp <;> omega
  simp only [cond_true,aGX,e2]
  by_cases h : m = 0
  ·subst h
   simp only [decide_true,Bool.not_true,cond_false]
   simp only [if_true]
   have : -((0 : Nat) : Int) = ((0 : Nat) : Int):=rfl
   rw [this,P2]
  ·simp only [h,decide_false,Bool.not_false,cond_true]
   simp only [if_true]
   congr 2
   refine CS ?_
   rw [IP (by omega),Joins.data_append,qI]
   have : (-(m : Int)).natAbs = m:=by omega
   rw [this]
   rfl
theorem iK (m : Nat) (hm : Lib.nDigits m < 2 ^ 32) : aA (true,Dn m,()) = some (Zn (-(m : Int)),()):=(aC4 true m hm).trans (by simp)
theorem kR (m : Nat) (hm : Lib.nDigits m < 2 ^ 32) : aA (false,Dn m,()) = some (Zn (m : Int),()):=(aC4 false m hm).trans (by simp)
theorem rI (n k : Int) (hk : k ≤ 18) : hZ (Zn n,k,()) = if ((Zn n).size : Int) ≤ k then some (n,true,()) else some (0,false,()):=by
 unfold hZ
 by_cases h : ((Zn n).size : Int) ≤ k
 ·have e1 : ltI k ((Zn n).size : Int) = false:=by rw [aN]; simp <;> omega
  have e2 : Nat.ble (Zn n).size 18 = true:=by rw [fJ]; simp <;> omega
  rw [if_pos h]
  simp only [e1,cond_false,sV,e2,cond_true,a2V,aH]
 ·have e1 : ltI k ((Zn n).size : Int) = true:=by rw [aN]; simp <;> omega
  rw [if_neg h]
  simp only [e1,cond_true]
theorem OP (n : Int) : mW (Zn n,()) = some (n.sign,()):=by
 unfold mW
 simp only [wX]
 by_cases h0 : n = 0
 ·subst h0; simp
 ·by_cases h : n < 0
  ·have hz:=IP h
   have e2 : aQ 0 (Zn n).size = true:=by rw [bA,xQ h]; simp <;> omega
   have e3 : aDQ (Zn n) 0 = 45:=by rw [MT hz]; rfl
   have e6 : eqI 45 45 = true:=by decide
   simp only [h0,decide_false,cond_false,e2,e3,e6,cond_true,Int.sign_eq_neg_one_of_neg h]
  ·rw [HO (by omega)]
   obtain ⟨c,l,h1,h2⟩:=aQJ n.natAbs
   have hs : (Dn n.natAbs).size = l.length + 1:=by rw [FZ,h1]; rfl
   have e2 : aQ 0 (Dn n.natAbs).size = true:=by rw [bA,hs]; simp <;> omega
   have e3 : eqI (aDQ (Dn n.natAbs) 0) 45 = false:=by rw [MT h1,dY]; simp <;> omega
   simp only [h0,decide_false,cond_false,e2,e3,cond_true,Int.sign_eq_one_of_pos (show 0 < n by omega)]
theorem aF2 (n : Int) (h : Lib.nDigits n.natAbs < 2 ^ 32) : tE (Zn n,()) = some (Zn (-n),()):=by
 unfold tE
 simp only [lI n,aH]
 by_cases h0 : n < 0
 ·simp only [h0,decide_true,cond_true,kR _ h,aH]
  have : (n.natAbs : Int) = -n:=by omega
  rw [this]
 ·simp only [h0,decide_false,cond_false,iK _ h,aH]
  have : -(n.natAbs : Int) = -n:=by omega
  rw [this]
theorem aFW (n : Int) : s8 (Zn n,()) = some (Zn (n.natAbs : Int),()):=by
 unfold s8
 simp only [lI n,aH,P2]
theorem aDR (a b : Nat) (ha : Lib.nDigits a < 2 ^ 32) (hb : Lib.nDigits b < 2 ^ 32) : nW (Zn (a : Int),Zn (b : Int),()) = some (QO a b,()):=by
 unfold nW
 have sg : ∀ n : Nat,(n : Int).sign = if n = 0 then 0 else 1:=fun n=>by
  by_cases h : n = 0
  ·subst h; rfl
  ·rw [if_neg h,Int.sign_eq_one_of_pos (by omega)]
 simp only [OP (a : Int),OP (b : Int),lI (a : Int),lI (b : Int),aH,sg]
 have e0 : ∀ n : Nat,decide ((n : Int) < 0) = false:=fun n=>by simp
 by_cases h1 : a = 0
 ·by_cases h2 : b = 0
  ·have e : eqI 0 0 = true:=by decide
   simp only [h1,h2,if_true,e,Bool.not_true,cond_false,e0,Int.natAbs_natCast]
   have:=pS a b ha hb
   rw [h1,h2] at this
   simp only [this,aH]
  ·have : eqI 0 1 = false:=by decide
   have e : ltI 0 1 = true:=by decide
   simp only [h1,h2,if_true,if_false,this,e,Bool.not_false,cond_true]
   unfold QO
   rw [if_pos (by omega)]
 ·by_cases h2 : b = 0
  ·have : eqI 1 0 = false:=by decide
   have e : ltI 1 0 = false:=by decide
   simp only [h1,h2,if_true,if_false,this,e,Bool.not_false,cond_true,cond_false]
   unfold QO
   rw [if_neg (by omega),if_pos (by omega)]
  ·have e : eqI 1 1 = true:=by decide
   simp only [h1,h2,if_false,e,Bool.not_true,cond_false,e0,Int.natAbs_natCast,pS a b ha hb,aH]
end Go.PM
