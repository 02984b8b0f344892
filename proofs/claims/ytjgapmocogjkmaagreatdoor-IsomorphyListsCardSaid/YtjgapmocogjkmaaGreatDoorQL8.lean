/- Texts of one proof, joined (8). -/
import Derived.Lib.AtoiAllCases
import Derived.Test.YtjgapmocogjkmaaGreatDoorQL7
set_option linter.unusedSimpArgs false
set_option linter.unusedVariables false
namespace Go.PM
open Go Go.RowKit Go.Proofs
set_option maxRecDepth 100000
theorem K8 {u : Nat} (h : Lib.nDigits u ≤ 18) : u < 1000000000000000000:=by
 have h1:=kL u
 have h2 : 10 ^ Lib.nDigits u ≤ 10 ^ 18:=Nat.pow_le_pow_right (by decide) h
 omega
theorem aQI {x : Int} (h1 : 0 ≤ x) (h2 : x < 18446744073709551616) : aE .u64 x = x:=by
 rw [aAM,IntKind.wrap_u64]
 omega
theorem DY (a b : Nat) (ha : Lib.nDigits a ≤ 18) (hb : Lib.nDigits b ≤ 18) : dN (Dn a,Dn b,()) = some (Dn (a + b),()):=by
 have h1:=K8 ha
 have h2:=K8 hb
 unfold dN
 simp only [AO a b ha hb,aH,cond_true]
 rw [aQI (by omega) (by omega)]
 have : (a : Int) + (b : Int) = ((a + b : Nat) : Int):=by omega
 rw [this,BH _ (by omega)]
 rfl
theorem tY (a b : Nat) (ha : Lib.nDigits a ≤ 18) (hb : Lib.nDigits b ≤ 18) (h : b ≤ a) : bS (Dn a,Dn b,()) = some (Dn (a - b),0,()):=by
 have h1:=K8 ha
 have h2:=K8 hb
 unfold bS
 have e : ltI (QO a b) 0 = false:=by
  rw [aN]; unfold QO
  rw [if_neg (by omega)]
  split <;> rfl
 simp only [pS a b (by omega) (by omega),AO a b ha hb,aH,cond_true,e,cond_false]
 rw [aQI (by omega) (by omega)]
 have : (a : Int) - (b : Int) = ((a - b : Nat) : Int):=by omega
 rw [this,BH _ (by omega)]
 rfl
theorem aKI (a b : Nat) (h : Lib.nDigits a + Lib.nDigits b ≤ 18) : dQ (Dn a,Dn b,()) = some (Dn (a * b),()):=by
 have p1:=nDigits_pos a
 have p2:=nDigits_pos b
 have h3 : a * b < 1000000000000000000:=by
  have h1:=kL a
  have h2:=kL b
  have h4 : a * b < 10 ^ Lib.nDigits a * 10 ^ Lib.nDigits b:=Nat.mul_lt_mul'' h1 h2
  rw [← Nat.pow_add] at h4
  have h5 : 10 ^ (Lib.nDigits a + Lib.nDigits b) ≤ 10 ^ 18:=Nat.pow_le_pow_right (by decide) h
  omega
 unfold dQ
 have e : ltI 18 (aE .i64 (((Dn a).size : Int) + ((Dn b).size : Int))) = false:=by
  rw [AM,AM,wrap64 (by omega) (by omega),aN]
  simp only [decide_eq_false_iff_not]
  omega
 simp only [e,Bool.not_false,cond_true,AO a b (by omega) (by omega),aH]
 have e2 : (a : Int) * (b : Int) = ((a * b : Nat) : Int):=by rw [Int.natCast_mul]
 rw [e2,aQI (by omega) (by omega),BH _ (by omega)]
 rfl
theorem aAG (a b : Nat) (ha : Lib.nDigits a ≤ 18) (hb : Lib.nDigits b ≤ 18) (h : b ≠ 0) : jN (Dn a,Dn b,()) = some (Dn (a / b),Dn (a % b),0,()):=by
 have h1:=K8 ha
 have h2:=K8 hb
 unfold jN
 have e1 : eqI (b : Int) 0 = false:=by rw [dY]; simp; omega
 have q1 : (a : Int).tdiv (b : Int) = ((a / b : Nat) : Int):=rfl
 have q2 : (a : Int).tmod (b : Int) = ((a % b : Nat) : Int):=rfl
 have l1 : a / b ≤ a:=Nat.div_le_self _ _
 have l2 : a % b ≤ a:=Nat.mod_le _ _
 simp only [aGX,h,decide_false,cond_false,AO a b ha hb,aH,cond_true,e1,q1,q2]
 clear q1 q2
 generalize a / b = q at *
 generalize a % b = r at *
 rw [aQI (by omega) (by omega),BH _ (by omega),aH,BH _ (by omega)]
 rfl

theorem aTX (x y : Int) (hx : Lib.nDigits x.natAbs ≤ 18) (hy : Lib.nDigits y.natAbs ≤ 18) : wD (Zn x,Zn y,()) = some (Zn (x + y),()):=by
 have h1:=K8 hx
 have h2:=K8 hy
 have slow : (aB (bJ (Zn x,())) fun y4=>aB (bJ (Zn y,())) fun y5 =>
   bif y4.1 then
    bif y5.1 then
     aB (dN (y4.2.1,y5.2.1,())) fun y6 =>
     aB (aA (y4.1,y6.1,())) fun y7 =>
     some (y7.1,())
    else aB (cP (y4.2.1,y5.2.1,())) fun y8 =>
    bif ltI y8.1 0 then
     aB (bS (y5.2.1,y4.2.1,())) fun y9 =>
     aB (aA (y5.1,y9.1,())) fun y10 =>
     some (y10.1,())
    else aB (bS (y4.2.1,y5.2.1,())) fun y11 =>
    aB (aA (y4.1,y11.1,())) fun y12 =>
    some (y12.1,())
   else bif y5.1 then
    aB (cP (y4.2.1,y5.2.1,())) fun y13 =>
    bif ltI y13.1 0 then
     aB (bS (y5.2.1,y4.2.1,())) fun y14 =>
     aB (aA (y5.1,y14.1,())) fun y15 =>
     some (y15.1,())
    else aB (bS (y4.2.1,y5.2.1,())) fun y16 =>
    aB (aA (y4.1,y16.1,())) fun y17 =>
    some (y17.1,())
   else aB (dN (y4.2.1,y5.2.1,())) fun y18 =>
   aB (aA (y4.1,y18.1,())) fun y19 =>
   some (y19.1,())) = some (Zn (x + y),()):=by
  simp only [lI x,lI y,aH]
  have dg : ∀ u : Nat,u < 2000000000000000000→Lib.nDigits u < 2 ^ 32:=fun u hu=>by
   have:=j7 (u:=u) (k:=18) (by omega)
   omega
  have cm : ∀ a b : Nat,ltI (QO a b) 0 = decide (a < b):=fun a b=>by
   rw [aN]; unfold QO
   by_cases g : a < b
   ·simp [g]
   ·simp only [g,if_false]; split <;> simp
  rcases (by omega : x < 0 ∨ 0 ≤ x) with gx | gx
  ·rcases (by omega : y < 0 ∨ 0 ≤ y) with gy | gy
   ·simp only [gx,gy,decide_true,cond_true,DY _ _ hx hy,aH,iK (x.natAbs + y.natAbs) (dg _ (by omega))]
    have : -((x.natAbs + y.natAbs : Nat) : Int) = x + y:=by omega
    rw [this]
   ·have gy' : ¬ y < 0:=by omega
    simp only [gx,gy',decide_true,decide_false,cond_true,cond_false,pS x.natAbs y.natAbs (by omega) (by omega),aH,cm]
    by_cases g : x.natAbs < y.natAbs
    ·simp only [g,decide_true,cond_true,tY _ _ hy hx (Nat.le_of_lt g),aH,kR (y.natAbs - x.natAbs) (dg _ (by omega))]
     have : ((y.natAbs - x.natAbs : Nat) : Int) = x + y:=by omega
     rw [this]
    ·simp only [g,decide_false,cond_false,tY _ _ hx hy (Nat.not_lt.1 g),aH,iK (x.natAbs - y.natAbs) (dg _ (by omega))]
     have : -((x.natAbs - y.natAbs : Nat) : Int) = x + y:=by omega
     rw [this]
  ·have gx' : ¬ x < 0:=by omega
   rcases (by omega : y < 0 ∨ 0 ≤ y) with gy | gy
   ·simp only [gx',gy,decide_true,decide_false,cond_true,cond_false,pS x.natAbs y.natAbs (by omega) (by omega),aH,cm]
    by_cases g : x.natAbs < y.natAbs
    ·simp only [g,decide_true,cond_true,tY _ _ hy hx (Nat.le_of_lt g),aH,iK (y.natAbs - x.natAbs) (dg _ (by omega))]
     have : -((y.natAbs - x.natAbs : Nat) : Int) = x + y:=by omega
     rw [this]
    ·simp only [g,decide_false,cond_false,tY _ _ hx hy (Nat.not_lt.1 g),aH,kR (x.natAbs - y.natAbs) (dg _ (by omega))]
     have : ((x.natAbs - y.natAbs : Nat) : Int) = x + y:=by omega
     rw [this]
   ·have gy' : ¬ y < 0:=by omega
    simp only [gx',gy',decide_false,cond_false,DY _ _ hx hy,aH,kR (x.natAbs + y.natAbs) (dg _ (by omega))]
    have : ((x.natAbs + y.natAbs : Nat) : Int) = x + y:=by omega
    rw [this]
 unfold wD
 simp only [rI x 18 (by decide),rI y 18 (by decide),aH]
 by_cases g1 : ((Zn x).size : Int) ≤ 18
 ·simp only [g1,if_true,aH,cond_true]
  by_cases g2 : ((Zn y).size : Int) ≤ 18
  ·simp only [g2,if_true,aH,cond_true]
   rw [wrap64 (by omega) (by omega),oK _ (by omega) (by omega)]
   rfl
  ·simp only [g2,if_false,aH,cond_false]
   exact slow
 ·simp only [g1,if_false,aH,cond_false]
  exact slow
theorem aE8 (x y : Int) (hx : Lib.nDigits x.natAbs ≤ 18) (hy : Lib.nDigits y.natAbs ≤ 18) : tH (Zn x,Zn y,()) = some (Zn (x - y),()):=by
 unfold tH
 simp only [aF2 y (by omega),aH]
 rw [aTX x (-y) hx (by rw [Int.natAbs_neg]; exact hy)]
 rfl

theorem aGO (x y : Int) (h : Lib.nDigits x.natAbs + Lib.nDigits y.natAbs ≤ 18) : tA (Zn x,Zn y,()) = some (Zn (x * y),()):=by
 have p1:=nDigits_pos x.natAbs
 have p2:=nDigits_pos y.natAbs
 have hb : x.natAbs * y.natAbs < 1000000000000000000:=by
  have h1:=kL x.natAbs
  have h2:=kL y.natAbs
  have h4 : x.natAbs * y.natAbs < 10 ^ Lib.nDigits x.natAbs * 10 ^ Lib.nDigits y.natAbs:=Nat.mul_lt_mul'' h1 h2
  rw [← Nat.pow_add] at h4
  have h5 : 10 ^ (Lib.nDigits x.natAbs + Lib.nDigits y.natAbs) ≤ 10 ^ 18:=Nat.pow_le_pow_right (by decide) h
  omega
 have hab : (x * y).natAbs = x.natAbs * y.natAbs:=Int.natAbs_mul _ _
 have slow : (aB (bJ ((Zn x),())) fun y14 =>
  aB (bJ ((Zn y),())) fun y15 =>
  bif y14.1 then
   bif y15.1 then
    aB (dQ (y14.2.1,y15.2.1,())) fun y16 =>
    aB (aA (false,y16.1,())) fun y17 =>
    some (y17.1,())
   else aB (dQ (y14.2.1,y15.2.1,())) fun y18 =>
   aB (aA (true,y18.1,())) fun y19 =>
   some (y19.1,())
  else bif y15.1 then
   aB (dQ (y14.2.1,y15.2.1,())) fun y20 =>
   aB (aA (true,y20.1,())) fun y21 =>
   some (y21.1,())
  else aB (dQ (y14.2.1,y15.2.1,())) fun y22 =>
  aB (aA (false,y22.1,())) fun y23 =>
  some (y23.1,())) = some (Zn (x * y),()):=by
  have dg : Lib.nDigits (x.natAbs * y.natAbs) < 2 ^ 32:=by
   have:=j7 (u:=x.natAbs * y.natAbs) (k:=18) (by omega)
   omega
  have dm:=aKI _ _ h
  simp only [lI x,lI y,aH,dm]
  rcases (by omega : x < 0 ∨ 0 ≤ x) with gx | gx
  ·rcases (by omega : y < 0 ∨ 0 ≤ y) with gy | gy
   ·have : ((x.natAbs * y.natAbs : Nat) : Int) = x * y:=by
     rw [← hab]; have:=Int.mul_pos_of_neg_of_neg gx gy; omega
    simp only [gx,gy,decide_true,cond_true,kR _ dg,aH,this]
   ·have gy' : ¬ y < 0:=by omega
    have : -((x.natAbs * y.natAbs : Nat) : Int) = x * y:=by
     rw [← hab]; have:=Int.mul_nonpos_of_nonpos_of_nonneg (Int.le_of_lt gx) gy; omega
    simp only [gx,gy',decide_true,decide_false,cond_true,cond_false,iK _ dg,aH,this]
  ·have gx' : ¬ x < 0:=by omega
   rcases (by omega : y < 0 ∨ 0 ≤ y) with gy | gy
   ·have : -((x.natAbs * y.natAbs : Nat) : Int) = x * y:=by
     rw [← hab]; have:=Int.mul_nonpos_of_nonneg_of_nonpos gx (Int.le_of_lt gy); omega
    simp only [gx',gy,decide_true,decide_false,cond_true,cond_false,iK _ dg,aH,this]
   ·have gy' : ¬ y < 0:=by omega
    have : ((x.natAbs * y.natAbs : Nat) : Int) = x * y:=by
     rw [← hab]; have:=Int.mul_nonneg gx gy; omega
    simp only [gx',gy',decide_false,cond_false,kR _ dg,aH,this]
 unfold tA
 simp only [rI x 9 (by decide),rI y 9 (by decide),aH]
 by_cases g1 : ((Zn x).size : Int) ≤ 9
 ·simp only [g1,if_true,aH,cond_true]
  by_cases g2 : ((Zn y).size : Int) ≤ 9
  ·simp only [g2,if_true,aH,cond_true]
   rw [wrap64 (by omega) (by omega),oK _ (by omega) (by omega)]
   rfl
  ·simp only [g2,if_false,aH,cond_false]
   exact slow
 ·simp only [g1,if_false,aH,cond_false]
  exact slow

theorem iW {x y f g : Int} (h : x = y * f + g) (hp : 0 < y→0 ≤ g∧g < y) (hn : y < 0→y < g∧g ≤ 0) (h0 : y ≠ 0) : x.fdiv y = f∧x.fmod y = g:=by
 have key : ∀ x y f g : Int,x = y * f + g→0 < y→0 ≤ g→g < y→x.fdiv y = f∧x.fmod y = g:=by
  intro x y f g h hy h1 h2
  have e1:=Int.fmod_def x y
  have e2:=Int.fmod_nonneg_of_pos x hy
  have e3:=Int.fmod_lt_of_pos x hy
  have e4 : y * (x.fdiv y - f) = g - x.fmod y:=by rw [Int.mul_sub]; omega
  have e5 : x.fdiv y - f = 0:=by
   rcases Int.lt_trichotomy (x.fdiv y - f) 0 with g1 | g1 | g1
   ·have : y * (x.fdiv y - f) ≤ y * (-1):=Int.mul_le_mul_of_nonneg_left (by omega) (by omega)
    omega
   ·exact g1
   ·have : y * 1 ≤ y * (x.fdiv y - f):=Int.mul_le_mul_of_nonneg_left (by omega) (by omega)
    omega
  rw [e5] at e4
  omega
 rcases Int.lt_or_gt_of_ne h0 with g1 | g1
 ·obtain ⟨h1,h2⟩:=hn g1
  have:=key (-x) (-y) f (-g) (by rw [h]; grind) (by omega) (by omega) (by omega)
  rw [Int.neg_fdiv_neg,Int.neg_fmod_neg] at this
  omega
 ·obtain ⟨h1,h2⟩:=hp g1
  exact key x y f g h g1 h1 h2
theorem HY (x y : Int) (hx : Lib.nDigits x.natAbs ≤ 18) (hy : Lib.nDigits y.natAbs ≤ 18) (h0 : y ≠ 0) : lK (Zn x,Zn y,()) = some (Zn (x.fdiv y),Zn (x.fmod y),0,()):=by
 have b1:=K8 hx
 have b2:=K8 hy
 have slow : (aB (bJ ((Zn x),())) fun y68 =>
  aB (bJ ((Zn y),())) fun y69 =>
  aB (jN (y68.2.1,y69.2.1,())) fun y70 =>
  bif !(eqI y70.2.2.1 0) then
   some ((ByteArray.mk #[]),(ByteArray.mk #[]),y70.2.2.1,())
  else bif y68.1 then
   bif y69.1 then
    bif y68.1 then
     bif y69.1 then
      aB (aA (false,y70.1,())) fun y71 =>
      aB (aA (y69.1,y70.2.1,())) fun y72 =>
      some (y71.1,y72.1,0,())
     else aB (aA (true,y70.1,())) fun y73 =>
     aB (aA (y69.1,y70.2.1,())) fun y74 =>
     some (y73.1,y74.1,0,())
    else bif y69.1 then
     aB (aA (true,y70.1,())) fun y75 =>
     aB (aA (y69.1,y70.2.1,())) fun y76 =>
     some (y75.1,y76.1,0,())
    else aB (aA (false,y70.1,())) fun y77 =>
    aB (aA (y69.1,y70.2.1,())) fun y78 =>
    some (y77.1,y78.1,0,())
   else bif !(eqS y70.2.1 (ByteArray.mk #[48])) then
    aB (dN (y70.1,(ByteArray.mk #[49]),())) fun y79 =>
    aB (bS (y69.2.1,y70.2.1,())) fun y80 =>
    bif y68.1 then
     bif y69.1 then
      aB (aA (false,y79.1,())) fun y81 =>
      aB (aA (y69.1,y80.1,())) fun y82 =>
      some (y81.1,y82.1,0,())
     else aB (aA (true,y79.1,())) fun y83 =>
     aB (aA (y69.1,y80.1,())) fun y84 =>
     some (y83.1,y84.1,0,())
    else bif y69.1 then
     aB (aA (true,y79.1,())) fun y85 =>
     aB (aA (y69.1,y80.1,())) fun y86 =>
     some (y85.1,y86.1,0,())
    else aB (aA (false,y79.1,())) fun y87 =>
    aB (aA (y69.1,y80.1,())) fun y88 =>
    some (y87.1,y88.1,0,())
   else bif y68.1 then
    bif y69.1 then
     aB (aA (false,y70.1,())) fun y89 =>
     aB (aA (y69.1,y70.2.1,())) fun y90 =>
     some (y89.1,y90.1,0,())
    else aB (aA (true,y70.1,())) fun y91 =>
    aB (aA (y69.1,y70.2.1,())) fun y92 =>
    some (y91.1,y92.1,0,())
   else bif y69.1 then
    aB (aA (true,y70.1,())) fun y93 =>
    aB (aA (y69.1,y70.2.1,())) fun y94 =>
    some (y93.1,y94.1,0,())
   else aB (aA (false,y70.1,())) fun y95 =>
   aB (aA (y69.1,y70.2.1,())) fun y96 =>
   some (y95.1,y96.1,0,())
  else bif y69.1 then
   bif !(eqS y70.2.1 (ByteArray.mk #[48])) then
    aB (dN (y70.1,(ByteArray.mk #[49]),())) fun y97 =>
    aB (bS (y69.2.1,y70.2.1,())) fun y98 =>
    bif y68.1 then
     bif y69.1 then
      aB (aA (false,y97.1,())) fun y99 =>
      aB (aA (y69.1,y98.1,())) fun y100 =>
      some (y99.1,y100.1,0,())
     else aB (aA (true,y97.1,())) fun y101 =>
     aB (aA (y69.1,y98.1,())) fun y102 =>
     some (y101.1,y102.1,0,())
    else bif y69.1 then
     aB (aA (true,y97.1,())) fun y103 =>
     aB (aA (y69.1,y98.1,())) fun y104 =>
     some (y103.1,y104.1,0,())
    else aB (aA (false,y97.1,())) fun y105 =>
    aB (aA (y69.1,y98.1,())) fun y106 =>
    some (y105.1,y106.1,0,())
   else bif y68.1 then
    bif y69.1 then
     aB (aA (false,y70.1,())) fun y107 =>
     aB (aA (y69.1,y70.2.1,())) fun y108 =>
     some (y107.1,y108.1,0,())
    else aB (aA (true,y70.1,())) fun y109 =>
    aB (aA (y69.1,y70.2.1,())) fun y110 =>
    some (y109.1,y110.1,0,())
   else bif y69.1 then
    aB (aA (true,y70.1,())) fun y111 =>
    aB (aA (y69.1,y70.2.1,())) fun y112 =>
    some (y111.1,y112.1,0,())
   else aB (aA (false,y70.1,())) fun y113 =>
   aB (aA (y69.1,y70.2.1,())) fun y114 =>
   some (y113.1,y114.1,0,())
  else bif y68.1 then
   bif y69.1 then
    aB (aA (false,y70.1,())) fun y115 =>
    aB (aA (y69.1,y70.2.1,())) fun y116 =>
    some (y115.1,y116.1,0,())
   else aB (aA (true,y70.1,())) fun y117 =>
   aB (aA (y69.1,y70.2.1,())) fun y118 =>
   some (y117.1,y118.1,0,())
  else bif y69.1 then
   aB (aA (true,y70.1,())) fun y119 =>
   aB (aA (y69.1,y70.2.1,())) fun y120 =>
   some (y119.1,y120.1,0,())
  else aB (aA (false,y70.1,())) fun y121 =>
  aB (aA (y69.1,y70.2.1,())) fun y122 =>
  some (y121.1,y122.1,0,())) = some (Zn (x.fdiv y),Zn (x.fmod y),0,()):=by
  have dm:=aAG _ _ hx hy (show y.natAbs ≠ 0 by omega)
  have ed : x.natAbs = y.natAbs * (x.natAbs / y.natAbs) + x.natAbs % y.natAbs:=(Nat.div_add_mod _ _).symm
  have lm : x.natAbs % y.natAbs < y.natAbs:=Nat.mod_lt _ (by omega)
  have lq : x.natAbs / y.natAbs ≤ x.natAbs:=Nat.div_le_self _ _
  have e00 : eqI 0 0 = true:=by decide
  simp only [lI x,lI y,aH,dm,e00,Bool.not_true,cond_false,aGX,bFG]
  generalize x.natAbs / y.natAbs = q at *
  generalize x.natAbs % y.natAbs = r at *
  have dg : ∀ u : Nat,u < 2000000000000000000→Lib.nDigits u < 2 ^ 32:=fun u hu=>by
   have:=j7 (u:=u) (k:=18) (by omega)
   omega
  have d18 : ∀ u : Nat,u < 1000000000000000000→Lib.nDigits u ≤ 18:=fun u hu=>j7 (k:=17) (by omega)
  have edI : (x.natAbs : Int) = (y.natAbs : Int) * (q : Int) + (r : Int):=by rw [ed]; simp
  rcases (by omega : x < 0 ∨ 0 ≤ x) with gx | gx
  ·rcases (by omega : y < 0 ∨ 0 ≤ y) with gy | gy
   ·simp only [gx,gy,decide_true,cond_true,kR q (dg _ (by omega)),iK r (dg _ (by omega)),aH]
    have ex : x = y * (q : Int) + -(r : Int):=by
     have a1 : (x.natAbs : Int) = -x:=by omega
     have a2 : (y.natAbs : Int) = -y:=by omega
     rw [a1,a2] at edI
     grind
    obtain ⟨u1,u2⟩:=iW ex (by omega) (by omega) h0
    rw [u1,u2]
   ·have gy' : ¬ y < 0:=by omega
    by_cases hr : r = 0
    ·simp only [gx,gy',hr,decide_true,decide_false,Bool.not_true,cond_true,cond_false,iK q (dg _ (by omega)),kR 0 (dg _ (by omega)),aH]
     have ex : x = y * -(q : Int) + ((0 : Nat) : Int):=by
      have a1 : (x.natAbs : Int) = -x:=by omega
      have a2 : (y.natAbs : Int) = y:=by omega
      rw [a1,a2,hr] at edI
      grind
     obtain ⟨u1,u2⟩:=iW ex (by omega) (by omega) h0
     rw [u1,u2]
    ·simp only [gx,gy',hr,decide_true,decide_false,Bool.not_false,Bool.not_true,cond_true,cond_false,DY q 1 (d18 _ (by omega)) (d18 _ (by omega)),tY y.natAbs r hy (d18 _ (by omega)) (Nat.le_of_lt lm),iK (q + 1) (dg _ (by omega)),kR (y.natAbs - r) (dg _ (by omega)),aH]
     have ex : x = y * -((q + 1 : Nat) : Int) + ((y.natAbs - r : Nat) : Int):=by
      have a1 : (x.natAbs : Int) = -x:=by omega
      have a2 : (y.natAbs : Int) = y:=by omega
      have a3 : ((y.natAbs - r : Nat) : Int) = y - r:=by omega
      have a4 : ((q + 1 : Nat) : Int) = (q : Int) + 1:=by omega
      rw [a1,a2] at edI
      rw [a3,a4]
      grind
     obtain ⟨u1,u2⟩:=iW ex (by omega) (by omega) h0
     rw [u1,u2]
  ·have gx' : ¬ x < 0:=by omega
   rcases (by omega : y < 0 ∨ 0 ≤ y) with gy | gy
   ·by_cases hr : r = 0
    ·simp only [gx',gy,hr,decide_true,decide_false,Bool.not_true,cond_true,cond_false,iK q (dg _ (by omega)),iK 0 (dg _ (by omega)),aH]
     have ex : x = y * -(q : Int) + -((0 : Nat) : Int):=by
      have a1 : (x.natAbs : Int) = x:=by omega
      have a2 : (y.natAbs : Int) = -y:=by omega
      rw [a1,a2,hr] at edI
      grind
     obtain ⟨u1,u2⟩:=iW ex (by omega) (by omega) h0
     rw [u1,u2]
    ·simp only [gx',gy,hr,decide_true,decide_false,Bool.not_false,Bool.not_true,cond_true,cond_false,DY q 1 (d18 _ (by omega)) (d18 _ (by omega)),tY y.natAbs r hy (d18 _ (by omega)) (Nat.le_of_lt lm),iK (q + 1) (dg _ (by omega)),iK (y.natAbs - r) (dg _ (by omega)),aH]
     have ex : x = y * -((q + 1 : Nat) : Int) + -((y.natAbs - r : Nat) : Int):=by
      have a1 : (x.natAbs : Int) = x:=by omega
      have a2 : (y.natAbs : Int) = -y:=by omega
      have a3 : ((y.natAbs - r : Nat) : Int) = -y - r:=by omega
      have a4 : ((q + 1 : Nat) : Int) = (q : Int) + 1:=by omega
      rw [a1,a2] at edI
      rw [a3,a4]
      grind
     obtain ⟨u1,u2⟩:=iW ex (by omega) (by omega) h0
     rw [u1,u2]
   ·have gy' : ¬ y < 0:=by omega
    simp only [gx',gy',decide_true,decide_false,cond_false,kR q (dg _ (by omega)),kR r (dg _ (by omega)),aH]
    have ex : x = y * (q : Int) + (r : Int):=by
     have a1 : (x.natAbs : Int) = x:=by omega
     have a2 : (y.natAbs : Int) = y:=by omega
     rw [a1,a2] at edI
     exact edI
    obtain ⟨u1,u2⟩:=iW ex (by omega) (by omega) h0
    rw [u1,u2]
 unfold lK
 simp only [rI x 18 (by decide),rI y 18 (by decide),aH,wX,h0,decide_false,cond_false]
 by_cases g1 : ((Zn x).size : Int) ≤ 18
 ·simp only [g1,if_true,aH,cond_true]
  by_cases g2 : ((Zn y).size : Int) ≤ 18
  ·simp only [g2,if_true,aH,cond_true]
   have e1 : eqI y 0 = false:=by rw [dY]; simp [h0]
   have t1 : x = y * x.tdiv y + x.tmod y:=(Int.mul_tdiv_add_tmod x y).symm
   have t2 : (x.tmod y).natAbs < y.natAbs:=by rw [Int.natAbs_tmod]; exact Nat.mod_lt _ (by omega)
   have t3 : (x.tdiv y).natAbs ≤ x.natAbs:=by rw [Int.natAbs_tdiv]; exact Nat.div_le_self _ _
   have t4 : 0 ≤ x→0 ≤ x.tmod y:=fun h=>Int.tmod_nonneg y h
   have t5 : x ≤ 0→x.tmod y ≤ 0:=fun h=>by
    have:=Int.tmod_nonneg (a:=-x) y (by omega)
    rw [Int.neg_tmod] at this
    omega
   simp only [e1,cond_false,dY,aN]
   generalize x.tdiv y = q at *
   generalize x.tmod y = r at *
   by_cases hr : r = 0
   ·obtain ⟨u1,u2⟩:=iW (x:=x) (y:=y) (f:=q) (g:=r) t1 (by omega) (by omega) h0
    simp only [hr,decide_true,Bool.not_true,cond_false]
    rw [wrap64 (by omega) (by omega),oK _ (by omega) (by omega),aH,oK _ (by omega) (by omega),aH,u1,u2,hr]
   ·simp only [hr,decide_false,Bool.not_false,cond_true]
    by_cases r1 : r < 0
    ·by_cases y1 : y < 0
     ·obtain ⟨u1,u2⟩:=iW (x:=x) (y:=y) (f:=q) (g:=r) t1 (by omega) (by omega) h0
      simp only [r1,y1,decide_true,cond_true]
      rw [wrap64 (by omega) (by omega),oK _ (by omega) (by omega),aH,oK _ (by omega) (by omega),aH,u1,u2]
     ·obtain ⟨u1,u2⟩:=iW (x:=x) (y:=y) (f:=q - 1) (g:=r + y) (by grind) (by omega) (by omega) h0
      simp only [r1,y1,decide_true,decide_false,cond_true,cond_false]
      rw [wrap64 (x:=q) (by omega) (by omega),wrap64 (by omega) (by omega),oK _ (by omega) (by omega),aH,wrap64 (by omega) (by omega),oK _ (by omega) (by omega),aH,u1,u2]
    ·by_cases y1 : y < 0
     ·obtain ⟨u1,u2⟩:=iW (x:=x) (y:=y) (f:=q - 1) (g:=r + y) (by grind) (by omega) (by omega) h0
      simp only [r1,y1,decide_true,decide_false,cond_true,cond_false]
      rw [wrap64 (x:=q) (by omega) (by omega),wrap64 (by omega) (by omega),oK _ (by omega) (by omega),aH,wrap64 (by omega) (by omega),oK _ (by omega) (by omega),aH,u1,u2]
     ·obtain ⟨u1,u2⟩:=iW (x:=x) (y:=y) (f:=q) (g:=r) t1 (by omega) (by omega) h0
      simp only [r1,y1,decide_false,cond_false]
      rw [wrap64 (by omega) (by omega),oK _ (by omega) (by omega),aH,oK _ (by omega) (by omega),aH,u1,u2]
  ·simp only [g2,if_false,aH,cond_false]
   exact slow
 ·simp only [g1,if_false,aH,cond_false]
  exact slow
end Go.PM
set_option linter.unusedSimpArgs false
set_option linter.unusedVariables false
namespace Go.Lz
abbrev V:=Nat→Int
inductive Sp (k : Nat) (M : Nat→V) : V→Prop
 | zero : Sp k M (fun _=>0)
 | add {v : V} (j : Nat) (t : Int) : j < k→Sp k M v→Sp k M (fun i=>v i + t * M j i)

theorem Sp.mem {k : Nat} {M : Nat→V} {j : Nat} (h : j < k) : Sp k M (M j):=by
 have:=Sp.add j 1 h (Sp.zero (k:=k) (M:=M))
 simpa using this
theorem Sp.comb {k : Nat} {M : Nat→V} {u v : V} (t : Int) (hu : Sp k M u) (hv : Sp k M v) : Sp k M (fun i=>u i + t * v i):=by
 induction hv with
 | zero=>simpa using hu
 | add j s hj _ ih =>
  have:=Sp.add j (t * s) hj ih
  refine cast (congrArg (Sp k M) ?_) this
  funext i
  grind
theorem Sp.smul {k : Nat} {M : Nat→V} {v : V} (t : Int) (hv : Sp k M v) : Sp k M (fun i=>t * v i):=by
 have:=Sp.comb t Sp.zero hv
 simpa using this
theorem Sp.sub {k : Nat} {M : Nat→V} {u v : V} (hu : Sp k M u) (hv : Sp k M v) : Sp k M (fun i=>u i - v i):=by
 have:=Sp.comb (-1) hu hv
 refine cast (congrArg (Sp k M) ?_) this
 funext i
 grind
theorem Sp.trans {k k' : Nat} {M M' : Nat→V} (h : ∀ j,j < k→Sp k' M' (M j)) {v : V} (hv : Sp k M v) : Sp k' M' v:=by
 induction hv with
 | zero=>exact .zero
 | add j t hj _ ih=>exact Sp.comb t ih (h j hj)
theorem Sp.S9 {k : Nat} {M : Nat→V} {x : Nat} (h : ∀ j,j < k→M j x = 0) {v : V} (hv : Sp k M v) : v x = 0:=by
 induction hv with
 | zero=>rfl
 | add j t hj _ ih=>simp only [ih,h j hj,Int.mul_zero,Int.add_zero]
def Same (k : Nat) (M : Nat→V) (k' : Nat) (M' : Nat→V) : Prop:=∀ v,Sp k M v↔Sp k' M' v
theorem Same.refl (k : Nat) (M : Nat→V) : Same k M k M:=fun _=>Iff.rfl
theorem Same.symm {k k' : Nat} {M M' : Nat→V} (h : Same k M k' M') : Same k' M' k M:=fun v=>(h v).symm
theorem Same.trans {k k' k'' : Nat} {M M' M'' : Nat→V} (h : Same k M k' M') (g : Same k' M' k'' M'') : Same k M k'' M'':=fun v=>(h v).trans (g v)
theorem Same.of {k k' : Nat} {M M' : Nat→V} (h : ∀ j,j < k→Sp k' M' (M j)) (g : ∀ j,j < k'→Sp k M (M' j)) : Same k M k' M':=fun _=>⟨Sp.trans h,Sp.trans g⟩
theorem Sp.first {k : Nat} {M : Nat→V} {v : V} (h : Sp (k + 1) M v) : ∃ t u,Sp k (fun i=>M (i + 1)) u∧v = fun i=>u i + t * M 0 i:=by
 induction h with
 | zero=>exact ⟨0,fun _=>0,.zero,by funext i; simp⟩
 | add j s hj _ ih =>
  obtain ⟨t,u,hu,rfl⟩:=ih
  cases j with
  | zero=>exact ⟨t + s,u,hu,by funext i; grind⟩
  | succ j=>exact ⟨t,_,Sp.add j s (by omega) hu,by funext i; grind⟩
theorem Sp.behind {k : Nat} {M : Nat→V} {u : V} (h : Sp k (fun i=>M (i + 1)) u) : Sp (k + 1) M u :=
 Sp.trans (fun j hj=>Sp.mem (by omega)) h

structure Hn (k : Nat) (M : Nat→V) (c : Nat→Nat) : Prop where
 inc : ∀ i j,i < j→j < k→c i < c j
 low : ∀ i,i < k→∀ x,x < c i→M i x = 0
 pos : ∀ i,i < k→0 < M i (c i)
 red : ∀ i j,i < j→j < k→0 ≤ M i (c j)∧M i (c j) < M j (c j)

theorem Hn.tail {k : Nat} {M : Nat→V} {c : Nat→Nat} (h : Hn (k + 1) M c) : Hn k (fun i=>M (i + 1)) (fun i=>c (i + 1)) where
 inc:=fun i j hij hj=>h.inc _ _ (by omega) (by omega)
 low:=fun i hi=>h.low _ (by omega)
 pos:=fun i hi=>h.pos _ (by omega)
 red:=fun i j hij hj=>h.red _ _ (by omega) (by omega)
theorem Hn.a0J {k : Nat} {M : Nat→V} {c : Nat→Nat} (h : Hn (k + 1) M c) {u : V} (hu : Sp k (fun i=>M (i + 1)) u) {x : Nat} (hx : x ≤ c 0) : u x = 0 :=
 Sp.S9 (fun j hj=>h.low (j + 1) (by omega) x (by have:=h.inc 0 (j + 1) (by omega) (by omega); omega)) hu

theorem Hn.small : ∀ {k : Nat} {M : Nat→V} {c : Nat→Nat},Hn k M c→∀ {v : V},Sp k M v→(∀ i,i < k→-(M i (c i)) < v (c i)∧v (c i) < M i (c i))→v = fun _=>0
 | 0,M,c,h,v,hv,_=>by
  cases hv with
  | zero=>rfl
  | add j t hj _=>omega
 | k + 1,M,c,h,v,hv,hs=>by
  obtain ⟨t,u,hu,rfl⟩:=hv.first
  have h0:=h.a0J hu (Nat.le_refl _)
  have hp:=h.pos 0 (by omega)
  have hs0:=hs 0 (by omega)
  simp only [h0,Int.zero_add] at hs0
  have ht : t = 0:=by
   rcases Int.lt_trichotomy t 0 with h1 | h1 | h1
   ·have : t * M 0 (c 0) ≤ (-1) * M 0 (c 0):=Int.mul_le_mul_of_nonneg_right (by omega) (by omega)
    omega
   ·exact h1
   ·have : 1 * M 0 (c 0) ≤ t * M 0 (c 0):=Int.mul_le_mul_of_nonneg_right (by omega) (by omega)
    omega
  subst ht
  have e : (fun i=>u i + 0 * M 0 i) = u:=by funext i; simp
  rw [e] at hs ⊢
  exact Hn.small h.tail hu fun i hi=>hs (i + 1) (by omega)

def up (M : Nat→V) (i : Nat) (r : V) : Nat→V:=fun j=>if j = i then r else M j
theorem D4 (M : Nat→V) (i : Nat) (r : V) : up M i r i = r:=by simp [up]
theorem vD (M : Nat→V) {i j : Nat} (r : V) (h : j ≠ i) : up M i r j = M j:=by simp [up,h]
def swp (M : Nat→V) (a b : Nat) : Nat→V:=fun j=>if j = a then M b else if j = b then M a else M j

theorem aU1 {k a b : Nat} (M : Nat→V) (ha : a < k) (hb : b < k) : Same k M k (swp M a b):=by
 refine Same.of (fun j hj=>?_) (fun j hj=>?_)
 ·by_cases h1 : j = a
  ·subst h1
   by_cases h2 : b = j
   ·have:=Sp.mem (M:=swp M j b) ha
    simp only [swp,if_true,h2] at this ⊢
    exact this
   ·have:=Sp.mem (M:=swp M j b) hb
    simp only [swp,h2,if_false,if_true] at this ⊢
    exact this
  ·by_cases h2 : j = b
   ·subst h2
    have:=Sp.mem (M:=swp M a j) ha
    simp only [swp,if_true] at this ⊢
    exact this
   ·have:=Sp.mem (M:=swp M a b) hj
    simp only [swp,h1,h2,if_false] at this ⊢
    exact this
 ·unfold swp
  split
  ·exact Sp.mem hb
  ·split
   ·exact Sp.mem ha
   ·exact Sp.mem hj
theorem aF6 {k i d : Nat} (M : Nat→V) (q : Int) (hi : i < k) (hd : d < k) (hne : i ≠ d) : Same k M k (up M i fun x=>M i x - q * M d x):=by
 refine Same.of (fun j hj=>?_) (fun j hj=>?_)
 ·by_cases h : j = i
  ·subst h
   have h1:=Sp.mem (M:=up M j fun x=>M j x - q * M d x) hj
   have h2:=Sp.mem (M:=up M j fun x=>M j x - q * M d x) hd
   rw [D4] at h1
   rw [vD _ _ (Ne.symm hne)] at h2
   have:=Sp.comb q h1 h2
   refine cast (congrArg _ ?_) this
   funext x
   grind
  ·have:=Sp.mem (M:=up M i fun x=>M i x - q * M d x) hj
   rwa [vD _ _ h] at this
 ·by_cases h : j = i
  ·subst h
   rw [D4]
   have:=Sp.comb (-q) (Sp.mem (M:=M) hj) (Sp.mem (M:=M) hd)
   refine cast (congrArg _ ?_) this
   funext x
   grind
  ·rw [vD _ _ h]; exact Sp.mem hj
theorem aZD {k i : Nat} (M : Nat→V) (hi : i < k) : Same k M k (up M i fun x=>-(M i x)):=by
 refine Same.of (fun j hj=>?_) (fun j hj=>?_)
 ·by_cases h : j = i
  ·subst h
   have h1:=Sp.mem (M:=up M j fun x=>-(M j x)) hj
   rw [D4] at h1
   have:=Sp.smul (-1) h1
   refine cast (congrArg _ ?_) this
   funext x
   grind
  ·have:=Sp.mem (M:=up M i fun x=>-(M i x)) hj
   rwa [vD _ _ h] at this
 ·by_cases h : j = i
  ·subst h
   rw [D4]
   have:=Sp.smul (-1) (Sp.mem (M:=M) hj)
   refine cast (congrArg _ ?_) this
   funext x
   grind
  ·rw [vD _ _ h]; exact Sp.mem hj
theorem aW0 {k d : Nat} (M : Nat→V) (hd : d ≤ k) (h : ∀ i,d ≤ i→i < k→M i = fun _=>0) : Same k M d M:=by
 refine Same.of (fun j hj=>?_) (fun j hj=>Sp.mem (by omega))
 rcases Nat.lt_or_ge j d with h1 | h1
 ·exact Sp.mem h1
 ·rw [h j h1 hj]; exact .zero

structure Fo (k : Nat) (M0 M : Nat→V) (d c : Nat) (p : Nat→Nat) : Prop where
 le : d ≤ k
 same : Same k M0 k M
 inc : ∀ i j,i < j→j < d→p i < p j
 lt : ∀ i,i < d→p i < c
 low : ∀ i,i < d→∀ x,x < p i→M i x = 0
 pos : ∀ i,i < d→0 < M i (p i)
 red : ∀ i j,i < j→j < d→0 ≤ M i (p j)∧M i (p j) < M j (p j)
 rest : ∀ i,d ≤ i→i < k→∀ x,x < c→M i x = 0

theorem Fo.start (k : Nat) (M : Nat→V) : Fo k M M 0 0 (fun _=>0) where
 le:=Nat.zero_le _
 same:=Same.refl _ _
 inc:=fun i j _ h=>by omega
 lt:=fun i h=>by omega
 low:=fun i h=>by omega
 pos:=fun i h=>by omega
 red:=fun i j _ h=>by omega
 rest:=fun i _ _ x h=>by omega
section
variable {k d c : Nat} {M0 M : Nat→V} {p : Nat→Nat}
theorem Fo.QV (h : Fo k M0 M d c p) {M' : Nat→V} (hs : Same k M k M') (h1 : ∀ i,i < d→M' i = M i) (h2 : ∀ i,d ≤ i→i < k→∀ x,x < c→M' i x = 0) : Fo k M0 M' d c p where
 le:=h.le
 same:=h.same.trans hs
 inc:=h.inc
 lt:=h.lt
 low:=fun i hi=>by rw [h1 i hi]; exact h.low i hi
 pos:=fun i hi=>by rw [h1 i hi]; exact h.pos i hi
 red:=fun i j hij hj=>by rw [h1 i (by omega),h1 j hj]; exact h.red i j hij hj
 rest:=h2
theorem Fo.swap (h : Fo k M0 M d c p) {a : Nat} (ha : d ≤ a) (hk : a < k) : Fo k M0 (swp M d a) d c p:=by
 refine h.QV (aU1 M (by omega) hk) (fun i hi=>?_) (fun i h1 h2 x hx=>?_)
 ·have e1 : ¬ i = d:=by omega
  have e2 : ¬ i = a:=by omega
  simp only [swp,e1,e2,if_false]
 ·unfold swp
  split
  ·exact h.rest a ha hk x hx
  ·split
   ·exact h.rest d (Nat.le_refl _) (by omega) x hx
   ·exact h.rest i h1 h2 x hx
theorem Fo.less (h : Fo k M0 M d c p) {i : Nat} (q : Int) (hi : d < i) (hk : i < k) : Fo k M0 (up M i fun x=>M i x - q * M d x) d c p:=by
 refine h.QV (aF6 M q hk (by omega) (by omega)) (fun j hj=>vD _ _ (by omega)) (fun j h1 h2 x hx=>?_)
 by_cases e : j = i
 ·subst e
  rw [D4,h.rest j h1 h2 x hx,h.rest d (Nat.le_refl _) (by omega) x hx]
  simp
 ·rw [vD _ _ e]; exact h.rest j h1 h2 x hx
theorem Fo.neg (h : Fo k M0 M d c p) (hk : d < k) : Fo k M0 (up M d fun x=>-(M d x)) d c p:=by
 refine h.QV (aZD M hk) (fun j hj=>vD _ _ (by omega)) (fun j h1 h2 x hx=>?_)
 by_cases e : j = d
 ·subst e
  rw [D4,h.rest j h1 h2 x hx]
  simp
 ·rw [vD _ _ e]; exact h.rest j h1 h2 x hx
theorem Fo.skip (h : Fo k M0 M d c p) (hz : ∀ i,d ≤ i→i < k→M i c = 0) : Fo k M0 M d (c + 1) p where
 le:=h.le
 same:=h.same
 inc:=h.inc
 lt:=fun i hi=>by have:=h.lt i hi; omega
 low:=h.low
 pos:=h.pos
 red:=h.red
 rest:=fun i h1 h2 x hx=>by
  rcases Nat.lt_or_ge x c with h3 | h3
  ·exact h.rest i h1 h2 x h3
  ·have : x = c:=by omega
   subst this
   exact hz i h1 h2

structure Fp (k : Nat) (M0 M : Nat→V) (d c : Nat) (p : Nat→Nat) (m : Nat) : Prop extends Fo k M0 M d c p where
 dk : d < k
 piv : 0 < M d c
 below : ∀ i,d < i→i < k→M i c = 0
 up : ∀ i,i < m→0 ≤ M i c∧M i c < M d c
theorem Fp.less {m : Nat} (h : Fp k M0 M d c p m) (hm : m < d) : Fp k M0 (Lz.up M m fun x=>M m x - (M m c).fdiv (M d c) * M d x) d c p (m + 1):=by
 have hd0 : ∀ x,x < c→M d x = 0:=h.rest d (Nat.le_refl _) h.dk
 have hr : ∀ x,x < c→∀ i,Lz.up M m (fun x=>M m x - (M m c).fdiv (M d c) * M d x) i x = M i x:=by
  intro x hx i
  by_cases e : i = m
  ·subst e
   rw [D4,hd0 x hx]; simp
  ·rw [vD _ _ e]
 have hne : ∀ i,i ≠ m→Lz.up M m (fun x=>M m x - (M m c).fdiv (M d c) * M d x) i = M i:=fun i e=>vD _ _ e
 refine { le:=h.le,same:=h.same.trans (aF6 M _ (by have:=h.le; omega) h.dk (by omega)),inc:=h.inc,lt:=h.lt,low:=fun i hi x hx=>?_,pos:=fun i hi=>?_,red:=fun i j hij hj=>?_,rest:=fun i h1 h2 x hx=>?_,dk:=h.dk,piv:=?_,below:=fun i h1 h2=>?_,up:=fun i hi=>?_ }
 ·rw [hr x (by have:=h.lt i hi; omega)]; exact h.low i hi x hx
 ·rw [hr _ (h.lt i hi)]; exact h.pos i hi
 ·rw [hr _ (h.lt j hj),hr _ (h.lt j hj)]; exact h.red i j hij hj
 ·rw [hr x hx]; exact h.rest i h1 h2 x hx
 ·rw [hne d (by omega)]; exact h.piv
 ·rw [hne i (by omega)]; exact h.below i h1 h2
 ·rw [hne d (by omega)]
  by_cases e : i = m
  ·subst e
   rw [D4]
   have h1:=Int.fmod_def (M i c) (M d c)
   have h2:=Int.fmod_nonneg_of_pos (M i c) h.piv
   have h3:=Int.fmod_lt_of_pos (M i c) h.piv
   have h4 : (M i c).fdiv (M d c) * M d c = M d c * (M i c).fdiv (M d c):=Int.mul_comm _ _
   omega
  ·rw [hne i e]; exact h.up i (by omega)
theorem Fp.done (h : Fp k M0 M d c p d) : Fo k M0 M (d + 1) (c + 1) (fun i=>if i = d then c else p i):=by
 have hp : ∀ i,i < d→(if i = d then c else p i) = p i:=fun i hi=>by rw [if_neg (by omega)]
 refine { le:=h.dk,same:=h.same,inc:=fun i j hij hj=>?_,lt:=fun i hi=>?_,low:=fun i hi x hx=>?_,pos:=fun i hi=>?_,red:=fun i j hij hj=>?_,rest:=fun i h1 h2 x hx=>?_ }
 ·rw [hp i (by omega)]
  by_cases e : j = d
  ·subst e; rw [if_pos rfl]; exact h.lt i hij
  ·rw [if_neg e]; exact h.inc i j hij (by omega)
 ·by_cases e : i = d
  ·rw [if_pos e]; omega
  ·rw [if_neg e]; have:=h.lt i (by omega); omega
 ·by_cases e : i = d
  ·subst e; rw [if_pos rfl] at hx; exact h.rest i (Nat.le_refl _) h.dk x hx
  ·rw [if_neg e] at hx; exact h.low i (by omega) x hx
 ·by_cases e : i = d
  ·subst e; rw [if_pos rfl]; exact h.piv
  ·rw [if_neg e]; exact h.pos i (by omega)
 ·by_cases e : j = d
  ·subst e; rw [if_pos rfl]; exact h.up i hij
  ·rw [if_neg e]; exact h.red i j hij (by omega)
 ·rcases Nat.lt_or_ge x c with h3 | h3
  ·exact h.rest i (by omega) h2 x h3
  ·have : x = c:=by omega
   subst this
   exact h.below i (by omega) h2
theorem Fo.hn (h : Fo k M0 M d c p) (hz : d = k ∨ ∀ i,i < k→∀ x,c ≤ x→M i x = 0) : Hn d M p∧Same k M0 d M:=by
 refine ⟨⟨h.inc,h.low,h.pos,h.red⟩,h.same.trans ?_⟩
 rcases hz with rfl | hz
 ·exact Same.refl _ _
 ·refine aW0 M h.le fun i h1 h2=>?_
  funext x
  rcases Nat.lt_or_ge x c with h3 | h3
  ·exact h.rest i h1 h2 x h3
  ·exact hz i h2 x h3
end
def dot : Nat→V→V→Int
 | 0,_,_=>0
 | n + 1,a,b=>dot n a b + a n * b n
theorem bF1 (u v b : V) (t : Int) : ∀ n,dot n (fun i=>u i + t * v i) b = dot n u b + t * dot n v b
 | 0=>by simp [dot]
 | n + 1=>by
  rw [dot,dot,dot,bF1 u v b t n]
  grind
theorem bF3 (b : V) : ∀ n,dot n (fun _=>0) b = 0
 | 0=>rfl
 | n + 1=>by rw [dot,bF3 b n]; simp
theorem aSY {a b a' b' : V} : ∀ {n},(∀ i,i < n→a i = a' i)→(∀ i,i < n→b i = b' i)→dot n a b = dot n a' b'
 | 0,_,_=>rfl
 | n + 1,h,g=>by rw [dot,dot,aSY (fun i hi=>h i (by omega)) (fun i hi=>g i (by omega)),h n (by omega),g n (by omega)]
def Ker (n m : Nat) (A : Nat→V) (y : V) : Prop:=(∀ c,n ≤ c→y c = 0)∧∀ x,x < m→dot n y (A x) = 0
def bF0 (n m : Nat) (A : Nat→V) (k : Nat) (K : Nat→V) : Prop:=∀ y,Sp k K y↔Ker n m A y
def wide (n m : Nat) (A : Nat→V) : Nat→V:=fun c x=>if x < m then A x c else if x = m + c then 1 else 0
theorem bF4 {n m : Nat} {A : Nat→V} (y : V) : ∀ j,j ≤ n→Sp n (wide n m A) (fun x=>if x < m then dot j y (A x) else if x < m + j then y (x - m) else 0)
 | 0,_=>by
  refine cast (congrArg _ ?_) Sp.zero
  funext x
  split
  ·simp [dot]
  ·split
   ·omega
   ·rfl
 | j + 1,h=>by
  have:=Sp.comb (y j) (bF4 y j (by omega)) (Sp.mem (M:=wide n m A) (show j < n by omega))
  refine cast (congrArg _ ?_) this
  funext x
  simp only [wide]
  split
  ·rw [dot]
  ·by_cases h1 : x = m + j
   ·subst h1
    have e1 : ¬ m + j < m + j:=by omega
    have e2 : m + j < m + (j + 1):=by omega
    have e3 : m + j - m = j:=by omega
    simp only [if_true,e1,e2,if_false,e3]
    simp
   ·have e1 : (x < m + (j + 1))↔x < m + j:=by omega
    simp only [h1,if_false,e1,Int.mul_zero,Int.add_zero]
theorem bF2 {n m : Nat} {A : Nat→V} {v : V} (h : Sp n (wide n m A) v) : (∀ x,x < m→v x = dot n (fun c=>v (m + c)) (A x))∧∀ c,n ≤ c→v (m + c) = 0:=by
 have unit : ∀ (j : Nat) (b : V),∀ n,dot n (fun c=>if m + c = m + j then (1 : Int) else 0) b = if j < n then b j else 0:=by
  intro j b n
  induction n with
  | zero=>rfl
  | succ n ih =>
   rw [dot,ih]
   by_cases h1 : j < n
   ·have e1 : ¬ m + n = m + j:=by omega
    have e2 : j < n + 1:=by omega
    have e3 : ¬ n = j:=by omega
    simp [h1,e2,e3]
   ·by_cases h2 : n = j
    ·subst h2
     simp
    ·have e1 : ¬ m + n = m + j:=by omega
     have e2 : ¬ j < n + 1:=by omega
     simp [h1,e2,h2]
 induction h with
 | zero=>exact ⟨fun x _=>(bF3 _ _).symm,fun _ _=>rfl⟩
 | add j t hj _ ih =>
  obtain ⟨h1,h2⟩:=ih
  refine ⟨fun x hx=>?_,fun c hc=>?_⟩
  ·rw [bF1,← h1 x hx]
   have e : (fun c=>wide n m A j (m + c)) = fun c=>if m + c = m + j then (1 : Int) else 0:=by
    funext c
    have : ¬ m + c < m:=by omega
    simp only [wide,this,if_false]
   rw [e,unit,if_pos hj]
   simp only [wide,hx,if_true]
  ·have h3:=h2 c hc
   have e1 : ¬ m + c < m:=by omega
   have e2 : ¬ m + c = m + j:=by omega
   simp only [wide,e1,e2,if_false,Int.mul_zero,Int.add_zero,h3]
theorem Hn.drop : ∀ {j k : Nat} {M : Nat→V} {p : Nat→Nat} {m : Nat},Hn k M p→j ≤ k→(∀ i,i < j→p i < m)→∀ {v : V},Sp k M v→(∀ x,x < m→v x = 0)→Sp (k - j) (fun i=>M (j + i)) v
 | 0,k,M,p,m,h,_,_,v,hv,_=>by
  have e : (fun i=>M (0 + i)) = M:=by funext i; rw [Nat.zero_add]
  rw [e]; exact hv
 | j + 1,0,M,p,m,h,hj,_,v,hv,_=>by omega
 | j + 1,k + 1,M,p,m,h,hj,hp,v,hv,hz=>by
  obtain ⟨t,u,hu,rfl⟩:=hv.first
  have h0:=hz (p 0) (hp 0 (by omega))
  have h1:=h.a0J hu (Nat.le_refl _)
  have h2:=h.pos 0 (by omega)
  simp only [h1,Int.zero_add] at h0
  have ht : t = 0:=by
   rcases Int.mul_eq_zero.1 h0 with h3 | h3
   ·exact h3
   ·omega
  subst ht
  have e : (fun i=>u i + 0 * M 0 i) = u:=by funext i; simp
  rw [e] at hz ⊢
  have:=Hn.drop (j:=j) h.tail (by omega) (fun i hi=>hp (i + 1) (by omega)) hu hz
  have e1 : k + 1 - (j + 1) = k - j:=by omega
  rw [e1]
  refine cast (congrArg (fun f=>Sp (k - j) f u) ?_) this
  funext i
  show M (j + i + 1) = M (j + 1 + i)
  congr 1
  omega
theorem bB7 {n m k j : Nat} {A W : Nat→V} {p : Nat→Nat} (h : Hn k W p) (hs : Same n (wide n m A) k W) (hj : j ≤ k) (h1 : ∀ i,i < j→p i < m) (h2 : ∀ i,j ≤ i→i < k→m ≤ p i) :
  bF0 n m A (k - j) (fun i y=>W (j + i) (m + y)):=by
 intro y
 constructor
 ·intro hy
  have key : ∃ v,Sp k W v∧(∀ x,x < m→v x = 0)∧y = fun c=>v (m + c):=by
   induction hy with
   | zero=>exact ⟨_,.zero,fun _ _=>rfl,rfl⟩
   | add i t hi _ ih =>
    obtain ⟨v,g1,g2,rfl⟩:=ih
    refine ⟨_,Sp.add (j + i) t (by omega) g1,fun x hx=>?_,rfl⟩
    have:=h.low (j + i) (by omega) x (by have:=h2 (j + i) (by omega) (by omega); omega)
    simp only [g2 x hx,this,Int.mul_zero,Int.add_zero]
  obtain ⟨v,g1,g2,rfl⟩:=key
  obtain ⟨q1,q2⟩:=bF2 ((hs v).2 g1)
  exact ⟨q2,fun x hx=>by rw [← q1 x hx]; exact g2 x hx⟩
 ·rintro ⟨g1,g2⟩
  have hv:=bF4 (A:=A) (n:=n) (m:=m) y n (Nat.le_refl _)
  have:=Hn.drop h hj h1 ((hs _).1 hv) (fun x hx=>by simp only [hx,if_true]; exact g2 x hx)
  have key : ∀ {v : V},Sp (k - j) (fun i=>W (j + i)) v→Sp (k - j) (fun i y=>W (j + i) (m + y)) (fun c=>v (m + c)):=by
   intro v hv
   induction hv with
   | zero=>exact .zero
   | add i t hi _ ih=>exact Sp.add i t hi ih
  have:=key this
  refine cast (congrArg _ ?_) this
  funext c
  have e1 : ¬ m + c < m:=by omega
  have e3 : m + c - m = c:=by omega
  simp only [e1,if_false,e3]
  split
  ·rfl
  ·exact (g1 c (by omega)).symm

theorem L2 (a : Int) {m : Int} (h : m < 0) : m < a.fmod m∧a.fmod m ≤ 0:=by
 have h1:=Int.neg_fmod_neg (-a) (-m)
 rw [Int.neg_neg,Int.neg_neg] at h1
 have h2:=Int.fmod_nonneg_of_pos (-a) (show 0 < -m by omega)
 have h3:=Int.fmod_lt_of_pos (-a) (show 0 < -m by omega)
 omega
theorem aMN (a m : Int) (hm : m ≠ 0) : (a.fdiv m).natAbs * m.natAbs ≤ a.natAbs + m.natAbs:=by
 have h1:=Int.fmod_def a m
 have h2 : (m * a.fdiv m).natAbs = (a.fdiv m).natAbs * m.natAbs:=by rw [Int.natAbs_mul,Nat.mul_comm]
 rcases Int.lt_or_gt_of_ne hm with h | h
 ·have h3:=L2 a h
  omega
 ·have h3:=Int.fmod_nonneg_of_pos a h
  have h4:=Int.fmod_lt_of_pos a h
  omega
theorem aMD (a m : Int) (hm : m ≠ 0) : (a.fmod m).natAbs < m.natAbs:=by
 rcases Int.lt_or_gt_of_ne hm with h | h
 ·have h3:=L2 a h
  omega
 ·have h3:=Int.fmod_nonneg_of_pos a h
  have h4:=Int.fmod_lt_of_pos a h
  omega
theorem SC (a m : Int) : a - a.fdiv m * m = a.fmod m:=by
 rw [Int.fmod_def,Int.mul_comm]
theorem aZX {a b q : Int} {E Q : Nat} (ha : a.natAbs ≤ E) (hb : b.natAbs ≤ E) (hq : q.natAbs ≤ Q) : (a - q * b).natAbs ≤ E + Q * E:=by
 have h1 : (q * b).natAbs = q.natAbs * b.natAbs:=Int.natAbs_mul _ _
 have h2 : q.natAbs * b.natAbs ≤ Q * E:=Nat.mul_le_mul hq hb
 omega

def Wi (k : Nat) (M : Nat→V) (d c E A : Nat) : Prop:=∀ i,d ≤ i→i < k→(∀ x,(M i x).natAbs ≤ E)∧(M i c).natAbs ≤ A
def Rd (k : Nat) (M M' : Nat→V) (d c : Nat) : Prop:=M' d = M d∧∀ i,d < i→i < k→M' i = fun x=>M i x - (M i c).fdiv (M d c) * M d x

theorem Rd.aO4 {k d c E A : Nat} {M M' : Nat→V} (h : Rd k M M' d c) (hw : Wi k M d c E A) (hk : d < k) (hm : M d c ≠ 0) (hA : (M d c).natAbs ≤ A) :
  ∃ E',Wi k M' d c E' (M d c).natAbs∧E' * (M d c).natAbs ≤ 3 * (E * A):=by
 have hmp : 0 < (M d c).natAbs:=by omega
 refine ⟨E + (A / (M d c).natAbs + 1) * E,fun i h1 h2=>?_,?_⟩
 ·by_cases e : i = d
  ·subst e
   rw [h.1]
   refine ⟨fun x=>?_,Nat.le_refl _⟩
   have:=(hw i h1 h2).1 x
   exact Nat.le_trans this (Nat.le_add_right _ _)
  ·have hr:=h.2 i (by omega) h2
   have hq : ((M i c).fdiv (M d c)).natAbs ≤ A / (M d c).natAbs + 1:=by
    have h3:=aMN (M i c) (M d c) hm
    have h4:=(hw i h1 h2).2
    have h5 : ((M i c).fdiv (M d c)).natAbs ≤ (A + (M d c).natAbs) / (M d c).natAbs:=by
     rw [Nat.le_div_iff_mul_le hmp]
     omega
    rwa [Nat.add_div_right _ hmp] at h5
   rw [hr]
   refine ⟨fun x=>aZX ((hw i h1 h2).1 x) ((hw d (Nat.le_refl _) hk).1 x) hq,?_⟩
   dsimp only
   rw [SC]
   exact Nat.le_of_lt (aMD _ _ hm)
 ·have h1 : A / (M d c).natAbs * (M d c).natAbs ≤ A:=Nat.div_mul_le_self _ _
  generalize A / (M d c).natAbs = q at h1
  generalize (M d c).natAbs = m at *
  have h2 : (E + (q + 1) * E) * m = 2 * (E * m) + E * (q * m):=by grind
  have h3 : E * (q * m) ≤ E * A:=Nat.mul_le_mul_left _ h1
  have h4 : E * m ≤ E * A:=Nat.mul_le_mul_left _ hA
  omega

theorem aW6 (a b c : Nat) (h : a + b ≤ c) : 4 * (a * b) ≤ c * c:=by
 have h1 : (a + b) * (a + b) ≤ c * c:=Nat.mul_le_mul h h
 have h2 : 4 * (a * b) ≤ (a + b) * (a + b):=by
  have : (a + b) * (a + b) = 4 * (a * b) + (a - b) * (a - b) + (b - a) * (b - a):=by
   rcases Nat.le_total a b with g | g
   ·obtain ⟨e,rfl⟩:=Nat.exists_eq_add_of_le g
    have e1 : a - (a + e) = 0:=by omega
    have e2 : a + e - a = e:=by omega
    rw [e1,e2]
    grind
   ·obtain ⟨e,rfl⟩:=Nat.exists_eq_add_of_le g
    have e1 : b - (b + e) = 0:=by omega
    have e2 : b + e - b = e:=by omega
    rw [e1,e2]
    grind
  omega
 omega

structure Bt (k : Nat) (M : Nat→V) (d c C : Nat) : Prop where
 dk : d < k
 ex : ∃ E,Wi k M d c E (M d c).natAbs∧∃ i,d < i∧i < k∧M i c ≠ 0∧E * (M d c).natAbs ^ 3 * (M i c).natAbs ≤ C
 piv : M d c ≠ 0
 sign : ∀ i,d < i→i < k→(M i c).natAbs < (M d c).natAbs∧(0 < M d c→0 ≤ M i c)∧(M d c < 0→M i c ≤ 0)

theorem Wi.swap {k d c E A a : Nat} {M : Nat→V} (h : Wi k M d c E A) (ha : d ≤ a) (hk : a < k) : Wi k (swp M d a) d c E A:=by
 intro i h1 h2
 unfold swp
 split
 ·exact h a ha hk
 ·split
  ·exact h d (Nat.le_refl _) (by omega)
  ·exact h i h1 h2
theorem Rd.sign {k d c : Nat} {M M' : Nat→V} (h : Rd k M M' d c) (hm : M d c ≠ 0) : ∀ i,d < i→i < k→M' i c = (M i c).fmod (M d c)∧(M' i c).natAbs < (M' d c).natAbs∧(0 < M' d c→0 ≤ M' i c)∧(M' d c < 0→M' i c ≤ 0):=by
 intro i h1 h2
 have e : M' i c = (M i c).fmod (M d c):=by
  rw [h.2 i h1 h2]
  exact SC _ _
 rw [e,h.1]
 exact ⟨rfl,aMD _ _ hm,fun hp=>Int.fmod_nonneg_of_pos _ hp,fun hn=>(L2 _ hn).2⟩
theorem aWY {p n : Int} (hs : (0 < p∧0 < n) ∨ (p < 0∧n < 0)) (hl : n.natAbs < p.natAbs) : (p.fmod n).natAbs + n.natAbs ≤ p.natAbs:=by
 have key : ∀ p n : Int,0 < n→n < p→(p.fmod n).natAbs + n.natAbs ≤ p.natAbs:=by
  intro p n h1 h2
  have h3:=Int.fmod_def p n
  have h4:=Int.fmod_nonneg_of_pos p h1
  have h5:=Int.fmod_lt_of_pos p h1
  have h6 : 1 ≤ p.fdiv n:=by
   rcases (by omega : p.fdiv n < 1 ∨ 1 ≤ p.fdiv n) with h | h
   ·have : n * p.fdiv n ≤ n * 0:=Int.mul_le_mul_of_nonneg_left (by omega) (by omega)
    omega
   ·exact h
  have h7 : n * 1 ≤ n * p.fdiv n:=Int.mul_le_mul_of_nonneg_left h6 (by omega)
  omega
 rcases hs with ⟨h1,h2⟩ | ⟨h1,h2⟩
 ·exact key p n h2 (by omega)
 ·have:=key (-p) (-n) (by omega) (by omega)
  rw [Int.neg_fmod_neg] at this
  omega
theorem Rd.first {k d c E A : Nat} {M M' : Nat→V} (h : Rd k M M' d c) (hw : Wi k M d c E A) (hk : d < k) (hm : M d c ≠ 0) :
  ((∀ i,d < i→i < k→M' i c = 0)∧Wi k M' d c (3 * (E * A)) A) ∨ Bt k M' d c (3 * (E * A) * A ^ 3):=by
 have hA:=(hw d (Nat.le_refl _) hk).2
 have hmp : 0 < (M d c).natAbs:=by omega
 obtain ⟨E',h1,h2⟩:=h.aO4 hw hk hm hA
 have hs:=h.sign hm
 by_cases hz : ∀ i,d < i→i < k→M' i c = 0
 ·refine .inl ⟨hz,fun i g1 g2=>⟨fun x=>?_,?_⟩⟩
  ·have a1:=(h1 i g1 g2).1 x
   have a2 : E' * 1 ≤ E' * (M d c).natAbs:=Nat.mul_le_mul_left _ hmp
   omega
  ·exact Nat.le_trans (h1 i g1 g2).2 hA
 ·refine .inr ⟨hk,⟨E',by rw [h.1]; exact h1,?_⟩,by rw [h.1]; exact hm,fun i g1 g2=>(hs i g1 g2).2⟩
  obtain ⟨i,hi⟩:=Classical.not_forall.1 hz
  obtain ⟨g1,hi⟩:=Classical.not_forall.1 hi
  obtain ⟨g2,g3⟩:=Classical.not_forall.1 hi
  refine ⟨i,g1,g2,g3,?_⟩
  have a1:=(hs i g1 g2).2.1
  rw [h.1] at a1 ⊢
  have a2 : (M d c).natAbs ^ 2 * (M' i c).natAbs ≤ A ^ 2 * A:=Nat.mul_le_mul (Nat.pow_le_pow_left hA 2) (by omega)
  have a3 : E' * (M d c).natAbs * ((M d c).natAbs ^ 2 * (M' i c).natAbs) ≤ 3 * (E * A) * (A ^ 2 * A):=Nat.mul_le_mul h2 a2
  have e1 : E' * (M d c).natAbs ^ 3 * (M' i c).natAbs = E' * (M d c).natAbs * ((M d c).natAbs ^ 2 * (M' i c).natAbs):=by grind
  have e2 : 3 * (E * A) * A ^ 3 = 3 * (E * A) * (A ^ 2 * A):=by grind
  omega
theorem Bt.left {k d c C a : Nat} {M M' : Nat→V} (h : Bt k M d c C) (ha : d ≤ a) (hk : a < k) (hm : M a c ≠ 0) (hmin : ∀ i,d ≤ i→i < k→M i c ≠ 0→(M a c).natAbs ≤ (M i c).natAbs) (hr : Rd k (swp M d a) M' d c) (hz : ¬ ∀ i,d < i→i < k→M' i c = 0) : M' d = M a∧(M a c).natAbs < (M d c).natAbs∧∃ i,d < i∧i < k∧M' i c ≠ 0∧(M' i c).natAbs + (M a c).natAbs ≤ (M d c).natAbs∧(M' i c).natAbs < (M a c).natAbs:=by
 obtain ⟨E,h1,i0,g1,g2,g3,g4⟩:=h.ex
 have hda : d < a:=by
  rcases Nat.lt_or_ge d a with h9 | h9
  ·exact h9
  ·have : a = d:=by omega
   subst this
   have:=hmin i0 (by omega) g2 g3
   have:=(h.sign i0 g1 g2).1
   omega
 have e1 : swp M d a d = M a:=by simp [swp]
 have e2 : swp M d a a = M d:=by
  have : ¬ a = d:=by omega
  simp [swp,this]
 have hsa:=h.sign a hda hk
 have hs:=hr.sign (by rw [e1]; exact hm)
 have hMd : M' d = M a:=by rw [hr.1,e1]
 have main : ∃ i,d < i∧i < k∧M' i c ≠ 0∧(M' i c).natAbs + (M a c).natAbs ≤ (M d c).natAbs:=by
  have ea:=(hs a hda hk).1
  rw [e1,e2] at ea
  by_cases hz2 : M' a c = 0
  ·obtain ⟨i,hi⟩:=Classical.not_forall.1 hz
   obtain ⟨z1,hi⟩:=Classical.not_forall.1 hi
   obtain ⟨z2,z3⟩:=Classical.not_forall.1 hi
   refine ⟨i,z1,z2,z3,?_⟩
   have a1:=(hs i z1 z2).2.1
   rw [hMd] at a1
   have a2 : (M a c).natAbs ∣ (M d c).natAbs:=by
    have : M a c ∣ M d c:=by
     rw [hz2] at ea
     exact Int.dvd_of_fmod_eq_zero ea.symm
    exact Int.natAbs_dvd_natAbs.2 this
   obtain ⟨t,ht⟩:=a2
   have h2t : 2 ≤ t:=by
    rcases Nat.lt_or_ge t 2 with h | h
    ·have : (M a c).natAbs * t ≤ (M a c).natAbs * 1:=Nat.mul_le_mul_left _ (by omega)
     omega
    ·exact h
   have : (M a c).natAbs * 2 ≤ (M a c).natAbs * t:=Nat.mul_le_mul_left _ h2t
   omega
  ·refine ⟨a,hda,hk,hz2,?_⟩
   rw [ea]
   refine aWY ?_ hsa.1
   rcases Int.lt_or_gt_of_ne h.piv with z | z
   ·have:=hsa.2.2 z
    exact .inr ⟨z,by omega⟩
   ·have:=hsa.2.1 z
    exact .inl ⟨z,by omega⟩
 obtain ⟨i,z1,z2,z3,z4⟩:=main
 have z5:=(hs i z1 z2).2.1
 rw [hMd] at z5
 exact ⟨hMd,hsa.1,i,z1,z2,z3,z4,z5⟩
def Pt (k : Nat) (M : Nat→V) (d c P : Nat) : Prop:=∃ i,d < i∧i < k∧M i c ≠ 0∧(M d c).natAbs * (M i c).natAbs ≤ P
theorem Bt.half {k d c C a : Nat} {M M' : Nat→V} (h : Bt k M d c C) (ha : d ≤ a) (hk : a < k) (hm : M a c ≠ 0) (hmin : ∀ i,d ≤ i→i < k→M i c ≠ 0→(M a c).natAbs ≤ (M i c).natAbs) (hr : Rd k (swp M d a) M' d c) (hz : ¬ ∀ i,d < i→i < k→M' i c = 0) {P : Nat} (hP : Pt k M d c P) : Pt k M' d c (P / 2):=by
 obtain ⟨q1,q2,i,z1,z2,z3,z4,z5⟩:=h.left ha hk hm hmin hr hz
 obtain ⟨i0,w1,w2,w3,w4⟩:=hP
 have w5:=hmin i0 (by omega) w2 w3
 refine ⟨i,z1,z2,z3,?_⟩
 rw [q1,Nat.le_div_iff_mul_le (by decide)]
 have a1 : (M a c).natAbs * (2 * (M' i c).natAbs) ≤ (M a c).natAbs * (M d c).natAbs:=Nat.mul_le_mul_left _ (by omega)
 have a2 : (M d c).natAbs * (M a c).natAbs ≤ (M d c).natAbs * (M i0 c).natAbs:=Nat.mul_le_mul_left _ w5
 have a3 : (M a c).natAbs * (M' i c).natAbs * 2 = (M a c).natAbs * (2 * (M' i c).natAbs):=by grind
 have a4 : (M d c).natAbs * (M a c).natAbs = (M a c).natAbs * (M d c).natAbs:=Nat.mul_comm _ _
 omega
theorem Bt.round {k d c C a : Nat} {M M' : Nat→V} (h : Bt k M d c C) (ha : d ≤ a) (hk : a < k) (hm : M a c ≠ 0) (hmin : ∀ i,d ≤ i→i < k→M i c ≠ 0→(M a c).natAbs ≤ (M i c).natAbs) (hr : Rd k (swp M d a) M' d c) :
  ((∀ i,d < i→i < k→M' i c = 0)∧∃ A,Wi k M' d c (3 * C) A) ∨ (Bt k M' d c C∧(M' d c).natAbs < (M d c).natAbs):=by
 obtain ⟨E,h1,i0,g1,g2,g3,g4⟩:=h.ex
 have hda : d < a:=by
  rcases Nat.lt_or_ge d a with h9 | h9
  ·exact h9
  ·have : a = d:=by omega
   subst this
   have:=hmin i0 (by omega) g2 g3
   have:=(h.sign i0 g1 g2).1
   omega
 have e1 : swp M d a d = M a:=by simp [swp]
 have e2 : swp M d a a = M d:=by
  have : ¬ a = d:=by omega
  simp [swp,this]
 have hsa:=h.sign a hda hk
 have hA : (swp M d a d c).natAbs ≤ (M d c).natAbs:=by rw [e1]; omega
 obtain ⟨E',q1,q2⟩:=hr.aO4 (h1.swap ha hk) h.dk (by rw [e1]; exact hm) hA
 rw [e1] at q1 q2
 have hs:=hr.sign (by rw [e1]; exact hm)
 have hC : E * (M d c).natAbs ^ 3 * (M a c).natAbs ≤ C:=Nat.le_trans (Nat.mul_le_mul_left _ (hmin i0 (by omega) g2 g3)) g4
 have hmp : 0 < (M a c).natAbs:=by omega
 have hMd : M' d = M a:=by rw [hr.1,e1]
 by_cases hz : ∀ i,d < i→i < k→M' i c = 0
 ·refine .inl ⟨hz,(M a c).natAbs,fun i z1 z2=>⟨fun x=>?_,(q1 i z1 z2).2⟩⟩
  have a1:=(q1 i z1 z2).1 x
  have a2 : E' * 1 ≤ E' * (M a c).natAbs:=Nat.mul_le_mul_left _ hmp
  have a3 : E * (M d c).natAbs * 1 ≤ E * (M d c).natAbs * ((M d c).natAbs ^ 2 * (M a c).natAbs):=Nat.mul_le_mul_left _ (Nat.mul_pos (Nat.pow_pos (by omega)) hmp)
  have a4 : E * (M d c).natAbs * ((M d c).natAbs ^ 2 * (M a c).natAbs) = E * (M d c).natAbs ^ 3 * (M a c).natAbs:=by grind
  omega
 ·refine .inr ⟨⟨h.dk,⟨E',by rw [hMd]; exact q1,?_⟩,by rw [hMd]; exact hm,fun i z1 z2=>(hs i z1 z2).2⟩,by rw [hMd]; exact hsa.1⟩
  obtain ⟨_,_,i,z1,z2,z3,z4,_⟩:=h.left ha hk hm hmin hr hz
  refine ⟨i,z1,z2,z3,?_⟩
  rw [hMd]
  have a1:=aW6 _ _ _ z4
  generalize (M' i c).natAbs = y at *
  generalize (M a c).natAbs = x at *
  generalize (M d c).natAbs = m at *
  have a2 : E' * x * (x ^ 2 * y) ≤ 3 * (E * m) * (x ^ 2 * y):=Nat.mul_le_mul_right _ q2
  have a3 : (E * m * x) * (4 * (y * x)) ≤ (E * m * x) * (m * m):=Nat.mul_le_mul_left _ a1
  have b1 : E' * x ^ 3 * y = E' * x * (x ^ 2 * y):=by grind
  have b2 : (E * m * x) * (m * m) = E * m ^ 3 * x:=by grind
  have b3 : (E * m * x) * (4 * (y * x)) = 3 * (E * m) * (x ^ 2 * y) + (E * m * x) * (y * x):=by grind
  omega

theorem Hn.a5O : ∀ {j k : Nat} {M : Nat→V} {p : Nat→Nat},Hn k M p→j ≤ k→∀ {v : V},Sp k M v→(∀ i,i < j→v (p i) = 0)→Sp (k - j) (fun i=>M (j + i)) v
 | 0,k,M,p,h,_,v,hv,_=>by
  have e : (fun i=>M (0 + i)) = M:=by funext i; rw [Nat.zero_add]
  rw [e]; exact hv
 | j + 1,0,M,p,h,hj,v,hv,_=>by omega
 | j + 1,k + 1,M,p,h,hj,v,hv,hz=>by
  obtain ⟨t,u,hu,rfl⟩:=hv.first
  have h0:=hz 0 (by omega)
  have h1:=h.a0J hu (Nat.le_refl _)
  have h2:=h.pos 0 (by omega)
  simp only [h1,Int.zero_add] at h0
  have ht : t = 0:=by
   rcases Int.mul_eq_zero.1 h0 with h3 | h3
   ·exact h3
   ·omega
  subst ht
  have e : (fun i=>u i + 0 * M 0 i) = u:=by funext i; simp
  rw [e] at hz ⊢
  have:=Hn.a5O (j:=j) h.tail (by omega) hu (fun i hi=>hz (i + 1) (by omega))
  have e1 : k + 1 - (j + 1) = k - j:=by omega
  rw [e1]
  refine cast (congrArg (fun f=>Sp (k - j) f u) ?_) this
  funext i
  show M (j + i + 1) = M (j + 1 + i)
  congr 1
  omega
theorem Hn.aQQ {k : Nat} {M : Nat→V} {p : Nat→Nat} (h : Hn k M p) {v : V} (hv : Sp k M v) (hz : ∀ i,i < k→v (p i) = 0) : v = fun _=>0 :=
 h.small hv fun i hi=>by
  have:=h.pos i hi
  have:=hz i hi
  omega
theorem Hn.shift {k : Nat} {M : Nat→V} {p : Nat→Nat} (h : Hn k M p) (j : Nat) (hj : j ≤ k) : Hn (k - j) (fun i=>M (j + i)) (fun i=>p (j + i)) where
 inc:=fun a b hab hb=>h.inc _ _ (by omega) (by omega)
 low:=fun i hi=>h.low _ (by omega)
 pos:=fun i hi=>h.pos _ (by omega)
 red:=fun a b hab hb=>h.red _ _ (by omega) (by omega)
theorem Hn.dvd {k : Nat} {M : Nat→V} {p : Nat→Nat} (h : Hn k M p) {j : Nat} (hj : j < k) {v : V} (hv : Sp k M v) (hz : ∀ i,i < j→v (p i) = 0) : M j (p j) ∣ v (p j):=by
 have h1:=h.a5O (Nat.le_of_lt hj) hv hz
 obtain ⟨k',hk'⟩ : ∃ k',k - j = k' + 1:=⟨k - j - 1,by omega⟩
 have hs:=h.shift j (Nat.le_of_lt hj)
 rw [hk'] at h1 hs
 obtain ⟨t,u,hu,rfl⟩:=h1.first
 have:=hs.a0J hu (Nat.le_refl _)
 simp only [Nat.add_zero] at this
 simp only [this,Nat.add_zero,Int.zero_add]
 exact ⟨t,Int.mul_comm _ _⟩

def V1 : Nat→(Nat→Int)→Nat
 | 0,_=>0
 | n + 1,f=>V1 n f + (f n).natAbs
def KS : Nat→(Nat→Int)→Int
 | 0,_=>0
 | n + 1,f=>KS n f + f n
theorem aAV : ∀ (n : Nat) (f : Nat→Int),(KS n f).natAbs ≤ V1 n f
 | 0,_=>Nat.le_refl _
 | n + 1,f=>by
  have:=aAV n f
  rw [KS,V1]
  omega
theorem aPY : ∀ {n : Nat} {f g : Nat→Int} {P : Nat},(∀ i,i < n→(f i).natAbs ≤ P * (g i).natAbs)→V1 n f ≤ P * V1 n g
 | 0,_,_,_,_=>by simp [V1]
 | n + 1,f,g,P,h=>by
  have h1:=aPY (n:=n) (fun i hi=>h i (by omega))
  have h2:=h n (by omega)
  rw [V1,V1,Nat.mul_add]
  omega
theorem Z2 {n : Nat} {f : Nat→Int} {B : Nat} (h : ∀ i,i < n→(f i).natAbs ≤ B) : V1 n f ≤ n * B:=by
 induction n with
 | zero=>simp [V1]
 | succ n ih =>
  have h1:=ih (fun i hi=>h i (by omega))
  have h2:=h n (by omega)
  rw [V1,Nat.succ_mul]
  omega
theorem Sp.KS {k : Nat} {M : Nat→V} {U : Nat→V} {t : Nat→Int} : ∀ n,(∀ j,j < n→Sp k M (U j))→Sp k M (fun x=>Lz.KS n fun j=>t j * U j x)
 | 0,_=>.zero
 | n + 1,h=>Sp.comb (t n) (Sp.KS n fun j hj=>h j (by omega)) (h n (by omega))
theorem Hn.bound {k : Nat} {M : Nat→V} {p : Nat→Nat} (h : Hn k M p) {U : Nat→V} (hU : ∀ j,j < k→Sp k M (U j)) (h0 : ∀ i j,i < k→j < k→i ≠ j→U j (p i) = 0) (hD : ∀ j,j < k→U j (p j) ≠ 0)
  {i : Nat} (hi : i < k) (x : Nat) : (M i x).natAbs ≤ V1 k fun j=>U j x:=by
 -- the product of the elements at the pivots
 have prod : ∀ n,n ≤ k→∃ P : Int,P ≠ 0∧∀ j,j < n→U j (p j) ∣ P:=by
  intro n
  induction n with
  | zero=>exact fun _=>⟨1,by decide,fun j hj=>by omega⟩
  | succ n ih =>
   intro hn
   obtain ⟨P,q1,q2⟩:=ih (by omega)
   refine ⟨P * U n (p n),Int.mul_ne_zero q1 (hD n (by omega)),fun j hj=>?_⟩
   by_cases e : j = n
   ·subst e; exact ⟨P,Int.mul_comm _ _⟩
   ·exact Int.dvd_mul_of_dvd_left (q2 j (by omega))
 obtain ⟨P,hP,hdv⟩:=prod k (Nat.le_refl _)
 have hq : ∀ j,∃ q,j < k→P = q * U j (p j):=fun j=>by
  by_cases hj : j < k
  ·obtain ⟨q,hq⟩:=hdv j hj
   exact ⟨q,fun _=>by rw [hq,Int.mul_comm]⟩
  ·exact ⟨0,fun h=>absurd h hj⟩
 have hq:=Classical.axiomOfChoice hq
 obtain ⟨q,hq⟩:=hq
 have hz:=h.aQQ (v:=fun x=>P * M i x - KS k fun j=>(M i (p j) * q j) * U j x) (Sp.sub (Sp.smul P (Sp.mem hi)) (Sp.KS k hU)) (fun l hl=>by
  have : ∀ n,n ≤ k→(KS n fun j=>(M i (p j) * q j) * U j (p l)) = if l < n then P * M i (p l) else 0:=by
   intro n
   induction n with
   | zero=>intro _; rfl
   | succ n ih =>
    intro hn
    rw [KS,ih (by omega)]
    by_cases e : l = n
    ·subst e
     have e1 : ¬ l < l:=by omega
     have e2 : l < l + 1:=by omega
     rw [if_neg e1,if_pos e2]
     have:=hq l hl
     rw [this]
     grind
    ·rw [h0 l n hl (by omega) e]
     by_cases e1 : l < n
     ·have e2 : l < n + 1:=by omega
      rw [if_pos e1,if_pos e2]; simp
     ·have e2 : ¬ l < n + 1:=by omega
      rw [if_neg e1,if_neg e2]; simp
  rw [this k (Nat.le_refl _),if_pos hl]
  omega)
 have hx:=congrFun hz x
 have hx : P * M i x = KS k fun j=>(M i (p j) * q j) * U j x:=by
  omega
 have h1 : (P * M i x).natAbs ≤ P.natAbs * V1 k fun j=>U j x:=by
  rw [hx]
  refine Nat.le_trans (aAV _ _) (aPY fun j hj=>?_)
  rw [Int.natAbs_mul,Int.natAbs_mul]
  refine Nat.mul_le_mul_right _ ?_
  have h2 : (M i (p j)).natAbs ≤ (U j (p j)).natAbs:=by
   have h3 : (M j (p j)).natAbs ≤ (U j (p j)).natAbs:=by
    have:=h.dvd hj (hU j hj) (fun l hl=>h0 l j (by omega) hj (by omega))
    exact Nat.le_of_dvd (Nat.pos_of_ne_zero (by have:=hD j hj; omega)) (Int.natAbs_dvd_natAbs.2 this)
   rcases Nat.lt_trichotomy i j with g | g | g
   ·have:=h.red i j g hj
    omega
   ·subst g; exact h3
   ·have:=h.low i hi (p j) (h.inc j i g hi)
    omega
  have h4:=hq j hj
  have h5 : P.natAbs = (q j).natAbs * (U j (p j)).natAbs:=by rw [h4,Int.natAbs_mul]
  rw [h5,Nat.mul_comm]
  exact Nat.mul_le_mul_left _ h2
 rw [Int.natAbs_mul] at h1
 exact Nat.le_of_mul_le_mul_left h1 (by omega)
end Go.Lz
set_option linter.unusedSimpArgs false
set_option linter.unusedVariables false
namespace Go.PM
open Go Go.RowKit Go.Proofs Go.Lz
set_option maxRecDepth 100000
abbrev mM : Nat:=18
def Zr (n : Nat) (v : V) : List ByteArray:=(List.range n).map fun i=>Zn (v i)
theorem jH (n : Nat) (v : V) : (Zr n v).length = n:=by simp [Zr]
theorem CC {n i : Nat} (v : V) (h : i < n) (d : ByteArray) : (Zr n v).getD i d = Zn (v i):=by simp [Zr,List.getD,h]
theorem yA {n : Nat} {u v : V} (h : ∀ i,i < n→u i = v i) : Zr n u = Zr n v:=by
 unfold Zr
 refine List.map_congr_left fun i hi=>?_
 rw [h i (List.mem_range.1 hi)]
theorem aNR {n : Nat} (u v : V) (t : Nat) (h : t < n) : (Zr n fun x=>if x < t then v x else u x).set t (Zn (v t)) = Zr n fun x=>if x < t + 1 then v x else u x:=by
 refine List.ext_getElem? fun i=>?_
 simp only [Zr,List.getElem?_set,List.length_map,List.length_range,List.getElem?_map]
 by_cases e : t = i
 ·subst e
  simp [h]
 ·rw [if_neg e]
  by_cases hi : i < n
  ·simp only [List.getElem?_range hi,Option.map_some]
   congr 2
   by_cases h1 : i < t
   ·rw [if_pos h1,if_pos (by omega)]
   ·rw [if_neg h1,if_neg (by omega)]
  ·have h1 : (List.range n)[i]? = none:=by simp; omega
   rw [h1]; rfl
theorem OE {α : Type} (A : List α) (j : Nat) (x d : α) (h : j < A.length) : (A.set j x).getD j d = x:=by simp [List.getD,h]
theorem getD_set_ne {α : Type} (A : List α) {j k : Nat} (x d : α) (h : j ≠ k) : (A.set j x).getD k d = A.getD k d:=by simp [List.getD,List.getElem?_set_ne h]
theorem QU {α : Type} {A : List α} {j : Nat} {x : α} (d : α) (h : A[j]? = some x) : A.getD j d = x:=by simp [List.getD,h]

structure Z0 (n : Nat) (u v : V) (q : Int) : Prop where
 mul : ∀ i,i < n→Lib.nDigits q.natAbs + Lib.nDigits (v i).natAbs ≤ mM
 sub : ∀ i,i < n→Lib.nDigits (u i).natAbs ≤ mM
theorem WT (a b : Nat) : Lib.nDigits (a * b) ≤ Lib.nDigits a + Lib.nDigits b:=by
 have h1:=kL a
 have h2:=kL b
 have p1:=nDigits_pos a
 have p2:=nDigits_pos b
 have h4 : a * b < 10 ^ Lib.nDigits a * 10 ^ Lib.nDigits b:=Nat.mul_lt_mul'' h1 h2
 rw [← Nat.pow_add] at h4
 obtain ⟨k,hk⟩ : ∃ k,Lib.nDigits a + Lib.nDigits b = k + 1:=⟨Lib.nDigits a + Lib.nDigits b - 1,by omega⟩
 rw [hk] at h4 ⊢
 exact j7 h4
theorem L8 {α : Type} {pre l : List α} {o t : Nat} (h : pre.length = o) (d : α) : (pre ++ l).getD (o + t) d = l.getD t d:=by
 subst h
 simp [List.getD,List.getElem?_append_right (Nat.le_add_right _ _)]
theorem aQN {α : Type} {pre l : List α} {o t : Nat} (h : pre.length = o) (x : α) : (pre ++ l).set (o + t) x = pre ++ l.set t x:=by
 subst h
 rw [List.set_append_right _ _ (Nat.le_add_right _ _)]
 congr 2
 omega
theorem aRQ {A : List (List ByteArray)} {J K o n : Nat} {u v : V} {q : Int} {pre pre' : List ByteArray} (hn : n < 1048576) (hne : J ≠ K) (hp : pre.length = o) (hp' : pre'.length = o) (hJ : A[J]? = some (pre ++ Zr n u)) (hK : A[K]? = some (pre' ++ Zr n v)) (ok : Z0 n u v q) :
  jU ((J,o,n),Zn q,(K,o,n),(n : Int),0,A,()) = some (A.set J (pre ++ Zr n fun x=>u x - q * v x),()):=by
 have hJl : J < A.length:=(List.getElem?_eq_some_iff.1 hJ).1
 have key:=cZ (step:=gR) (N:=2 ^ 64)
  (fun t=>((J,o,n),Zn q,(K,o,n),(n : Int),(t : Int),A.set J (pre ++ Zr n fun x=>if x < t then u x - q * v x else u x),())) n (A.set J (pre ++ Zr n fun x=>u x - q * v x),()) (by omega) (fun t ht=>?_) ?_
 ·have h0 : (A.set J (pre ++ Zr n fun x=>if x < 0 then u x - q * v x else u x)) = A:=by
   have : Zr n (fun x=>if x < 0 then u x - q * v x else u x) = Zr n u:=yA fun i _=>by simp
   rw [this]
   refine List.ext_getElem? fun i=>?_
   by_cases e : J = i
   ·subst e; rw [List.getElem?_set_self hJl,hJ]
   ·rw [List.getElem?_set_ne e]
  simp only [h0] at key
  exact key
 ·have hg : (A.set J (pre ++ Zr n fun x=>if x < t then u x - q * v x else u x)).getD J [] = pre ++ Zr n fun x=>if x < t then u x - q * v x else u x:=OE _ _ _ _ hJl
  have hk : (A.set J (pre ++ Zr n fun x=>if x < t then u x - q * v x else u x)).getD K [] = pre' ++ Zr n v:=by rw [getD_set_ne _ _ _ hne]; exact QU _ hK
  have e1 : ltI (t : Int) (n : Int) = true:=by rw [aN]; simp; omega
  have e2 : aQ (t : Int) n = true:=by rw [bA]; simp; omega
  have e3 : (o + ((t : Nat) : Int).toNat) * 1 = o + t:=by simp
  have e4 : eU (A.set J (pre ++ Zr n fun x=>if x < t then u x - q * v x else u x)) J = o + n:=by rw [eU,hg,List.length_append,jH,hp]
  have e5 : eU (A.set J (pre ++ Zr n fun x=>if x < t then u x - q * v x else u x)) K = o + n:=by rw [eU,hk,List.length_append,jH,hp']
  have e6 : Nat.blt (o + t) (o + n) = true:=by rw [cY]; simpa using ht
  have e7 : gI (A.set J (pre ++ Zr n fun x=>if x < t then u x - q * v x else u x)) J (o + t) ByteArray.empty = Zn (u t):=by
   rw [gI,hg,L8 hp,CC _ ht]; simp
  have e8 : gI (A.set J (pre ++ Zr n fun x=>if x < t then u x - q * v x else u x)) K (o + t) ByteArray.empty = Zn (v t):=by rw [gI,hk,L8 hp',CC _ ht]
  have e9 : wB (A.set J (pre ++ Zr n fun x=>if x < t then u x - q * v x else u x)) J (o + t) (Zn (u t - q * v t)) = A.set J (pre ++ Zr n fun x=>if x < t + 1 then u x - q * v x else u x):=by
   rw [wB,hg,List.set_set,aQN hp]
   exact congrArg (fun l=>A.set J (pre ++ l)) (aNR u (fun x=>u x - q * v x) t ht)
  have m1:=aGO q (v t) (ok.mul t ht)
  have m2:=aE8 (u t) (q * v t) (ok.sub t ht) (by rw [Int.natAbs_mul]; exact Nat.le_trans (WT _ _) (ok.mul t ht))
  have e10:=c7 t (by omega)
  simp only [gR,e1,cond_true,e2,e3,e5,e6,e4,e7,e8,m1,aH,m2,e9,e10]
 ·have e1 : ltI (n : Int) (n : Int) = false:=by rw [aN]; simp
  simp only [gR,e1,cond_false]
  have : Zr n (fun x=>if x < n then u x - q * v x else u x) = Zr n fun x=>u x - q * v x:=yA fun i hi=>by simp [hi]
  rw [this]
theorem aK9 {α : Type} {A : List α} {J : Nat} {x : α} (h : A[J]? = some x) : A.set J x = A:=by
 refine List.ext_getElem? fun i=>?_
 by_cases e : J = i
 ·subst e; rw [List.getElem?_set_self (List.getElem?_eq_some_iff.1 h).1,h]
 ·rw [List.getElem?_set_ne e]
theorem a3A {A : List (List ByteArray)} {J K o n : Nat} {u v : V} {q : Int} {pre pre' : List ByteArray} (hn : n < 1048576) (hne : J ≠ K) (hp : pre.length = o) (hp' : pre'.length = o) (hJ : A[J]? = some (pre ++ Zr n u)) (hK : A[K]? = some (pre' ++ Zr n v)) (ok : Z0 n u v q) :
  eV () ((J,o,n),Zn q,(K,o,n),()) A = some ((),A.set J (pre ++ Zr n fun x=>u x - q * v x)):=by
 unfold eV
 simp only [wX]
 by_cases hq : q = 0
 ·subst hq
  simp only [decide_true,cond_true]
  have : Zr n (fun x=>u x - 0 * v x) = Zr n u:=yA fun i _=>by simp
  rw [this,aK9 hJ]
 ·simp only [hq,decide_false,cond_false,aRQ hn hne hp hp' hJ hK ok,aH]
theorem negate_eq {A : List (List ByteArray)} {J o n : Nat} {u : V} {pre : List ByteArray} (hn : n < 1048576) (hp : pre.length = o) (hJ : A[J]? = some (pre ++ Zr n u)) (ok : ∀ i,i < n→Lib.nDigits (u i).natAbs ≤ mM) :
  dU () ((J,o,n),()) A = some ((),A.set J (pre ++ Zr n fun x=>-(u x))):=by
 have hJl : J < A.length:=(List.getElem?_eq_some_iff.1 hJ).1
 have key:=cZ (step:=fS) (N:=2 ^ 64)
  (fun t=>((J,o,n),(J,o,n),(n : Int),(t : Int),A.set J (pre ++ Zr n fun x=>if x < t then -(u x) else u x),())) n (A.set J (pre ++ Zr n fun x=>-(u x)),()) (by omega) (fun t ht=>?_) ?_
 ·have h0 : (A.set J (pre ++ Zr n fun x=>if x < 0 then -(u x) else u x)) = A:=by
   have : Zr n (fun x=>if x < 0 then -(u x) else u x) = Zr n u:=yA fun i _=>by simp
   rw [this,aK9 hJ]
  simp only [h0] at key
  unfold dU iO
  have e0 : ((0 : Nat) : Int) = 0:=rfl
  rw [e0] at key
  simp only [key,aH]
 ·have hg : (A.set J (pre ++ Zr n fun x=>if x < t then -(u x) else u x)).getD J [] = pre ++ Zr n fun x=>if x < t then -(u x) else u x:=OE _ _ _ _ hJl
  have e1 : ltI (t : Int) (n : Int) = true:=by rw [aN]; simp; omega
  have e2 : aQ (t : Int) n = true:=by rw [bA]; simp; omega
  have e3 : (o + ((t : Nat) : Int).toNat) * 1 = o + t:=by simp
  have e4 : eU (A.set J (pre ++ Zr n fun x=>if x < t then -(u x) else u x)) J = o + n:=by rw [eU,hg,List.length_append,jH,hp]
  have e6 : Nat.blt (o + t) (o + n) = true:=by rw [cY]; simpa using ht
  have e7 : gI (A.set J (pre ++ Zr n fun x=>if x < t then -(u x) else u x)) J (o + t) ByteArray.empty = Zn (u t):=by
   rw [gI,hg,L8 hp,CC _ ht]; simp
  have e9 : wB (A.set J (pre ++ Zr n fun x=>if x < t then -(u x) else u x)) J (o + t) (Zn (-(u t))) = A.set J (pre ++ Zr n fun x=>if x < t + 1 then -(u x) else u x):=by
   rw [wB,hg,List.set_set,aQN hp]
   exact congrArg (fun l=>A.set J (pre ++ l)) (aNR u (fun x=>-(u x)) t ht)
  have m1:=aF2 (u t) (Nat.lt_of_le_of_lt (ok t ht) (by decide))
  have e10:=c7 t (by omega)
  simp only [fS,e1,cond_true,e2,e3,e6,e4,e7,m1,aH,e9,e10]
 ·have e1 : ltI (n : Int) (n : Int) = false:=by rw [aN]; simp
  simp only [fS,e1,cond_false]
  have : Zr n (fun x=>if x < n then -(u x) else u x) = Zr n fun x=>-(u x):=yA fun i hi=>by simp [hi]
  rw [this]
end Go.PM
set_option linter.unusedSimpArgs false
set_option linter.unusedVariables false
namespace Go.PM
open Go Go.RowKit Go.Proofs Go.Lz
set_option maxRecDepth 100000
theorem VM {σ τ : Type} {step : σ→Option (σ ⊕ τ)} {N : Nat} (m : Nat) (I : Nat→σ→Prop) (Q : τ→Prop) (hN : m < N) (x : σ) (h0 : I 0 x) (h : ∀ t x,t < m→I t x→∃ y,step x = some (.inl y)∧I (t + 1) y) (he : ∀ x,I m x→∃ z,step x = some (.inr z)∧Q z) :
  ∃ z,bM step N x = some z∧Q z:=by
 have key : ∀ (j t : Nat) (x : σ) (N : Nat),t + j = m→j < N→I t x→∃ z,bM step N x = some z∧Q z:=by
  intro j
  induction j with
  | zero =>
   intro t x N ht hN hI
   have : t = m:=by omega
   subst this
   obtain ⟨N,rfl⟩ : ∃ M,N = M + 1:=⟨N - 1,by omega⟩
   obtain ⟨z,h1,h2⟩:=he x hI
   exact ⟨z,by rw [c8,h1],h2⟩
  | succ j ih =>
   intro t x N ht hN hI
   obtain ⟨N,rfl⟩ : ∃ M,N = M + 1:=⟨N - 1,by omega⟩
   obtain ⟨y,h1,h2⟩:=h t x (by omega) hI
   obtain ⟨z,h3,h4⟩:=ih (t + 1) y N (by omega) (by omega) h2
   exact ⟨z,by rw [c8,h1]; exact h3,h4⟩
 exact key m 0 x N (by omega) hN h0

structure mT (o k n : Nat) (m : List (Nat×Nat×Nat)) (A : List (List ByteArray)) (J : Nat→Nat) (M : Nat→V) : Prop where
 ml : m = (List.range k).map fun i=>(J i,o,n)
 at_ : ∀ i,i < k→∃ pre : List ByteArray,pre.length = o∧A[J i]? = some (pre ++ Zr n (M i))
 inj : ∀ i j,i < k→j < k→J i = J j→i = j
section
variable {o k n : Nat} {m : List (Nat×Nat×Nat)} {A : List (List ByteArray)} {J : Nat→Nat} {M : Nat→V}
theorem mT.len (h : mT o k n m A J M) : m.length = k:=by rw [h.ml]; simp
theorem mT.get (h : mT o k n m A J M) {i : Nat} (hi : i < k) : m.getD i (0,0,0) = (J i,o,n):=by rw [h.ml]; simp [List.getD,hi]
theorem mT.eU (h : mT o k n m A J M) {i : Nat} (hi : i < k) : eU A (J i) = o + n:=by
 obtain ⟨pre,h1,h2⟩:=h.at_ i hi
 rw [PM.eU,QU _ h2,List.length_append,jH,h1]
theorem mT.gI (h : mT o k n m A J M) {i c : Nat} (hi : i < k) (hc : c < n) : gI A (J i) (o + c) ByteArray.empty = Zn (M i c):=by
 obtain ⟨pre,h1,h2⟩:=h.at_ i hi
 rw [PM.gI,QU _ h2,L8 h1,CC _ hc]
theorem mT.QV (h : mT o k n m A J M) {i : Nat} (hi : i < k) (r : V) {pre : List ByteArray} (hp : pre.length = o) : mT o k n m (A.set (J i) (pre ++ Zr n r)) J (up M i r) where
 ml:=h.ml
 at_:=fun j hj=>by
  by_cases e : j = i
  ·subst e
   obtain ⟨pre',h1,h2⟩:=h.at_ j hj
   exact ⟨pre,hp,by rw [List.getElem?_set_self (List.getElem?_eq_some_iff.1 h2).1,D4]⟩
  ·obtain ⟨pre',h1,h2⟩:=h.at_ j hj
   exact ⟨pre',h1,by rw [List.getElem?_set_ne (fun e'=>e (h.inj i j hi hj e').symm),vD _ _ e]; exact h2⟩
 inj:=h.inj
theorem mT.less (h : mT o k n m A J M) (hn : n < 1048576) {i d : Nat} (hi : i < k) (hd : d < k) (hne : i ≠ d) (q : Int) (ok : Z0 n (M i) (M d) q) :
  ∃ A',eV () ((J i,o,n),Zn q,(J d,o,n),()) A = some ((),A')∧mT o k n m A' J (up M i fun x=>M i x - q * M d x):=by
 obtain ⟨pre,h1,h2⟩:=h.at_ i hi
 obtain ⟨pre',h3,h4⟩:=h.at_ d hd
 exact ⟨_,a3A hn (fun e=>hne (h.inj i d hi hd e)) h1 h3 h2 h4 ok,h.QV hi _ h1⟩
theorem mT.neg (h : mT o k n m A J M) (hn : n < 1048576) {i : Nat} (hi : i < k) (ok : ∀ x,x < n→Lib.nDigits (M i x).natAbs ≤ mM) :
  ∃ A',dU () ((J i,o,n),()) A = some ((),A')∧mT o k n m A' J (up M i fun x=>-(M i x)):=by
 obtain ⟨pre,h1,h2⟩:=h.at_ i hi
 exact ⟨_,negate_eq hn h1 h2 ok,h.QV hi _ h1⟩
theorem mT.swap (h : mT o k n m A J M) {a b : Nat} (ha : a < k) (hb : b < k) : mT o k n ((m.set a (J b,o,n)).set b (J a,o,n)) A (fun i=>if i = a then J b else if i = b then J a else J i) (swp M a b) where
 ml:=by
  refine List.ext_getElem? fun i=>?_
  have hl:=h.len
  rw [List.getElem?_map]
  by_cases e1 : i = b
  ·subst e1
   rw [List.getElem?_set_self (by simp; omega),List.getElem?_range hb]
   by_cases e2 : i = a
   ·subst e2; simp
   ·simp [e2]
  ·rw [List.getElem?_set_ne (Ne.symm e1)]
   by_cases e2 : i = a
   ·subst e2
    rw [List.getElem?_set_self (by omega),List.getElem?_range ha]
    simp
   ·rw [List.getElem?_set_ne (Ne.symm e2),h.ml,List.getElem?_map]
    by_cases hi : i < k
    ·rw [List.getElem?_range hi]
     simp [e1,e2]
    ·have : (List.range k)[i]? = none:=by simp; omega
     rw [this]; rfl
 at_:=fun i hi=>by
  by_cases e1 : i = a
  ·subst e1
   simp only [if_true,swp]
   exact h.at_ b hb
  ·by_cases e2 : i = b
   ·subst e2
    simp only [e1,if_false,if_true,swp]
    exact h.at_ a ha
   ·simp only [e1,e2,if_false,swp]
    exact h.at_ i hi
 inj:=fun i j hi hj e=>by
  have key : ∀ i,i < k→(if i = a then J b else if i = b then J a else J i) = J (if i = a then b else if i = b then a else i):=fun i _=>by
   by_cases e1 : i = a
   ·simp [e1]
   ·by_cases e2 : i = b
    ·subst e2; simp [e1]
    ·simp [e1,e2]
  simp only [key i hi,key j hj] at e
  have lt : ∀ i,i < k→(if i = a then b else if i = b then a else i) < k:=fun i hi=>by
   split
   ·exact hb
   ·split
    ·exact ha
    ·exact hi
  have:=h.inj _ _ (lt i hi) (lt j hj) e
  by_cases e1 : i = a <;> by_cases e2 : j = a <;> by_cases e3 : i = b <;> by_cases e4 : j = b <;> simp_all <;> omega
end
def atv : Option Nat→Int
 | none=>-1
 | some a=>a
structure aZR (M : Nat→V) (c d t : Nat) (r : Option Nat) : Prop where
 none : r = Option.none→∀ i,d ≤ i→i < d + t→M i c = 0
 some : ∀ a,r = Option.some a→d ≤ a∧a < d + t∧M a c ≠ 0∧∀ i,d ≤ i→i < d + t→M i c ≠ 0→(M a c).natAbs ≤ (M i c).natAbs
def Cm (k n : Nat) (M : Nat→V) : Prop:=∀ i,i < k→∀ x,x < n→Lib.nDigits (M i x).natAbs ≤ mM
theorem aMG {o k n : Nat} {m : List (Nat×Nat×Nat)} {A : List (List ByteArray)} {J : Nat→Nat} {M : Nat→V} (h : mT o k n m A J M) (hk : k < 1048576) (hc : Cm k n M) {c d : Nat} (hcn : c < n) (hd : d ≤ k) (cols : Int) :
  ∃ r,fI (m,cols,(d : Int),(c : Int),-1,(d : Int),A,()) = some (m,cols,(d : Int),(c : Int),atv r,A,())∧aZR M c d (k - d) r:=by
 have:=VM (step:=bV) (N:=2 ^ 64) (k - d)
  (fun t x=>∃ r,x = (m,cols,(d : Int),(c : Int),atv r,((d + t : Nat) : Int),A,())∧aZR M c d t r)
  (fun z=>∃ r,z = (m,cols,(d : Int),(c : Int),atv r,A,())∧aZR M c d (k - d) r) (by omega) (m,cols,(d : Int),(c : Int),-1,(d : Int),A,())
  ⟨none,rfl,⟨fun _ i h1 h2=>by omega,fun a ha=>by cases ha⟩⟩ ?_ ?_
 ·obtain ⟨z,h1,r,rfl,h2⟩:=this
  exact ⟨r,h1,h2⟩
 ·rintro t x ht ⟨r,rfl,hr⟩
  have hi : d + t < k:=by omega
  have e1 : ltI ((d + t : Nat) : Int) (m.length : Int) = true:=by rw [aN,h.len]; simp; omega
  have e2 : aQ ((d + t : Nat) : Int) m.length = true:=by rw [bA,h.len]; simp; omega
  have e3 : (((d + t : Nat) : Int)).toNat = d + t:=Int.toNat_natCast _
  have e4 : Nat.blt (d + t) m.length = true:=by rw [cY,h.len]; simpa using hi
  have e5 : aQ (c : Int) n = true:=by rw [bA]; simp; omega
  have e6 : (o + ((c : Nat) : Int).toNat) * 1 = o + c:=by simp
  have e7 : Nat.blt (o + c) (o + n) = true:=by rw [cY]; simpa using hcn
  have e8:=c7 (d + t) (by omega)
  have e9:=h.get hi
  have e10:=h.eU hi
  have e11:=h.gI hi hcn
  by_cases hz : M (d + t) c = 0
  ·refine ⟨_,?_,r,rfl,⟨fun hr0 i h1 h2=>?_,fun a ha=>?_⟩⟩
   ·have e12 : eqS (Zn (M (d + t) c)) (ByteArray.mk #[48]) = true:=by rw [wX]; simp [hz]
    simp only [bV,e1,e2,e3,e4,e9,e5,e6,e10,e7,e11,e12,e8,cond_true,Bool.not_true,cond_false]
    rfl
   ·by_cases e : i = d + t
    ·subst e; exact hz
    ·exact hr.none hr0 i h1 (by omega)
   ·obtain ⟨q1,q2,q3,q4⟩:=hr.some a ha
    refine ⟨q1,by omega,q3,fun i h1 h2 h3=>?_⟩
    by_cases e : i = d + t
    ·subst e; exact absurd hz h3
    ·exact q4 i h1 (by omega) h3
  ·have e12 : eqS (Zn (M (d + t) c)) (ByteArray.mk #[48]) = false:=by rw [wX]; simp [hz]
   cases r with
   | none =>
    have e13 : ltI (atv none) 0 = true:=by decide
    refine ⟨_,?_,some (d + t),rfl,⟨fun hr0=>by (cases hr0),fun a ha=>?_⟩⟩
    ·simp only [bV,e1,e2,e3,e4,e9,e5,e6,e10,e7,e11,e12,e8,cond_true,Bool.not_false,e13]
     rfl
    ·obtain rfl:=Option.some.inj ha
     refine ⟨by omega,by omega,hz,fun i h1 h2 h3=>?_⟩
     by_cases e : i = d + t
     ·subst e; exact Nat.le_refl _
     ·exact absurd (hr.none rfl i h1 (by omega)) h3
   | some a =>
    obtain ⟨q1,q2,q3,q4⟩:=hr.some a rfl
    have ha : a < k:=by omega
    have e13 : ltI (atv (some a)) 0 = false:=by rw [aN]; exact decide_eq_false (by unfold atv; dsimp only; omega)
    have f2 : aQ (atv (some a)) m.length = true:=by rw [bA,h.len]; simp [atv]; omega
    have f3 : (atv (some a)).toNat = a:=by simp [atv]
    have f4 : Nat.blt a m.length = true:=by rw [cY,h.len]; simpa using ha
    have f9:=h.get ha
    have f10:=h.eU ha
    have f11:=h.gI ha hcn
    have c1:=aFW (M (d + t) c)
    have c2:=aFW (M a c)
    have c3:=aDR (M (d + t) c).natAbs (M a c).natAbs (Nat.lt_of_le_of_lt (hc _ hi c hcn) (by decide)) (Nat.lt_of_le_of_lt (hc _ ha c hcn) (by decide))
    by_cases hl : (M (d + t) c).natAbs < (M a c).natAbs
    ·have c4 : ltI (QO (M (d + t) c).natAbs (M a c).natAbs) 0 = true:=by rw [aN,QO,if_pos hl]; rfl
     refine ⟨_,?_,some (d + t),rfl,⟨fun hr0=>by (cases hr0),fun b hb=>?_⟩⟩
     ·simp only [bV,e1,e2,e3,e4,e9,e5,e6,e10,e7,e11,e12,e8,cond_true,Bool.not_false,e13,cond_false,f2,f3,f4,f9,f10,f11,c1,c2,c3,c4,aH]
      rfl
     ·obtain rfl:=Option.some.inj hb
      refine ⟨by omega,by omega,hz,fun i h1 h2 h3=>?_⟩
      by_cases e : i = d + t
      ·subst e; exact Nat.le_refl _
      ·have:=q4 i h1 (by omega) h3; omega
    ·have c4 : ltI (QO (M (d + t) c).natAbs (M a c).natAbs) 0 = false:=by
      rw [aN,QO,if_neg hl]; split <;> rfl
     refine ⟨_,?_,some a,rfl,⟨fun hr0=>by (cases hr0),fun b hb=>?_⟩⟩
     ·simp only [bV,e1,e2,e3,e4,e9,e5,e6,e10,e7,e11,e12,e8,cond_true,Bool.not_false,e13,cond_false,f2,f3,f4,f9,f10,f11,c1,c2,c3,c4,aH]
      rfl
     ·obtain rfl:=Option.some.inj hb
      refine ⟨q1,by omega,q3,fun i h1 h2 h3=>?_⟩
      by_cases e : i = d + t
      ·subst e; omega
      ·exact q4 i h1 (by omega) h3
 ·rintro x ⟨r,rfl,hr⟩
  have e1 : ltI ((d + (k - d) : Nat) : Int) (m.length : Int) = false:=by rw [aN,h.len]; simp; omega
  refine ⟨_,?_,r,rfl,hr⟩
  simp only [bV,e1,cond_false]
end Go.PM
set_option linter.unusedSimpArgs false
set_option linter.unusedVariables false
namespace Go.PM
open Go Go.RowKit Go.Proofs Go.Lz
set_option maxRecDepth 100000
theorem DO {T : Nat} (hT : 2 * Lib.nDigits (T + 1) ≤ mM) {a : Nat} (h : a ≤ T + 1) : 2 * Lib.nDigits a ≤ mM:=Nat.le_trans (Nat.mul_le_mul_left 2 (qX h)) hT
theorem R0 {a m : Int} {T : Nat} (h : a.natAbs ≤ T) (hm : m ≠ 0) : (a.fdiv m).natAbs ≤ T + 1:=by
 have h1:=aMN a m hm
 have h2 : 1 ≤ m.natAbs:=by omega
 have h3 : (a.fdiv m).natAbs * m.natAbs ≤ (T + 1) * m.natAbs:=by
  rw [Nat.succ_mul]
  have : T * 1 ≤ T * m.natAbs:=Nat.mul_le_mul_left _ h2
  omega
 exact Nat.le_of_mul_le_mul_right h3 (by omega)
theorem aGN {T n : Nat} (hT : 2 * Lib.nDigits (T + 1) ≤ mM) {u v : V} {q : Int} (hu : ∀ x,x < n→(u x).natAbs ≤ T) (hv : ∀ x,x < n→(v x).natAbs ≤ T) (hq : q.natAbs ≤ T + 1) : Z0 n u v q:=by
 constructor
 ·intro i hi
  have h1:=DO hT hq
  have h2:=DO hT (Nat.le_succ_of_le (hv i hi))
  omega
 ·intro i hi
  have h2:=DO hT (Nat.le_succ_of_le (hu i hi))
  omega
def Big (k n : Nat) (M : Nat→V) (T : Nat) : Prop:=∀ i,i < k→∀ x,x < n→(M i x).natAbs ≤ T
theorem Big.cm {k n T : Nat} {M : Nat→V} (h : Big k n M T) (hT : 2 * Lib.nDigits (T + 1) ≤ mM) : Cm k n M:=fun i hi x hx=>by
 have:=DO hT (Nat.le_succ_of_le (h i hi x hx))
 omega

section
variable {o k n d c : Nat} {m : List (Nat×Nat×Nat)} {A : List (List ByteArray)} {J : Nat→Nat} {M M0 : Nat→V} {p : Nat→Nat} {T : Nat}
def rdT (M : Nat→V) (d c t : Nat) : Nat→V:=fun i=>if d < i∧i < d + 1 + t then (fun x=>M i x - (M i c).fdiv (M d c) * M d x) else M i
theorem aO2 (h : mT o k n m A J M) (hk : k < 1048576) (hn : n < 1048576) (f : Fo k M0 M d c p) (hd : d < k) (hcn : c < n) (hm : M d c ≠ 0) (hB : Big k n M T) (hT : 2 * Lib.nDigits (T + 1) ≤ mM) (cols : Int) :
  ∃ A' M' rest,iA (m,cols,(d : Int),(c : Int),false,aE .i64 ((d : Int) + 1),A,()) = some (m,cols,(d : Int),(c : Int),rest,A',())∧mT o k n m A' J M'∧Rd k M M' d c∧Fo k M0 M' d c p∧(∀ i,i < d→M' i = M i) ∧
   (rest = true→∃ i,d < i∧i < k∧M' i c ≠ 0)∧(rest = false→∀ i,d < i→i < k→M' i c = 0):=by
 have hat : ∀ t i,d < i→i < d + 1 + t→rdT M d c t i c = (M i c).fmod (M d c):=fun t i h1 h2=>by
  unfold rdT
  rw [if_pos ⟨h1,h2⟩]
  exact SC _ _
 have hd0 : ∀ t,rdT M d c t d = M d:=fun t=>by unfold rdT; rw [if_neg (by omega)]
 have:=VM (step:=cS) (N:=2 ^ 64) (k - (d + 1))
  (fun t x=>∃ A' rest,x = (m,cols,(d : Int),(c : Int),rest,((d + 1 + t : Nat) : Int),A',())∧mT o k n m A' J (rdT M d c t)∧Fo k M0 (rdT M d c t) d c p∧(rest = true→∃ i,d < i∧i < d + 1 + t∧(M i c).fmod (M d c) ≠ 0)∧(rest = false→∀ i,d < i→i < d + 1 + t→(M i c).fmod (M d c) = 0))
  (fun z=>∃ A' rest,z = (m,cols,(d : Int),(c : Int),rest,A',())∧mT o k n m A' J (rdT M d c (k - (d + 1)))∧Fo k M0 (rdT M d c (k - (d + 1))) d c p∧(rest = true→∃ i,d < i∧i < k∧(M i c).fmod (M d c) ≠ 0)∧(rest = false→∀ i,d < i→i < k→(M i c).fmod (M d c) = 0))
  (by omega) (m,cols,(d : Int),(c : Int),false,aE .i64 ((d : Int) + 1),A,()) ?_ ?_ ?_
 ·obtain ⟨z,h1,A',rest,rfl,h2,h3,h4,h5⟩:=this
  refine ⟨A',_,rest,h1,h2,⟨hd0 _,fun i g1 g2=>?_⟩,h3,fun i hi=>by unfold rdT; rw [if_neg (by omega)],fun hr=>?_,fun hr i g1 g2=>?_⟩
  ·unfold rdT; rw [if_pos ⟨g1,by omega⟩]
  ·obtain ⟨i,g1,g2,g3⟩:=h4 hr
   exact ⟨i,g1,g2,by rw [hat _ i g1 (by omega)]; exact g3⟩
  ·rw [hat _ i g1 (by omega)]; exact h5 hr i g1 g2
 ·have e : rdT M d c 0 = M:=by
   funext i; unfold rdT; rw [if_neg (by omega)]
  refine ⟨A,false,?_,by rw [e]; exact h,by rw [e]; exact f,fun hr=>(by cases hr),fun _ i g1 g2=>by omega⟩
  rw [c7 d (by omega)]
 ·rintro t x ht ⟨A',rest,rfl,hL,hF,hr1,hr2⟩
  have hi : d + 1 + t < k:=by omega
  have hMi : rdT M d c t (d + 1 + t) = M (d + 1 + t):=by unfold rdT; rw [if_neg (by omega)]
  have e1 : ltI ((d + 1 + t : Nat) : Int) (m.length : Int) = true:=by rw [aN,h.len]; exact decide_eq_true (by omega)
  have e2 : aQ ((d + 1 + t : Nat) : Int) m.length = true:=by rw [bA,h.len]; exact decide_eq_true (by omega)
  have e3 : (((d + 1 + t : Nat) : Int)).toNat = d + 1 + t:=Int.toNat_natCast _
  have e4 : Nat.blt (d + 1 + t) m.length = true:=by rw [cY,h.len]; simpa using hi
  have e5 : aQ (c : Int) n = true:=by rw [bA]; exact decide_eq_true (by omega)
  have e6 : (o + ((c : Nat) : Int).toNat) * 1 = o + c:=by simp
  have e7 : Nat.blt (o + c) (o + n) = true:=by rw [cY]; simpa using hcn
  have e8:=c7 (d + 1 + t) (by omega)
  have e9:=hL.get hi
  have e10:=hL.eU hi
  have e11:=hL.gI hi hcn
  rw [hMi] at e11
  have f2 : aQ ((d : Nat) : Int) m.length = true:=by rw [bA,h.len]; exact decide_eq_true (by omega)
  have f3 : ((d : Nat) : Int).toNat = d:=Int.toNat_natCast _
  have f4 : Nat.blt d m.length = true:=by rw [cY,h.len]; simpa using hd
  have f9:=hL.get hd
  have f10:=hL.eU hd
  have f11:=hL.gI hd hcn
  rw [hd0] at f11
  have b1:=hB _ hi c hcn
  have b2:=hB _ hd c hcn
  have k1:=DO hT (Nat.le_succ_of_le b1)
  have k2:=DO hT (Nat.le_succ_of_le b2)
  have c1:=HY (M (d + 1 + t) c) (M d c) (by have : mM = 18:=rfl; omega) (by have : mM = 18:=rfl; omega) hm
  obtain ⟨A2,c2,c3⟩:=hL.less hn hi hd (by omega) ((M (d + 1 + t) c).fdiv (M d c)) (by
   rw [hMi,hd0]
   exact aGN hT (hB _ hi) (hB _ hd) (R0 b1 hm))
  have hup : up (rdT M d c t) (d + 1 + t) (fun x=>rdT M d c t (d + 1 + t) x - (M (d + 1 + t) c).fdiv (M d c) * rdT M d c t d x) = rdT M d c (t + 1):=by
   funext i
   by_cases e : i = d + 1 + t
   ·subst e
    rw [D4,hMi,hd0]
    unfold rdT
    rw [if_pos (by omega)]
   ·rw [vD _ _ e]
    unfold rdT
    by_cases g : d < i∧i < d + 1 + t
    ·rw [if_pos g,if_pos (by omega)]
    ·rw [if_neg g,if_neg (by omega)]
  rw [hup] at c3
  have hF' : Fo k M0 (rdT M d c (t + 1)) d c p:=by
   rw [← hup]
   exact hF.less _ (by omega) hi
  have c4 : eqS (Zn ((M (d + 1 + t) c).fmod (M d c))) (ByteArray.mk #[48]) = decide ((M (d + 1 + t) c).fmod (M d c) = 0):=wX _
  have e8' : ((d + 1 + t + 1 : Nat) : Int) = ((d + 1 + (t + 1) : Nat) : Int):=by omega
  cases rest with
  | true =>
   refine ⟨_,?_,A2,true,rfl,c3,hF',fun _=>?_,fun hr=>(by cases hr)⟩
   ·simp only [cS,e1,e2,e3,e4,e9,e5,e6,e10,e7,e11,f2,f3,f4,f9,f10,f11,c1,c2,aH,cond_true,e8,e8']
   ·obtain ⟨i,g1,g2,g3⟩:=hr1 rfl
    exact ⟨i,g1,by omega,g3⟩
  | false =>
   by_cases hz : (M (d + 1 + t) c).fmod (M d c) = 0
   ·have c5 : eqS (Zn ((M (d + 1 + t) c).fmod (M d c))) (ByteArray.mk #[48]) = true:=by rw [c4]; exact decide_eq_true hz
    refine ⟨_,?_,A2,false,rfl,c3,hF',fun hr=>(by cases hr),fun _ i g1 g2=>?_⟩
    ·simp only [cS,e1,e2,e3,e4,e9,e5,e6,e10,e7,e11,f2,f3,f4,f9,f10,f11,c1,c2,c5,aH,cond_true,cond_false,e8,e8',Bool.not_true]
    ·by_cases e : i = d + 1 + t
     ·subst e; exact hz
     ·exact hr2 rfl i g1 (by omega)
   ·have c5 : eqS (Zn ((M (d + 1 + t) c).fmod (M d c))) (ByteArray.mk #[48]) = false:=by rw [c4]; exact decide_eq_false hz
    refine ⟨_,?_,A2,true,rfl,c3,hF',fun _=>⟨d + 1 + t,by omega,by omega,hz⟩,fun hr=>(by cases hr)⟩
    simp only [cS,e1,e2,e3,e4,e9,e5,e6,e10,e7,e11,f2,f3,f4,f9,f10,f11,c1,c2,c5,aH,cond_true,cond_false,e8,e8',Bool.not_false]
 ·rintro x ⟨A',rest,rfl,hL,hF,hr1,hr2⟩
  have e1 : ltI ((d + 1 + (k - (d + 1)) : Nat) : Int) (m.length : Int) = false:=by rw [aN,h.len]; exact decide_eq_false (by omega)
  refine ⟨_,?_,A',rest,rfl,hL,hF,fun hr=>?_,fun hr i g1 g2=>hr2 hr i g1 (by omega)⟩
  ·simp only [cS,e1,cond_false]
  ·obtain ⟨i,g1,g2,g3⟩:=hr1 hr
   exact ⟨i,g1,by omega,g3⟩
theorem aPD {E : Nat} (h : mT o k n m A J M) (hk : k < 1048576) (hn : n < 1048576) (f : Fp k M0 M d c p 0) (hcn : c < n) (hB : Big k n M T) (hE : ∀ i,i < d→∀ x,x < n→(M i x).natAbs ≤ E) (hET : E ≤ T) (hT : 2 * Lib.nDigits (T + 1) ≤ mM) (cols : Int) :
  ∃ A' M',bW (m,cols,(d : Int),(c : Int),(d : Int),0,A,()) = some (m,cols,(d : Int),(c : Int),A',())∧mT o k n m A' J M'∧Fp k M0 M' d c p d∧(∀ i,d ≤ i→M' i = M i)∧∀ i,i < d→∀ x,x < n→(M' i x).natAbs ≤ E + (E + 1) * T:=by
 have hd:=f.dk
 have:=VM (step:=fD) (N:=2 ^ 64) d
  (fun t x=>∃ A' M',x = (m,cols,(d : Int),(c : Int),(d : Int),(t : Int),A',())∧mT o k n m A' J M'∧Fp k M0 M' d c p t∧(∀ i,t ≤ i→M' i = M i)∧∀ i,i < t→∀ x,x < n→(M' i x).natAbs ≤ E + (E + 1) * T)
  (fun z=>∃ A' M',z = (m,cols,(d : Int),(c : Int),A',())∧mT o k n m A' J M'∧Fp k M0 M' d c p d∧(∀ i,d ≤ i→M' i = M i)∧∀ i,i < d→∀ x,x < n→(M' i x).natAbs ≤ E + (E + 1) * T)
  (by omega) (m,cols,(d : Int),(c : Int),(d : Int),0,A,()) ⟨A,M,rfl,h,f,fun _ _=>rfl,fun i hi=>by omega⟩ ?_ ?_
 ·obtain ⟨z,h1,A',M',rfl,h2⟩:=this
  exact ⟨A',M',h1,h2⟩
 ·rintro t x ht ⟨A',M',rfl,hL,hF,hr1,hr2⟩
  have hi : t < k:=by omega
  have hMi:=hr1 t (Nat.le_refl _)
  have hMd:=hr1 d (by omega)
  have e1 : ltI (t : Int) (d : Int) = true:=by rw [aN]; exact decide_eq_true (by omega)
  have e2 : aQ (t : Int) m.length = true:=by rw [bA,h.len]; exact decide_eq_true (by omega)
  have e3 : ((t : Nat) : Int).toNat = t:=Int.toNat_natCast _
  have e4 : Nat.blt t m.length = true:=by rw [cY,h.len]; simpa using hi
  have e5 : aQ (c : Int) n = true:=by rw [bA]; exact decide_eq_true (by omega)
  have e6 : (o + ((c : Nat) : Int).toNat) * 1 = o + c:=by simp
  have e7 : Nat.blt (o + c) (o + n) = true:=by rw [cY]; simpa using hcn
  have e8:=c7 t (by omega)
  have e9:=hL.get hi
  have e10:=hL.eU hi
  have e11:=hL.gI hi hcn
  rw [hMi] at e11
  have f2 : aQ ((d : Nat) : Int) m.length = true:=by rw [bA,h.len]; exact decide_eq_true (by omega)
  have f3 : ((d : Nat) : Int).toNat = d:=Int.toNat_natCast _
  have f4 : Nat.blt d m.length = true:=by rw [cY,h.len]; simpa using hd
  have f9:=hL.get hd
  have f10:=hL.eU hd
  have f11:=hL.gI hd hcn
  rw [hMd] at f11
  have hm : M d c ≠ 0:=by have:=f.piv; omega
  have b0:=hE t ht c hcn
  have b1:=hB _ hi c hcn
  have b2:=hB _ hd c hcn
  have k1:=DO hT (Nat.le_succ_of_le b1)
  have k2:=DO hT (Nat.le_succ_of_le b2)
  have c1:=HY (M t c) (M d c) (by have : mM = 18:=rfl; omega) (by have : mM = 18:=rfl; omega) hm
  obtain ⟨A2,c2,c3⟩:=hL.less hn hi hd (by omega) ((M t c).fdiv (M d c)) (by
   rw [hMi,hMd]
   exact aGN hT (hB _ hi) (hB _ hd) (R0 b1 hm))
  have hF2:=hF.less ht
  rw [hMi,hMd] at hF2 c3
  refine ⟨_,?_,A2,_,rfl,c3,hF2,fun i hi2=>?_,fun i hi2 x hx=>?_⟩
  ·simp only [fD,e1,e2,e3,e4,e9,e5,e6,e10,e7,e11,f2,f3,f4,f9,f10,f11,c1,c2,aH,cond_true,e8]
  ·rw [vD _ _ (by omega)]; exact hr1 i (by omega)
  ·by_cases e : i = t
   ·subst e
    rw [D4]
    have q1:=R0 b0 hm
    have q2 : ((M i c).fdiv (M d c) * M d x).natAbs = ((M i c).fdiv (M d c)).natAbs * (M d x).natAbs:=Int.natAbs_mul _ _
    have q3 : ((M i c).fdiv (M d c)).natAbs * (M d x).natAbs ≤ (E + 1) * T:=Nat.mul_le_mul q1 (hB _ hd x hx)
    have q4:=hE i (by omega) x hx
    omega
   ·rw [vD _ _ e]; exact hr2 i (by omega) x hx
 ·rintro x ⟨A',M',rfl,hL,hF,hr1,hr2⟩
  have e1 : ltI (d : Int) (d : Int) = false:=by rw [aN]; exact decide_eq_false (by omega)
  refine ⟨_,?_,A',M',rfl,hL,hF,hr1,hr2⟩
  simp only [fD,e1,cond_false]
end
end Go.PM
set_option linter.unusedSimpArgs false
set_option linter.unusedVariables false
namespace Go.PM
open Go Go.RowKit Go.Proofs Go.Lz
set_option maxRecDepth 100000
def Wd (k n : Nat) (M : Nat→V) : Prop:=∀ i,i < k→∀ x,n ≤ x→M i x = 0
section
variable {o k n d c : Nat} {m : List (Nat×Nat×Nat)} {A : List (List ByteArray)} {J : Nat→Nat} {M M0 : Nat→V} {p : Nat→Nat} {T E : Nat}
theorem Big.all (h : Big k n M T) (hw : Wd k n M) : ∀ i,i < k→∀ x,(M i x).natAbs ≤ T:=fun i hi x=>by
 rcases Nat.lt_or_ge x n with g | g
 ·exact h i hi x g
 ·rw [hw i hi x g]; exact Nat.zero_le _
theorem pass (h : mT o k n m A J M) (hk : k < 1048576) (hn : n < 1048576) (f : Fo k M0 M d c p) (hcn : c < n) (hB : Big k n M T) (hw : Wd k n M) (hE : ∀ i,i < d→∀ x,x < n→(M i x).natAbs ≤ E) (hET : E ≤ T) (hT : 2 * Lib.nDigits (T + 1) ≤ mM) {a : Nat} (hd : d < k) (ha : d ≤ a) (hak : a < k) (hm : M a c ≠ 0)
  (cols : Int) (hfind : fI (m,cols,(d : Int),(c : Int),-1,(d : Int),A,()) = some (m,cols,(d : Int),(c : Int),(a : Int),A,())) :
  ∃ m1 A' J' M',mT o k n m1 A' J' M'∧Rd k (swp M d a) M' d c∧Fo k M0 M' d c p∧(∀ i,i < d→M' i = M i)∧Wd k n M' ∧
   ((∃ i,d < i∧i < k∧M' i c ≠ 0)→bU (m,cols,(d : Int),(c : Int),A,()) = some (.inl (m1,cols,(d : Int),(c : Int),A',()))) ∧
   ((∀ i,d < i→i < k→M' i c = 0)→Big k n M' T→∃ A'' M'' p',bU (m,cols,(d : Int),(c : Int),A,()) = some (.inr (m1,cols,((d + 1 : Nat) : Int),(c : Int),A'',()))∧mT o k n m1 A'' J' M''∧Fo k M0 M'' (d + 1) (c + 1) p'∧Wd k n M''∧Big k n M'' (E + (E + 1) * T)):=by
 obtain ⟨J',hs⟩ : ∃ J',mT o k n ((m.set d (J a,o,n)).set a (J d,o,n)) A J' (swp M d a):=⟨_,h.swap hd hak⟩
 have hsw : ∀ i,i < k→∃ j,j < k∧swp M d a i = M j:=fun i hi=>by
  unfold swp
  split
  ·exact ⟨a,hak,rfl⟩
  ·split
   ·exact ⟨d,hd,rfl⟩
   ·exact ⟨i,hi,rfl⟩
 have hBs : Big k n (swp M d a) T:=fun i hi x hx=>by
  obtain ⟨j,h1,h2⟩:=hsw i hi
  rw [h2]; exact hB j h1 x hx
 have hws : Wd k n (swp M d a):=fun i hi x hx=>by
  obtain ⟨j,h1,h2⟩:=hsw i hi
  rw [h2]; exact hw j h1 x hx
 have hpd : swp M d a d = M a:=by simp [swp]
 obtain ⟨A',M',rest,g1,g2,g3,g4,g5,g6,g7⟩:=aO2 hs hk hn (f.swap ha hak) hd hcn (by rw [hpd]; exact hm) hBs hT cols
 have hw' : Wd k n M':=fun i hi x hx=>by
  rcases Nat.lt_trichotomy i d with q | q | q
  ·rw [g5 i q]; exact hws i hi x hx
  ·subst q; rw [g3.1]; exact hws i hi x hx
  ·rw [g3.2 i q hi]
   simp only [hws i hi x hx,hws d hd x hx,Int.mul_zero,Int.sub_zero]
 have hlow : ∀ i,i < d→M' i = M i:=fun i hi=>by
  rw [g5 i hi]
  unfold swp
  rw [if_neg (by omega),if_neg (by omega)]
 -- what the pass begins with
 have e1 : ltI (a : Int) 0 = false:=by rw [aN]; exact decide_eq_false (by omega)
 have e2 : aQ (a : Int) m.length = true:=by rw [bA,h.len]; exact decide_eq_true (by omega)
 have e3 : ((a : Nat) : Int).toNat = a:=Int.toNat_natCast _
 have e4 : Nat.blt a m.length = true:=by rw [cY,h.len]; simpa using hak
 have f2 : aQ (d : Int) m.length = true:=by rw [bA,h.len]; exact decide_eq_true (by omega)
 have f3 : ((d : Nat) : Int).toNat = d:=Int.toNat_natCast _
 have f4 : Nat.blt d m.length = true:=by rw [cY,h.len]; simpa using hd
 have e9:=h.get hak
 have f9:=h.get hd
 have s1 : (m.set d (J a,o,n)).length = m.length:=by simp
 have first : bU (m,cols,(d : Int),(c : Int),A,()) =
   (bif rest then some (.inl ((m.set d (J a,o,n)).set a (J d,o,n),cols,(d : Int),(c : Int),A',()))
   else bif aQ (d : Int) ((m.set d (J a,o,n)).set a (J d,o,n)).length then bif Nat.blt d ((m.set d (J a,o,n)).set a (J d,o,n)).length then bif aQ (c : Int) (((m.set d (J a,o,n)).set a (J d,o,n)).getD d (0,0,0)).2.2 then
    bif Nat.blt (((((m.set d (J a,o,n)).set a (J d,o,n)).getD d (0,0,0)).2.1 + ((c : Nat) : Int).toNat) * 1) (eU A' (((m.set d (J a,o,n)).set a (J d,o,n)).getD d (0,0,0)).1) then
    aB (mW ((gI A' (((m.set d (J a,o,n)).set a (J d,o,n)).getD d (0,0,0)).1 (((((m.set d (J a,o,n)).set a (J d,o,n)).getD d (0,0,0)).2.1 + ((c : Nat) : Int).toNat) * 1) ByteArray.empty),())) fun y23 =>
    bif ltI y23.1 0 then
     bif aQ (d : Int) ((m.set d (J a,o,n)).set a (J d,o,n)).length then bif Nat.blt d ((m.set d (J a,o,n)).set a (J d,o,n)).length then
     aB (dU () (((((m.set d (J a,o,n)).set a (J d,o,n)).getD d (0,0,0)).1,(((m.set d (J a,o,n)).set a (J d,o,n)).getD d (0,0,0)).2.1,(((m.set d (J a,o,n)).set a (J d,o,n)).getD d (0,0,0)).2.2),()) A') fun y24 =>
     aB (bW ((m.set d (J a,o,n)).set a (J d,o,n),cols,(d : Int),(c : Int),(d : Int),0,y24.2,())) fun z25 =>
     some (.inr ((z25.1,z25.2.1,(aE .i64 (z25.2.2.1 + 1)),z25.2.2.2.1,z25.2.2.2.2.1,()))) else none else none
    else aB (bW ((m.set d (J a,o,n)).set a (J d,o,n),cols,(d : Int),(c : Int),(d : Int),0,A',())) fun z26 =>
    some (.inr ((z26.1,z26.2.1,(aE .i64 (z26.2.2.1 + 1)),z26.2.2.2.1,z26.2.2.2.2.1,()))) else none else none else none else none):=by
  simp only [bU,hfind,aH,e1,cond_false,e2,e3,e4,f2,f3,f4,e9,f9,s1,cond_true,g1]
 refine ⟨_,A',J',M',g2,g3,g4,hlow,hw',fun hex=>?_,fun hz hB'=>?_⟩
 ·obtain ⟨i,q1,q2,q3⟩:=hex
  have hr : rest = true:=by
   cases rest with
   | true=>rfl
   | false=>exact absurd (g7 rfl i q1 q2) q3
  rw [first,hr]; rfl
 ·have hr : rest = false:=by
   cases rest with
   | false=>rfl
   | true =>
    obtain ⟨i,q1,q2,q3⟩:=g6 rfl
    exact absurd (hz i q1 q2) q3
  have hmd : M' d c ≠ 0:=by rw [g3.1,hpd]; exact hm
  have t1:=g2.len
  have t2 : aQ (d : Int) k = true:=by rw [bA]; exact decide_eq_true (by omega)
  have t3 : Nat.blt d k = true:=by rw [cY]; simpa using hd
  have t4:=g2.get hd
  have t5 : aQ (c : Int) n = true:=by rw [bA]; exact decide_eq_true (by omega)
  have t6 : (o + ((c : Nat) : Int).toNat) * 1 = o + c:=by simp
  have t7 : Nat.blt (o + c) (o + n) = true:=by rw [cY]; simpa using hcn
  have t8:=g2.eU hd
  have t9:=g2.gI hd hcn
  have t10:=OP (M' d c)
  have t11:=c7 d (by omega)
  have hE' : ∀ i,i < d→∀ x,x < n→(M' i x).natAbs ≤ E:=fun i hi x hx=>by rw [hlow i hi]; exact hE i hi x hx
  have fin : ∀ (A1 : List (List ByteArray)) (M1 : Nat→V),mT o k n ((m.set d (J a,o,n)).set a (J d,o,n)) A1 J' M1→Fo k M0 M1 d c p→0 < M1 d c→(∀ i,d < i→i < k→M1 i c = 0)→Big k n M1 T→Wd k n M1→(∀ i,i < d→M1 i = M' i) →
    ∃ A'' M'' p',bW ((m.set d (J a,o,n)).set a (J d,o,n),cols,(d : Int),(c : Int),(d : Int),0,A1,()) = some ((m.set d (J a,o,n)).set a (J d,o,n),cols,(d : Int),(c : Int),A'',())∧mT o k n ((m.set d (J a,o,n)).set a (J d,o,n)) A'' J' M''∧Fo k M0 M'' (d + 1) (c + 1) p'∧Wd k n M''∧Big k n M'' (E + (E + 1) * T):=by
   intro A1 M1 q1 q2 q3 q4 q5 q6 q7
   obtain ⟨A2,M2,r1,r2,r3,r4,r5⟩:=aPD q1 hk hn { toFo:=q2,dk:=hd,piv:=q3,below:=q4,up:=fun i hi=>by omega } hcn q5 (fun i hi x hx=>by rw [q7 i hi]; exact hE' i hi x hx) hET hT cols
   refine ⟨A2,M2,_,r1,r2,r3.done,fun i hi x hx=>?_,fun i hi x hx=>?_⟩
   ·rcases Nat.lt_or_ge i d with g | g
    ·have hs0 : Same k M0 k M2:=r3.same
     have h0 : ∀ j,j < k→M0 j x = 0:=fun j hj=>Sp.S9 (M:=M1) (fun l hl=>q6 l hl x hx) ((q2.same _).1 (Sp.mem hj))
     exact Sp.S9 (M:=M0) h0 ((hs0 _).2 (Sp.mem hi))
    ·rw [r4 i g]; exact q6 i hi x hx
   ·rcases Nat.lt_or_ge i d with g | g
    ·exact r5 i g x hx
    ·rw [r4 i g]
     have:=q5 i hi x hx
     have : T * 1 ≤ T * (E + 1):=Nat.mul_le_mul_left _ (by omega)
     rw [Nat.mul_comm (E + 1) T]
     omega
  by_cases hn0 : M' d c < 0
  ·obtain ⟨A1,u1,u2⟩:=g2.neg hn hd (fun x hx=>(hB'.cm hT) d hd x hx)
   have l1 : up M' d (fun x=>-(M' d x)) d c = -(M' d c):=by rw [D4]
   obtain ⟨A2,M2,p2,r1,r2,r3,r4,r5⟩:=fin A1 _ u2 (g4.neg hd) (by rw [l1]; omega) (fun i q1 q2=>by rw [vD _ _ (by omega)]; exact hz i q1 q2)
    (fun i hi x hx=>by
     by_cases e : i = d
     ·subst e; rw [D4,Int.natAbs_neg]; exact hB' i hi x hx
     ·rw [vD _ _ e]; exact hB' i hi x hx)
    (fun i hi x hx=>by
     by_cases e : i = d
     ·subst e; rw [D4,hw' i hi x hx]; rfl
     ·rw [vD _ _ e]; exact hw' i hi x hx)
    (fun i hi=>vD _ _ (by omega))
   refine ⟨A2,M2,p2,?_,r2,r3,r4,r5⟩
   have s2 : ltI (M' d c).sign 0 = true:=by rw [aN,Int.sign_eq_neg_one_of_neg hn0]; rfl
   rw [first,hr]
   simp only [cond_false,t1,t2,t3,t4,t5,t6,t7,t8,t9,t10,aH,cond_true,s2,u1,r1,t11]
  ·obtain ⟨A2,M2,p2,r1,r2,r3,r4,r5⟩:=fin A' _ g2 g4 (by omega) hz hB' hw' (fun _ _=>rfl)
   refine ⟨A2,M2,p2,?_,r2,r3,r4,r5⟩
   have s2 : ltI (M' d c).sign 0 = false:=by rw [aN,Int.sign_eq_one_of_pos (by omega)]; rfl
   rw [first,hr]
   simp only [cond_false,t1,t2,t3,t4,t5,t6,t7,t8,t9,t10,aH,cond_true,s2,r1,t11]
end
end Go.PM
set_option linter.unusedSimpArgs false
set_option linter.unusedVariables false
namespace Go.PM
open Go Go.RowKit Go.Proofs Go.Lz
set_option maxRecDepth 100000
structure St (k n d E T : Nat) : Prop where
 e1 : 1 ≤ E
 et : E ≤ T
 eu : d + 1 < k→9 * E ^ 5 ≤ T
 fit : 2 * Lib.nDigits (T + 1) ≤ mM
def bC8 (o k n d c : Nat) (M0 : Nat→V) (cols : Int) (E T : Nat) (z : List (Nat×Nat×Nat)×Int×Int×Int×List (List ByteArray)×Unit) : Prop :=
 ∃ m' A' J' M' d' p',z = (m',cols,((d' : Nat) : Int),(c : Int),A',())∧mT o k n m' A' J' M'∧Fo k M0 M' d' (c + 1) p'∧Wd k n M'∧((d' = d∧Big k n M' E) ∨ (d' = d + 1∧Big k n M' (E + (E + 1) * T)))
section
variable {o k n d c : Nat} {m : List (Nat×Nat×Nat)} {A : List (List ByteArray)} {J : Nat→Nat} {M M0 : Nat→V} {p : Nat→Nat} {T E : Nat}
theorem aU9 {a g : Nat} (h : a < 10 ^ g) : a < 2 ^ (4 * g):=by
 refine Nat.lt_of_lt_of_le h ?_
 rw [Nat.pow_mul]
 exact Nat.pow_le_pow_left (by decide) g
theorem rounds (hk : k < 1048576) (hn : n < 1048576) (hcn : c < n) (hT : 2 * Lib.nDigits (T + 1) ≤ mM) (hET : E ≤ T) {C : Nat} (hC : 3 * C ≤ T) (cols : Int) : ∀ (R N P : Nat) {m : List (Nat×Nat×Nat)} {A : List (List ByteArray)} {J : Nat→Nat} {M : Nat→V},
  mT o k n m A J M→Fo k M0 M d c p→Wd k n M→(∀ i,i < d→∀ x,x < n→(M i x).natAbs ≤ E)→Bt k M d c C→Pt k M d c P→P < 2 ^ R→R < N→∃ z,bM bU N (m,cols,(d : Int),(c : Int),A,()) = some z∧bC8 o k n d c M0 cols E T z
 | 0,N,P,m,A,J,M,h,f,hw,hE,hB,hP,hlt,_=>by
  obtain ⟨i,w1,w2,w3,w4⟩:=hP
  have:=hB.piv
  have h1 : 1 * 1 ≤ (M d c).natAbs * (M i c).natAbs:=Nat.mul_le_mul (by omega) (by omega)
  simp at hlt
  omega
 | R + 1,N + 1,P,m,A,J,M,h,f,hw,hE,hB,hP,hlt,hN=>by
  obtain ⟨E1,b1,i0,b2,b3,b4,b5⟩:=hB.ex
  have hdk:=hB.dk
  have hmp:=hB.piv
  have hE1 : E1 ≤ C:=by
   have h1 : E1 * 1 ≤ E1 * ((M d c).natAbs ^ 3 * (M i0 c).natAbs):=Nat.mul_le_mul_left _ (Nat.mul_pos (Nat.pow_pos (by omega)) (by omega))
   have h2 : E1 * ((M d c).natAbs ^ 3 * (M i0 c).natAbs) = E1 * (M d c).natAbs ^ 3 * (M i0 c).natAbs:=by rw [Nat.mul_assoc]
   omega
  have hBig : Big k n M T:=fun i hi x hx=>by
   rcases Nat.lt_or_ge i d with g | g
   ·exact Nat.le_trans (hE i g x hx) hET
   ·have:=(b1 i g hi).1 x
    omega
  obtain ⟨r,f1,f2⟩:=aMG h hk (hBig.cm hT) hcn (Nat.le_of_lt hdk) cols
  cases r with
  | none=>exact absurd (f2.none rfl d (Nat.le_refl _) (by omega)) hmp
  | some a =>
   obtain ⟨q1,q2,q3,q4⟩:=f2.some a rfl
   have hak : a < k:=by omega
   have hmin : ∀ i,d ≤ i→i < k→M i c ≠ 0→(M a c).natAbs ≤ (M i c).natAbs:=fun i g1 g2 g3=>q4 i g1 (by omega) g3
   obtain ⟨m1,A',J',M',s1,s2,s3,s4,s5,s6,s7⟩:=pass h hk hn f hcn hBig hw hE hET hT hdk q1 hak q3 cols f1
   have hE' : ∀ i,i < d→∀ x,x < n→(M' i x).natAbs ≤ E:=fun i hi x hx=>by rw [s4 i hi]; exact hE i hi x hx
   by_cases hz : ∀ i,d < i→i < k→M' i c = 0
   ·rcases hB.round q1 hak q3 hmin s2 with ⟨_,A1,g1⟩ | ⟨g1,_⟩
    ·have hBig' : Big k n M' T:=fun i hi x hx=>by
      rcases Nat.lt_or_ge i d with g | g
      ·exact Nat.le_trans (hE' i g x hx) hET
      ·exact Nat.le_trans ((g1 i g hi).1 x) hC
     obtain ⟨A2,M2,p2,u1,u2,u3,u4,u5⟩:=s7 hz hBig'
     exact ⟨_,by rw [c8,u1],m1,A2,J',M2,d + 1,p2,rfl,u2,u3,u4,.inr ⟨rfl,u5⟩⟩
    ·obtain ⟨_,_,i,z1,z2,z3,_⟩:=g1.ex
     exact absurd (hz i z1 z2) z3
   ·have hex : ∃ i,d < i∧i < k∧M' i c ≠ 0:=by
     obtain ⟨i,hi⟩:=Classical.not_forall.1 hz
     obtain ⟨g1,hi⟩:=Classical.not_forall.1 hi
     obtain ⟨g2,g3⟩:=Classical.not_forall.1 hi
     exact ⟨i,g1,g2,g3⟩
    rcases hB.round q1 hak q3 hmin s2 with ⟨g0,_⟩ | ⟨g1,_⟩
    ·exact absurd g0 hz
    ·have hP':=hB.half q1 hak q3 hmin s2 hz hP
     obtain ⟨z,v1,v2⟩:=rounds hk hn hcn hT hET hC cols R N (P / 2) s1 s3 s5 hE' g1 hP' (by rw [Nat.pow_succ] at hlt; omega) (by omega)
     exact ⟨z,by rw [c8,s6 hex]; exact v1,v2⟩
theorem column (hk : k < 1048576) (hn : n < 1048576) (h : mT o k n m A J M) (f : Fo k M0 M d c p) (hw : Wd k n M) (hd : d < k) (hcn : c < n) (hE : Big k n M E) (st : St k n d E T) (cols : Int) :
  ∃ z,fE (m,cols,(d : Int),(c : Int),A,()) = some z∧bC8 o k n d c M0 cols E T z:=by
 have hBig : Big k n M T:=fun i hi x hx=>Nat.le_trans (hE i hi x hx) st.et
 have hEl : ∀ i,i < d→∀ x,x < n→(M i x).natAbs ≤ E:=fun i hi x hx=>hE i (by omega) x hx
 obtain ⟨r,f1,f2⟩:=aMG h hk (hBig.cm st.fit) hcn (Nat.le_of_lt hd) cols
 unfold fE
 obtain ⟨N,hN⟩ : ∃ N,2 ^ 64 = N + 1:=⟨2 ^ 64 - 1,by omega⟩
 rw [hN]
 cases r with
 | none =>
  have e1 : ltI (atv none) 0 = true:=by decide
  refine ⟨_,?_,m,A,J,M,d,p,rfl,h,f.skip fun i h1 h2=>f2.none rfl i h1 (by omega),hw,.inl ⟨rfl,hE⟩⟩
  rw [c8]
  simp only [bU,f1,aH,e1,cond_true]
 | some a =>
  obtain ⟨q1,q2,q3,q4⟩:=f2.some a rfl
  have hak : a < k:=by omega
  obtain ⟨m1,A',J',M',s1,s2,s3,s4,s5,s6,s7⟩:=pass h hk hn f hcn hBig hw hEl st.et st.fit hd q1 hak q3 cols f1
  have hE' : ∀ i,i < d→∀ x,x < n→(M' i x).natAbs ≤ E:=fun i hi x hx=>by rw [s4 i hi]; exact hEl i hi x hx
  have hWi : Wi k (swp M d a) d c E E:=(show Wi k M d c E E from fun i g1 g2=>⟨fun x=>hE.all hw i g2 x,hE.all hw i g2 c⟩).swap q1 hak
  have hpd : swp M d a d = M a:=by simp [swp]
  have hfirst:=s2.first hWi hd (by rw [hpd]; exact q3)
  have hpow : 3 * (3 * (E * E) * E ^ 3) = 9 * E ^ 5:=by grind
  by_cases hdk : d + 1 < k
  ·have h9:=st.eu hdk
   rcases hfirst with ⟨hz,g1⟩ | g1
   ·have hBig' : Big k n M' T:=fun i hi x hx=>by
     rcases Nat.lt_or_ge i d with g | g
     ·exact Nat.le_trans (hE' i g x hx) st.et
     ·have:=(g1 i g hi).1 x
      have h3 : 3 * (E * E) * 1 ≤ 3 * (E * E) * E ^ 3:=Nat.mul_le_mul_left _ (Nat.pow_pos st.e1)
      omega
    obtain ⟨A2,M2,p2,u1,u2,u3,u4,u5⟩:=s7 hz hBig'
    exact ⟨_,by rw [c8,u1],m1,A2,J',M2,d + 1,p2,rfl,u2,u3,u4,.inr ⟨rfl,u5⟩⟩
   ·obtain ⟨E1,b1,i0,b2,b3,b4,b5⟩:=g1.ex
    have hPt : Pt k M' d c (T * T):=by
     refine ⟨i0,b2,b3,b4,Nat.mul_le_mul ?_ ?_⟩
     ·rw [s2.1,hpd]; exact hBig a hak c hcn
     ·have h1:=(g1.sign i0 b2 b3).1
      rw [s2.1,hpd] at h1
      exact Nat.le_trans (Nat.le_of_lt h1) (hBig a hak c hcn)
    have hT2 : T * T < 2 ^ (8 * Lib.nDigits (T + 1)):=by
     have h1:=aU9 (kL (T + 1))
     have h2 : (T + 1) * (T + 1) < 2 ^ (4 * Lib.nDigits (T + 1)) * 2 ^ (4 * Lib.nDigits (T + 1)):=Nat.mul_lt_mul'' h1 h1
     rw [← Nat.pow_add] at h2
     have h3 : 4 * Lib.nDigits (T + 1) + 4 * Lib.nDigits (T + 1) = 8 * Lib.nDigits (T + 1):=by omega
     rw [h3] at h2
     have h4 : T * T ≤ (T + 1) * (T + 1):=Nat.mul_le_mul (by omega) (by omega)
     omega
    have hex : ∃ i,d < i∧i < k∧M' i c ≠ 0:=⟨i0,b2,b3,b4⟩
    obtain ⟨z,v1,v2⟩:=rounds hk hn hcn st.fit st.et (C:=3 * (E * E) * E ^ 3) (by omega) cols (8 * Lib.nDigits (T + 1)) N (T * T) s1 s3 s5 hE' g1 hPt hT2 (by have:=st.fit; have : mM = 18:=rfl; omega)
    exact ⟨z,by rw [c8,s6 hex]; exact v1,v2⟩
  ·have hz : ∀ i,d < i→i < k→M' i c = 0:=fun i g1 g2=>by omega
   have hBig' : Big k n M' T:=fun i hi x hx=>by
    rcases Nat.lt_or_ge i d with g | g
    ·exact Nat.le_trans (hE' i g x hx) st.et
    ·have : i = d:=by omega
     subst this
     rw [s2.1,hpd]
     exact hBig a hak x hx
   obtain ⟨A2,M2,p2,u1,u2,u3,u4,u5⟩:=s7 hz hBig'
   exact ⟨_,by rw [c8,u1],m1,A2,J',M2,d + 1,p2,rfl,u2,u3,u4,.inr ⟨rfl,u5⟩⟩

structure Bds (k n : Nat) (E T : Nat→Nat) : Prop where
 st : ∀ d,d < k→St k n d (E d) (T d)
 up : ∀ d,d < k→E d + (E d + 1) * T d ≤ E (d + 1)
theorem a5B {E T : Nat→Nat} (hk : k < 1048576) (hn : n < 1048576) (h : mT o k n m A J M) (hw : Wd k n M) (hE : Big k n M (E 0)) (hb : Bds k n E T) :
  ∃ m' A' J' M' d p,fW m ((n : Int),()) A = some (m'.take d,A')∧d ≤ k∧mT o k n m' A' J' M'∧Hn d M' p∧Same k M d M'∧Wd k n M'∧Big k n M' (E d):=by
 have fin : ∀ (N : Nat) {m' : List (Nat×Nat×Nat)} {A' : List (List ByteArray)} {J' : Nat→Nat} {M' : Nat→V} {d t : Nat} {p : Nat→Nat},t ≤ n→n - t < N→mT o k n m' A' J' M'→Fo k M M' d t p→Wd k n M'→Big k n M' (E d) →
   ∃ z,bM cT N (m',(n : Int),(d : Int),(t : Int),A',()) = some z∧∃ (m' : List (Nat×Nat×Nat)) (A' : List (List ByteArray)) (J' : Nat→Nat) (M' : Nat→V) (d : Nat) (p : Nat→Nat),z = (m',(d : Int),A',())∧mT o k n m' A' J' M'∧(d ≤ k∧Hn d M' p∧Same k M d M')∧Wd k n M'∧Big k n M' (E d):=by
  intro N
  induction N with
  | zero=>intro m' A' J' M' d t p h1 h2; omega
  | succ N ih =>
   intro m' A' J' M' d t p h1 h2 hL hF hW hB
   rw [c8]
   rcases Nat.lt_or_ge t n with ht | ht
   ·have e1 : ltI (t : Int) (n : Int) = true:=by rw [aN]; exact decide_eq_true (by omega)
    rcases Nat.lt_or_ge d k with hd | hd
    ·have e2 : ltI (d : Int) (m'.length : Int) = true:=by rw [aN,hL.len]; exact decide_eq_true (by omega)
     obtain ⟨z,z1,m2,A2,J2,M2,d2,p2,rfl,y1,y2,y3,y4⟩:=column hk hn hL hF hW hd ht hB (hb.st d hd) (n : Int)
     have e3:=c7 t (by omega)
     have hs : cT (m',(n : Int),(d : Int),(t : Int),A',()) = some (.inl (m2,(n : Int),(d2 : Int),((t + 1 : Nat) : Int),A2,())):=by
      simp only [cT,e1,e2,cond_true,z1,aH,e3]
     rw [hs]
     refine ih (by omega) (by omega) y1 y2 y3 ?_
     rcases y4 with ⟨rfl,y4⟩ | ⟨rfl,y4⟩
     ·exact y4
     ·exact fun i hi x hx=>Nat.le_trans (y4 i hi x hx) (hb.up d hd)
    ·have hdk : d = k:=by have:=hF.le; omega
     have e2 : ltI (d : Int) (m'.length : Int) = false:=by rw [aN,hL.len]; exact decide_eq_false (by omega)
     refine ⟨_,by simp only [cT,e1,e2,cond_true,cond_false],m',A',J',M',d,p,rfl,hL,⟨hF.le,hF.hn (.inl hdk)⟩,hW,hB⟩
   ·have htn : t = n:=by omega
    subst htn
    have e1 : ltI (t : Int) (t : Int) = false:=by rw [aN]; exact decide_eq_false (by omega)
    refine ⟨_,by simp only [cT,e1,cond_false],m',A',J',M',d,p,rfl,hL,⟨hF.le,hF.hn (.inr fun i hi x hx=>hW i hi x hx)⟩,hW,hB⟩
 obtain ⟨z,z1,m',A',J',M',d,p,rfl,y1,⟨y2,y3,y4⟩,y5,y6⟩:=fin (2 ^ 64) (Nat.zero_le n) (by omega) h (Fo.start k M) hw hE
 refine ⟨m',A',J',M',d,p,?_,y2,y1,y3,y4,y5,y6⟩
 have z2 : iC (m,(n : Int),0,0,A,()) = some (m',(d : Int),A',()):=z1
 have e4 : ltI (d : Int) 0 = false:=by rw [aN]; exact decide_eq_false (by omega)
 have e5 : ((d : Nat) : Int).toNat = d:=Int.toNat_natCast _
 have hl:=y1.len
 unfold fW
 simp only [z2,aH,hl,e4,e5,Bool.not_false,cond_true]
 by_cases hk0 : k = 0
 ·have hd0 : d = 0:=by omega
  subst hk0; subst hd0
  have : m' = []:=List.eq_nil_of_length_eq_zero hl
  subst this
  rfl
 ·have e6 : Nat.beq k 0 = false:=by
   cases k with
   | zero=>exact absurd rfl hk0
   | succ k=>rfl
  have e7 : Nat.ble 0 d = true:=rfl
  have e8 : Nat.ble d k = true:=by rw [fJ]; simpa using y2
  have e9 : Nat.blt 0 k = true:=by rw [cY]; simp; omega
  simp only [e6,e7,e8,e9,cond_true,cond_false,Nat.sub_zero]
end
end Go.PM
set_option linter.unusedSimpArgs false
set_option linter.unusedVariables false
namespace Go.PM
open Go Go.RowKit Go.Proofs Go.Lz
set_option maxRecDepth 100000
def BN (r : List Int) : V:=fun x=>r.getD x 0
def YD (m : List (List Int)) : Nat→V:=fun i=>BN (m.getD i [])
def Vr (n : Nat) (v : V) : List Int:=(List.range n).map v
theorem aPX (r : List Int) : Zr r.length (BN r) = r.map Zn:=by
 refine List.ext_getElem? fun i=>?_
 simp only [Zr,List.getElem?_map]
 by_cases h : i < r.length
 ·rw [List.getElem?_range h,List.getElem?_eq_getElem h]
  simp [BN,List.getD,h]
 ·have h1 : (List.range r.length)[i]? = none:=by simp; omega
  rw [h1,List.getElem?_eq_none (by omega)]; rfl
theorem XE (n : Int) (h : Lib.nDigits n.natAbs ≤ 18) : o6 (Zn n,()) = some (n,true,()):=by
 have hl:=K8 h
 have hs : (Zn n).size ≤ 1000000000:=by
  rcases (by omega : n < 0 ∨ 0 ≤ n) with g | g
  ·rw [xQ g]; omega
  ·rw [HO g,AM]; omega
 have e1 : Nat.ble (Zn n).size 1000000000 = true:=by rw [fJ]; simpa using hs
 have e2 : eqI 10 10 = true:=by decide
 have e3 : eqI 64 64 = true:=by decide
 have e4 : Lib.parseIntB 64 (Zn n).data.toList = .ok n:=by
  have hne : ∀ c r,Lib.decDigits n.natAbs = c :: r→c.toNat ≠ 43∧c.toNat ≠ 45:=fun c r he=>by
   have:=wV n.natAbs c (by rw [he]; simp)
   omega
  have hmag:=aFY n.natAbs
  rw [qI] at hmag
  have hlen : (Lib.decDigits n.natAbs).length ≤ 18:=by rw [Lib.decDigits_length]; exact h
  rw [Lib.parseIntB_64]
  rcases (by omega : n < 0 ∨ 0 ≤ n) with g | g
  ·have hn : -(n.natAbs : Int) = n:=by omega
   rw [IP g,Lib.atoiAll_minus,Lib.signed_short hlen,hmag]
   simp only [Option.map_some,hn]
   rfl
  ·have hn : (n.natAbs : Int) = n:=by omega
   rw [HO g,qI]
   cases he : Lib.decDigits n.natAbs with
   | nil=>exact absurd he (uX _)
   | cons c r =>
    obtain ⟨h1,h2⟩:=hne c r he
    rw [Lib.atoiAll_plain c r h1 h2,← he,Lib.signless_short hlen,hmag]
    simp only [Option.map_some,hn]
    rfl
 unfold o6 nA
 simp only [e1,e2,e3,Bool.and_self,cond_true,e4,aH]

theorem WW (r : List Int) (hl : r.length ≤ 1048576) (hr : ∀ a ∈ r,-9223372036854775808 ≤ a∧a < 9223372036854775808) :
  mE ([],r,(r.length : Int),0,()) = some (r.map Zn,()):=by
 have key:=cZ (step:=jY) (N:=2 ^ 64) (fun t=>((r.take t).map Zn,r,(r.length : Int),(t : Int),())) r.length (r.map Zn,()) (by omega) (fun t ht=>?_) ?_
 ·exact key
 ·have e1 : ltI (t : Int) (r.length : Int) = true:=by rw [aN]; exact decide_eq_true (by omega)
  have e2 : aQ (t : Int) r.length = true:=by rw [bA]; exact decide_eq_true (by omega)
  have e3 : ((t : Nat) : Int).toNat = t:=Int.toNat_natCast _
  have e4 : r.getD t 0 = r[t]:=by simp [List.getD,ht]
  obtain ⟨b1,b2⟩:=hr r[t] (List.getElem_mem ht)
  have e5:=oK r[t] b1 b2
  have e6 : Nat.ble [Zn r[t]].length 1048576 = true:=rfl
  have e7 : Nat.ble ((r.take t).map Zn).length 1048576 = true:=by rw [fJ,List.length_map,List.length_take]; exact decide_eq_true (by omega)
  have e8:=c7 t (by omega)
  have e9 : (r.take t).map Zn ++ [Zn r[t]] = (r.take (t + 1)).map Zn:=by
   rw [List.take_succ_eq_append_getElem ht,List.map_append]; rfl
  simp only [jY,e1,e2,e3,e4,e5,aH,e6,e7,cond_true,e8,e9]
 ·have e1 : ltI (r.length : Int) (r.length : Int) = false:=by rw [aN]; exact decide_eq_false (by omega)
  simp only [jY,e1,cond_false,List.take_length]
theorem aFC (r : List Int) (hl : r.length ≤ 1048576) (hr : ∀ a ∈ r,-9223372036854775808 ≤ a∧a < 9223372036854775808) : kA (r,()) = some (r.map Zn):=by
 have e1 : ltI (r.length : Int) 0 = false:=by rw [aN]; exact decide_eq_false (by omega)
 have e2 : ltI 1048576 (r.length : Int) = false:=by rw [aN]; exact decide_eq_false (by omega)
 unfold kA
 simp only [e1,e2,Bool.not_false,cond_true,List.replicate_zero,WW r hl hr,aH]

theorem aO5 (rows : List (List Int)) {n : Nat} (hk : rows.length < 1048576) (hn : n < 1048576) (hlen : ∀ r ∈ rows,r.length = n) (hr : ∀ r ∈ rows,∀ a ∈ r,-9223372036854775808 ≤ a∧a < 9223372036854775808) :
  ∃ m A,jI () (rows,()) [] = some (m,A)∧mT 0 rows.length n m A (fun i=>i) (YD rows):=by
 have key:=cZ (step:=fK) (N:=2 ^ 64)
  (fun t=>((List.range t).map (fun i=>(i,0,n)),rows,(rows.length : Int),(t : Int),(rows.take t).map (·.map Zn),())) rows.length ((List.range rows.length).map (fun i=>(i,0,n)),rows.map (·.map Zn),()) (by omega) (fun t ht=>?_) ?_
 ·refine ⟨(List.range rows.length).map (fun i=>(i,0,n)),rows.map (·.map Zn),?_,rfl,fun i hi=>⟨[],rfl,?_⟩,fun i j _ _ h=>h⟩
  ·unfold jI kN
   have key : bM fK (2 ^ 64) ([],rows,(rows.length : Int),0,[],()) = _:=key
   simp only [key,aH]
  ·rw [List.getElem?_map,List.getElem?_eq_getElem hi]
   simp only [Option.map_some,List.nil_append]
   congr 1
   have h1 : YD rows i = BN rows[i]:=by unfold YD; simp [List.getD,hi]
   rw [h1,← aPX,hlen rows[i] (List.getElem_mem hi)]
 ·have e1 : ltI (t : Int) (rows.length : Int) = true:=by rw [aN]; exact decide_eq_true (by omega)
  have e2 : aQ (t : Int) rows.length = true:=by rw [bA]; exact decide_eq_true (by omega)
  have e3 : ((t : Nat) : Int).toNat = t:=Int.toNat_natCast _
  have e4 : rows.getD t [] = rows[t]:=by simp [List.getD,ht]
  have hm:=List.getElem_mem ht
  have e5:=aFC rows[t] (by rw [hlen _ hm]; omega) (hr _ hm)
  have e6 : ((rows.take t).map (·.map Zn)).length = t:=by rw [List.length_map,List.length_take]; omega
  have e7 : Nat.ble [(t,0,n)].length 1048576 = true:=rfl
  have e8 : Nat.ble ((List.range t).map (fun i=>(i,0,n))).length 1048576 = true:=by rw [fJ,List.length_map,List.length_range]; exact decide_eq_true (by omega)
  have e9:=c7 t (by omega)
  have e10 : (rows[t].map Zn).length = n:=by rw [List.length_map,hlen _ hm]
  have e11 : (rows.take t).map (·.map Zn) ++ [rows[t].map Zn] = (rows.take (t + 1)).map (·.map Zn):=by
   rw [List.take_succ_eq_append_getElem ht,List.map_append]; rfl
  have e12 : (List.range t).map (fun i=>(i,0,n)) ++ [(t,0,n)] = (List.range (t + 1)).map (fun i=>(i,0,n)):=by
   rw [List.range_succ,List.map_append]; rfl
  simp only [fK,e1,e2,e3,e4,e5,aH,e6,e7,e8,e9,e10,e11,e12,cond_true]
 ·have e1 : ltI (rows.length : Int) (rows.length : Int) = false:=by rw [aN]; exact decide_eq_false (by omega)
  simp only [fK,e1,cond_false,List.take_length]

theorem aRW {A : List (List ByteArray)} {J o n : Nat} {v : V} {pre : List ByteArray} (hn : n < 1048576) (hp : pre.length = o) (hJ : A[J]? = some (pre ++ Zr n v)) (ok : ∀ x,x < n→(v x).natAbs ≤ 1000000000) :
  gX () ((J,o,n),()) A = some ((Vr n v,0,()),A):=by
 have key:=cZ (step:=eL) (N:=2 ^ 64) (fun t=>(Vr t v,(J,o,n),(n : Int),(t : Int),A,())) n (.inr (Vr n v,A,())) (by omega) (fun t ht=>?_) ?_
 ·have e1 : ltI (n : Int) 0 = false:=by rw [aN]; exact decide_eq_false (by omega)
  have e2 : ltI 1048576 (n : Int) = false:=by rw [aN]; exact decide_eq_false (by omega)
  have key : bM eL (2 ^ 64) ([],(J,o,n),(n : Int),0,A,()) = _:=key
  unfold gX jD
  simp only [e1,e2,Bool.not_false,cond_true,List.replicate_zero,key,aH,pZ]
 ·have b1:=ok t ht
  have e1 : ltI (t : Int) (n : Int) = true:=by rw [aN]; exact decide_eq_true (by omega)
  have e2 : aQ (t : Int) n = true:=by rw [bA]; exact decide_eq_true (by omega)
  have e3 : (o + ((t : Nat) : Int).toNat) * 1 = o + t:=by simp
  have e4 : eU A J = o + n:=by rw [eU,QU _ hJ,List.length_append,jH,hp]
  have e6 : Nat.blt (o + t) (o + n) = true:=by rw [cY]; simpa using ht
  have e7 : gI A J (o + t) ByteArray.empty = Zn (v t):=by rw [gI,QU _ hJ,L8 hp,CC _ ht]
  have e8:=XE (v t) (by have:=j7 (u:=(v t).natAbs) (k:=17) (by omega); omega)
  have e9 : ltI 1000000000 (v t) = false:=by rw [aN]; exact decide_eq_false (by omega)
  have e10 : ltI (v t) (-1000000000) = false:=by rw [aN]; exact decide_eq_false (by omega)
  have e11 : Nat.ble [v t].length 1048576 = true:=rfl
  have e12 : Nat.ble (Vr t v).length 1048576 = true:=by rw [fJ]; unfold Vr; rw [List.length_map,List.length_range]; exact decide_eq_true (by omega)
  have e13:=c7 t (by omega)
  have e14 : Vr t v ++ [v t] = Vr (t + 1) v:=by unfold Vr; rw [List.range_succ,List.map_append]; rfl
  simp only [eL,e1,e2,e3,e4,e6,e7,e8,e9,e10,e11,e12,e13,e14,aH,cond_true,cond_false]
 ·have e1 : ltI (n : Int) (n : Int) = false:=by rw [aN]; exact decide_eq_false (by omega)
  simp only [eL,e1,cond_false]
theorem aVK {o k d n : Nat} {m : List (Nat×Nat×Nat)} {A : List (List ByteArray)} {J : Nat→Nat} {M : Nat→V} (h : mT o k n m A J M) (hd : d ≤ k) (hk : k < 1048576) (hn : n < 1048576) (ok : ∀ i,i < d→∀ x,x < n→(M i x).natAbs ≤ 1000000000) (cols : Int) :
  fV (m.take d) (cols,()) A = some (((cols,(List.range d).map fun i=>Vr n (M i)),0,()),A):=by
 have hl : (m.take d).length = d:=by rw [List.length_take,h.len]; omega
 have hg : ∀ t,t < d→(m.take d).getD t (0,0,0) = (J t,o,n):=fun t ht=>by
  rw [← h.get (show t < k by omega)]
  simp [List.getD,List.getElem?_take,ht]
 have key:=cZ (step:=dM) (N:=2 ^ 64)
  (fun t=>((0,([],())),(cols,((List.range t).map (fun i=>Vr n (M i)),())),m.take d,((m.take d).length : Int),(t : Int),A,())) d (.inr ((0,([],())),(cols,((List.range d).map (fun i=>Vr n (M i)),())),A,())) (by omega) (fun t ht=>?_) ?_
 ·have key : bM dM (2 ^ 64) ((0,([],())),(cols,([],())),m.take d,((m.take d).length : Int),0,A,()) = _:=key
  unfold fV iB
  simp only [key,aH,pZ]
 ·rw [hl]
  obtain ⟨pre,h1,h2⟩:=h.at_ t (by omega)
  have e1 : ltI (t : Int) (d : Int) = true:=by rw [aN]; exact decide_eq_true (by omega)
  have e2 : aQ (t : Int) d = true:=by rw [bA]; exact decide_eq_true (by omega)
  have e3 : ((t : Nat) : Int).toNat = t:=Int.toNat_natCast _
  have e4 : Nat.blt t d = true:=by rw [cY]; simpa using ht
  have e5:=aRW hn h1 h2 (ok t ht)
  have e6 : eqI 0 0 = true:=by decide
  have e7 : Nat.ble [Vr n (M t)].length 1048576 = true:=rfl
  have e8 : Nat.ble ((List.range t).map (fun i=>Vr n (M i))).length 1048576 = true:=by rw [fJ,List.length_map,List.length_range]; exact decide_eq_true (by omega)
  have e9:=c7 t (by omega)
  have e10 : (List.range t).map (fun i=>Vr n (M i)) ++ [Vr n (M t)] = (List.range (t + 1)).map (fun i=>Vr n (M i)):=by rw [List.range_succ,List.map_append]; rfl
  simp only [dM,hl,e1,e2,e3,e4,hg t ht,e5,e6,e7,e8,e9,e10,aH,cond_true,Bool.not_true,cond_false]
 ·rw [hl]
  have e1 : ltI (d : Int) (d : Int) = false:=by rw [aN]; exact decide_eq_false (by omega)
  simp only [dM,e1,cond_false]

theorem G9 (r : List Int) (hl : r.length ≤ 64) (hr : ∀ a ∈ r,a.natAbs ≤ 1000000000) : pA (r,()) = some (0,()):=by
 have key:=cZ (step:=cA) (N:=2 ^ 64) (fun t=>(r,(),(r.length : Int),(t : Int),())) r.length (.inr ()) (by omega) (fun t ht=>?_) ?_
 ·have key : bM cA (2 ^ 64) (r,(),(r.length : Int),0,()) = some (.inr ()):=key
  have e1 : ltI 64 (r.length : Int) = false:=by rw [aN]; exact decide_eq_false (by omega)
  have e2 : ltI (-1) 0 = true:=by decide
  simp only [pA,e1,cond_false,dE,eK,eR,key,aH,pZ,e2,Bool.not_true]
 ·have e1 : ltI (t : Int) (r.length : Int) = true:=by rw [aN]; exact decide_eq_true (by omega)
  have e2 : aQ (t : Int) r.length = true:=by rw [bA]; exact decide_eq_true (by omega)
  have e3 : ((t : Nat) : Int).toNat = t:=Int.toNat_natCast _
  have e4 : r.getD t 0 = r[t]:=by simp [List.getD,ht]
  have b:=hr r[t] (List.getElem_mem ht)
  have e5 : ltI r[t] (-1000000000) = false:=by rw [aN]; exact decide_eq_false (by omega)
  have e6 : ltI 1000000000 r[t] = false:=by rw [aN]; exact decide_eq_false (by omega)
  have e7:=c7 t (by omega)
  simp only [cA,e1,e2,e3,e4,vH,GD,e5,e6,aH,Bool.not_false,cond_true,cond_false,e7]
 ·have e1 : ltI (r.length : Int) (r.length : Int) = false:=by rw [aN]; exact decide_eq_false (by omega)
  simp only [cA,e1,cond_false]
theorem aMA (rows : List (List Int)) {n : Nat} (hk : rows.length < 1048576) (hn : n ≤ 64) (hlen : ∀ r ∈ rows,r.length = n) (hr : ∀ r ∈ rows,∀ a ∈ r,a.natAbs ≤ 1000000000) : p5 (rows,(n : Int),()) = some (0,()):=by
 have key:=cZ (step:=j8) (N:=2 ^ 64) (fun t=>((n : Int),rows,(rows.length : Int),(t : Int),())) rows.length (.inr ()) (by omega) (fun t ht=>?_) ?_
 ·have key : bM j8 (2 ^ 64) ((n : Int),rows,(rows.length : Int),0,()) = some (.inr ()):=key
  simp only [p5,pF,key,aH,pZ]
 ·have e1 : ltI (t : Int) (rows.length : Int) = true:=by rw [aN]; exact decide_eq_true (by omega)
  have e2 : aQ (t : Int) rows.length = true:=by rw [bA]; exact decide_eq_true (by omega)
  have e3 : ((t : Nat) : Int).toNat = t:=Int.toNat_natCast _
  have e4 : rows.getD t [] = rows[t]:=by simp [List.getD,ht]
  have hm:=List.getElem_mem ht
  have e5:=G9 rows[t] (by rw [hlen _ hm]; exact hn) (hr _ hm)
  have e6 : eqI 0 0 = true:=by decide
  have e7 : eqI (rows[t].length : Int) (n : Int) = true:=by rw [dY,hlen _ hm]; exact decide_eq_true rfl
  have e8:=c7 t (by omega)
  simp only [j8,e1,e2,e3,e4,e5,aH,e6,e7,e8,Bool.not_true,cond_true,cond_false]
 ·have e1 : ltI (rows.length : Int) (rows.length : Int) = false:=by rw [aN]; exact decide_eq_false (by omega)
  simp only [j8,e1,cond_false]
theorem aM1 (rows : List (List Int)) {n : Nat} (hk : rows.length ≤ 12) (hn : n ≤ 12) (hlen : ∀ r ∈ rows,r.length = n) (hr : ∀ r ∈ rows,∀ a ∈ r,a.natAbs ≤ 1000000000) : l3 ((n : Int),rows,()) = some (0,()):=by
 have e1 : ltI (n : Int) 0 = false:=by rw [aN]; exact decide_eq_false (by omega)
 have e2 : ltI 12 (n : Int) = false:=by rw [aN]; exact decide_eq_false (by omega)
 have e3 : ltI 12 (rows.length : Int) = false:=by rw [aN]; exact decide_eq_false (by omega)
 simp only [l3,e1,e2,e3,cond_false,aMA rows (by omega) (by omega) hlen hr,aH]
theorem of_eq (rows : List (List Int)) {n : Nat} (hk : rows.length ≤ 12) (hn : n ≤ 12) (hlen : ∀ r ∈ rows,r.length = n) {E T : Nat→Nat} (hr : ∀ r ∈ rows,∀ a ∈ r,a.natAbs ≤ E 0) (hE : E 0 ≤ 1000000000) (hb : Bds rows.length n E T)
  (hfin : ∀ d M p,d ≤ rows.length→Hn d M p→Same rows.length (YD rows) d M→(∀ i,i < d→∀ x,n ≤ x→M i x = 0)→∀ i,i < d→∀ x,x < n→(M i x).natAbs ≤ 1000000000) :
  ∃ d M p,kP ((n : Int),rows,()) = some (((n : Int),(List.range d).map fun i=>Vr n (M i)),0,())∧d ≤ rows.length∧Hn d M p∧Same rows.length (YD rows) d M∧(∀ i,i < d→∀ x,n ≤ x→M i x = 0)∧∀ i,i < d→∀ x,x < n→(M i x).natAbs ≤ 1000000000:=by
 obtain ⟨m,A,h1,h2⟩:=aO5 rows (n:=n) (by omega) (by omega) hlen (fun r h a ha=>by have:=hr r h a ha; omega)
 have hrow : ∀ i,i < rows.length→∃ r,r ∈ rows∧YD rows i = BN r:=fun i hi=>⟨rows[i],List.getElem_mem hi,by unfold YD; simp [List.getD,hi]⟩
 have hw : Wd rows.length n (YD rows):=fun i hi x hx=>by
  obtain ⟨r,hr1,hr2⟩:=hrow i hi
  rw [hr2]; unfold BN
  have:=hlen r hr1
  simp [List.getD,List.getElem?_eq_none (show r.length ≤ x by omega)]
 have hB : Big rows.length n (YD rows) (E 0):=fun i hi x hx=>by
  obtain ⟨r,hr1,hr2⟩:=hrow i hi
  rw [hr2]; unfold BN
  have hl:=hlen r hr1
  have : r.getD x 0 = r[x]'(by omega):=by simp [List.getD,show x < r.length by omega]
  rw [this]
  exact hr r hr1 _ (List.getElem_mem _)
 obtain ⟨m',A',J',M',d,p,g1,g2,g3,g4,g5,g6,g7⟩:=a5B (by omega) (by omega) h2 hw hB hb
 have hwd : ∀ i,i < d→∀ x,n ≤ x→M' i x = 0:=fun i hi x hx=>g6 i (by omega) x hx
 have hf:=hfin d M' p g2 g4 g5 hwd
 refine ⟨d,M',p,?_,g2,g4,g5,hwd,hf⟩
 have e0 : eqI 0 0 = true:=by decide
 simp only [kP,aM1 rows hk hn hlen (fun r h a ha=>Nat.le_trans (hr r h a ha) hE),aH,e0,Bool.not_true,cond_false,h1,g1,aVK g3 g2 (by omega) (by omega) hf (n : Int)]
end Go.PM
set_option linter.unusedSimpArgs false
set_option linter.unusedVariables false
namespace Go.PM
open Go Go.RowKit Go.Proofs Go.Lz
set_option maxRecDepth 100000
theorem A0 (n : Nat) (v : V) : (Vr n v).length = n:=by simp [Vr]
theorem aI9 {n i : Nat} (v : V) (h : i < n) : (Vr n v).getD i 0 = v i:=by simp [Vr,List.getD,h]
theorem aYN {n : Nat} {v : V} {B : Nat} (h : ∀ x,x < n→(v x).natAbs ≤ B) : ∀ a ∈ Vr n v,a.natAbs ≤ B:=by
 intro a ha
 obtain ⟨x,hx,rfl⟩:=List.mem_map.1 ha
 exact h x (List.mem_range.1 hx)
def Mr (d n : Nat) (M : Nat→V) : List (List Int):=(List.range d).map fun i=>Vr n (M i)
theorem FG (d n : Nat) (M : Nat→V) : (Mr d n M).length = d:=by simp [Mr]
theorem aX5 {d n i : Nat} (M : Nat→V) (h : i < d) (z : List Int) : (Mr d n M).getD i z = Vr n (M i):=by simp [Mr,List.getD,h]
theorem aVL {d n : Nat} {M : Nat→V} {r : List Int} (h : r ∈ Mr d n M) : ∃ i,i < d∧r = Vr n (M i):=by
 obtain ⟨i,hi,rfl⟩:=List.mem_map.1 h
 exact ⟨i,List.mem_range.1 hi,rfl⟩

theorem aVX (r : List Int) (hl : r.length < 1048576) (hr : ∀ a ∈ r,a.natAbs ≤ 1000000000) : cL (r,(),()) = some (false,()):=by
 have key:=cZ (step:=cB) (N:=2 ^ 64) (fun t=>(r,(),(r.length : Int),(t : Int),())) r.length (.inr ()) (by omega) (fun t ht=>?_) ?_
 ·have key : bM cB (2 ^ 64) (r,(),(r.length : Int),0,()) = some (.inr ()):=key
  have e2 : ltI (-1) 0 = true:=by decide
  simp only [cL,eG,eT,key,aH,pZ,e2,Bool.not_true]
 ·have e1 : ltI (t : Int) (r.length : Int) = true:=by rw [aN]; exact decide_eq_true (by omega)
  have e2 : aQ (t : Int) r.length = true:=by rw [bA]; exact decide_eq_true (by omega)
  have e3 : ((t : Nat) : Int).toNat = t:=Int.toNat_natCast _
  have e4 : r.getD t 0 = r[t]:=by simp [List.getD,ht]
  have b:=hr r[t] (List.getElem_mem ht)
  have e5 : ltI r[t] (-1000000000) = false:=by rw [aN]; exact decide_eq_false (by omega)
  have e6 : ltI 1000000000 r[t] = false:=by rw [aN]; exact decide_eq_false (by omega)
  have e7:=c7 t (by omega)
  simp only [cB,e1,e2,e3,e4,uU,e5,e6,aH,cond_true,cond_false,e7]
 ·have e1 : ltI (r.length : Int) (r.length : Int) = false:=by rw [aN]; exact decide_eq_false (by omega)
  simp only [cB,e1,cond_false]
theorem aAC (rows : List (List Int)) {n : Nat} (hk : rows.length ≤ 12) (hn : n ≤ 12) (hlen : ∀ r ∈ rows,r.length = n) (hr : ∀ r ∈ rows,∀ a ∈ r,a.natAbs ≤ 1000000000) : rP (rows,()) = some (0,()):=by
 have key:=cZ (step:=kY) (N:=2 ^ 64) (fun t=>(rows,rows,(rows.length : Int),(t : Int),())) rows.length (.inr ()) (by omega) (fun t ht=>?_) ?_
 ·have key : bM kY (2 ^ 64) (rows,rows,(rows.length : Int),0,()) = some (.inr ()):=key
  have e1 : ltI 12 (rows.length : Int) = false:=by rw [aN]; exact decide_eq_false (by omega)
  simp only [rP,qK,e1,cond_false,key,aH,pZ]
 ·have e1 : ltI (t : Int) (rows.length : Int) = true:=by rw [aN]; exact decide_eq_true (by omega)
  have e2 : aQ (t : Int) rows.length = true:=by rw [bA]; exact decide_eq_true (by omega)
  have e3 : ((t : Nat) : Int).toNat = t:=Int.toNat_natCast _
  have e4 : rows.getD t [] = rows[t]:=by simp [List.getD,ht]
  have e4' : rows.getD 0 [] = rows[0]:=by simp [List.getD,show 0 < rows.length by omega]
  have hm:=List.getElem_mem ht
  have hm0:=List.getElem_mem (show 0 < rows.length by omega)
  have e5 : ltI 12 (rows[t].length : Int) = false:=by rw [aN,hlen _ hm]; exact decide_eq_false (by omega)
  have e6 : aQ 0 rows.length = true:=by rw [bA]; exact decide_eq_true (by omega)
  have e7 : eqI (rows[t].length : Int) (rows[0].length : Int) = true:=by rw [dY,hlen _ hm,hlen _ hm0]; exact decide_eq_true rfl
  have e8:=aVX rows[t] (by rw [hlen _ hm]; omega) (hr _ hm)
  have e9:=c7 t (by omega)
  simp only [kY,e1,e2,e3,e4,e4',e5,e6,e7,e8,e9,aH,Bool.not_true,cond_true,cond_false]
 ·have e1 : ltI (rows.length : Int) (rows.length : Int) = false:=by rw [aN]; exact decide_eq_false (by omega)
  simp only [kY,e1,cond_false]
theorem aX4 {n c : Nat} {v : V} (hn : n < 1048576) (hc : c < n) (hz : ∀ x,x < c→v x = 0) (hp : v c ≠ 0) : oJ (Vr n v,()) = some ((c : Int),()):=by
 have hl:=A0 n v
 have key:=cZ (step:=bZ) (N:=2 ^ 64) (fun t=>(Vr n v,(),(n : Int),(t : Int),())) c (.inl ((c : Int),())) (by omega) (fun t ht=>?_) ?_
 ·have key : bM bZ (2 ^ 64) (Vr n v,(),(n : Int),0,()) = some (.inl ((c : Int),())):=key
  simp only [oJ,eM,eQ,hl,key,aH,aF7]
 ·have e1 : ltI (t : Int) (n : Int) = true:=by rw [aN]; exact decide_eq_true (by omega)
  have e2 : aQ (t : Int) n = true:=by rw [bA]; exact decide_eq_true (by omega)
  have e3 : ((t : Nat) : Int).toNat = t:=Int.toNat_natCast _
  have e4 : (Vr n v).getD t 0 = 0:=by rw [aI9 v (by omega)]; exact hz t ht
  have e5 : eqI 0 0 = true:=by decide
  have e9:=c7 t (by omega)
  simp only [bZ,hl,e1,e2,e3,e4,lN,e5,e9,aH,Bool.not_true,cond_true,cond_false]
 ·have e1 : ltI (c : Int) (n : Int) = true:=by rw [aN]; exact decide_eq_true (by omega)
  have e2 : aQ (c : Int) n = true:=by rw [bA]; exact decide_eq_true (by omega)
  have e3 : ((c : Nat) : Int).toNat = c:=Int.toNat_natCast _
  have e4 : eqI ((Vr n v).getD c 0) 0 = false:=by rw [aI9 v hc,dY]; exact decide_eq_false hp
  simp only [bZ,hl,e1,e2,e3,lN,e4,aH,Bool.not_false,cond_true]
theorem aZZ {n c : Nat} {v : V} (hn : n < 1048576) (hc : c < n) (hz : ∀ x,x < c→v x = 0) (hp : v c ≠ 0) : iE (Zr n v,()) = some ((c : Int),()):=by
 have hl:=jH n v
 have key:=cZ (step:=bH) (N:=2 ^ 64) (fun t=>(Zr n v,(),(n : Int),(t : Int),())) c (.inl ((c : Int),())) (by omega) (fun t ht=>?_) ?_
 ·have key : bM bH (2 ^ 64) (Zr n v,(),(n : Int),0,()) = some (.inl ((c : Int),())):=key
  simp only [iE,cI,cR,hl,key,aH,aF7]
 ·have e1 : ltI (t : Int) (n : Int) = true:=by rw [aN]; exact decide_eq_true (by omega)
  have e2 : aQ (t : Int) n = true:=by rw [bA]; exact decide_eq_true (by omega)
  have e3 : ((t : Nat) : Int).toNat = t:=Int.toNat_natCast _
  have e4 : eqS ((Zr n v).getD t ByteArray.empty) (ByteArray.mk #[48]) = true:=by rw [CC v (by omega),wX]; exact decide_eq_true (hz t ht)
  have e9:=c7 t (by omega)
  simp only [bH,hl,e1,e2,e3,iI,e4,e9,aH,Bool.not_true,cond_true,cond_false]
 ·have e1 : ltI (c : Int) (n : Int) = true:=by rw [aN]; exact decide_eq_true (by omega)
  have e2 : aQ (c : Int) n = true:=by rw [bA]; exact decide_eq_true (by omega)
  have e3 : ((c : Nat) : Int).toNat = c:=Int.toNat_natCast _
  have e4 : eqS ((Zr n v).getD c ByteArray.empty) (ByteArray.mk #[48]) = false:=by rw [CC v hc,wX]; exact decide_eq_false hp
  simp only [bH,hl,e1,e2,e3,iI,e4,aH,Bool.not_false,cond_true]
theorem Hn.Z8 {d n : Nat} {M : Nat→V} {p : Nat→Nat} (h : Hn d M p) (hw : ∀ i,i < d→∀ x,n ≤ x→M i x = 0) {i : Nat} (hi : i < d) : p i < n:=by
 rcases Nat.lt_or_ge (p i) n with g | g
 ·exact g
 ·have:=hw i hi _ g
  have:=h.pos i hi
  omega
theorem aWL {d n t : Nat} {M : Nat→V} {p : Nat→Nat} (h : Hn d M p) (hw : ∀ i,i < d→∀ x,n ≤ x→M i x = 0) (hd : d < 1048576) (hn : n < 1048576) (ht : t < d) :
  bO (Mr t n M,((p t : Int),Vr n (M t),()),()) = some (false,()):=by
 have hl:=FG t n M
 have hp:=Hn.Z8 h hw ht
 have key:=cZ (step:=bL) (N:=2 ^ 64) (fun s=>(Mr t n M,((p t : Int),Vr n (M t),()),(t : Int),(s : Int),())) t (.inr ()) (by omega) (fun s hs=>?_) ?_
 ·have key : bM bL (2 ^ 64) (Mr t n M,((p t : Int),Vr n (M t),()),(t : Int),0,()) = some (.inr ()):=key
  have e2 : ltI (-1) 0 = true:=by decide
  simp only [bO,cO,cX,hl,key,aH,pZ,e2,Bool.not_true]
 ·have e1 : ltI (s : Int) (t : Int) = true:=by rw [aN]; exact decide_eq_true (by omega)
  have e2 : aQ (s : Int) t = true:=by rw [bA]; exact decide_eq_true (by omega)
  have e3 : ∀ a : Nat,((a : Nat) : Int).toNat = a:=fun a=>Int.toNat_natCast _
  have e4:=aX5 (n:=n) M hs []
  have e5 : aQ (p t : Int) n = true:=by rw [bA]; exact decide_eq_true (by omega)
  obtain ⟨r1,r2⟩:=h.red s t hs ht
  have e6 : ltI (M s (p t)) 0 = false:=by rw [aN]; exact decide_eq_false (by omega)
  have e7 : ltI (M s (p t)) (M t (p t)) = true:=by rw [aN]; exact decide_eq_true r2
  have e9:=c7 s (by omega)
  simp only [bL,hl,e1,e2,e3,e4,lV,A0,e5,aI9 _ hp,e6,e7,e9,aH,Bool.not_true,cond_true,cond_false]
 ·have e1 : ltI (t : Int) (t : Int) = false:=by rw [aN]; exact decide_eq_false (by omega)
  simp only [bL,e1,cond_false]
theorem aTR {d n : Nat} {M : Nat→V} {p : Nat→Nat} (h : Hn d M p) (hw : ∀ i,i < d→∀ x,n ≤ x→M i x = 0) (hd : d < 1048576) (hn : n < 1048576) : mP (Mr d n M,()) = some (true,()):=by
 have hl:=FG d n M
 obtain ⟨q,hq⟩ : ∃ q : Nat→Int,q = fun t=>if t = 0 then -1 else (p (t - 1) : Int):=⟨_,rfl⟩
 have key:=cZ (step:=iM) (N:=2 ^ 64) (fun t=>(Mr d n M,q t,Mr d n M,(d : Int),(t : Int),())) d (.inr ()) (by omega) (fun t ht=>?_) ?_
 ·have q0 : q 0 = -1:=by rw [hq]; rfl
  rw [q0] at key
  have key : bM iM (2 ^ 64) (Mr d n M,-1,Mr d n M,(d : Int),0,()) = some (.inr ()):=key
  simp only [mP,mZ,hl,key,aH,pZ]
 ·have hp:=Hn.Z8 h hw ht
  have e1 : ltI (t : Int) (d : Int) = true:=by rw [aN]; exact decide_eq_true (by omega)
  have e2 : aQ (t : Int) d = true:=by rw [bA]; exact decide_eq_true (by omega)
  have e3 : ∀ a : Nat,((a : Nat) : Int).toNat = a:=fun a=>Int.toNat_natCast _
  have e4:=aX5 (n:=n) M ht []
  have e5:=aX4 hn hp (h.low t ht) (by have:=h.pos t ht; omega)
  have e6 : ltI (q t) (p t : Int) = true:=by
   rw [aN,hq]
   dsimp only
   split
   ·exact decide_eq_true (by omega)
   ·have:=h.inc (t - 1) t (by omega) ht
    exact decide_eq_true (by omega)
  have e7 : aQ (p t : Int) n = true:=by rw [bA]; exact decide_eq_true (by omega)
  have e8 : ltI (M t (p t)) 0 = false:=by rw [aN]; exact decide_eq_false (by have:=h.pos t ht; omega)
  have e9 : ltI (t : Int) 0 = false:=by rw [aN]; exact decide_eq_false (by omega)
  have e10 : Nat.ble 0 t = true:=rfl
  have e11 : Nat.ble t d = true:=by rw [fJ]; exact decide_eq_true (by omega)
  have e12 : ((Mr d n M).drop 0).take (t - 0) = Mr t n M:=by
   rw [List.drop_zero,Nat.sub_zero]
   unfold Mr
   rw [← List.map_take,List.take_range,Nat.min_eq_left (by omega)]
  have e13:=aWL h hw hd hn ht
  have e14:=c7 t (by omega)
  have e15 : q (t + 1) = (p t : Int):=by rw [hq]; simp
  simp only [iM,hl,e1,e2,e3,e4,e5,aH,e6,A0,e7,aI9 _ hp,e8,e9,e10,e11,e12,e13,e14,e15,Bool.not_true,Bool.not_false,cond_true,cond_false]
 ·have e1 : ltI (d : Int) (d : Int) = false:=by rw [aN]; exact decide_eq_false (by omega)
  simp only [iM,e1,cond_false]
theorem aY7 {d n : Nat} {M : Nat→V} {p : Nat→Nat} (h : Hn d M p) (hw : ∀ i,i < d→∀ x,n ≤ x→M i x = 0) (hd : d ≤ 12) (hn : n ≤ 12) (hM : ∀ i,i < d→∀ x,x < n→(M i x).natAbs ≤ 1000000000) : oH (((n : Int),Mr d n M),()) = some (0,()):=by
 have hlen : ∀ r ∈ Mr d n M,r.length = n:=fun r hr=>by
  obtain ⟨i,_,rfl⟩:=aVL hr
  exact A0 _ _
 have hr : ∀ r ∈ Mr d n M,∀ a ∈ r,a.natAbs ≤ 1000000000:=fun r hr=>by
  obtain ⟨i,hi,rfl⟩:=aVL hr
  exact aYN (hM i hi)
 have e0 : eqI 0 0 = true:=by decide
 have c1:=aM1 (Mr d n M) (n:=n) (by rw [FG]; exact hd) hn hlen hr
 have c2:=aAC (Mr d n M) (n:=n) (by rw [FG]; exact hd) hn hlen hr
 simp only [oH,c1,aH,e0,Bool.not_true,cond_false,pN,c2,aTR h hw (by omega) (by omega),cond_true]
theorem aLA {d n : Nat} {M : Nat→V} {p : Nat→Nat} (h : Hn d M p) (hw : ∀ i,i < d→∀ x,n ≤ x→M i x = 0) (hd : d ≤ 12) (hn : n ≤ 12) (hM : ∀ i,i < d→∀ x,x < n→(M i x).natAbs ≤ 1000000000) (r : List Int) (hl : r.length = n) (hr : ∀ a ∈ r,a.natAbs ≤ 1000000000) :
  kV (((n : Int),Mr d n M),r,()) = some (0,()):=by
 have e0 : eqI 0 0 = true:=by decide
 have e1 : eqI (r.length : Int) (n : Int) = true:=by rw [dY,hl]; exact decide_eq_true rfl
 simp only [kV,aY7 h hw hd hn hM,aH,e0,Bool.not_true,cond_false,G9 r (by omega) hr,e1]
end Go.PM
set_option linter.unusedSimpArgs false
set_option linter.unusedVariables false
namespace Go.PM
open Go Go.RowKit Go.Proofs Go.Lz
set_option maxRecDepth 100000
theorem aY4 {n : Nat} {u v : V} {q : Int} (hn : n < 1048576) (ok : Z0 n u v q) : aPC (t:=.str) eX (Zr n u) (Zn q,Zr n v,()) = some (Zr n fun x=>u x - q * v x):=by
 have hl:=jH n u
 have main : eX () ((0,0,n),Zn q,Zr n v,()) [Zr n u] = some ((),[Zr n fun x=>u x - q * v x]):=by
  unfold eX
  simp only [wX]
  by_cases hq : q = 0
  ·subst hq
   simp only [decide_true,cond_true]
   have : Zr n (fun x=>u x - 0 * v x) = Zr n u:=yA fun i _=>by simp
   rw [this]
  ·have key:=cZ (step:=fB) (N:=2 ^ 64)
    (fun t=>((0,0,n),Zn q,Zr n v,(n : Int),(t : Int),[Zr n fun x=>if x < t then u x - q * v x else u x],())) n ([Zr n fun x=>u x - q * v x],()) (by omega) (fun t ht=>?_) ?_
   ·have h0 : Zr n (fun x=>if x < 0 then u x - q * v x else u x) = Zr n u:=yA fun i _=>by simp
    simp only [h0] at key
    have key : bM fB (2 ^ 64) ((0,0,n),Zn q,Zr n v,(n : Int),0,[Zr n u],()) = _:=key
    simp only [hq,decide_false,cond_false,jT,jH,key,aH]
   ·have e1 : ltI (t : Int) (n : Int) = true:=by rw [aN]; exact decide_eq_true (by omega)
    have e2 : aQ (t : Int) n = true:=by rw [bA]; exact decide_eq_true (by omega)
    have e3 : (0 + t) * 1 = t:=by omega
    have e3' : ((t : Nat) : Int).toNat = t:=Int.toNat_natCast _
    have e4 : eU [Zr n fun x=>if x < t then u x - q * v x else u x] 0 = n:=by
     show (Zr n _).length = n
     exact jH _ _
    have e6 : Nat.blt t n = true:=by rw [cY]; simpa using ht
    have e7 : gI [Zr n fun x=>if x < t then u x - q * v x else u x] 0 t ByteArray.empty = Zn (u t):=by
     show (Zr n _).getD t _ = _
     rw [CC _ ht]; simp
    have e9 : wB [Zr n fun x=>if x < t then u x - q * v x else u x] 0 t (Zn (u t - q * v t)) = [Zr n fun x=>if x < t + 1 then u x - q * v x else u x]:=by
     show [(Zr n _).set t _] = _
     rw [aNR u (fun x=>u x - q * v x) t ht]
    have m1:=aGO q (v t) (ok.mul t ht)
    have m2:=aE8 (u t) (q * v t) (ok.sub t ht) (by rw [Int.natAbs_mul]; exact Nat.le_trans (WT _ _) (ok.mul t ht))
    have e10:=c7 t (by omega)
    simp only [fB,e1,cond_true,e2,e3',e3,e6,e4,e7,jH,CC v ht,m1,aH,m2,e9,e10]
   ·have e1 : ltI (n : Int) (n : Int) = false:=by rw [aN]; exact decide_eq_false (by omega)
    have : Zr n (fun x=>if x < n then u x - q * v x else u x) = Zr n fun x=>u x - q * v x:=yA fun i hi=>by simp [hi]
    simp only [fB,e1,cond_false,this]
 have e1 : Nat.beq (Zr n fun x=>u x - q * v x).length (Zr n u).length = true:=by
  have hbb : ∀ a : Nat,Nat.beq a a = true:=fun a=>by
   induction a with
   | zero=>rfl
   | succ a ih=>exact ih
  rw [jH,jH]
  exact hbb n
 unfold aPC
 rw [hl,main]
 simp only [hl,jH] at e1 ⊢
 rw [e1]; rfl

def red (M : Nat→V) (p : Nat→Nat) : Nat→V→V
 | 0,u=>u
 | t + 1,u=>fun x=>red M p t u x - (red M p t u (p t)).fdiv (M t (p t)) * M t x
def quo (M : Nat→V) (p : Nat→Nat) (t : Nat) (u : V) : Int:=(red M p t u (p t)).fdiv (M t (p t))
section
variable {d n : Nat} {M : Nat→V} {p : Nat→Nat}
theorem aKK (h : Hn d M p) (u : V) : ∀ t,t ≤ d→Sp d M (fun x=>u x - red M p t u x)
 | 0,_=>by
  refine cast (congrArg _ ?_) Sp.zero
  funext x; simp [red]
 | t + 1,ht=>by
  have:=Sp.comb (quo M p t u) (aKK h u t (by omega)) (Sp.mem (M:=M) (show t < d by omega))
  refine cast (congrArg _ ?_) this
  funext x
  simp only [red,quo]
  grind
theorem aWQ (h : Hn d M p) (u : V) : ∀ t,t ≤ d→∀ i,i < t→0 ≤ red M p t u (p i)∧red M p t u (p i) < M i (p i)
 | 0,_,i,hi=>by omega
 | t + 1,ht,i,hi=>by
  by_cases e : i = t
  ·subst e
   simp only [red]
   rw [SC]
   have hp:=h.pos i (by omega)
   exact ⟨Int.fmod_nonneg_of_pos _ hp,Int.fmod_lt_of_pos _ hp⟩
  ·have hlow:=h.low t (by omega) (p i) (h.inc i t (by omega) (by omega))
   simp only [red,hlow,Int.mul_zero,Int.sub_zero]
   exact aWQ h u t (by omega) i (by omega)
theorem aW4 (hw : ∀ i,i < d→∀ x,n ≤ x→M i x = 0) {u : V} (hu : ∀ x,n ≤ x→u x = 0) : ∀ t,t ≤ d→∀ x,n ≤ x→red M p t u x = 0
 | 0,_,x,hx=>hu x hx
 | t + 1,ht,x,hx=>by
  simp only [red,aW4 hw hu t (by omega) x hx,hw t (by omega) x hx,Int.mul_zero,Int.sub_zero]
structure Rds (d n : Nat) (M : Nat→V) (B : Nat) (U : Nat→Nat) : Prop where
 row : ∀ i,i < d→∀ x,x < n→(M i x).natAbs ≤ B
 up : ∀ t,t < d→U t + (U t + 1) * B ≤ U (t + 1)
 fit : ∀ t,t < d→Lib.nDigits (U t + 1) + Lib.nDigits B ≤ mM
theorem aQK {B : Nat} {U : Nat→Nat} (h : Hn d M p) (hw : ∀ i,i < d→∀ x,n ≤ x→M i x = 0) (hb : Rds d n M B U) {u : V} (hu : ∀ x,x < n→(u x).natAbs ≤ U 0) : ∀ t,t ≤ d→∀ x,x < n→(red M p t u x).natAbs ≤ U t
 | 0,_,x,hx=>hu x hx
 | t + 1,ht,x,hx=>by
  have h1:=aQK h hw hb hu t (by omega)
  have hpos:=h.pos t (by omega)
  have hp:=Hn.Z8 h hw (show t < d by omega)
  have h2:=R0 (h1 (p t) hp) (show M t (p t) ≠ 0 by omega)
  have h3 : (red M p t u (p t)).fdiv (M t (p t)) * M t x = (red M p t u (p t)).fdiv (M t (p t)) * M t x:=rfl
  have h4 : ((red M p t u (p t)).fdiv (M t (p t)) * M t x).natAbs = ((red M p t u (p t)).fdiv (M t (p t))).natAbs * (M t x).natAbs:=Int.natAbs_mul _ _
  have h5 : ((red M p t u (p t)).fdiv (M t (p t))).natAbs * (M t x).natAbs ≤ (U t + 1) * B:=Nat.mul_le_mul h2 (hb.row t (by omega) x hx)
  have h6:=hb.up t (by omega)
  have h7:=h1 x hx
  simp only [red]
  omega
end
theorem aPV (r : List Int) (hl : r.length ≤ 1048576) (hr : ∀ a ∈ r,-9223372036854775808 ≤ a∧a < 9223372036854775808) : kB (r,()) = some (r.map Zn,()):=by
 have e1 : ltI (r.length : Int) 0 = false:=by rw [aN]; exact decide_eq_false (by omega)
 have e2 : ltI 1048576 (r.length : Int) = false:=by rw [aN]; exact decide_eq_false (by omega)
 have key : mD ([],r,(r.length : Int),0,()) = some (r.map Zn,()):=WW r hl hr
 unfold kB
 simp only [e1,e2,Bool.not_false,cond_true,List.replicate_zero,key,aH]
theorem aUV (n : Nat) (v : V) : (Vr n v).map Zn = Zr n v:=by simp [Vr,Zr]
section
variable {d n : Nat} {M : Nat→V} {p : Nat→Nat}
theorem aF5 (h : Hn d M p) (hw : ∀ i,i < d→∀ x,n ≤ x→M i x = 0) (hn : n < 1048576) (hM : ∀ i,i < d→∀ x,x < n→(M i x).natAbs ≤ 1000000000) : ∀ l : List Nat,(∀ i ∈ l,i < d) →
  aA5 (l.map fun i=>Vr n (M i)) = some (l.map fun i=>((p i : Int),Zr n (M i),()))
 | [],_=>rfl
 | i :: l,hl=>by
  have hi:=hl i (by simp)
  have e1:=aPV (Vr n (M i)) (by rw [A0]; omega) (fun a ha=>by have:=aYN (hM i hi) a ha; omega)
  rw [aUV] at e1
  have e2:=aZZ hn (Hn.Z8 h hw hi) (h.low i hi) (by have:=h.pos i hi; omega)
  have e3:=aF5 h hw hn hM l (fun j hj=>hl j (by simp [hj]))
  simp only [List.map_cons,aA5,e1,aH,e2,e3]
theorem aN9 (h : Hn d M p) (hw : ∀ i,i < d→∀ x,n ≤ x→M i x = 0) (hn : n < 1048576) (hd : d < 1048576) (hM : ∀ i,i < d→∀ x,x < n→(M i x).natAbs ≤ 1000000000) :
  Q2 (((n : Int),Mr d n M),()) = some ((List.range d).map fun i=>((p i : Int),Zr n (M i),())):=by
 have e1 : Nat.ble (Mr d n M).length 1048576 = true:=by rw [fJ,FG]; exact decide_eq_true (by omega)
 simp only [Q2,e1,cond_true]
 exact aF5 h hw hn hM (List.range d) fun i hi=>List.mem_range.1 hi
theorem WJ {B : Nat} {U : Nat→Nat} (h : Hn d M p) (hw : ∀ i,i < d→∀ x,n ≤ x→M i x = 0) (hn : n < 1048576) (hd : d < 1048576) (hb : Rds d n M B U) {u : V} (hu : ∀ x,x < n→(u x).natAbs ≤ U 0) (c : tN [(.prod (.int .i64) (.list (.list (.int .i64))))]) : ∀ (j t : Nat),t + j = d→∀ (q : List ByteArray),q.length = t →
  ∃ q',GV fH (a4P bP dA) ((List.range' t j).map fun i=>((p i : Int),Zr n (M i),())) (Zr n (red M p t u),q,c,()) = some (Zr n (red M p d u),q',())
 | 0,t,ht,q,_=>by
  have : t = d:=by omega
  subst this
  exact ⟨q,rfl⟩
 | j + 1,t,ht,q,hq=>by
  have htd : t < d:=by omega
  have hpos:=h.pos t htd
  have hp:=Hn.Z8 h hw htd
  have hR:=aQK h hw hb hu t (by omega)
  have f:=hb.fit t htd
  have hdm : mM = 18:=rfl
  have g1 : Lib.nDigits (red M p t u (p t)).natAbs ≤ 17:=by
   have h1:=qX (show (red M p t u (p t)).natAbs ≤ U t + 1 from Nat.le_succ_of_le (hR (p t) hp))
   have h2:=nDigits_pos B
   omega
  have g2 : Lib.nDigits (M t (p t)).natAbs ≤ 17:=by
   have h1:=qX (hb.row t htd (p t) hp)
   have h2:=nDigits_pos (U t + 1)
   omega
  have e0 : ((p t : Nat) : Int).toNat = p t:=Int.toNat_natCast _
  have e1 : aQ (p t : Int) n = true:=by rw [bA]; exact decide_eq_true (by omega)
  have e2 : Nat.blt (p t) n = true:=by rw [cY]; simpa using hp
  have e3:=HY (red M p t u (p t)) (M t (p t)) (by omega) (by omega) (show M t (p t) ≠ 0 by omega)
  have hq1:=R0 (hR (p t) hp) (show M t (p t) ≠ 0 by omega)
  have e4:=aY4 (n:=n) (u:=red M p t u) (v:=M t) (q:=(red M p t u (p t)).fdiv (M t (p t))) hn ⟨fun i hi=>by
    have h1:=qX hq1
    have h2:=qX (hb.row t htd i hi)
    omega,fun i hi=>by
    have h1:=qX (show (red M p t u i).natAbs ≤ U t + 1 from Nat.le_succ_of_le (hR i hi))
    omega⟩
  have e5 : Nat.ble [Zn ((red M p t u (p t)).fdiv (M t (p t)))].length 1048576 = true:=rfl
  have e6 : Nat.ble q.length 1048576 = true:=by rw [fJ,hq]; exact decide_eq_true (by omega)
  obtain ⟨c1,⟨⟩⟩:=c
  obtain ⟨q',hq'⟩:=WJ h hw hn hd hb hu ((c1.1,c1.2),()) j (t + 1) (by omega) (q ++ [Zn ((red M p t u (p t)).fdiv (M t (p t)))]) (by simp [hq])
  refine ⟨q',?_⟩
  rw [List.range'_succ,List.map_cons,GV]
  have hs : fH (Zr n (red M p t u),q,(c1,()),()) ((p t : Int),Zr n (M t),()) = some (.inl (Zr n (red M p (t + 1) u),q ++ [Zn ((red M p t u (p t)).fdiv (M t (p t)))],((c1.1,c1.2),()),())):=by
   have e7 : (Zr n fun x=>red M p t u x - (red M p t u (p t)).fdiv (M t (p t)) * M t x) = Zr n (red M p (t + 1) u):=rfl
   rw [e7] at e4
   simp only [fH,jH,e0,e1,e2,CC _ hp,e3,aH,e4,e5,e6,cond_true]
  rw [hs]
  exact hq'
theorem aTD {B : Nat} {U : Nat→Nat} (h : Hn d M p) (hw : ∀ i,i < d→∀ x,n ≤ x→M i x = 0) (hn : n ≤ 12) (hd : d ≤ 12) (hM : ∀ i,i < d→∀ x,x < n→(M i x).natAbs ≤ 1000000000) (hb : Rds d n M B U) (r : List Int) (hl : r.length = n) (hr : ∀ a ∈ r,a.natAbs ≤ U 0) (hU : U 0 ≤ 1000000000) :
  ∃ q,fX (((n : Int),Mr d n M),r,()) = some (Zr n (red M p d (BN r)),q,()):=by
 have hu : ∀ x,x < n→(BN r x).natAbs ≤ U 0:=fun x hx=>by
  unfold BN
  have : r.getD x 0 = r[x]'(by omega):=by simp [List.getD,show x < r.length by omega]
  rw [this]
  exact hr _ (List.getElem_mem _)
 have e1:=aFC r (by omega) (fun a ha=>by have:=hr a ha; omega)
 have e2 : r.map Zn = Zr n (BN r):=by rw [← hl,aPX]
 rw [e2] at e1
 obtain ⟨q,hq⟩:=WJ h hw (by omega) (by omega) hb hu (((n : Int),Mr d n M),()) d 0 (by omega) [] rfl
 rw [← List.range_eq_range'] at hq
 refine ⟨q,?_⟩
 have e3:=aN9 h hw (by omega) (by omega) hM
 have e4 : fF (Zr n (BN r),[],(((n : Int),Mr d n M),()),()) = some (Zr n (red M p d (BN r)),q,()):=by
  unfold fF aCS
  simp only [lE,e3]
  exact hq
 simp only [fX,e1,aH,iL,e4]
theorem short_list {v : V} (hn : n < 1048576) (ok : ∀ x,x < n→(v x).natAbs ≤ 1000000000) : jK (Zr n v,()) = some (Vr n v,0,()):=by
 have key:=cZ (step:=fM) (N:=2 ^ 64) (fun t=>(Vr t v,Zr n v,(n : Int),(t : Int),())) n (.inr (Vr n v,())) (by omega) (fun t ht=>?_) ?_
 ·have e1 : ltI (n : Int) 0 = false:=by rw [aN]; exact decide_eq_false (by omega)
  have e2 : ltI 1048576 (n : Int) = false:=by rw [aN]; exact decide_eq_false (by omega)
  have key : bM fM (2 ^ 64) ([],Zr n v,(n : Int),0,()) = _:=key
  unfold jK kG
  simp only [jH,e1,e2,Bool.not_false,cond_true,List.replicate_zero,key,aH,pZ]
 ·have b1:=ok t ht
  have e1 : ltI (t : Int) (n : Int) = true:=by rw [aN]; exact decide_eq_true (by omega)
  have e2 : aQ (t : Int) n = true:=by rw [bA]; exact decide_eq_true (by omega)
  have e3 : ((t : Nat) : Int).toNat = t:=Int.toNat_natCast _
  have e8:=XE (v t) (by have:=j7 (u:=(v t).natAbs) (k:=17) (by omega); omega)
  have e9 : ltI 1000000000 (v t) = false:=by rw [aN]; exact decide_eq_false (by omega)
  have e10 : ltI (v t) (-1000000000) = false:=by rw [aN]; exact decide_eq_false (by omega)
  have e11 : Nat.ble [v t].length 1048576 = true:=rfl
  have e12 : Nat.ble (Vr t v).length 1048576 = true:=by rw [fJ,A0]; exact decide_eq_true (by omega)
  have e13:=c7 t (by omega)
  have e14 : Vr t v ++ [v t] = Vr (t + 1) v:=by unfold Vr; rw [List.range_succ,List.map_append]; rfl
  simp only [fM,jH,e1,e2,e3,CC v ht,e8,e9,e10,e11,e12,e13,e14,aH,cond_true,cond_false]
 ·have e1 : ltI (n : Int) (n : Int) = false:=by rw [aN]; exact decide_eq_false (by omega)
  simp only [fM,e1,cond_false]
theorem aHW {B : Nat} {U : Nat→Nat} (h : Hn d M p) (hw : ∀ i,i < d→∀ x,n ≤ x→M i x = 0) (hn : n ≤ 12) (hd : d ≤ 12) (hM : ∀ i,i < d→∀ x,x < n→(M i x).natAbs ≤ 1000000000) (hb : Rds d n M B U) (r : List Int) (hl : r.length = n) (hr : ∀ a ∈ r,a.natAbs ≤ U 0) (hU : U 0 ≤ 1000000000)
  (hfin : ∀ x,x < n→(red M p d (BN r) x).natAbs ≤ 1000000000) :
  dB (((n : Int),Mr d n M),r,()) = some (Vr n (red M p d (BN r)),0,()):=by
 obtain ⟨q,hq⟩:=aTD h hw hn hd hM hb r hl hr hU
 have e0 : eqI 0 0 = true:=by decide
 simp only [dB,aLA h hw hd hn hM r hl (fun a ha=>Nat.le_trans (hr a ha) hU),aH,e0,Bool.not_true,cond_false,hq,short_list (show n < 1048576 by omega) hfin]
end
end Go.PM
set_option linter.unusedSimpArgs false
set_option linter.unusedVariables false
namespace Go.Lz
theorem Sp.none {M : Nat→V} {v : V} (h : Sp 0 M v) : v = fun _=>0:=by
 funext x
 exact Sp.S9 (x:=x) (fun j hj=>by omega) h
theorem Sp.one {M : Nat→V} {v : V} (h : Sp 1 M v) : ∃ a : Int,v = fun x=>a * M 0 x:=by
 obtain ⟨t,u,hu,rfl⟩:=h.first
 have:=hu.none
 subst this
 exact ⟨t,by funext x; simp⟩
theorem Sp.two {M : Nat→V} {v : V} (h : Sp 2 M v) : ∃ a b : Int,v = fun x=>a * M 0 x + b * M 1 x:=by
 obtain ⟨t,u,hu,rfl⟩:=h.first
 obtain ⟨s,rfl⟩:=hu.one
 exact ⟨t,s,by funext x; simp only [Nat.zero_add]; omega⟩
theorem Sp.aZO {M : Nat→V} (a b : Int) : Sp 2 M (fun x=>a * M 0 x + b * M 1 x) :=
 Sp.comb b (Sp.smul a (Sp.mem (by decide))) (Sp.mem (by decide))

structure Piv (d : Nat) (M : Nat→V) (p : Nat→Nat) (U : Nat→V) (D : Int) (C : Nat) : Prop where
 sp : ∀ j,j < d→Sp d M (U j)
 off : ∀ i j,i < d→j < d→i ≠ j→U j (p i) = 0
 at_ : ∀ j,j < d→U j (p j) = D
 ne : D ≠ 0
 le : ∀ j,j < d→∀ x,(U j x).natAbs ≤ C
theorem Y2 {a b : Int} {E : Nat} (h1 : a.natAbs ≤ E) (h2 : b.natAbs ≤ E) : (a * b).natAbs ≤ E * E:=by
 rw [Int.natAbs_mul]; exact Nat.mul_le_mul h1 h2
theorem Piv.ex {d : Nat} {M N : Nat→V} {p : Nat→Nat} {E : Nat} (h : Hn d M p) (hs : Same 2 N d M) (hd : d ≤ 2) (hE : ∀ i,i < 2→∀ x,(N i x).natAbs ≤ E) (h1 : 1 ≤ E) : ∃ U D,Piv d M p U D (2 * (E * E)):=by
 have h0:=fun j (hj : j < 2)=>(hs _).1 (Sp.mem (M:=N) hj)
 have hEE : E ≤ E * E:=Nat.le_mul_of_pos_left E (by omega)
 rcases (by omega : d = 0 ∨ d = 1 ∨ d = 2) with rfl | rfl | rfl
 ·exact ⟨fun _ _=>0,1,fun j hj=>by omega,fun i j hi=>by omega,fun j hj=>by omega,by decide,fun j hj=>by omega⟩
 ·obtain ⟨a,b,hab⟩:=((hs _).2 (Sp.mem (M:=M) (show 0 < 1 by decide))).two
  have hp:=h.pos 0 (by decide)
  have : N 0 (p 0) ≠ 0 ∨ N 1 (p 0) ≠ 0:=by
   by_cases h2 : N 0 (p 0) = 0
   ·by_cases h3 : N 1 (p 0) = 0
    ·have:=congrFun hab (p 0)
     simp only [h2,h3,Int.mul_zero] at this
     omega
    ·exact .inr h3
   ·exact .inl h2
  rcases this with h2 | h2
  ·refine ⟨fun _=>N 0,N 0 (p 0),fun j hj=>h0 0 (by decide),fun i j hi hj hne=>by omega,fun j hj=>?_,h2,fun j hj x=>?_⟩
   ·have : j = 0:=by omega
    subst this; rfl
   ·have:=hE 0 (by decide) x; omega
  ·refine ⟨fun _=>N 1,N 1 (p 0),fun j hj=>h0 1 (by decide),fun i j hi hj hne=>by omega,fun j hj=>?_,h2,fun j hj x=>?_⟩
   ·have : j = 0:=by omega
    subst this; rfl
   ·have:=hE 1 (by decide) x; omega
 ·obtain ⟨a,b,hab⟩:=((hs _).2 (Sp.mem (M:=M) (show 0 < 2 by decide))).two
  obtain ⟨c,e,hce⟩:=((hs _).2 (Sp.mem (M:=M) (show 1 < 2 by decide))).two
  have q0:=h.pos 0 (by decide)
  have q1:=h.pos 1 (by decide)
  have q2:=h.low 1 (by decide) (p 0) (h.inc 0 1 (by decide) (by decide))
  have w1:=congrFun hab (p 0)
  have w2:=congrFun hab (p 1)
  have w3:=congrFun hce (p 0)
  have w4:=congrFun hce (p 1)
  have hD : N 0 (p 0) * N 1 (p 1) - N 0 (p 1) * N 1 (p 0) ≠ 0:=by
   intro hz
   have : M 0 (p 0) * M 1 (p 1) - M 0 (p 1) * M 1 (p 0) = (a * e - b * c) * (N 0 (p 0) * N 1 (p 1) - N 0 (p 1) * N 1 (p 0)):=by
    rw [w1,w2,w3,w4]; grind
   rw [hz,q2] at this
   have:=Int.mul_pos q0 q1
   omega
  refine ⟨fun j=>if j = 0 then fun x=>N 1 (p 1) * N 0 x + -(N 0 (p 1)) * N 1 x else fun x=>-(N 1 (p 0)) * N 0 x + N 0 (p 0) * N 1 x,N 0 (p 0) * N 1 (p 1) - N 0 (p 1) * N 1 (p 0),fun j hj=>?_,fun i j hi hj hne=>?_,fun j hj=>?_,hD,fun j hj x=>?_⟩
  ·rcases (by omega : j = 0 ∨ j = 1) with rfl | rfl
   ·exact (hs _).1 (Sp.aZO _ _)
   ·exact (hs _).1 (Sp.aZO _ _)
  ·rcases (by omega : (i = 0∧j = 1) ∨ (i = 1∧j = 0)) with ⟨rfl,rfl⟩ | ⟨rfl,rfl⟩
   ·simp; grind
   ·simp; grind
  ·rcases (by omega : j = 0 ∨ j = 1) with rfl | rfl
   ·simp; grind
   ·simp; grind
  ·have b1:=Y2 (hE 1 (by decide) (p 1)) (hE 0 (by decide) x)
   have b2:=Y2 (hE 0 (by decide) (p 1)) (hE 1 (by decide) x)
   have b3:=Y2 (hE 1 (by decide) (p 0)) (hE 0 (by decide) x)
   have b4:=Y2 (hE 0 (by decide) (p 0)) (hE 1 (by decide) x)
   rcases (by omega : j = 0 ∨ j = 1) with rfl | rfl
   ·simp only [if_pos,Int.neg_mul]; omega
   ·simp only [if_neg (show ¬ 1 = 0 by decide),Int.neg_mul]; omega
theorem Piv.bound {d : Nat} {M : Nat→V} {p : Nat→Nat} {U : Nat→V} {D : Int} {C : Nat} (h : Hn d M p) (k : Piv d M p U D C) {i : Nat} (hi : i < d) (x : Nat) : (M i x).natAbs ≤ d * C :=
 Nat.le_trans (h.bound k.sp k.off (fun j hj=>by rw [k.at_ j hj]; exact k.ne) hi x) (Z2 fun j hj=>k.le j hj x)
theorem Piv.row {d : Nat} {M : Nat→V} {p : Nat→Nat} {U : Nat→V} {D : Int} {C : Nat} (h : Hn d M p) (k : Piv d M p U D C) {s : V} (hs : Sp d M s) (x : Nat) : D * s x = KS d fun j=>s (p j) * U j x:=by
 have hz:=h.aQQ (v:=fun x=>D * s x - KS d fun j=>s (p j) * U j x) (Sp.sub (Sp.smul D hs) (Sp.KS d k.sp)) (fun l hl=>by
  have : ∀ n,n ≤ d→(KS n fun j=>s (p j) * U j (p l)) = if l < n then D * s (p l) else 0:=by
   intro n
   induction n with
   | zero=>intro _; rfl
   | succ n ih =>
    intro hn
    rw [KS,ih (by omega)]
    by_cases e : l = n
    ·subst e
     rw [if_neg (Nat.lt_irrefl _),if_pos (Nat.lt_succ_self _),k.at_ l hl]
     grind
    ·rw [k.off l n hl (by omega) e]
     by_cases e1 : l < n
     ·have e2 : l < n + 1:=by omega
      rw [if_pos e1,if_pos e2]; simp
     ·have e2 : ¬ l < n + 1:=by omega
      rw [if_neg e1,if_neg e2]; simp
  rw [this d (Nat.le_refl _),if_pos hl]
  omega)
 have:=congrFun hz x
 omega
theorem Piv.rest {d : Nat} {M : Nat→V} {p : Nat→Nat} {U : Nat→V} {D : Int} {C : Nat} (h : Hn d M p) (k : Piv d M p U D C) {u v : V} (hs : Sp d M fun x=>u x - v x) {W B : Nat} (hu : ∀ x,(u x).natAbs ≤ W) (hv : ∀ i,i < d→(v (p i)).natAbs ≤ B) (x : Nat) :
  (v x).natAbs ≤ W + d * ((W + B) * C):=by
 have h1:=k.row h hs x
 have h2 : (KS d fun j=>(u (p j) - v (p j)) * U j x).natAbs ≤ d * ((W + B) * C):=by
  refine Nat.le_trans (aAV _ _) (Z2 fun j hj=>?_)
  rw [Int.natAbs_mul]
  refine Nat.mul_le_mul ?_ (k.le j hj x)
  have:=hu (p j)
  have:=hv j hj
  omega
 have h3 : (u x - v x).natAbs ≤ (D * (u x - v x)).natAbs:=by
  rw [Int.natAbs_mul]
  exact Nat.le_mul_of_pos_left _ (by have:=k.ne; omega)
 rw [h1] at h3
 have:=hu x
 omega
end Go.Lz
set_option linter.unusedSimpArgs false
set_option linter.unusedVariables false
namespace Go.PM
open Go Go.RowKit Go.Proofs Go.Lz
set_option maxRecDepth 100000
def B18 : Nat→Nat
 | 0=>18
 | 1=>324900018
 | _=>324900018 + (324900018 + 1) * 324900018
def T18 : Nat→Nat
 | 0=>17100000
 | _=>324900018
theorem bD9 (n : Nat) : Bds 2 n B18 T18 where
 st:=fun d hd=>by
  rcases (by omega : d = 0 ∨ d = 1) with rfl | rfl
  ·exact ⟨by decide,by decide,fun _=>by decide,by
    show 2 * Lib.nDigits 17100001 ≤ 18
    have:=j7 (u:=17100001) (k:=7) (by decide)
    omega⟩
  ·exact ⟨by decide,by decide,fun h=>by omega,by
    show 2 * Lib.nDigits 324900019 ≤ 18
    have:=j7 (u:=324900019) (k:=8) (by decide)
    omega⟩
 up:=fun d hd=>by
  rcases (by omega : d = 0 ∨ d = 1) with rfl | rfl
  ·decide
  ·decide
def U18 : Nat→Nat
 | 0=>4700
 | 1=>4700 + (4700 + 1) * 1296
 | _=>6097196 + (6097196 + 1) * 1296
theorem aIK {r : List Int} {B : Nat} (h : ∀ a ∈ r,a.natAbs ≤ B) (x : Nat) : (BN r x).natAbs ≤ B:=by
 unfold BN
 rw [List.getD_eq_getElem?_getD]
 by_cases hx : x < r.length
 ·rw [List.getElem?_eq_getElem hx]; exact h _ (List.getElem_mem hx)
 ·rw [List.getElem?_eq_none (by omega)]; exact Nat.zero_le _
theorem a9G {r u : List Int} {B : Nat} (hr : ∀ a ∈ r,a.natAbs ≤ B) (hu : ∀ a ∈ u,a.natAbs ≤ B) : ∀ i,i < 2→∀ x,(YD [r,u] i x).natAbs ≤ B:=fun i hi x=>by
 rcases (by omega : i = 0 ∨ i = 1) with rfl | rfl
 ·exact aIK hr x
 ·exact aIK hu x
theorem a8N {n : Nat} {r u : List Int} (hn : n ≤ 12) (lr : r.length = n) (lu : u.length = n) (br : ∀ a ∈ r,a.natAbs ≤ 18) (bu : ∀ a ∈ u,a.natAbs ≤ 18) :
  ∃ d M p,kP ((n : Int),[r,u],()) = some (((n : Int),Mr d n M),0,())∧Hn d M p∧Same 2 (YD [r,u]) d M ∧
   ∀ o : List Int,o.length = n→(∀ a ∈ o,a.natAbs ≤ 4700)→dB (((n : Int),Mr d n M),o,()) = some (Vr n (red M p d (BN o)),0,()):=by
 have hE:=a9G br bu
 have small : ∀ d M p,d ≤ 2→Hn d M p→Same 2 (YD [r,u]) d M→∀ i,i < d→∀ x,(M i x).natAbs ≤ 1296:=fun d M p hd h hs i hi x=>by
  obtain ⟨U,D,k⟩:=Piv.ex h hs hd hE (by decide)
  have h1:=k.bound h hi x
  have h2 : d * (2 * (18 * 18)) ≤ 2 * (2 * (18 * 18)):=Nat.mul_le_mul_right _ hd
  omega
 obtain ⟨d,M,p,h1,h2,h3,h4,h5,h6⟩:=of_eq [r,u] (n:=n) (by show 2 ≤ 12; decide) hn (fun s hs=>by
   rcases List.mem_cons.1 hs with rfl | hs
   ·exact lr
   ·rcases List.mem_cons.1 hs with rfl | hs
    ·exact lu
    ·cases hs) (E:=B18) (T:=T18) (fun s hs a ha=>by
   rcases List.mem_cons.1 hs with rfl | hs
   ·exact br a ha
   ·rcases List.mem_cons.1 hs with rfl | hs
    ·exact bu a ha
    ·cases hs) (by decide) (bD9 n) (fun d M p hd h hs _ i hi x _=>by have:=small d M p hd h hs i hi x; omega)
 have h2 : d ≤ 2:=h2
 refine ⟨d,M,p,h1,h3,h4,fun o lo bo=>?_⟩
 have hb:=small d M p h2 h3 h4
 have hR : Rds d n M 1296 U18:=⟨fun i hi x _=>hb i hi x,fun t ht=>by
   rcases (by omega : t = 0 ∨ t = 1) with rfl | rfl
   ·decide
   ·decide,fun t ht=>by
   have h18 : mM = 18:=rfl
   have d1:=j7 (u:=1296) (k:=3) (by decide)
   rcases (by omega : t = 0 ∨ t = 1) with rfl | rfl
   ·have:=j7 (u:=U18 0 + 1) (k:=3) (by decide)
    omega
   ·have:=j7 (u:=U18 1 + 1) (k:=6) (by decide)
    omega⟩
 refine aHW h3 h5 hn (by omega) h6 hR o lo bo (by decide) fun x hx=>?_
 obtain ⟨U,D,k⟩:=Piv.ex h3 h4 h2 hE (by decide)
 have h7:=k.rest h3 (aKK h3 (BN o) d (Nat.le_refl _)) (aIK bo) (B:=1296) (fun i hi=>by
  obtain ⟨q1,q2⟩:=aWQ h3 (BN o) d (Nat.le_refl _) i hi
  have:=hb i hi (p i)
  omega) x
 have h8 : d * ((4700 + 1296) * (2 * (18 * 18))) ≤ 2 * ((4700 + 1296) * (2 * (18 * 18))):=Nat.mul_le_mul_right _ h2
 omega
end Go.PM
set_option linter.unusedSimpArgs false
set_option linter.unusedVariables false
namespace Go.PM
open Go Go.RowKit Go.Proofs Go.Lz
set_option maxRecDepth 100000
theorem aYA (a : Int) : f98 (a,()) = some (false,()):=by
 unfold f98; dsimp only
 simp [dY]
theorem bBX (a b : Int) : f74 (a,b,()) = some (if a < b then -1 else if b < a then 1 else 0,()):=by
 unfold f74; dsimp only
 rw [aYA,aH,aYA,aH]
 simp only [cond_false,aN,cD]
 by_cases h1 : a < b
 ·rw [if_pos h1,if_pos h1]
 ·rw [if_neg h1,if_neg h1]
  by_cases h2 : b < a
  ·rw [if_pos h2,if_pos h2]
  ·rw [if_neg h2,if_neg h2]
theorem a7C (l m : List Int) (hl : l.length ≤ 9223372036854775806) (hm : m.length ≤ 9223372036854775806) : f57 (l,m,()) = some (cmpL l m,()):=by
 have hloop : SG (l,m,l,(l.length : Int),0,()) = some (((List.range l.length).findSome? fun i=>(T6 l m i).map fun y=>.inl (y,())).getD (.inr (l,m,()))):=by
  refine PS (N:=2 ^ 64) (step:=LF) (fun i=>(l,m,l,(l.length : Int),(i : Int),())) (fun i=>(T6 l m i).map fun y=>.inl (y,())) l.length (.inr (l,m,())) (by omega) ?_ ?_
  ·intro i hi
   simp only [LF,aN,dY,bA,pB,cD,Int.toNat_natCast]
   rw [if_pos (by omega),if_pos (by omega),bBX,aH,c7 i (by omega)]
   by_cases h2 : i < m.length
   ·rw [if_neg (by omega),if_pos (by omega)]
    by_cases h3 : l.getD i 0 < m.getD i 0
    ·have hc : T6 l m i = some (-1):=by unfold T6; rw [if_neg (fun h=>h h2),if_pos h3]
     rw [hc,if_pos h3,if_pos (by decide)]; rfl
    ·by_cases h4 : m.getD i 0 < l.getD i 0
     ·have hc : T6 l m i = some 1:=by unfold T6; rw [if_neg (fun h=>h h2),if_neg h3,if_pos h4]
      rw [hc,if_neg h3,if_pos h4,if_pos (by decide)]; rfl
     ·have hc : T6 l m i = none:=by unfold T6; rw [if_neg (fun h=>h h2),if_neg h3,if_neg h4]
      rw [hc,if_neg h3,if_neg h4,if_neg (by decide)]; rfl
   ·have hc : T6 l m i = some 1:=by unfold T6; rw [if_pos h2]
    rw [hc,if_pos (by omega)]; rfl
  ·simp only [LF,aN,cD]
   rw [if_neg (by omega)]
 have hfind:=(aRP l m 0).resolve_right (by omega)
 rw [Nat.sub_zero,← List.range_eq_range'] at hfind
 simp only [List.drop_zero] at hfind
 unfold f57; dsimp only
 rw [hloop,aH,RS,← hfind]
 cases (List.range l.length).findSome? (T6 l m) with
 | some y=>rfl
 | none =>
  simp only [Option.map_none,Option.getD_none,pZ,aN,cD]
  by_cases h : l.length < m.length
  ·rw [if_pos h,if_pos (by omega)]
  ·rw [if_neg h,if_neg (by omega)]
theorem QA (l m : List Int) (hl : l.length ≤ 9223372036854775806) (hm : m.length ≤ 9223372036854775806) : f35 (l,m,()) = some (cmpL l m,()):=by
 unfold f35; dsimp only
 rw [a7C l m hl hm,aH]
abbrev key (l : Lay) : List Int×List Int:=(l.2.2.1,l.2.2.2)
theorem bAQ {a b : Lay} (ha : ShL a) (hb : ShL b) : f48 (a,b,()) = some (XR (key a) (key b),()):=by
 obtain ⟨k,o,r,u⟩:=a
 obtain ⟨k',o',r',u'⟩:=b
 obtain ⟨-,a1,a2⟩:=ha
 obtain ⟨-,b1,b2⟩:=hb
 dsimp only at a1 a2 b1 b2
 unfold f48 XR key; dsimp only
 rw [QA r r' (by omega) (by omega),aH,QA u u' (by omega) (by omega)]
 simp only [dY,pB,cD,aH]
 by_cases h : cmpL r r' = 0
 ·rw [if_neg (not_not_intro h),if_neg (not_not_intro h)]
 ·rw [if_pos h,if_pos h]
theorem N8.sh {B : Int} {l : Lay} (h : N8 B l) : ShL l:=⟨by have:=h.len; omega,by have:=h.len; have:=h.right; omega,by have:=h.len; have:=h.up; omega⟩
abbrev z4 : S4:=(0,(0,(0,0)))
def bst (l : Lay) : S4:=match kM l.1 with
 | []=>z4
 | g :: r=>least (fun g=>key (trn l g)) r g
def can (l : Lay) (w : List Int) : Lay:=(l.1,w,(trn l (bst l)).2.2.1,(trn l (bst l)).2.2.2)
theorem Sm.abs {B : Int} {r : List Int} (h : Sm B r) {C : Nat} (hC : B ≤ C) : ∀ a ∈ r,a.natAbs ≤ C:=fun a ha=>by have:=h a ha; omega
end Go.PM
set_option linter.unusedSimpArgs false
set_option linter.unusedVariables false
namespace Go.PM
open Go Go.RowKit Go.Proofs Go.Lz
set_option maxRecDepth 100000
theorem bEE {σ τ : Type} {step : σ→Option (σ ⊕ τ)} {N : Nat} {Z : τ→Prop} (I : Nat→σ→Prop) (m : Nat) (x : σ) (hN : m < N) (h0 : I 0 x)
  (h : ∀ i y,i < m→I i y→∃ y',step y = some (.inl y')∧I (i + 1) y') (he : ∀ y,I m y→∃ z,step y = some (.inr z)∧Z z) : ∃ z,bM step N x = some z∧Z z:=by
 suffices H : ∀ k i y,i + k = m→I i y→∃ z,bM step (k + 1 + (N - m - 1)) y = some z∧Z z by
  have:=H m 0 x (Nat.zero_add m) h0
  rwa [show m + 1 + (N - m - 1) = N by omega] at this
 intro k
 induction k with
 | zero =>
  intro i y hi hy
  have hi : i = m:=by omega
  subst hi
  obtain ⟨z,e1,e2⟩:=he y hy
  rw [show 0 + 1 + (N - i - 1) = (N - i - 1) + 1 by omega,c8,e1]
  exact ⟨z,rfl,e2⟩
 | succ k ih =>
  intro i y hi hy
  obtain ⟨y',e1,e2⟩:=h i y (by omega) hy
  rw [show k + 1 + 1 + (N - m - 1) = (k + 1 + (N - m - 1)) + 1 by omega,c8,e1]
  exact ih (i + 1) y' (by omega) e2
theorem U9 : ∀ (f u : Nat) (acc : List UInt8),(GH f u acc).length ≤ f + acc.length
 | 0,u,acc=>by simp [GH]
 | f + 1,u,acc=>by
  rw [GH]
  cases h : Nat.blt u 10 with
  | true=>rw [cond_true]; simp; omega
  | false =>
   rw [cond_false]
   have:=U9 f (u / 10) (UInt8.ofNat (48 + u % 10) :: acc)
   rw [List.length_cons] at this
   omega
theorem aNJ (n : Int) : (rX n).data.toList.length ≤ 21:=by
 cases n with
 | ofNat u =>
  show (GH 20 u []).length ≤ 21
  have:=U9 20 u []
  simp at this; omega
 | negSucc u =>
  show (45 :: GH 20 (u + 1) []).length ≤ 21
  have:=U9 20 (u + 1) []
  simp at this ⊢; omega
theorem aFT (sep : List UInt8) : ∀ (l : List ByteArray),(∀ x ∈ l,x.data.toList.length ≤ 21)→(uH l sep).length ≤ l.length * (21 + sep.length)
 | [],_=>by simp [uH]
 | [x],h=>by
  have:=h x (by simp)
  simp only [uH,List.length_singleton,Nat.one_mul]
  omega
 | x :: y :: r,h=>by
  have h1:=h x (by simp)
  have h2:=aFT sep (y :: r) fun z hz=>h z (by simp [hz])
  rw [uH,List.length_append,List.length_append,List.length_cons,Nat.add_mul]
  omega
def aPU (r : List Int) : ByteArray:=((ByteArray.mk #[91]) ++ ⟨(uH (r.map rX) [32]).toArray⟩) ++ (ByteArray.mk #[62])
theorem aP7 {B : Int} {r : List Int} (hl : r.length ≤ 64) (hr : Sm B r) (hB : B ≤ 1000000000) : wN (r,true,()) = some (aPU r,0,())∧(aPU r).size ≤ 10000:=by
 have hck : pA (r,()) = some (0,()):=G9 r hl fun a ha=>by have:=hr a ha; omega
 have hloop : qR (true,[],r,(r.length : Int),0,()) = some (true,r.map rX,()):=by
  have hz : r.map rX = (r.take r.length).map rX:=by rw [List.take_length]
  rw [hz]
  refine cZ (N:=2 ^ 64) (step:=rD) (fun i=>(true,(r.take i).map rX,r,(r.length : Int),(i : Int),())) r.length _ (by omega) ?_ ?_
  ·intro i hi
   have ha:=hr _ (aMX hi)
   have hit : lJ (r.getD i 0,()) = some (rX (r.getD i 0),()):=by
    unfold lJ
    dsimp only
    rw [aN,aN,decide_eq_false (by omega),decide_eq_false (by omega)]
    rfl
   simp only [rD,aN,bA,fJ,cD,Int.toNat_natCast]
   rw [if_pos (by omega),if_pos (by omega),hit,aH,if_pos (by simp),if_pos (by simp; omega),c7 i (by omega),List.take_succ_eq_append_getElem hi,List.map_append]
   have : r.getD i 0 = r[i]:=by simp [List.getD_eq_getElem?_getD,hi]
   rw [this]
   rfl
  ·simp only [rD,aN,cD]
   rw [if_neg (by omega)]
 have hj : (uH (r.map rX) [32]).length ≤ 64 * 22:=by
  have h1:=aFT [32] (r.map rX) fun x hx=>by
   obtain ⟨a,-,rfl⟩:=List.mem_map.1 hx
   exact aNJ a
  rw [List.length_map] at h1
  have h2 : r.length * (21 + [(32 : UInt8)].length) ≤ 64 * 22:=Nat.mul_le_mul hl (by decide)
  exact Nat.le_trans h1 h2
 have hjoin : nG (r.map rX,ByteArray.mk #[32],()) = some (⟨(uH (r.map rX) [32]).toArray⟩,()):=by
  unfold nG
  show (bif Nat.ble _ 1048576 && Nat.ble (uH (r.map rX) [32]).length 1048576 then _ else none) = _
  rw [fJ,fJ,List.length_map,decide_eq_true (by omega),decide_eq_true (by omega)]
  rfl
 have hs1 : (⟨(uH (r.map rX) [32]).toArray⟩ : ByteArray).size ≤ 1408:=hj
 have hs2 : ((ByteArray.mk #[91]) ++ ⟨(uH (r.map rX) [32]).toArray⟩ : ByteArray).size ≤ 1409:=by
  rw [ByteArray.size_append]
  have : (ByteArray.mk #[91]).size = 1:=rfl
  omega
 have hs3 : (ByteArray.mk #[62]).size = 1:=rfl
 have hs4 : (ByteArray.mk #[91]).size = 1:=rfl
 refine ⟨?_,?_⟩
 ·unfold wN
  dsimp only
  rw [hck,aH]
  show (aB (qR (true,[],r,(r.length : Int),0,())) _) = _
  rw [hloop,aH]
  show (aB (nG (r.map rX,ByteArray.mk #[32],())) _) = _
  rw [hjoin,aH]
  show (bif Nat.ble _ 9223372036854775807 then bif Nat.ble _ 9223372036854775807 then _ else none else none) = _
  rw [fJ,fJ,decide_eq_true (by rw [hs4]; show 1 + (⟨(uH (r.map rX) [32]).toArray⟩ : ByteArray).size ≤ _; omega),decide_eq_true (by rw [hs3]; show ((ByteArray.mk #[91]) ++ ⟨(uH (r.map rX) [32]).toArray⟩ : ByteArray).size + 1 ≤ _; omega)]
  rfl
 ·unfold aPU
  rw [ByteArray.size_append]
  omega
structure BL (k : Int) (r : Nat) (B : Int) (l : Lay) : Prop where
 kind : l.1 = k
 org : l.2.1 = List.replicate r 0
 rl : l.2.2.1.length = r
 ul : l.2.2.2.length = r
 rs : Sm B l.2.2.1
 us : Sm B l.2.2.2
theorem BL.sh {k : Int} {r : Nat} {B : Int} {l : Lay} (h : BL k r B l) (hr : r ≤ 4) : ShL l:=⟨by rw [h.org]; simp; omega,by rw [h.rl]; omega,by rw [h.ul]; omega⟩
theorem BL.mono {k : Int} {r : Nat} {B C : Int} {l : Lay} (h : BL k r B l) (hBC : B ≤ C) : BL k r C l:=⟨h.kind,h.org,h.rl,h.ul,fun v hv=>by have:=h.rs v hv; omega,fun v hv=>by have:=h.us v hv; omega⟩
theorem BL.trn {k : Int} {r : Nat} {B : Int} {l : Lay} {g : S4} (h : BL k r B l) (hg : CM g) (hB : B ≤ 1000000000) : BL k r (2 * B) (trn l g) :=
 ⟨h.kind,h.org,by show (mx _ _ _ _).length = _; rw [AZ]; exact h.rl,by show (mx _ _ _ _).length = _; rw [AZ]; exact h.rl,TB hg.1 hg.2.2.1 h.rs h.us (by rw [h.rl,h.ul]) hB,TB hg.2.1 hg.2.2.2 h.rs h.us (by rw [h.rl,h.ul]) hB⟩
theorem aQ6 {k : Int} {r : Nat} {B : Int} {l b : Lay} (hl : BL k r B l) (hr : r ≤ 4) (hB : B ≤ 1000000000) {g : S4} (hg : CM g) (hb : BL k r (2 * B) b)
  (v1 : Ty.den (.prod (.int .i64) (.prod (.int .i64) (.int .i64)))) (v2 : List Lay) (v3 v4 : Int) (v7 : List Lay) (v8 v24 v25 v28 v29 : Int) (n : List (Int×Int)) (A : List (List ByteArray)) :
  S5 (v1,v2,v3,v4,(),v7,v8,l,b,v24,v25,v28,v29,(n,()),A,()) (g,()) = some (.inl (v1,v2,v3,v4,(),v7,v8,l,(if XR (key (Go.PM.trn l g)) (key b) < 0 then Go.PM.trn l g else b),v24,v25,v28,v29,(n,()),A,())):=by
 have h40 : f40 (l,g,()) = some (Go.PM.trn l g,()):=bB2 g (by rw [hl.org]; simp; omega) (by rw [hl.rl,hl.ul]) (by rw [hl.rl]; omega)
 show (aB (f40 (l,g,())) _) = _
 rw [h40,aH]
 show (aB (f48 (Go.PM.trn l g,b,())) _) = _
 rw [bAQ ((hl.trn hg hB).sh hr) (hb.sh hr),aH]
 show (bif ltI (XR (key (Go.PM.trn l g)) (key b)) 0 then _ else _) = _
 rw [aN,cD]
 by_cases hc : XR (key (Go.PM.trn l g)) (key b) < 0
 ·rw [if_pos hc,if_pos hc]
 ·rw [if_neg hc,if_neg hc]
def XP (l : Lay) : List S4→Lay→Lay
 | [],b=>b
 | g :: L,b=>XP l L (if XR (key (trn l g)) (key b) < 0 then trn l g else b)
theorem aQD {k : Int} {r : Nat} {B : Int} {l : Lay} (hl : BL k r B l) (hr : r ≤ 4) (hB : B ≤ 1000000000)
  (v1 : Ty.den (.prod (.int .i64) (.prod (.int .i64) (.int .i64)))) (v2 : List Lay) (v3 v4 : Int) (v7 : List Lay) (v8 v24 v25 v28 v29 : Int) (n : List (Int×Int)) (A : List (List ByteArray)) :
  ∀ (L : List S4),(∀ g ∈ L,CM g)→∀ b,BL k r (2 * B) b→BL k r (2 * B) (XP l L b) ∧
   GV S5 (a4P EF PU) (L.map fun e=>(e,())) (v1,v2,v3,v4,(),v7,v8,l,b,v24,v25,v28,v29,(n,()),A,()) = some (v1,v2,v3,v4,(),v7,v8,XP l L b,v24,v25,v28,v29,A,())
 | [],_,b,hb=>⟨hb,rfl⟩
 | g :: L,hL,b,hb=>by
  have hg:=hL g (by simp)
  rw [List.map_cons,GV,aQ6 hl hr hB hg hb]
  refine aQD hl hr hB v1 v2 v3 v4 v7 v8 v24 v25 v28 v29 n A L (fun x hx=>hL x (by simp [hx])) _ ?_
  by_cases hc : XR (key (Go.PM.trn l g)) (key b) < 0
  ·rw [if_pos hc]; exact hl.trn hg hB
  ·rw [if_neg hc]; exact hb
theorem aSB {k : Int} {r : Nat} {B : Int} {l : Lay} (hl : BL k r B l) (hr : r ≤ 4) (hB0 : 0 ≤ B) (hB : B ≤ 1000000000)
  (v1 : Ty.den (.prod (.int .i64) (.prod (.int .i64) (.int .i64)))) (v2 : List Lay) (v3 v4 : Int) (v7 : List Lay) (v8 v24 v25 v28 v29 : Int) (A : List (List ByteArray)) :
  BL k r (2 * B) (XP l (kM k) l)∧FF (v1,v2,v3,v4,(),v7,v8,l,l,v24,v25,v28,v29,(IQ k,()),A,()) = some (v1,v2,v3,v4,(),v7,v8,XP l (kM k) l,v24,v25,v28,v29,A,()):=by
 have hf:=aSQ k
 have hu : ∀ g ∈ kM k,CM g:=fun g hg=>aQV hg
 have h:=aQD hl hr hB v1 v2 v3 v4 v7 v8 v24 v25 v28 v29 (IQ k) A (kM k) hu l (hl.mono (by omega))
 refine ⟨h.1,?_⟩
 unfold FF aCS
 have hff : (fun x=>GU (aJF x)) (v1,v2,v3,v4,(),v7,v8,l,l,v24,v25,v28,v29,(IQ k,()),A,()) = _:=hf
 rw [hff]
 exact h.2
theorem aWE {k m i B : Int} {r : Nat} (hr : r ≤ 4) (hm0 : 0 ≤ m) (hm : r = 0 ∨ m ≤ B) (hB0 : 0 ≤ B) (hB : B ≤ 100000) (hi : 0 ≤ i∧i ≤ 1000000000) :
  ∃ l,f52 ((k,((r : Int),m)),i,()) = some (l,())∧l.length = r∧Sm B l:=by
 have hloop : ∃ z,LX (i,(k,((r : Int),m)),List.replicate r 0,((r : Int) - 1),()) = some z∧(z.1.length = r∧Sm B z.1):=by
  refine bEE (N:=2 ^ 64) (step:=LD) (fun t y=>∃ v l,y = (v,(k,((r : Int),m)),l,((r : Int) - 1 - t),())∧(0 ≤ v∧v ≤ 1000000000)∧l.length = r∧Sm B l) r _ (by omega) ⟨i,List.replicate r 0,by simp,hi,by simp,fun v hv=>?_⟩ ?_ ?_
  ·have:=(List.mem_replicate.1 hv).2; omega
  ·rintro t y ht ⟨v,l,rfl,hv,hl,hs⟩
   have hm : m ≤ B:=by rcases hm with h | h; omega; exact h
   have w1 : aE .i64 (2 * m) = 2 * m:=wrap64 (by omega) (by omega)
   have w2 : aE .i64 (2 * m + 1) = 2 * m + 1:=wrap64 (by omega) (by omega)
   have hd : 0 ≤ v.tdiv (2 * m + 1)∧v.tdiv (2 * m + 1) ≤ 1000000000:=by
    rw [Int.tdiv_eq_ediv_of_nonneg hv.1]
    exact ⟨Int.ediv_nonneg hv.1 (by omega),Int.le_trans (Int.ediv_le_self _ hv.1) hv.2⟩
   have hmo : 0 ≤ v.tmod (2 * m + 1)∧v.tmod (2 * m + 1) < 2 * m + 1:=by
    rw [Int.tmod_eq_emod_of_nonneg hv.1]
    exact ⟨Int.emod_nonneg _ (by omega),Int.emod_lt_of_pos _ (by omega)⟩
   have w3 : aE .i64 (v.tdiv (2 * m + 1)) = v.tdiv (2 * m + 1):=wrap64 (by omega) (by omega)
   have w4 : aE .i64 (v.tmod (2 * m + 1) - m) = v.tmod (2 * m + 1) - m:=wrap64 (by omega) (by omega)
   have w5 : aE .i64 ((r : Int) - 1 - t - 1) = (r : Int) - 1 - ((t + 1 : Nat) : Int):=by rw [wrap64 (by omega) (by omega)]; omega
   refine ⟨(v.tdiv (2 * m + 1),(k,((r : Int),m)),l.set ((r : Int) - 1 - t).toNat (v.tmod (2 * m + 1) - m),((r : Int) - 1 - ((t + 1 : Nat) : Int)),()),?_,_,_,rfl,hd,by simp [hl],fun x hx=>?_⟩
   ·simp only [LD,aN,bA,dY,cY,w1,w2,w3,w4,w5]
    rw [decide_eq_false (show ¬ ((r : Int) - 1 - t < 0) by omega),decide_eq_false (show ¬ (2 * m + 1 = 0) by omega),decide_eq_true (show 0 ≤ (r : Int) - 1 - t∧(r : Int) - 1 - t < l.length by omega),decide_eq_true (show ((r : Int) - 1 - t).toNat < l.length by omega)]
    rfl
   ·rcases List.mem_or_eq_of_mem_set hx with h | rfl
    ·exact hs x h
    ·omega
  ·rintro y ⟨v,l,rfl,hv,hl,hs⟩
   refine ⟨(l,()),?_,hl,hs⟩
   simp only [LD,aN]
   rw [decide_eq_true (show (r : Int) - 1 - r < 0 by omega)]
   rfl
 obtain ⟨⟨l,⟨⟩⟩,e1,e2,e3⟩:=hloop
 refine ⟨l,?_,e2,e3⟩
 unfold f52
 dsimp only
 rw [aN,aN,aN,decide_eq_false (show ¬ ((r : Int) < 0) by omega),decide_eq_false (show ¬ ((r : Int) < r) by omega),decide_eq_false (show ¬ (1048576 < (r : Int)) by omega),Int.toNat_natCast,wrap64 (by omega) (by omega)]
 show (aB (LX (i,(k,((r : Int),m)),List.replicate r 0,((r : Int) - 1),())) _) = _
 rw [e1,aH]
def aOP (l : Lay) : ByteArray:=aPU l.2.2.1 ++ aPU l.2.2.2
theorem a6V {k : Int} {r : Nat} {B : Int} {l : Lay} (h : BL k r B l) (hr : r ≤ 4) (hB : B ≤ 1000000000) : f53 (l,()) = some (aOP l,()):=by
 obtain ⟨h1,g1⟩:=aP7 (r:=l.2.2.1) (by rw [h.rl]; omega) h.rs hB
 obtain ⟨h2,g2⟩:=aP7 (r:=l.2.2.2) (by rw [h.ul]; omega) h.us hB
 unfold f53
 dsimp only
 rw [h1,aH,h2,aH]
 show (bif Nat.ble ((aPU l.2.2.1).size + (aPU l.2.2.2).size) 9223372036854775807 then _ else none) = _
 rw [fJ,decide_eq_true (by omega)]
 rfl
structure AI (k : Int) (r : Nat) (B : Int) (c : Nat) (a : List Lay×List ByteArray) : Prop where
 bl : ∀ x ∈ a.1,BL k r B x
 len : a.1.length ≤ c
 nil : a.1 = []→a.2 = []
 pos : 0 < c→a.1 ≠ []
def xB (a : List Lay×List ByteArray) (l : Lay) : List Lay×List ByteArray:=bif QC a.2 (aOP l) then a else (a.1 ++ [l],aO9 a.2 (aOP l))
theorem AI.step {k : Int} {r : Nat} {B : Int} {c : Nat} {a : List Lay×List ByteArray} (h : AI k r B c a) {l : Lay} (hl : BL k r B l) : AI k r B (c + 1) (xB a l):=by
 unfold xB
 cases hh : QC a.2 (aOP l) with
 | true =>
  refine ⟨h.bl,Nat.le_succ_of_le h.len,h.nil,fun _ h0=>?_⟩
  have h0 : a.1 = []:=h0
  rw [h.nil h0] at hh
  cases hh
 | false =>
  refine ⟨fun x hx=>?_,?_,fun h0=>?_,fun _ h0=>?_⟩
  ·rcases List.mem_append.1 hx with hx | hx
   ·exact h.bl x hx
   ·rw [List.mem_singleton.1 hx]; exact hl
  ·have:=h.len
   show (a.1 ++ [l]).length ≤ _
   rw [List.length_append,List.length_singleton]; omega
  ·have h0 : a.1 ++ [l] = []:=h0
   simp at h0
  ·have h0 : a.1 ++ [l] = []:=h0
   simp at h0
end Go.PM
set_option linter.unusedSimpArgs false
set_option linter.unusedVariables false
namespace Go.PM
open Go Go.RowKit Go.Proofs
set_option maxRecDepth 100000
theorem a9D {k r m w : Int} {l : List Lay} (h : f32 ((k,(r,m)),()) = some (l,w,())) : f33 ((k,(r,m)),()) = some ((l.length : Int),w,()):=by
 unfold f33
 dsimp only
 rw [h,aH]
end Go.PM
set_option linter.unusedSimpArgs false
set_option linter.unusedVariables false
namespace Go.PM
open Go Go.RowKit Go.Proofs Go.Lz
set_option maxRecDepth 100000
def aSF (r m i : Nat) : List Int:=(List.range r).map fun j=>((i / (2 * m + 1) ^ (r - 1 - j) % (2 * m + 1) : Nat) : Int) - m
def aKN (k : Int) (r m i j : Nat) : Lay:=(k,List.replicate r 0,aSF r m i,aSF r m j)
def fmB (l : Lay) : Lay:=XP l (kM l.1) l
def aIS (k : Int) (r m n i : Nat) (a : List Lay×List ByteArray) : List Lay×List ByteArray:=(List.range n).foldl (fun a j=>xB a (fmB (aKN k r m i j))) a
def aZE (k : Int) (r m n : Nat) : List Lay×List ByteArray:=(List.range n).foldl (fun a i=>aIS k r m n i a) ([],[])
def AL (k : Int) (r m n : Nat) : List Lay:=aHP ltL (aZE k r m n).1
def XK (k : Int) (r m n : Nat) : Bool:=(List.range n).all fun i=>match f52 ((k,((r : Int),(m : Int))),(i : Int),()) with
 | some (l,())=>decide (l = aSF r m i)
 | none=>false
theorem aLJ {k : Int} {r m n : Nat} (h : XK k r m n = true) {i : Nat} (hi : i < n) : f52 ((k,((r : Int),(m : Int))),(i : Int),()) = some (aSF r m i,()):=by
 have h:=List.all_eq_true.1 h i (List.mem_range.2 hi)
 split at h
 ·rename_i l e
  rw [e,of_decide_eq_true h]
 ·cases h
theorem ZL {k B : Int} {r m n : Nat} (hr : r ≤ 4) (hm : r = 0 ∨ (m : Int) ≤ B) (hB0 : 0 ≤ B) (hB : B ≤ 100000) (v2 : List Lay) (v3 v4 v24 v25 : Int) (hn : n ≤ 1000) (hk : XK k r m n = true) {i j : Nat} (hi : i < n) (hj : j < n)
  {c : Nat} (hc : c ≤ 1000000) {a : List Lay×List ByteArray} (ha : AI k r (2 * B) c a) : AI k r (2 * B) (c + 1) (xB a (fmB (aKN k r m i j))) ∧
  QS ((k,((r : Int),(m : Int))),v2,v3,v4,(),a.1,(i : Int),v24,v25,(n : Int),(j : Int),[a.2],()) = some (.inl ((k,((r : Int),(m : Int))),v2,v3,v4,(),(xB a (fmB (aKN k r m i j))).1,(i : Int),v24,v25,(n : Int),((j + 1 : Nat) : Int),[(xB a (fmB (aKN k r m i j))).2],())):=by
 obtain ⟨x,e1,x1,x2⟩:=aWE (k:=k) (i:=(i : Int)) hr (Int.natCast_nonneg m) hm hB0 hB (by omega)
 obtain ⟨y,e2,y1,y2⟩:=aWE (k:=k) (i:=(j : Int)) hr (Int.natCast_nonneg m) hm hB0 hB (by omega)
 have hx:=aLJ hk hi
 have hy:=aLJ hk hj
 rw [e1] at hx
 rw [e2] at hy
 have hx : x = aSF r m i:=congrArg Prod.fst (Option.some.inj hx)
 have hy : y = aSF r m j:=congrArg Prod.fst (Option.some.inj hy)
 have hl : BL k r B (k,List.replicate r 0,x,y):=⟨rfl,rfl,x1,y1,x2,y2⟩
 obtain ⟨hb,e3⟩:=aSB hl hr hB0 (by omega) (k,((r : Int),(m : Int))) v2 v3 v4 a.1 (i : Int) v24 v25 (n : Int) (j : Int) [a.2]
 have e4:=a6V hb hr (by omega)
 have hf : fmB (aKN k r m i j) = XP (k,List.replicate r 0,x,y) (kM k) (k,List.replicate r 0,x,y):=by rw [hx,hy]; rfl
 rw [hf]
 generalize XP (k,List.replicate r 0,x,y) (kM k) (k,List.replicate r 0,x,y) = b at hb e3 e4
 refine ⟨ha.step hb,?_⟩
 show (bif ltI (j : Int) n then bif !(ltI (r : Int) 0) then bif !(ltI (r : Int) (r : Int)) then bif !(ltI 1048576 (r : Int)) then aB (f52 ((k,((r : Int),(m : Int))),(i : Int),())) _ else none else none else none else _) = _
 rw [aN,aN,aN,aN,decide_eq_true (show (j : Int) < n by omega),decide_eq_false (show ¬ ((r : Int) < 0) by omega),decide_eq_false (show ¬ ((r : Int) < r) by omega),decide_eq_false (show ¬ (1048576 < (r : Int)) by omega)]
 show (aB (f52 ((k,((r : Int),(m : Int))),(i : Int),())) _) = _
 rw [e1,aH]
 show (aB (f52 ((k,((r : Int),(m : Int))),(j : Int),())) _) = _
 rw [e2,aH]
 show (aB (f38 (k,())) _) = _
 rw [a63,aH]
 show (aB (FF ((k,((r : Int),(m : Int))),v2,v3,v4,(),a.1,(i : Int),(k,List.replicate r 0,x,y),(k,List.replicate r 0,x,y),v24,v25,(n : Int),(j : Int),(IQ k,()),[a.2],())) _) = _
 rw [e3,aH]
 show (aB (f53 (b,())) _) = _
 rw [e4,aH]
 unfold xB
 show (bif QC a.2 (aOP b) then (some (Sum.inl ((k,((r : Int),(m : Int))),v2,v3,v4,(),a.1,(i : Int),v24,v25,(n : Int),aE .i64 ((j : Int) + 1),[a.2],())) : Option (Shape.den K2 ⊕ aR PR)) else (bif Nat.ble a.1.length 1048576 then (some (Sum.inl ((k,((r : Int),(m : Int))),v2,v3,v4,(),a.1 ++ [b],(i : Int),v24,v25,(n : Int),aE .i64 ((j : Int) + 1),[aO9 a.2 (aOP b)],())) : Option (Shape.den K2 ⊕ aR PR)) else none)) = _
 rw [c7 j (by omega)]
 cases hh : QC a.2 (aOP b) with
 | true=>rfl
 | false =>
  have:=ha.len
  rw [fJ,decide_eq_true (by omega)]
  rfl
theorem aHO {k B : Int} {r m n : Nat} (hr : r ≤ 4) (hm : r = 0 ∨ (m : Int) ≤ B) (hB0 : 0 ≤ B) (hB : B ≤ 100000) (hn : n ≤ 1000) (hk : XK k r m n = true) {i : Nat} (hi : i < n) {c : Nat} {a : List Lay×List ByteArray} (ha : AI k r (2 * B) c a) :
  ∀ t,t ≤ n→c + t ≤ 1000000→AI k r (2 * B) (c + t) ((List.range t).foldl (fun a j=>xB a (fmB (aKN k r m i j))) a)
 | 0,_,_=>ha
 | t + 1,ht,hc=>by
  rw [List.range_succ,List.foldl_append,List.foldl_cons,List.foldl_nil]
  have h:=aHO hr hm hB0 hB hn hk hi ha t (by omega) (by omega)
  exact (ZL hr hm hB0 hB [] 0 0 0 0 hn hk hi (show t < n by omega) (by omega) h).1
theorem aND {k B : Int} {r m n : Nat} (hr : r ≤ 4) (hm : r = 0 ∨ (m : Int) ≤ B) (hB0 : 0 ≤ B) (hB : B ≤ 100000) (v2 : List Lay) (v3 v4 v24 v25 : Int) (hn : n ≤ 1000) (hk : XK k r m n = true) {i : Nat} (hi : i < n) {c : Nat} (hc : c + n ≤ 1000000)
  {a : List Lay×List ByteArray} (ha : AI k r (2 * B) c a) :
  GL ((k,((r : Int),(m : Int))),v2,v3,v4,(),a.1,(i : Int),v24,v25,(n : Int),0,[a.2],()) = some ((k,((r : Int),(m : Int))),v2,v3,v4,(),(aIS k r m n i a).1,v24,v25,[(aIS k r m n i a).2],()):=by
 refine cZ (N:=2 ^ 64) (step:=QS) (fun t=>((k,((r : Int),(m : Int))),v2,v3,v4,(),((List.range t).foldl (fun a j=>xB a (fmB (aKN k r m i j))) a).1,(i : Int),v24,v25,(n : Int),(t : Int),[((List.range t).foldl (fun a j=>xB a (fmB (aKN k r m i j))) a).2],())) n _ (by omega) ?_ ?_
 ·intro t ht
  have h:=aHO hr hm hB0 hB hn hk hi ha t (by omega) (by omega)
  have e:=(ZL hr hm hB0 hB v2 v3 v4 v24 v25 hn hk hi ht (by omega) h).2
  rw [List.range_succ,List.foldl_append,List.foldl_cons,List.foldl_nil]
  exact e
 ·show (bif ltI (n : Int) (n : Int) then _ else _) = _
  rw [aN,decide_eq_false (by omega)]
  rfl
theorem aG4 {k B : Int} {r m n : Nat} (hr : r ≤ 4) (hm : r = 0 ∨ (m : Int) ≤ B) (hB0 : 0 ≤ B) (hB : B ≤ 100000) (hn : n ≤ 1000) (hk : XK k r m n = true) :
  ∀ t,t ≤ n→AI k r (2 * B) (t * n) ((List.range t).foldl (fun a i=>aIS k r m n i a) ([],[]))
 | 0,_=>⟨fun x hx=>(by cases hx),Nat.zero_le _,fun _=>rfl,fun h=>absurd h (by simp)⟩
 | t + 1,ht=>by
  have hle : (t + 1) * n ≤ 1000 * 1000:=Nat.mul_le_mul (by omega) hn
  rw [List.range_succ,List.foldl_append,List.foldl_cons,List.foldl_nil,Nat.add_mul,Nat.one_mul]
  rw [Nat.add_mul,Nat.one_mul] at hle
  exact aHO hr hm hB0 hB hn hk (show t < n by omega) (aG4 hr hm hB0 hB hn hk t (by omega)) n (Nat.le_refl _) (by omega)
theorem aNG {k B : Int} {r m n : Nat} (hr : r ≤ 4) (hm : r = 0 ∨ (m : Int) ≤ B) (hB0 : 0 ≤ B) (hB : B ≤ 100000) (hn : n ≤ 1000) (hk : XK k r m n = true) :
  KJ ((k,((r : Int),(m : Int))),[],0,(n : Int),(),[],(n : Int),0,[[]],()) = some ((aZE k r m n).1,[(aZE k r m n).2],()):=by
 refine cZ (N:=2 ^ 64) (step:=aCR) (fun t=>((k,((r : Int),(m : Int))),[],0,(n : Int),(),((List.range t).foldl (fun a i=>aIS k r m n i a) ([],[])).1,(n : Int),(t : Int),[((List.range t).foldl (fun a i=>aIS k r m n i a) ([],[])).2],())) n _ (by omega) ?_ ?_
 ·intro t ht
  have h:=aG4 hr hm hB0 hB hn hk t (by omega)
  have hle : (t + 1) * n ≤ 1000 * 1000:=Nat.mul_le_mul (by omega) hn
  rw [Nat.add_mul,Nat.one_mul] at hle
  rw [List.range_succ,List.foldl_append,List.foldl_cons,List.foldl_nil]
  have e2:=aND hr hm hB0 hB [] 0 (n : Int) (n : Int) (t : Int) hn hk ht (by omega) h
  generalize (List.range t).foldl (fun a i=>aIS k r m n i a) ([],[]) = a at e2
  show (bif ltI (t : Int) (n : Int) then aB (GL ((k,((r : Int),(m : Int))),[],0,(n : Int),(),a.1,(t : Int),(n : Int),(t : Int),(n : Int),0,[a.2],())) _ else _) = _
  rw [aN,decide_eq_true (by omega)]
  show (aB (GL ((k,((r : Int),(m : Int))),[],0,(n : Int),(),a.1,(t : Int),(n : Int),(t : Int),(n : Int),0,[a.2],())) _) = _
  rw [e2,aH]
  show (some (Sum.inl ((k,((r : Int),(m : Int))),[],0,(n : Int),(),(aIS k r m n t a).1,(n : Int),aE .i64 ((t : Int) + 1),[(aIS k r m n t a).2],())) : Option (Shape.den PW ⊕ aR TV)) = _
  rw [c7 t (by omega)]
 ·show (bif ltI (n : Int) (n : Int) then _ else _) = _
  rw [aN,decide_eq_false (by omega)]
  rfl
theorem a3H {k B : Int} {r m n : Nat} (hr : r ≤ 4) (hm : r = 0 ∨ (m : Int) ≤ B) (hB0 : 0 ≤ B) (hB : B ≤ 100000) (hn0 : 0 < n) (hn : n ≤ 1000) (hk : XK k r m n = true) (h51 : f51 ((k,((r : Int),(m : Int))),()) = some ((n : Int),0,())) :
  f32 ((k,((r : Int),(m : Int))),()) = some (AL k r m n,0,()):=by
 have ha:=aG4 hr hm hB0 hB hn hk n (Nat.le_refl _)
 have e1:=aNG hr hm hB0 hB hn hk
 have ha : AI k r (2 * B) (n * n) (aZE k r m n):=ha
 unfold AL
 generalize aZE k r m n = a at ha e1
 have hnn : 0 < n * n:=Nat.mul_pos hn0 hn0
 have hne:=ha.pos hnn
 have hlen:=ha.len
 have hle : n * n ≤ 1000 * 1000:=Nat.mul_le_mul hn hn
 have hl0 : 0 < a.1.length:=List.length_pos_iff.2 hne
 unfold f32
 dsimp only
 rw [h51,aH]
 show (aB (KJ ((k,((r : Int),(m : Int))),[],0,(n : Int),(),[],(n : Int),0,[[]],())) _) = _
 rw [e1,aH]
 show (aB (UM NY ltL a.1) _) = _
 have hs : UM NY ltL a.1 = some (aHP ltL a.1):=by
  unfold UM
  have h1 : a.1.all (NY a.1) = true:=by
   rw [List.all_eq_true]
   intro x hx
   have bx:=ha.bl x hx
   cases hy : a.1 with
   | nil=>exact absurd hy hne
   | cons y q =>
    have b_y:=ha.bl y (by rw [hy]; simp)
    unfold NY
    dsimp only
    rw [decide_eq_true (show x.1 = y.1 by rw [bx.kind,b_y.kind]),decide_eq_true (show x.2.1 = y.2.1 by rw [bx.org,b_y.org]),fJ,fJ,decide_eq_true (show x.2.2.1.length ≤ 1048576 by rw [bx.rl]; omega),decide_eq_true (show x.2.2.2.length ≤ 1048576 by rw [bx.ul]; omega)]
    rfl
  rw [h1,cY,cY,decide_eq_true hl0,decide_eq_true (show a.1.length < 4611686018427387904 by omega)]
  rfl
 rw [hs,aH]
end Go.PM
