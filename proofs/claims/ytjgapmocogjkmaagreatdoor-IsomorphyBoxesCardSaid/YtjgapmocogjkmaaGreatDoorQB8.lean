/- Texts of one proof, joined (8). -/
import Derived.Test.YtjgapmocogjkmaaGreatDoorQB7
set_option linter.unusedSimpArgs false
set_option linter.unusedVariables false
namespace Go.PM
open Go Go.RowKit Go.Proofs
set_option maxRecDepth 100000
def CO (k r m w : Int) : Option (aJ [.bool]) :=
 aB (f32 ((k, (r, m)), ())) fun y7 =>
 bif !(eqI w 0) then
  aB (f33 ((k, (r, m)), ())) fun y8 =>
  bif eqI (y7.1.length : Int) 0 then
   bif eqI y7.2.1 w then
    bif eqI y8.1 0 then
     some (eqI y8.2.1 w, ())
    else some (false, ())
   else some (false, ())
  else some (false, ())
 else bif eqI y7.2.1 0 then
  bif ltI 0 (y7.1.length : Int) then
   bif ltI 0 r then
    some (true, ())
   else some (eqI (y7.1.length : Int) 1, ())
  else some (false, ())
 else some (false, ())
def aSE (z : aT Q2) : Option (aJ [.bool]) := bif eqI z.2.2.2.1 0 then
  bif ltI 0 z.2.1 then
   bif ltI 1 z.2.2.1 then
    some (true, ())
   else CO z.1 z.2.1 z.2.2.1 z.2.2.2.1
  else CO z.1 z.2.1 z.2.2.1 z.2.2.2.1
 else CO z.1 z.2.1 z.2.2.1 z.2.2.2.1
def w10 (r m : Int) : Int := bif ltI r 0 then 3 else bif ltI 4 r then 3 else bif ltI m 0 then 3 else 0
def Y0 (k r m : Int) : Int := bif !(eqI k 1) then (bif !(eqI k 2) then 12 else w10 r m) else w10 r m
theorem aSL (k r m : Int) : f10 (k, r, m, ()) = aB (hX (k, r, m, Y0 k r m, 1, 0, ())) aSE := by
 unfold f10 Y0 w10
 dsimp only
 show (bif !(eqI k 1) then _ else _) = _
 cases eqI k 1 <;> cases eqI k 2 <;> cases ltI r 0 <;> cases ltI 4 r <;> cases ltI m 0 <;> rfl
theorem aPW {k r m : Int} (h1 : k ≠ 1) (h2 : k ≠ 2) : f51 ((k, (r, m)), ()) = some (0, 12, ()) := by
 unfold f51
 dsimp only
 rw [hM, hM, decide_eq_false h1, decide_eq_false h2]
 rfl
def g51 (k r m : Int) : Option (aJ [.int .i64, .int .i64]) := bif ltI r 0 then
   some (0, 3, ())
  else bif ltI 4 r then
   some (0, 3, ())
  else bif ltI m 0 then
   some (0, 3, ())
  else bif ltI 0 r then
   bif ltI 100000 m then
    some (0, 4, ())
   else aB (s7 ((k, (r, m)), 1, 1, r, 0, ())) fun z7 =>
   jE z7 (fun a8 => some (a8.1, a8.2.1, ())) fun b9 =>
   some (b9.1, 0, ())
  else aB (s7 ((k, (r, m)), 1, 1, r, 0, ())) fun z10 =>
  jE z10 (fun a11 => some (a11.1, a11.2.1, ())) fun b12 =>
  some (b12.1, 0, ())
theorem aF0 {k r m : Int} (h : k = 1 ∨ k = 2) : f51 ((k, (r, m)), ()) = g51 k r m := by
 rcases h with rfl | rfl <;> rfl
theorem aK3 {k r m : Int} (h : r < 0 ∨ 4 < r ∨ m < 0) : g51 k r m = some (0, 3, ()) := by
 unfold g51
 rw [bA, bA, bA]
 by_cases h1 : r < 0
 ·rw [decide_eq_true h1]; rfl
 ·by_cases h2 : 4 < r
  ·rw [decide_eq_false h1, decide_eq_true h2]; rfl
  ·rw [decide_eq_false h1, decide_eq_false h2, decide_eq_true (by omega)]; rfl
theorem aL3 {r m : Int} (h : r < 0 ∨ 4 < r ∨ m < 0) : w10 r m = 3 := by
 unfold w10
 rw [bA, bA, bA]
 by_cases h1 : r < 0
 ·rw [decide_eq_true h1]; rfl
 ·by_cases h2 : 4 < r
  ·rw [decide_eq_false h1, decide_eq_true h2]; rfl
  ·rw [decide_eq_false h1, decide_eq_false h2, decide_eq_true (by omega)]; rfl
theorem aWZ {r m : Int} (h : 0 ≤ r ∧ r ≤ 4 ∧ 0 ≤ m) : w10 r m = 0 := by
 unfold w10
 rw [bA, bA, bA, decide_eq_false (by omega), decide_eq_false (by omega), decide_eq_false (by omega)]
 rfl
theorem YW {k r m w : Int} (hw : w ≠ 0) : hX (k, r, m, w, 1, 0, ()) = some (k, r, m, w, ()) := by
 show bZ nW (2 ^ 64) _ = _
 rw [show (2 : Nat) ^ 64 = 18446744073709551615 + 1 by rfl, jV]
 have h : nW (k, r, m, w, 1, 0, ()) = some (.inr (k, r, m, w, ())) := by
  show (bif ltI 0 (aK .i64 (2 * r)) then (bif eqI w 0 then _ else _) else _) = _
  rw [hM, decide_eq_false hw]
  cases ltI 0 (aK .i64 (2 * r)) <;> rfl
 rw [h]
theorem aRT {k r m n w : Int} (hw : w ≠ 0) (h : f51 ((k, (r, m)), ()) = some (n, w, ())) : f32 ((k, (r, m)), ()) = some ([], w, ()) := by
 unfold f32
 dsimp only
 rw [h, cQ]
 show (bif !(eqI w 0) then some ([], w, ()) else _) = _
 rw [hM, decide_eq_false hw]
 rfl
theorem aW6 {k r m w : Int} {l : List Lay} (h : f32 ((k, (r, m)), ()) = some (l, w, ())) : f33 ((k, (r, m)), ()) = some ((l.length : Int), w, ()) := by
 unfold f33
 dsimp only
 rw [h, cQ]
theorem aH4 {k r m n w : Int} (hw : w ≠ 0) (h : f51 ((k, (r, m)), ()) = some (n, w, ())) : CO k r m w = some (true, ()) := by
 have e := aRT hw h
 unfold CO
 rw [e, cQ, aW6 e, hM w 0, decide_eq_false hw]
 show (bif eqI w w then some (eqI w w, ()) else some (false, ())) = _
 rw [hM, decide_eq_true rfl]
 rfl
theorem OU {k r m n w : Int} (hw : w ≠ 0) (h : f51 ((k, (r, m)), ()) = some (n, w, ())) : aSE (k, r, m, w, ()) = some (true, ()) := by
 unfold aSE
 show (bif eqI w 0 then _ else CO k r m w) = _
 rw [hM, decide_eq_false hw]
 exact aH4 hw h
theorem aA5 {k m : Int} {r : Nat} (hr : r ≤ 4) (hm0 : 0 ≤ m) (hm : r = 0 ∨ m ≤ 1) {n : Nat} (hn0 : 0 < n) (hn : n ≤ 1000) (h1 : r = 0 → n = 1) (h51 : f51 ((k, ((r : Int), m)), ()) = some ((n : Int), 0, ())) : CO k r m 0 = some (true, ()) := by
 obtain ⟨l, e, l1, l2⟩ := aW7 (B := 1) hr hm0 hm (by decide) (by decide) hn0 hn h51
 unfold CO
 rw [e, cQ]
 show (bif ltI 0 (l.length : Int) then (bif ltI 0 (r : Int) then some (true, ()) else some (eqI (l.length : Int) 1, ())) else some (false, ())) = _
 rw [bA, bA, decide_eq_true (by omega)]
 by_cases hr0 : r = 0
 ·have := h1 hr0
  subst this
  subst hr0
  rw [hM, decide_eq_true (show (l.length : Int) = 1 by omega)]
  rfl
 ·rw [decide_eq_true (by omega)]
  rfl
theorem IV {x : Int} (h : 0 ≤ x ∧ x ≤ 1000000000000) : aK .i64 x = x := wrap64 (by omega) (by omega)
theorem aEH {k r m : Int} (hr : 1 ≤ r ∧ r ≤ 4) (hm : 200 < m) : hX (k, r, m, 0, 1, 0, ()) = some (k, r, m, 4, ()) := by
 have w1 : aK .i64 (2 * r) = 2 * r := IV (by omega)
 have out : ∀ (p i : Int) (N : Nat), bZ nW (N + 1) (k, r, m, 4, p, i, ()) = some (k, r, m, 4, ()) := fun p i N => by
  rw [jV]
  have h : nW (k, r, m, 4, p, i, ()) = some (.inr (k, r, m, 4, ())) := by
   show (bif ltI i (aK .i64 (2 * r)) then _ else _) = _
   cases ltI i (aK .i64 (2 * r)) <;> rfl
  rw [h]
 show bZ nW (2 ^ 64) _ = _
 rw [show (2 : Nat) ^ 64 = 18446744073709551613 + 1 + 1 + 1 by rfl, jV]
 by_cases h1 : 100000 < m
 ·have h : ∃ p, nW (k, r, m, 0, 1, 0, ()) = some (.inl (k, r, m, 4, p, 1, ())) := by
   apply Exists.intro
   show (bif ltI 0 (aK .i64 (2 * r)) then (bif ltI 100000 m then _ else _) else _) = _
   rw [w1, bA, bA, decide_eq_true (by omega), decide_eq_true h1]
   rfl
  obtain ⟨p, h⟩ := h
  rw [h]
  exact out p 1 _
 ·have w2 : aK .i64 (2 * m) = 2 * m := IV (by omega)
  have w3 : aK .i64 (2 * m + 1) = 2 * m + 1 := IV (by omega)
  have w4 : aK .i64 (1 * (2 * m + 1)) = 2 * m + 1 := by rw [Int.one_mul]; exact w3
  by_cases h2 : 100000 < 2 * m + 1
  ·have h : ∃ p, nW (k, r, m, 0, 1, 0, ()) = some (.inl (k, r, m, 4, p, 1, ())) := by
    apply Exists.intro
    show (bif ltI 0 (aK .i64 (2 * r)) then (bif ltI 100000 m then _ else (bif ltI 100000 (aK .i64 (1 * (aK .i64 ((aK .i64 (2 * m)) + 1)))) then _ else _)) else _) = _
    rw [w1, w2, w3, w4, bA, bA, bA, decide_eq_true (by omega), decide_eq_false h1, decide_eq_true h2]
    rfl
   obtain ⟨p, h⟩ := h
   rw [h]
   exact out p 1 _
  ·have h : nW (k, r, m, 0, 1, 0, ()) = some (.inl (k, r, m, 0, 2 * m + 1, 1, ())) := by
    show (bif ltI 0 (aK .i64 (2 * r)) then (bif ltI 100000 m then _ else (bif ltI 100000 (aK .i64 (1 * (aK .i64 ((aK .i64 (2 * m)) + 1)))) then _ else some (Sum.inl (k, r, m, 0, aK .i64 (1 * (aK .i64 ((aK .i64 (2 * (if 100000 < m then 100000 else m))) + 1))), (aK .i64 ((0 : Int) + 1)), ())))) else _) = _
    rw [if_neg h1, w1, w2, w3, w4, bA, bA, bA, decide_eq_true (by omega), decide_eq_false h1, decide_eq_false h2]
    rfl
   rw [h]
   show bZ nW (18446744073709551613 + 1 + 1) (k, r, m, 0, 2 * m + 1, 1, ()) = _
   rw [jV]
   have hq : 100000 < (2 * m + 1) * (2 * m + 1) ∧ (2 * m + 1) * (2 * m + 1) ≤ 1000000000000 := by
    have a1 : (401 : Int) * 401 ≤ (2 * m + 1) * (2 * m + 1) := Int.mul_le_mul (by omega) (by omega) (by decide) (by omega)
    have a2 : (2 * m + 1) * (2 * m + 1) ≤ 100000 * 100000 := Int.mul_le_mul (by omega) (by omega) (by omega) (by decide)
    omega
   have h : ∃ p, nW (k, r, m, 0, 2 * m + 1, 1, ()) = some (.inl (k, r, m, 4, p, 2, ())) := by
    apply Exists.intro
    show (bif ltI 1 (aK .i64 (2 * r)) then (bif ltI 100000 m then _ else (bif ltI 100000 (aK .i64 ((2 * m + 1) * (aK .i64 ((aK .i64 (2 * m)) + 1)))) then _ else _)) else _) = _
    rw [w1, w2, w3, IV (x := (2 * m + 1) * (2 * m + 1)) (by omega), bA, bA, bA, decide_eq_true (by omega), decide_eq_false h1, decide_eq_true hq.1]
    rfl
   obtain ⟨p, h⟩ := h
   rw [h]
   exact out p 2 _
theorem aOU {k r m : Int} (hr : 1 ≤ r ∧ r ≤ 4) (hm : 200 < m) : g51 k r m = some (0, 4, ()) := by
 unfold g51
 rw [bA, bA, bA, bA, bA, decide_eq_false (by omega), decide_eq_false (by omega), decide_eq_false (by omega), decide_eq_true (by omega)]
 by_cases h1 : 100000 < m
 ·rw [decide_eq_true h1]; rfl
 ·rw [decide_eq_false h1]
  have hl : s7 ((k, (r, m)), 1, 1, r, 0, ()) = some (.inl (0, 4, ())) := by
   show bZ PN (2 ^ 64) _ = _
   rw [show (2 : Nat) ^ 64 = 18446744073709551615 + 1 by rfl, jV]
   have hq : 100000 < (2 * m + 1) * (2 * m + 1) ∧ (2 * m + 1) * (2 * m + 1) ≤ 1000000000000 := by
    have a1 : (401 : Int) * 401 ≤ (2 * m + 1) * (2 * m + 1) := Int.mul_le_mul (by omega) (by omega) (by decide) (by omega)
    have a2 : (2 * m + 1) * (2 * m + 1) ≤ 200001 * 200001 := Int.mul_le_mul (by omega) (by omega) (by omega) (by decide)
    omega
   have w2 : aK .i64 (2 * m) = 2 * m := IV (by omega)
   have w3 : aK .i64 (2 * m + 1) = 2 * m + 1 := IV (by omega)
   have h : PN ((k, (r, m)), 1, 1, r, 0, ()) = some (.inr (.inl (0, 4, ()))) := by
    show (bif ltI 0 r then (bif ltI 100000 (aK .i64 (1 * (aK .i64 ((aK .i64 ((aK .i64 (2 * m)) + 1)) * (aK .i64 ((aK .i64 (2 * m)) + 1)))))) then _ else _) else _) = _
    rw [w2, w3, IV (x := (2 * m + 1) * (2 * m + 1)) (by omega), Int.one_mul, IV (x := (2 * m + 1) * (2 * m + 1)) (by omega), bA, bA, decide_eq_true (by omega), decide_eq_true hq.1]
    rfl
   rw [h]
  rw [hl]
  rfl
def IS (k r m : Int) : Bool := match hX (k, r, m, 0, 1, 0, ()), g51 k r m with
 | some z, some y => eqI z.1 k && eqI z.2.1 r && eqI z.2.2.1 m && eqI z.2.2.2.1 y.2.1 && (!(eqI y.2.1 0) || (Nat.blt 0 y.1.toNat && Nat.ble y.1.toNat 1000 && ltI 0 y.1))
 | _, _ => false
theorem aQ3 : (List.range 201).all (fun m => IS 1 1 (m : Int) && IS 1 2 (m : Int) && IS 1 3 (m : Int) && IS 1 4 (m : Int)) = true := by kernel_rfl
theorem aRB : (List.range 201).all (fun m => IS 2 1 (m : Int) && IS 2 2 (m : Int) && IS 2 3 (m : Int) && IS 2 4 (m : Int)) = true := by kernel_rfl
theorem aP8 {k r : Int} {m : Nat} (hk : k = 1 ∨ k = 2) (hr : r = 1 ∨ r = 2 ∨ r = 3 ∨ r = 4) (hm : m ≤ 200) : IS k r m = true := by
 have h1 := List.all_eq_true.1 aQ3 m (List.mem_range.2 (by omega))
 have h2 := List.all_eq_true.1 aRB m (List.mem_range.2 (by omega))
 simp only [Bool.and_eq_true] at h1 h2
 rcases hk with rfl | rfl <;> rcases hr with rfl | rfl | rfl | rfl
 ·exact h1.1.1.1
 ·exact h1.1.1.2
 ·exact h1.1.2
 ·exact h1.2
 ·exact h2.1.1.1
 ·exact h2.1.1.2
 ·exact h2.1.2
 ·exact h2.2
theorem aKX {k r m : Int} (h : IS k r m = true) : ∃ w n, hX (k, r, m, 0, 1, 0, ()) = some (k, r, m, w, ()) ∧ g51 k r m = some (n, w, ()) ∧ (w = 0 → 0 < n.toNat ∧ n.toNat ≤ 1000 ∧ 0 < n) := by
 unfold IS at h
 split at h
 ·rename_i z y hz hy
  obtain ⟨a, b, c, d, ⟨⟩⟩ := z
  obtain ⟨n, w, ⟨⟩⟩ := y
  simp only [Bool.and_eq_true, hM, decide_eq_true_eq, Bool.or_eq_true, Bool.not_eq_true', decide_eq_false_iff_not, iZ, pX, bA] at h
  obtain ⟨⟨⟨⟨h1, h2⟩, h3⟩, h4⟩, h5⟩ := h
  subst h1; subst h2; subst h3; subst h4
  refine ⟨_, n, hz, hy, fun h0 => ?_⟩
  rcases h5 with h5 | h5
  ·exact absurd h0 h5
  ·exact ⟨h5.1.1, h5.1.2, h5.2⟩
 ·cases h
theorem aPS {k r m : Int} : f10 (k, r, m, ()) = some (true, ()) := by
 rw [aSL]
 by_cases hk : k = 1 ∨ k = 2
 ·have hw : Y0 k r m = w10 r m := by rcases hk with rfl | rfl <;> rfl
  rw [hw]
  by_cases hb : r < 0 ∨ 4 < r ∨ m < 0
  ·rw [aL3 hb, YW (by decide), cQ]
   exact OU (n := 0) (by decide) (by rw [aF0 hk, aK3 hb])
  ·rw [aWZ (by omega)]
   by_cases hr0 : r = 0
   ·subst hr0
    have hl : hX (k, 0, m, 0, 1, 0, ()) = some (k, 0, m, 0, ()) := rfl
    rw [hl, cQ]
    show CO k 0 m 0 = _
    refine aA5 (r := 0) (n := 1) (by decide) (by omega) (.inl rfl) (by decide) (by decide) (fun _ => rfl) ?_
    rw [aF0 hk]
    show g51 k 0 m = _
    unfold g51
    rw [bA m 0, decide_eq_false (by omega)]
    rfl
   ·by_cases hm : 200 < m
    ·rw [aEH (by omega) hm, cQ]
     exact OU (n := 0) (by decide) (by rw [aF0 hk, aOU (by omega) hm])
    ·obtain ⟨m', rfl⟩ : ∃ m' : Nat, m = m' := ⟨m.toNat, by omega⟩
     obtain ⟨w, n, e1, e2, e3⟩ := aKX (aP8 hk (show r = 1 ∨ r = 2 ∨ r = 3 ∨ r = 4 by omega) (show m' ≤ 200 by omega))
     rw [e1, cQ]
     by_cases hw0 : w = 0
     ·subst hw0
      obtain ⟨n1, n2, n3⟩ := e3 rfl
      unfold aSE
      show (bif ltI 0 r then (bif ltI 1 (m' : Int) then some (true, ()) else CO k r m' 0) else _) = _
      rw [bA, bA, decide_eq_true (by omega)]
      by_cases hm1 : (1 : Int) < m'
      ·rw [decide_eq_true hm1]; rfl
      ·rw [decide_eq_false hm1]
       obtain ⟨r', rfl⟩ : ∃ r' : Nat, r = r' := ⟨r.toNat, by omega⟩
       exact aA5 (r := r') (n := n.toNat) (by omega) (by omega) (.inr (by omega)) n1 n2 (fun h => by omega) (by rw [aF0 hk, e2, Int.toNat_of_nonneg (by omega)])
     ·exact OU hw0 (by rw [aF0 hk, e2])
 ·have h1 : k ≠ 1 := fun h => hk (.inl h)
  have h2 : k ≠ 2 := fun h => hk (.inr h)
  have hw : Y0 k r m = 12 := by
   unfold Y0
   rw [hM, hM, decide_eq_false h1, decide_eq_false h2]
   rfl
  rw [hw, YW (by decide), cQ]
  exact OU (n := 0) (by decide) (aPW h1 h2)
end Go.PM
