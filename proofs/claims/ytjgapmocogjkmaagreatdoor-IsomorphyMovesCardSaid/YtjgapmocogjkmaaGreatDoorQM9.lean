/- Texts of one proof, joined (9). -/
import Derived.Test.YtjgapmocogjkmaaGreatDoorQM8
set_option linter.unusedSimpArgs false
set_option linter.unusedVariables false
namespace Go.PM
open Go Go.RowKit Go.Proofs Go.Lz
set_option maxRecDepth 100000
section
variable {R U d : List Int}
theorem a3I (hl : U.length = R.length) (hr : R.length ≤ 1000) (n x y0 y1 : Int) :
  LO (R, U, d, n, x, (y0, y1), 0, ()) = some (if mx x y0 R U = d then .inl (x, y0, true, ()) else if mx x y1 R U = d then .inl (x, y1, true, ()) else .inr (R, U, d, n, x, ())) := by
 have hq : ∀ a b, f46 (mx a b R U, d, ()) = some (decide (mx a b R U = d), ()) := fun a b => aBD _ _ (by rw [j7]; omega)
 have s0 : CH (R, U, d, n, x, (y0, y1), 0, ()) = if mx x y0 R U = d then some (.inr (.inl (x, y0, true, ()))) else some (.inl (R, U, d, n, x, (y0, y1), 1, ())) := by
  simp only [CH, aL, dI, bC]
  rw [if_pos (by decide), if_pos trivial, YG hl hr, aD, hq, aD, bC]
  rfl
 have s1 : CH (R, U, d, n, x, (y0, y1), 1, ()) = if mx x y1 R U = d then some (.inr (.inl (x, y1, true, ()))) else some (.inl (R, U, d, n, x, (y0, y1), 2, ())) := by
  simp only [CH, aL, dI, bC]
  rw [if_pos (by decide), if_neg (by decide), if_pos trivial, YG hl hr, aD, hq, aD, bC]
  rfl
 have s2 : CH (R, U, d, n, x, (y0, y1), 2, ()) = some (.inr (.inr (R, U, d, n, x, ()))) := rfl
 unfold LO
 rw [show (2 : Nat) ^ 64 = 18446744073709551613 + 1 + 1 + 1 from rfl, bR, s0]
 by_cases h0 : mx x y0 R U = d
 ·rw [if_pos h0, if_pos h0]
 ·rw [if_neg h0, if_neg h0]
  dsimp only
  rw [bR, s1]
  by_cases h1 : mx x y1 R U = d
  ·rw [if_pos h1, if_pos h1]
  ·rw [if_neg h1, if_neg h1]
   dsimp only
   rw [bR, s2]
def Hit (R U d : List Int) (a b : Int) : Prop := mx a b R U = d ∧ (-8 ≤ a ∧ a ≤ 8) ∧ (-8 ≤ b ∧ b ≤ 8)
theorem aLA (hl : U.length = R.length) (hr : R.length ≤ 1000) {n : Int} (hn : 0 ≤ n ∧ n ≤ 8) : ∀ (j : Nat) (x : Int), n - x + 1 = j → -n ≤ x → ∀ N, j < N →
  (∃ a b, bS xR N (R, U, d, n, x, ()) = some (.inl (a, b, true, ())) ∧ Hit R U d a b) ∨
  (bS xR N (R, U, d, n, x, ()) = some (.inr (R, U, d, n, ())) ∧ ∀ a b : Int, x ≤ a → a ≤ n → (b = n - a.natAbs ∨ b = a.natAbs - n) → mx a b R U ≠ d)
 | 0, x, hx, hx0, N, hN => by
  obtain ⟨N, rfl⟩ : ∃ M, N = M + 1 := ⟨N - 1, by omega⟩
  right
  refine ⟨?_, fun a b h1 h2 _ => by omega⟩
  rw [bR]
  have e : ltI n x = true := by rw [aL]; exact decide_eq_true (by omega)
  have hst : xR (R, U, d, n, x, ()) = some (.inr (.inr (R, U, d, n, ()))) := by
   simp only [xR, e, Bool.not_true, cond_false]
  rw [hst]
 | j + 1, x, hx, hx0, N, hN => by
  obtain ⟨N, rfl⟩ : ∃ M, N = M + 1 := ⟨N - 1, by omega⟩
  have bx : x.natAbs ≤ n.natAbs := by omega
  have b1 : -8 ≤ n - (x.natAbs : Int) ∧ n - (x.natAbs : Int) ≤ 8 := by omega
  have b2 : -8 ≤ (x.natAbs : Int) - n ∧ (x.natAbs : Int) - n ≤ 8 := by omega
  rw [bR]
  have e : ltI n x = false := by rw [aL]; exact decide_eq_false (by omega)
  have e0 : IntKind.wrap .i64 (0 - x) = -x := by rw [IntKind.wrap_i64]; omega
  have e1 : (if x < -x then -x else x) = (x.natAbs : Int) := by split <;> omega
  have w1 : aJ .i64 (n - (x.natAbs : Int)) = n - x.natAbs := wrap64 (by omega) (by omega)
  have w2 : aJ .i64 ((x.natAbs : Int) - n) = x.natAbs - n := wrap64 (by omega) (by omega)
  have w3 : aJ .i64 (x + 1) = x + 1 := wrap64 (by omega) (by omega)
  have hst : xR (R, U, d, n, x, ()) = if mx x (n - x.natAbs) R U = d then some (.inr (.inl (x, n - x.natAbs, true, ()))) else if mx x (x.natAbs - n) R U = d then some (.inr (.inl (x, x.natAbs - n, true, ()))) else some (.inl (R, U, d, n, x + 1, ())) := by
   simp only [xR, e, Bool.not_false, cond_true, e0, e1, w1, w2]
   rw [a3I hl hr, aD]
   by_cases h0 : mx x (n - x.natAbs) R U = d
   ·rw [if_pos h0, if_pos h0, rF]
   ·rw [if_neg h0, if_neg h0]
    by_cases h1 : mx x (x.natAbs - n) R U = d
    ·rw [if_pos h1, if_pos h1, rF]
    ·rw [if_neg h1, if_neg h1, iH, w3]
  rw [hst]
  by_cases h0 : mx x (n - x.natAbs) R U = d
  ·rw [if_pos h0]
   exact .inl ⟨_, _, rfl, h0, by omega, b1⟩
  ·rw [if_neg h0]
   by_cases h1 : mx x (x.natAbs - n) R U = d
   ·rw [if_pos h1]
    exact .inl ⟨_, _, rfl, h1, by omega, b2⟩
   ·rw [if_neg h1]
    rcases aLA hl hr hn j (x + 1) (by omega) (by omega) N (by omega) with h2 | ⟨h2, h3⟩
    ·exact .inl h2
    ·refine .inr ⟨h2, fun a b g1 g2 g3 => ?_⟩
     by_cases ha : a = x
     ·subst ha
      rcases g3 with rfl | rfl
      ·exact h0
      ·exact h1
     ·exact h3 a b (by omega) g2 g3
theorem a1X (hl : U.length = R.length) (hr : R.length ≤ 1000) {sx sy : Int} (hs : mx sx sy R U = d) (h8 : sx.natAbs + sy.natAbs ≤ 8) : ∀ (j n : Nat), n + j = sx.natAbs + sy.natAbs → ∀ N, j < N →
  ∃ a b, bS uP N (R, U, d, (n : Int), ()) = some (.inl (a, b, true, ())) ∧ Hit R U d a b := by
 intro j
 induction j with
 | zero =>
  intro n hn N hN
  obtain ⟨N, rfl⟩ : ∃ M, N = M + 1 := ⟨N - 1, by omega⟩
  rw [bR]
  have e : ltI 2000 (n : Int) = false := by rw [aL]; exact decide_eq_false (by omega)
  have e0 : IntKind.wrap .i64 (0 - (n : Int)) = -n := by rw [IntKind.wrap_i64]; omega
  have h1 := aLA (d := d) hl hr (n := (n : Int)) (by omega) (2 * n + 1) (-n) (by omega) (by omega) (2 ^ 64) (by omega)
  rcases h1 with ⟨a, b, h1, h2⟩ | ⟨-, h2⟩
  ·refine ⟨a, b, ?_, h2⟩
   have hst : uP (R, U, d, (n : Int), ()) = some (.inr (.inl (a, b, true, ()))) := by
    simp only [uP, e, Bool.not_false, cond_true, e0, EV]
    rw [h1, aD, rF]
   rw [hst]
  ·exact absurd hs (h2 sx sy (by omega) (by omega) (by omega))
 | succ j ih =>
  intro n hn N hN
  obtain ⟨N, rfl⟩ : ∃ M, N = M + 1 := ⟨N - 1, by omega⟩
  rw [bR]
  have e : ltI 2000 (n : Int) = false := by rw [aL]; exact decide_eq_false (by omega)
  have e1 : ltI 16 (n : Int) = false := by rw [aL]; exact decide_eq_false (by omega)
  have e0 : IntKind.wrap .i64 (0 - (n : Int)) = -n := by rw [IntKind.wrap_i64]; omega
  have h1 := aLA (d := d) hl hr (n := (n : Int)) (by omega) (2 * n + 1) (-n) (by omega) (by omega) (2 ^ 64) (by omega)
  rcases h1 with ⟨a, b, h1, h2⟩ | ⟨h1, -⟩
  ·refine ⟨a, b, ?_, h2⟩
   have hst : uP (R, U, d, (n : Int), ()) = some (.inr (.inl (a, b, true, ()))) := by
    simp only [uP, e, Bool.not_false, cond_true, e0, EV]
    rw [h1, aD, rF]
   rw [hst]
  ·have hst : uP (R, U, d, (n : Int), ()) = some (.inl (R, U, d, ((n + 1 : Nat) : Int), ())) := by
    simp only [uP, e, Bool.not_false, cond_true, e0, EV]
    rw [h1, aD, iH]
    simp only [e1, cond_false, dO n (by omega)]
   rw [hst]
   exact ih (n + 1) (by omega) N (by omega)
end
theorem a03 {R U o o' : List Int} (hl : U.length = R.length) (hr : R.length ≤ 1000) (ho : o.length = o'.length) (ho' : o'.length ≤ 1000) {sx sy : Int} (hs : mx sx sy R U = mx 1 (-1) o' o) (h8 : sx.natAbs + sy.natAbs ≤ 8) :
  ∃ a b, f49 (R, U, o, o', ()) = some (a, b, true, ()) ∧ Hit R U (mx 1 (-1) o' o) a b := by
 obtain ⟨a, b, h1, h2⟩ := a1X hl hr hs h8 (sx.natAbs + sy.natAbs) 0 (by omega) (2 ^ 64) (by omega)
 refine ⟨a, b, ?_, h2⟩
 unfold f49; dsimp only
 rw [YG ho ho', aD]
 have h1 : P8 (R, U, mx 1 (-1) o' o, 0, ()) = _ := h1
 rw [h1, aD, rF]
theorem aLT {l : Lay} (hl : j9 18 l) {x y : Int} (hx : -128 ≤ x ∧ x ≤ 128) (hy : -128 ≤ y ∧ y ≤ 128) : mx x y l.2.2.1 l.2.2.2 = mx 1 (-1) (shL l x y).2.1 l.2.1 := by
 have h1 := hl.right
 have h2 := hl.up
 obtain ⟨hg, hv⟩ := E7 hl hx hy
 have g1 := hg.right
 have hlen : (shL l x y).2.1.length = l.2.2.1.length := pC _ _ _ _ _ _
 apply List.ext_getElem (by rw [j7, j7, hlen])
 intro i q1 q2
 rw [j7] at q1
 have e1 := CJ (a := x) (b := y) (s := l.2.2.2) q1
 have e2 := CJ (a := 1) (b := -1) (r := (shL l x y).2.1) (s := l.2.1) (i := i) (by omega)
 have v1 := (XR (A := 128) (B := 18) (by decide) (by decide) hx hy (hl.r.get q1) (hl.u.get (i := i) (by omega))).1
 have v2 := (uO (a := 1) (b := -1) (B := 4626) (r := (shL l x y).2.1) (s := l.2.1) (i := i) (by decide) (by decide) (hg.o.get (by omega)) (by have := hl.o.get (i := i) (by omega); omega) (by decide)).1
 have v3 := congrFun hv i
 unfold nE at v3
 rw [v1] at e1
 rw [v2] at e2
 simp only [List.getD_eq_getElem?_getD] at e1 e2 v3
 rw [List.getElem?_eq_getElem (by rw [j7]; exact q1)] at e1
 rw [List.getElem?_eq_getElem (by rw [j7]; omega)] at e2
 simp only [Option.getD_some] at e1 e2
 rw [e1, e2]
 omega
theorem aNH {l y : Lay} (hl : j9 9 l) (hy : ShL y) {a b : Int} (h49 : f49 (l.2.2.1, l.2.2.2, l.2.1, y.2.1, ()) = some (a, b, true, ())) (ha : -8 ≤ a ∧ a ≤ 8) (hb : -8 ≤ b ∧ b ≤ 8) (n : List (Int × Int)) (q : (S4 × (Int × Int))) : ∀ L : List S4, (∀ g ∈ L, AS g) → (∃ g ∈ L, key (trn l g) = key y) →
  ∃ g ∈ L, key (trn l g) = key y ∧ qK R4 (aH1 DX O1) (L.map fun e => (e, ())) (l, y, q, false, 0, (n, ()), ()) = some (.inr ((g, (a, b)), true, 0, ()))
 | [], _, ⟨g, hg, _⟩ => by cases hg
 | g :: L, hL, hex => by
  have hg := hL g (by simp)
  have gg := lL hl hg (by decide) (by decide)
  have c1 : ltI 1000 (if a < -a then -a else a) = false := by rw [aL]; exact decide_eq_false (by split <;> omega)
  have c2 : ltI 1000 (if b < -b then -b else b) = false := by rw [aL]; exact decide_eq_false (by split <;> omega)
  have e1 : IntKind.wrap .i64 (0 - a) = -a := by rw [IntKind.wrap_i64]; omega
  have e2 : IntKind.wrap .i64 (0 - b) = -b := by rw [IntKind.wrap_i64]; omega
  have hst : R4 (l, y, q, false, 0, (n, ()), ()) (g, ()) = if ¬ qZ (key (trn l g)) (key y) = 0 then some (.inl (l, y, q, false, 0, (n, ()), ())) else some (.inr (.inr ((g, (a, b)), true, 0, ()))) := by
   show (aB (f40 (l, g, ())) _) = _
   rw [QV g hl, aD]
   show (aB (f48 (trn l g, y, ())) _) = _
   rw [aK0 gg.sh hy, aD]
   show (bif !(eqI (qZ (key (trn l g)) (key y)) 0) then _ else aB (f49 (l.2.2.1, l.2.2.2, l.2.1, y.2.1, ())) _) = _
   rw [dI, nN, bC, h49, aD]
   show (if ¬ qZ (key (trn l g)) (key y) = 0 then _ else bif !(ltI 1000 (if a < (IntKind.wrap .i64 (0 - a)) then (IntKind.wrap .i64 (0 - a)) else a)) then bif !(ltI 1000 (if b < (IntKind.wrap .i64 (0 - b)) then (IntKind.wrap .i64 (0 - b)) else b)) then _ else _ else _) = _
   rw [e1, e2, c1, c2]
   rfl
  rw [List.map_cons, qK, hst]
  by_cases hc : ¬ qZ (key (trn l g)) (key y) = 0
  ·rw [if_pos hc]
   obtain ⟨g0, m1, m2⟩ := hex
   have : ¬ g0 = g := fun e => by
    rw [e] at m2
    exact hc (by rw [m2, AM])
   obtain ⟨g', h1, h2, h3⟩ := aNH hl hy h49 ha hb n q L (fun x hx => hL x (by simp [hx])) ⟨g0, (List.mem_cons.1 m1).resolve_left this, m2⟩
   exact ⟨g', List.mem_cons_of_mem _ h1, h2, h3⟩
  ·rw [if_neg hc]
   exact ⟨g, by simp, aI7 (Decidable.not_not.1 hc), rfl⟩
theorem aQ6 {l y : Lay} (h1 : ce l = 0) (h2 : ce y = 0) (q : S4 × (Int × Int)) : EY (l, y, q, false, 0, (l, y), 0, ()) = some (.inr (l, y, q, false, 0, ())) := by
 have f1 := aAN l
 have f2 := aAN y
 rw [h1] at f1
 rw [h2] at f2
 have s0 : LH (l, y, q, false, 0, (l, y), 0, ()) = some (.inl (l, y, q, false, 0, (l, y), 1, ())) := by
  show (aB (f24 (l, ())) _) = _
  rw [f1, aD]; rfl
 have s1 : LH (l, y, q, false, 0, (l, y), 1, ()) = some (.inl (l, y, q, false, 0, (l, y), 2, ())) := by
  show (aB (f24 (y, ())) _) = _
  rw [f2, aD]; rfl
 have s2 : LH (l, y, q, false, 0, (l, y), 2, ()) = some (.inr (.inr (l, y, q, false, 0, ()))) := rfl
 unfold EY
 rw [show (2 : Nat) ^ 64 = 18446744073709551613 + 1 + 1 + 1 from rfl, bR, s0]
 dsimp only
 rw [bR, s1]
 dsimp only
 rw [bR, s2]
theorem aRY {l : Lay} (hl : j9 9 l) {g : S4} (hg : g ∈ aS l.1) {x y : Int} (hx : -4 ≤ x ∧ x ≤ 4) (hy : -4 ≤ y ∧ y ≤ 4) :
  ∃ g' a b, f27 (l, trn (shL l x y) g, ()) = some ((g', (a, b)), true, 0, ()) ∧ g' ∈ aS l.1 ∧ key (trn l g') = key (trn l g) ∧ Hit l.2.2.1 l.2.2.2 (mx 1 (-1) (shL l x y).2.1 l.2.1) a b := by
 have h18 := hl.mono (C := 18) (by decide)
 have h0 := hl.len
 have h1 := hl.right
 have h2 := hl.up
 obtain ⟨hs, -⟩ := E7 h18 (x := x) (y := y) (by omega) (by omega)
 have ht := lL hl (mU hg) (by decide) (by decide)
 have hkind : (shL l x y).1 = l.1 := rfl
 have hY := lL hs (mU hg) (by decide) (by decide)
 have hkey : key (trn (shL l x y) g) = key (trn l g) := rfl
 have hO : (trn (shL l x y) g).2.1 = (shL l x y).2.1 := rfl
 have hlen : (shL l x y).2.1.length = l.2.1.length := by
  have : (shL l x y).2.1.length = l.2.2.1.length := pC _ _ _ _ _ _
  omega
 obtain ⟨L, w, o1, o2, o3, o4, o5⟩ := aYG (n := l.2.1.length) (r := l.2.2.1) (u := l.2.2.2) (r' := (trn l g).2.2.1) (u' := (trn l g).2.2.2) (o := l.2.1) (o' := (shL l x y).2.1) (by omega) h1 h2 (hl.r.abs (by decide)) (hl.u.abs (by decide)) ht.right ht.up (ht.r.abs (by decide)) (ht.u.abs (by decide)) rfl (hl.o.abs (by decide)) hlen (hs.o.abs (by decide)) (aVL hl hg (by decide)) (aVG h18 (by omega) (by omega))
 obtain ⟨a, b, s1, s2⟩ := a03 (R := l.2.2.1) (U := l.2.2.2) (o := l.2.1) (o' := (shL l x y).2.1) (by omega) (by omega) hlen.symm (by omega) (aLT h18 (by omega) (by omega)) (by omega)
 have hcan : can (trn (shL l x y) g) w = can l w := aQZ w rfl (aYA hl hg (by decide) rfl hkey)
 have hsh : ShL (can l w) := by
  have a := (lL hl (mU (aXM l)) (by decide) (by decide)).sh
  exact ⟨by show w.length ≤ _; omega, a.2.1, a.2.2⟩
 obtain ⟨g', m1, m2, m3⟩ := aNH hl hY.sh (y := trn (shL l x y) g) s1 s2.2.1 s2.2.2 (lR l.1) (z4, (0, 0)) (aS l.1) (fun g hg => mU hg) ⟨g, hg, rfl⟩
 refine ⟨g', a, b, ?_, m1, m2, s2⟩
 have o2 : jE (((trn (shL l x y) g).2.1.length : Int), [(trn (shL l x y) g).2.2.1, (trn (shL l x y) g).2.2.2], ()) = some (L, 0, ()) := by
  rw [hO, hlen]; exact o2
 have e47l := aT9 hl (by decide) (by decide) o1 o3
 have e47y := aT9 hY (by decide) (by decide) o2 o4
 rw [hcan] at e47y
 have hle : FB (l, trn (shL l x y) g, (z4, (0, 0)), false, 0, (lR l.1, ()), ()) = some (.inr ((g', (a, b)), true, 0, ())) := by
  unfold FB TT
  have hff : (fun x => AV (aE8 x)) (l, trn (shL l x y) g, (z4, (0, 0)), false, 0, (lR l.1, ()), ()) = _ := MD l.1
  rw [hff]
  exact m3
 unfold f27
 show (aB (EY (l, trn (shL l x y) g, (z4, (0, 0)), false, 0, (l, trn (shL l x y) g), 0, ())) _) = _
 rw [aQ6 (P9 hl (by decide)) (P9 hY (by decide)), aD, iH]
 show (bif !(eqI (l.2.1.length : Int) ((trn (shL l x y) g).2.1.length : Int)) then _ else aB (f47 (l, ())) _) = _
 have e0 : eqI (l.2.1.length : Int) ((trn (shL l x y) g).2.1.length : Int) = true := by rw [dI, hO, hlen]; exact decide_eq_true rfl
 rw [e0, Bool.not_true, cond_false, e47l, aD]
 show (aB (f47 (trn (shL l x y) g, ())) _) = _
 rw [e47y, aD]
 show (aB (f25 (can l w, can l w, ())) _) = _
 rw [a1J _ hsh, aD, decide_eq_true rfl]
 show (aB (f38 (l.1, ())) _) = _
 rw [aFC, aD]
 show (aB (FB (l, trn (shL l x y) g, (z4, (0, 0)), false, 0, (lR l.1, ()), ())) _) = _
 rw [hle, aD, iH]
theorem aOI (l y : Lay) (q : S4 × (Int × Int)) (L : List S4) (hL : L.length ≤ 1000) : LD (l, y, q, L, false, 0, ()) = some (l, y, q, decide (q.1 ∈ L), ()) := by
 refine dV (N := 2 ^ 64) (step := LF) (fun i => (l, y, q, L, decide (q.1 ∈ L.take i), (i : Int), ())) L.length _ (by omega) ?_ ?_
 ·intro i hi
  have hn : decide (q.1 ∈ L.take (i + 1)) = (decide (q.1 ∈ L.take i) || eq4 (L.getD i (0, 0, 0, 0)) q.1) := by
   rw [ZI]
   have hti : L.take (i + 1) = L.take i ++ [L.getD i (0, 0, 0, 0)] := by
    rw [List.take_succ_eq_append_getElem hi, List.getD_eq_getElem?_getD, List.getElem?_eq_getElem hi]; rfl
   rw [hti]
   by_cases h1 : q.1 ∈ L.take i
   ·simp [h1]
   ·simp [h1, eq_comm]
  simp only [LF, aL, bB, bC, Int.toNat_natCast]
  rw [if_pos (by omega), dO i (by omega), hn]
  by_cases h1 : q.1 ∈ L.take i
  ·rw [if_pos h1, decide_eq_true h1]; rfl
  ·rw [if_neg h1, if_pos (by omega), decide_eq_false h1]; rfl
 ·simp only [LF, aL, bC]
  rw [if_neg (by omega), List.take_length]
theorem aK3 {l y t : Lay} (g : S4) {a b : Int} (fnd : Bool) (h1 : l.2.2.1.length = l.2.1.length) (h2 : l.2.2.2.length = l.2.1.length) (h3 : y.2.1.length = l.2.1.length) (h0 : l.2.1.length ≤ 1000) (hv : ∀ i, i < l.2.1.length → y.2.1.getD i 0 = shN a b l.2.1 l.2.2.1 l.2.2.2 i) :
  K4 (l, y, (g, (a, b)), fnd, t, 0, ()) = some (.inr (y, fnd, t, ())) := by
 refine dV (N := 2 ^ 64) (step := KB) (fun i => (l, y, (g, (a, b)), fnd, t, (i : Int), ())) l.2.1.length _ (by omega) ?_ ?_
 ·intro i hi
  have hv := hv i hi
  unfold shN at hv
  simp only [KB, aL, bB, dI, nN, bC, Int.toNat_natCast]
  rw [if_pos (by omega), if_pos (by omega), if_pos (by omega), if_pos (by omega), if_pos (by omega), if_neg (not_not_intro hv), dO i (by omega)]
 ·simp only [KB, aL, bC]
  rw [if_neg (by omega)]
theorem aTT {l : Lay} (hl : j9 9 l) {g g' : S4} (hg : g ∈ aS l.1) (hg' : g' ∈ aS l.1) (hk : key (trn l g') = key (trn l g)) {x y a b : Int} (hx : -4 ≤ x ∧ x ≤ 4) (hy : -4 ≤ y ∧ y ≤ 4) (hh : Hit l.2.2.1 l.2.2.2 (mx 1 (-1) (shL l x y).2.1 l.2.1) a b) :
  f31 (l, trn (shL l x y) g, (g', (a, b)), ()) = some (true, ()) := by
 have h18 := hl.mono (C := 18) (by decide)
 have h0 := hl.len
 have h1 := hl.right
 have h2 := hl.up
 obtain ⟨hs, hv⟩ := E7 h18 (x := x) (y := y) (by omega) (by omega)
 have hlen : (shL l x y).2.1.length = l.2.1.length := by
  have : (shL l x y).2.1.length = l.2.2.1.length := pC _ _ _ _ _ _
  omega
 obtain ⟨hm, ha, hb⟩ := hh
 have c1 : ltI a (-1000) = false := by rw [aL]; exact decide_eq_false (by omega)
 have c2 : ltI 1000 a = false := by rw [aL]; exact decide_eq_false (by omega)
 have c3 : ltI b (-1000) = false := by rw [aL]; exact decide_eq_false (by omega)
 have c4 : ltI 1000 b = false := by rw [aL]; exact decide_eq_false (by omega)
 have hval : ∀ i, i < l.2.1.length → (trn (shL l x y) g).2.1.getD i 0 = shN a b l.2.1 l.2.2.1 l.2.2.2 i := fun i hi => by
  have q1 : i < l.2.2.1.length := by omega
  have e1 := CJ (a := a) (b := b) (r := l.2.2.1) (s := l.2.2.2) q1
  have e2 := CJ (a := 1) (b := -1) (r := (shL l x y).2.1) (s := l.2.1) (i := i) (by omega)
  have v1 := (XR (A := 128) (B := 18) (by decide) (by decide) (by omega : -128 ≤ a ∧ a ≤ 128) (by omega : -128 ≤ b ∧ b ≤ 128) (h18.r.get q1) (h18.u.get (i := i) (by omega))).1
  have v2 := (uO (a := 1) (b := -1) (B := 4626) (r := (shL l x y).2.1) (s := l.2.1) (i := i) (by decide) (by decide) (hs.o.get (by omega)) (by have := h18.o.get (i := i) (by omega); omega) (by decide)).1
  have b1 := hl.o.get (i := i) (by omega)
  have b2 := hl.r.get (i := i) (by omega)
  have b3 := hl.u.get (i := i) (by omega)
  have b4 := hs.o.get (i := i) (by omega)
  rw [hm, e2, v2] at e1
  rw [v1] at e1
  rw [a3V (by omega) (by omega) (by unfold okE; omega) (by unfold okE; omega) (by unfold okE; omega), v1, ← e1]
  have e3 : 1 * (shL l x y).2.1.getD i 0 + -1 * l.2.1.getD i 0 + l.2.1.getD i 0 = (shL l x y).2.1.getD i 0 := by omega
  rw [e3, wrap64 (by omega) (by omega)]
  rfl
 have hgood := lL hl (mU hg') (by decide) (by decide)
 have hk1 : (trn l g').2.2.1 = (trn (shL l x y) g).2.2.1 := congrArg Prod.fst hk
 have hk2 : (trn l g').2.2.2 = (trn (shL l x y) g).2.2.2 := congrArg Prod.snd hk
 unfold f31
 show (bif ltI a (-1000) then _ else bif ltI 1000 a then _ else bif ltI b (-1000) then _ else bif ltI 1000 b then _ else aB (f16 (l.1, ())) _) = _
 rw [c1, c2, c3, c4, cond_false, cond_false, cond_false, cond_false, aUV hl.kind, aD]
 show (aB (LD (l, trn (shL l x y) g, (g', (a, b)), aS l.1, false, 0, ())) _) = _
 rw [aOI _ _ _ _ (Nat.le_trans L7 (by decide)), aD, decide_eq_true (show ((g', (a, b)) : S4 × (Int × Int)).1 ∈ aS l.1 from hg')]
 show (aB (f18 (l, g', ())) _) = _
 rw [aHU hl (mU hg') (by decide) (by decide), aD]
 show (aB (K4 (l, trn (shL l x y) g, (g', (a, b)), true, trn l g', 0, ())) _) = _
 rw [aK3 (y := trn (shL l x y) g) (t := trn l g') g' true h1 h2 hlen (by omega) hval, aD, iH]
 show (aB (f43 ((trn l g').2.2.1, (trn (shL l x y) g).2.2.1, ())) _) = _
 rw [ZV _ _ (by have := hgood.sh.2.1; omega), aD, decide_eq_true hk1]
 show (aB (f43 ((trn l g').2.2.2, (trn (shL l x y) g).2.2.2, ())) _) = _
 rw [ZV _ _ (by have := hgood.sh.2.2; omega), aD, decide_eq_true hk2]
theorem aFE {l : Lay} (hl : j9 9 l) (n : List (Int × Int)) (z : List S4) : ∀ (L : List S4) (acc : List S4), (∀ g ∈ L, AS g) → acc.length + L.length ≤ 1000 →
  qK RR (aH1 DW OE) (L.map fun e => (e, ())) (l, z, 0, acc, (n, ()), ()) = some (acc ++ L.filter fun g => decide (trn l g = l), ())
 | [], acc, _, _ => by
  show some (acc, ()) = _
  simp
 | g :: L, acc, hL, hlen => by
  have hg := hL g (by simp)
  have gg := lL hl hg (by decide) (by decide)
  have hiff : qZ (key (trn l g)) (key l) = 0 ↔ trn l g = l := by
   constructor
   ·intro h
    have h := aI7 h
    have e1 : (trn l g).2.2.1 = l.2.2.1 := congrArg Prod.fst h
    have e2 : (trn l g).2.2.2 = l.2.2.2 := congrArg Prod.snd h
    show (l.1, l.2.1, (trn l g).2.2.1, (trn l g).2.2.2) = l
    rw [e1, e2]
   ·intro h
    rw [h, AM]
  rw [List.length_cons] at hlen
  have b1 : Nat.ble acc.length 1048576 = true := by rw [jL]; exact decide_eq_true (by omega)
  have hst : RR (l, z, 0, acc, (n, ()), ()) (g, ()) = if trn l g = l then some (.inl (l, z, 0, acc ++ [g], (n, ()), ())) else some (.inl (l, z, 0, acc, (n, ()), ())) := by
   show (aB (f40 (l, g, ())) _) = _
   rw [QV g hl, aD]
   show (aB (f48 (trn l g, l, ())) _) = _
   rw [aK0 gg.sh hl.sh, aD]
   show (bif eqI (qZ (key (trn l g)) (key l)) 0 then bif true then bif Nat.ble acc.length 1048576 then _ else _ else _ else _) = _
   rw [dI, bC, b1]
   by_cases h : trn l g = l
   ·rw [if_pos h, if_pos (hiff.2 h)]; rfl
   ·rw [if_neg h, if_neg fun hh => h (hiff.1 hh)]
  rw [List.map_cons, qK, hst]
  by_cases h : trn l g = l
  ·rw [if_pos h]
   dsimp only
   rw [aFE hl n z L (acc ++ [g]) (fun x hx => hL x (by simp [hx])) (by rw [List.length_append, List.length_singleton]; omega), List.filter_cons, if_pos (decide_eq_true h), List.append_assoc]
   rfl
  ·rw [if_neg h]
   dsimp only
   rw [aFE hl n z L acc (fun x hx => hL x (by simp [hx])) (by omega), List.filter_cons, if_neg (by simpa using h)]
theorem aVJ {l : Lay} (hl : j9 9 l) : f28 (l, ()) = some ((aS l.1).filter fun g => decide (trn l g = l), 0, ()) := by
 have h24 := aAN l
 rw [P9 hl (by decide)] at h24
 have hlen := L7 (k := l.1)
 have hle : FZ (l, [], 0, [], (lR l.1, ()), ()) = some ((aS l.1).filter fun g => decide (trn l g = l), ()) := by
  unfold FZ TT
  have hff : (fun x => AV (aE7 x)) (l, [], 0, [], (lR l.1, ()), ()) = _ := MD l.1
  rw [hff]
  exact aFE hl (lR l.1) [] (aS l.1) [] (fun g hg => mU hg) (by rw [List.length_nil]; omega)
 unfold f28
 show (aB (f24 (l, ())) _) = _
 rw [h24, aD]
 show (aB (f38 (l.1, ())) _) = _
 rw [aFC, aD]
 show (aB (FZ (l, [], 0, [], (lR l.1, ()), ())) _) = _
 rw [hle, aD]
theorem aQS (l : Lay) (L F : List S4) (D : List Lay) (n k : Int) (t : Lay) (hD : D.length ≤ 1000) (hs : ∀ d ∈ D, ShL d) : IG (l, L, F, D, n, k, t, false, 0, ()) = some (l, L, F, D, n, k, t, decide (t ∈ D), ()) := by
 refine dV (N := 2 ^ 64) (step := SG) (fun i => (l, L, F, D, n, k, t, decide (t ∈ D.take i), (i : Int), ())) D.length _ (by omega) ?_ ?_
 ·intro i hi
  have hgi : D.getD i (0, ([], ([], []))) = D[i] := by rw [List.getD_eq_getElem?_getD, List.getElem?_eq_getElem hi]; rfl
  have hn : decide (t ∈ D.take (i + 1)) = (decide (t ∈ D.take i) || decide (D[i] = t)) := by
   have hti : D.take (i + 1) = D.take i ++ [D.getD i (0, ([], ([], [])))] := by
    rw [List.take_succ_eq_append_getElem hi, hgi]
   rw [hti, ← hgi]
   generalize D.getD i (0, ([], ([], []))) = c
   by_cases h1 : t ∈ D.take i
   ·simp [h1]
   ·simp [h1, eq_comm]
  simp only [SG, aL, bB, c6, bC, Int.toNat_natCast]
  rw [if_pos (by omega), dO i (by omega), hn]
  by_cases h1 : t ∈ D.take i
  ·rw [if_pos h1, decide_eq_true h1]; rfl
  ·rw [if_neg h1, if_pos (by omega), if_pos (by omega), decide_eq_false h1]
   show (aB (f19 (D.getD i (0, ([], ([], []))), t, ())) _) = _
   rw [hgi, aUR t (hs _ (List.getElem_mem hi)), aD]
   rfl
 ·simp only [SG, aL, bC]
  rw [if_neg (by omega), List.take_length]
def l6 (l : Lay) (g : S4) : Bool := decide (trn l g = l)
theorem aPN {l : Lay} (hl : j9 9 l) : RI (l, aS l.1, (aS l.1).filter (l6 l), [], 0, 0, ()) = some (.inr (aS l.1, (aS l.1).filter (l6 l), ded [] ((aS l.1).map (trn l)), (((aS l.1).filter (l6 l)).length : Int), ())) := by
 have hlen := L7 (k := l.1)
 have hu : ∀ g ∈ aS l.1, AS g := fun g hg => mU hg
 generalize aS l.1 = L at hlen hu
 refine dV (N := 2 ^ 64) (step := XP) (fun i => (l, L, L.filter (l6 l), ded [] ((L.take i).map (trn l)), (((L.take i).filter (l6 l)).length : Int), (i : Int), ())) L.length _ (by omega) ?_ ?_
 ·intro i hi
  have hg := hu L[i] (List.getElem_mem hi)
  have gg := lL hl hg (by decide) (by decide)
  have hgi : L.getD i (0, (0, (0, 0))) = L[i] := by rw [List.getD_eq_getElem?_getD, List.getElem?_eq_getElem hi]; rfl
  have hti : L.take (i + 1) = L.take i ++ [L[i]] := List.take_succ_eq_append_getElem hi
  have hdl : (ded [] ((L.take i).map (trn l))).length ≤ 12 := by
   have := ZK (l := (L.take i).map (trn l)) (acc := [])
   rw [List.length_map, List.length_take, List.length_nil] at this
   omega
  have hds : ∀ d ∈ ded [] ((L.take i).map (trn l)), ShL d := fun d hd => by
   rcases XU.1 hd with h | h
   ·cases h
   ·obtain ⟨g, hg, rfl⟩ := List.mem_map.1 h
    exact (lL hl (hu g (List.mem_of_mem_take hg)) (by decide) (by decide)).sh
  have e1 : ded [] ((L.take (i + 1)).map (trn l)) = if trn l L[i] ∈ ded [] ((L.take i).map (trn l)) then ded [] ((L.take i).map (trn l)) else ded [] ((L.take i).map (trn l)) ++ [trn l L[i]] := by
   rw [hti, List.map_append]
   refine (aJ0 (α := Lay) (trn l L[i]) ((L.take i).map (trn l)) []).trans ?_
   by_cases h : trn l L[i] ∈ ded [] ((L.take i).map (trn l))
   ·rw [if_pos h, if_pos h]
   ·rw [if_neg h, if_neg h]
  have e2 : ((L.take (i + 1)).filter (l6 l)).length = if trn l L[i] = l then ((L.take i).filter (l6 l)).length + 1 else ((L.take i).filter (l6 l)).length := by
   rw [hti, List.filter_append, List.length_append]
   by_cases h : trn l L[i] = l
   ·rw [if_pos h, List.filter_cons, if_pos (show l6 l L[i] = true from decide_eq_true h)]; rfl
   ·rw [if_neg h, List.filter_cons, if_neg (by unfold l6; simpa using h)]; rfl
  have hfl : ((L.take i).filter (l6 l)).length ≤ 12 := by
   have := List.length_filter_le (l6 l) (L.take i)
   rw [List.length_take] at this
   omega
  have c0 : ltI (i : Int) (L.length : Int) = true := by rw [aL]; exact decide_eq_true (by omega)
  have c1 : aP (i : Int) L.length = true := by rw [bB]; exact decide_eq_true (by omega)
  have c3 : ((i : Nat) : Int).toNat = i := Int.toNat_natCast _
  have w1 := dO i (by omega)
  rw [e1, e2]
  generalize hD : ded [] ((L.take i).map (trn l)) = D at hdl hds
  have b1 : Nat.ble D.length 1048576 = true := by rw [jL]; exact decide_eq_true (by omega)
  have tail : ∀ n : Int, (aB (IG (l, L, L.filter (l6 l), D, n, (i : Int), trn l L[i], false, 0, ())) fun z18 =>
    bif z18.2.2.2.2.2.2.2.1 then
     (some (.inl (z18.1, z18.2.1, z18.2.2.1, z18.2.2.2.1, z18.2.2.2.2.1, (aJ .i64 (z18.2.2.2.2.2.1 + 1)), ())) : Option (Shape.den aAK ⊕ aV aDG))
    else bif Nat.ble [z18.2.2.2.2.2.2.1].length 1048576 then bif Nat.ble z18.2.2.2.1.length 1048576 then some (.inl (z18.1, z18.2.1, z18.2.2.1, (z18.2.2.2.1 ++ [z18.2.2.2.2.2.2.1]), z18.2.2.2.2.1, (aJ .i64 (z18.2.2.2.2.2.1 + 1)), ())) else none else none) =
    some (.inl (l, L, L.filter (l6 l), (if trn l L[i] ∈ D then D else D ++ [trn l L[i]]), n, ((i + 1 : Nat) : Int), ())) := fun n => by
   rw [aQS l L _ D n (i : Int) (trn l L[i]) (by omega) hds, aD]
   dsimp only
   rw [bC, w1]
   by_cases h : trn l L[i] ∈ D
   ·rw [if_pos h, if_pos h]
   ·rw [if_neg h, if_neg h]
    show (bif true then bif Nat.ble D.length 1048576 then _ else _ else _) = _
    rw [b1]; rfl
  show (bif ltI (i : Int) (L.length : Int) then bif aP (i : Int) L.length then aB (f18 (l, L.getD ((i : Nat) : Int).toNat (0, (0, (0, 0))), ())) _ else _ else _) = _
  rw [c0, c1, cond_true, cond_true, c3, hgi, aHU hl hg (by decide) (by decide), aD]
  show (aB (f19 (trn l L[i], l, ())) _) = _
  rw [aUR l gg.sh, aD]
  dsimp only
  rw [bC]
  by_cases h : trn l L[i] = l
  ·rw [if_pos h, if_pos h]
   have hF : (L.filter (l6 l)).getD ((L.take i).filter (l6 l)).length (0, (0, (0, 0))) = L[i] ∧ ((L.take i).filter (l6 l)).length < (L.filter (l6 l)).length := by
    have hsp : L.filter (l6 l) = (L.take i).filter (l6 l) ++ L[i] :: (L.drop (i + 1)).filter (l6 l) := by
     conv => lhs; rw [← List.take_append_drop i L, List.filter_append, List.drop_eq_getElem_cons hi, List.filter_cons, if_pos (show l6 l L[i] = true from decide_eq_true h)]
    rw [hsp]
    constructor
    ·rw [List.getD_eq_getElem?_getD, List.getElem?_append_right (Nat.le_refl _), Nat.sub_self]; rfl
    ·rw [List.length_append, List.length_cons]; omega
   have d1 : ltI (((L.take i).filter (l6 l)).length : Int) ((L.filter (l6 l)).length : Int) = true := by rw [aL]; exact decide_eq_true (by omega)
   have d2 : aP (((L.take i).filter (l6 l)).length : Int) (L.filter (l6 l)).length = true := by rw [bB]; exact decide_eq_true (by omega)
   have d3 : ((((L.take i).filter (l6 l)).length : Nat) : Int).toNat = ((L.take i).filter (l6 l)).length := Int.toNat_natCast _
   have d4 := dO ((L.take i).filter (l6 l)).length (by omega)
   have d5 : eq4 L[i] L[i] = true := by rw [ZI]; exact decide_eq_true rfl
   show (bif !(ltI (((L.take i).filter (l6 l)).length : Int) ((L.filter (l6 l)).length : Int)) then _ else bif aP (((L.take i).filter (l6 l)).length : Int) (L.filter (l6 l)).length then bif true then bif !(eq4 ((L.filter (l6 l)).getD ((((L.take i).filter (l6 l)).length : Nat) : Int).toNat (0, (0, (0, 0)))) L[i]) then _ else aB (IG (l, L, L.filter (l6 l), D, aJ .i64 ((((L.take i).filter (l6 l)).length : Int) + 1), (i : Int), trn l L[i], false, 0, ())) _ else _ else _) = _
   rw [d1, d2, d3, hF.1, d5, Bool.not_true, cond_false, cond_true, cond_true, cond_false, d4]
   exact tail _
  ·rw [if_neg h, if_neg h]
   exact tail _
 ·have e0 : ltI (L.length : Int) (L.length : Int) = false := by rw [aL]; exact decide_eq_false (by omega)
  simp only [XP, e0, cond_false, List.take_length]
def aFY (L : List S4) : Bool := L.all fun g => (L.map fun h => KW h g).isPerm L
theorem aOJ : aFY KN = true := by decide +kernel
theorem aOH : aFY J1 = true := by decide +kernel
theorem aL6 {k : Int} {g : S4} (hg : g ∈ aS k) : List.Perm ((aS k).map fun h => KW h g) (aS k) := by
 have hc : aFY (aS k) = true := by
  unfold aS
  split
  ·exact aOH
  ·exact aOJ
 exact List.isPerm_iff.1 (List.all_eq_true.1 hc g hg)
theorem a5D {l : Lay} (hl : j9 9 l) : (aS l.1).length = ((aS l.1).filter (l6 l)).length * (ded [] ((aS l.1).map (trn l))).length := by
 refine VI (trn l) _ (ded [] ((aS l.1).map (trn l))) (aS l.1) (aDP List.nodup_nil) (fun x hx => XU.2 (.inr (List.mem_map_of_mem hx))) (fun d hd => ?_)
 rcases XU.1 hd with h | h
 ·cases h
 ·obtain ⟨g0, hg0, rfl⟩ := List.mem_map.1 h
  rw [← (aL6 hg0).countP_eq, List.countP_map, ← List.countP_eq_length_filter]
  refine List.countP_congr fun h hh => ?_
  have ht := lL hl (mU hh) (by decide) (by decide)
  have e1 : trn l (KW h g0) = trn (trn l h) g0 := (RH hl hh hg0 (by decide) (by decide)).symm
  obtain ⟨i1, i2, -⟩ := aFX hl.kind hg0
  have e2 : trn (trn (trn l h) g0) (aEJ l.1 g0) = trn l h := by
   rw [RH ht hg0 i1 (by decide) (by decide), i2, aKB ht (by decide) (by decide)]
  have e3 : trn (trn l g0) (aEJ l.1 g0) = l := by
   rw [RH hl hg0 i1 (by decide) (by decide), i2, aKB hl (by decide) (by decide)]
  simp only [Function.comp, l6, decide_eq_true_eq, e1]
  constructor
  ·intro h
   rw [h, e3] at e2
   exact e2.symm
  ·intro h
   rw [h]
theorem aDI (a : Int) : -4 ≤ a.tmod 5 ∧ a.tmod 5 ≤ 4 := by
 cases a with
 | ofNat m =>
  have h : (Int.ofNat m).tmod 5 = ((m % 5 : Nat) : Int) := rfl
  rw [h]; omega
 | negSucc m =>
  have h : (Int.negSucc m).tmod 5 = -(((m + 1) % 5 : Nat) : Int) := rfl
  rw [h]; omega
theorem aXY (d : Ty.den (.prod .bool (.prod (.int .u8) (.prod (.prod (.int .i8) (.prod (.int .i8) (.int .i8))) (.prod (.prod (.int .i8) (.prod (.int .i8) (.int .i8))) (.prod (.int .i8) (.prod (.int .i8) (.int .i8)))))))) {g : Int} {s : Int × Int}
  (hr : 0 ≤ d.2.1 ∧ d.2.1 ≤ 255) (hg : 0 ≤ g ∧ g ≤ 255) : f8 (d, g, s, ()) = some (true, ()) := by
 have h12 : f12 () = some (true, ()) := rfl
 obtain ⟨l0, hm, hl0⟩ := aSM d hr
 have k0 := hl0.len
 have k1 := hl0.right
 have k2 := hl0.up
 obtain ⟨l, hldef⟩ : ∃ l : Lay, l = (l0.1, (List.replicate l0.2.2.1.length 0, (l0.2.2.1, l0.2.2.2))) := ⟨_, rfl⟩
 have hl : j9 9 l := by
  subst hldef
  refine ⟨hl0.kind, by show (List.replicate _ _).length ≤ 3; rw [List.length_replicate]; omega, by show _ = (List.replicate _ _).length; rw [List.length_replicate], by show _ = (List.replicate _ _).length; rw [List.length_replicate]; show l0.2.2.2.length = _; omega, fun v hv => ?_, hl0.r, hl0.u⟩
  have := (List.mem_replicate.1 hv).2
  omega
 have hkind : l0.1 = l.1 := by rw [hldef]
 have h16 : f16 (l0.1, ()) = some (aS l.1, ()) := by rw [hkind]; exact aUV hl.kind
 have q1 : ltI (l0.2.2.1.length : Int) 0 = false := by rw [aL]; exact decide_eq_false (by omega)
 have q2 : ltI (l0.2.2.1.length : Int) (l0.2.2.1.length : Int) = false := by rw [aL]; exact decide_eq_false (by omega)
 have q3 : ltI 1048576 (l0.2.2.1.length : Int) = false := by rw [aL]; exact decide_eq_false (by omega)
 unfold f8
 show (aB (f12 ()) _) = _
 rw [h12, aD]
 show (aB (f29 (d, ())) _) = _
 rw [hm, aD]
 show (bif !(ltI (l0.2.2.1.length : Int) 0) then bif !(ltI (l0.2.2.1.length : Int) (l0.2.2.1.length : Int)) then bif !(ltI 1048576 (l0.2.2.1.length : Int)) then aB (f16 (l0.1, ())) _ else _ else _ else _) = _
 rw [q1, q2, q3, Bool.not_false, cond_true, cond_true, cond_true, h16, aD]
 have hz : List.replicate (((l0.2.2.1.length : Nat) : Int).toNat) (0 : Int) = List.replicate l0.2.2.1.length 0 := by rw [Int.toNat_natCast]
 have hn := MF (k := l.1)
 have m1 := aW7 hg hn
 have l1 := Nat.mod_lt g.toNat hn
 have g1 : (aS l.1).getD (g.toNat % (aS l.1).length) (0, (0, (0, 0))) ∈ aS l.1 := by
  rw [List.getD_eq_getElem?_getD, List.getElem?_eq_getElem l1]; exact List.getElem_mem l1
 have hz0 : eqI ((aS l.1).length : Int) 0 = false := by rw [dI]; exact decide_eq_false (by omega)
 have i1 : aP ((g.toNat % (aS l.1).length : Nat) : Int) (aS l.1).length = true := by
  show Nat.blt _ _ = true
  rw [c6]; exact decide_eq_true l1
 have bx := aDI (IntKind.wrap .i64 s.1)
 have by_ := aDI (IntKind.wrap .i64 s.2)
 have h18 := hl.mono (C := 18) (by decide)
 show (aB (aI1 ((l0.1, (List.replicate (((l0.2.2.1.length : Nat) : Int).toNat) 0, (l0.2.2.1, l0.2.2.2))), (IntKind.wrap .i64 s.1).tmod 5, (IntKind.wrap .i64 s.2).tmod 5, ())) _) = _
 simp only [hz, ← hldef]
 generalize (IntKind.wrap .i64 s.1).tmod 5 = x at bx
 generalize (IntKind.wrap .i64 s.2).tmod 5 = y at by_
 rw [aQV h18 (by omega) (by omega), aD]
 have hs := (E7 h18 (x := x) (y := y) (by omega) (by omega)).1
 show (bif eqI ((aS l.1).length : Int) 0 then _ else bif aP ((IntKind.wrap .i64 g).tmod ((aS l.1).length : Int)) (aS l.1).length then aB (f15 (shL l x y, (aS l.1).getD (((IntKind.wrap .i64 g).tmod ((aS l.1).length : Int)).toNat) (0, (0, (0, 0))), ())) _ else _) = _
 rw [hz0, cond_false, m1, i1, cond_true, Int.toNat_natCast]
 generalize (aS l.1).getD (g.toNat % (aS l.1).length) (0, (0, (0, 0))) = gg at g1
 rw [aOP hs g1 (by decide) (by decide), aD]
 obtain ⟨g', a, b, e27, m2, m3, hh⟩ := aRY hl g1 bx by_
 show (aB (f27 (l, trn (shL l x y) gg, ())) _) = _
 rw [e27, aD]
 show (aB (f28 (l, ())) _) = _
 rw [aVJ hl, aD]
 show (aB (f31 (l, trn (shL l x y) gg, (g', (a, b)), ())) _) = _
 rw [aTT hl g1 m2 m3 bx by_ hh, aD]
 show (aB (RI (l, aS l.1, (aS l.1).filter (l6 l), [], 0, 0, ())) _) = _
 rw [aPN hl, aD, iH]
 have ho := a5D hl
 have hlen := L7 (k := l.1)
 show (bif eqI (((aS l.1).filter (l6 l)).length : Int) (((aS l.1).filter (l6 l)).length : Int) then some (eqI (aJ .i64 ((((aS l.1).filter (l6 l)).length : Int) * ((ded [] ((aS l.1).map (trn l))).length : Int))) ((aS l.1).length : Int), ()) else _) = _
 have e1 : eqI (((aS l.1).filter (l6 l)).length : Int) (((aS l.1).filter (l6 l)).length : Int) = true := by rw [dI]; exact decide_eq_true rfl
 have e2 : (((aS l.1).filter (l6 l)).length : Int) * ((ded [] ((aS l.1).map (trn l))).length : Int) = ((aS l.1).length : Int) := by
  rw [ho]; exact (Int.natCast_mul _ _).symm
 rw [e1, cond_true, e2, wrap64 (by omega) (by omega), dI, decide_eq_true rfl]
end Go.PM
