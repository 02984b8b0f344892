/- Chapter 46, plain law: Shifts. -/
import Derived.Test.YtjgapmocogjkmaaGreatDoorIsX
import Derived.Test.YtjgapmocogjkmaaGreatDoorIsAB
set_option linter.unusedSimpArgs false
set_option linter.unusedVariables false
namespace Go.PM
open Go Go.RowKit Go.Proofs
set_option maxRecDepth 100000

theorem f65o_eq {a b : Int} {r s : List Int} (hl : s.length = r.length) (hr : r.length ≤ 1000) : f65o (r, s, a, b, ()) = some (mx a b r s) := by
  have hloop : loop65o_0 (r, s, a, b, [], (r.length : Int), 0, ()) = some (mx a b r s, ()) := by
    refine loopN_all (N := 2 ^ 64) (step := step65o_0) (fun i => (r, s, a, b, (List.range i).map (mxE a b r s), (r.length : Int), (i : Int), ())) r.length _ (by omega) ?_ ?_
    · intro i hi
      simp only [step65o_0, ltI_eq, idxOk_eq, nble_eq, cond_dec, Int.toNat_natCast, List.length_map, List.length_range, List.length_singleton]
      rw [if_pos (by omega), if_pos (by omega), if_pos (by omega), if_pos (by omega), if_pos (by omega), wrap64s i (by omega), List.range_succ, List.map_append]
      rfl
    · simp only [step65o_0, ltI_eq, cond_dec]
      rw [if_neg (by omega)]
      rfl
  unfold f65o; dsimp only
  rw [hloop, askO_s]
/-- The shifted Origin, as far as the first i. -/
def shfE (x y : Int) (o r u : List Int) (i j : Nat) : Int := if j < i then wrapF .i64 (mxE x y r u j + o.getD j 0) else mxE x y r u j
def shf (x y : Int) (o r u : List Int) (i : Nat) : List Int := (List.range r.length).map (shfE x y o r u i)
theorem shf_zero (x y : Int) (o r u : List Int) : shf x y o r u 0 = mx x y r u := by
  unfold shf mx
  refine List.map_congr_left fun j _ => ?_
  unfold shfE
  rw [if_neg (by omega)]
theorem shf_get (x y : Int) (o r u : List Int) (i : Nat) {j : Nat} (h : j < r.length) : (shf x y o r u i).getD j 0 = shfE x y o r u i j := by
  unfold shf
  rw [List.getD_eq_getElem?_getD, List.getElem?_map, List.getElem?_range h]; rfl
theorem shf_length (x y : Int) (o r u : List Int) (i : Nat) : (shf x y o r u i).length = r.length := by simp [shf]
theorem shf_set (x y : Int) (o r u : List Int) {i : Nat} (h : i < r.length) : (shf x y o r u i).set i (wrapF .i64 ((shf x y o r u i).getD i 0 + o.getD i 0)) = shf x y o r u (i + 1) := by
  rw [shf_get x y o r u i h]
  apply List.ext_getElem
  · rw [List.length_set, shf_length, shf_length]
  · intro j h1 h2
    rw [List.length_set, shf_length] at h1
    rw [List.getElem_set]
    have g : ∀ k, (shf x y o r u k)[j]'(by rw [shf_length]; exact h1) = shfE x y o r u k j := fun k => by simp [shf]
    rw [g (i + 1)]
    by_cases hij : i = j
    · subst hij
      rw [if_pos rfl]
      unfold shfE
      rw [if_neg (by omega), if_pos (by omega)]
    · rw [if_neg hij, g i]
      unfold shfE
      by_cases hlt : j < i
      · rw [if_pos hlt, if_pos (by omega)]
      · rw [if_neg hlt, if_neg (by omega)]
def shL (l : Lay) (x y : Int) : Lay := (l.1, shf x y l.2.1 l.2.2.1 l.2.2.2 l.2.2.1.length, l.2.2.1, l.2.2.2)
theorem f44_eq {l : Lay} (x y : Int) (h0 : l.2.1.length = l.2.2.1.length) (h1 : l.2.2.2.length = l.2.2.1.length) (h2 : l.2.2.1.length ≤ 1000) : f44 (l, x, y, ()) = some (shL l x y, ()) := by
  obtain ⟨k, o, r, u⟩ := l
  dsimp only at h0 h1 h2
  have hc : ∀ s : List Int, s.length ≤ 1000 → f64c (s, ()) = some (s, ()) := fun s hs => by
    unfold f64c; dsimp only
    rw [nble_eq, cond_dec, if_pos (by omega)]
  have hloop : loop44_0 ((k, o, r, u), zL, (k, (shf x y o r u 0, (r, u))), (r.length : Int), 0, ()) = some (zL, (k, (shf x y o r u r.length, (r, u))), ()) := by
    refine loopN_all (N := 2 ^ 64) (step := step44_0) (fun i => ((k, o, r, u), zL, (k, (shf x y o r u i, (r, u))), (r.length : Int), (i : Int), ())) r.length _ (by omega) ?_ ?_
    · intro i hi
      have hs := shf_length x y o r u i
      simp only [step44_0, ltI_eq, idxOk_eq, nblt_eq, cond_dec, Int.toNat_natCast]
      rw [if_pos (by omega), if_pos (by omega), if_pos (by omega), if_pos (by omega), if_pos (by omega), if_pos (by omega), wrap64s i (by omega), shf_set x y o r u hi]
    · simp only [step44_0, ltI_eq, cond_dec]
      rw [if_neg (by omega)]
  unfold f44; dsimp only
  rw [f65o_eq h1 h2, askO_s, hc r h2, askO_s, hc u (by omega), askO_s]
  have hl : ((mx x y r u).length : Int) = (r.length : Int) := by rw [mx_length]
  show (askO (loop44_0 ((k, o, r, u), zL, (k, (mx x y r u, (r, u))), ((mx x y r u).length : Int), 0, ())) _) = _
  rw [hl, ← shf_zero x y o r u, hloop, askO_s]
  rfl
theorem f20s_eq {l : Lay} (x y : Int) (h0 : l.2.1.length = l.2.2.1.length) (h1 : l.2.2.2.length = l.2.2.1.length) (h2 : l.2.2.1.length ≤ 1000) (hc : ce l = 0) :
    f20s (l, x, y, ()) = some (if x < -1000 ∨ 1000 < x ∨ y < -1000 ∨ 1000 < y then (zL, 3, ()) else if rc (shL l x y).2.1 = 0 ∧ rc (shL l x y).2.2.1 = 0 ∧ rc (shL l x y).2.2.2 = 0 then (shL l x y, 0, ()) else (zL, 4, ())) := by
  have h24 := f24_eq l
  rw [hc] at h24
  unfold f20s
  show (askO (f24 (l, ())) _) = _
  rw [h24, askO_s]
  show (bif ltI x (-1000) then some (zL, 3, ()) else bif ltI 1000 x then some (zL, 3, ()) else bif ltI y (-1000) then some (zL, 3, ()) else bif ltI 1000 y then some (zL, 3, ()) else askO (f44 (l, x, y, ())) fun y2 => askO (f39 ((y2.1.1, (y2.1.2.1, (y2.1.2.2.1, y2.1.2.2.2))), ())) fun y3 => some ((y3.1.1, (y3.1.2.1, (y3.1.2.2.1, y3.1.2.2.2))), y3.2.1, ())) = _
  simp only [ltI_eq, cond_dec]
  by_cases g1 : x < -1000
  · rw [if_pos g1, if_pos (.inl g1)]
  · rw [if_neg g1]
    by_cases g2 : 1000 < x
    · rw [if_pos g2, if_pos (.inr (.inl g2))]
    · rw [if_neg g2]
      by_cases g3 : y < -1000
      · rw [if_pos g3, if_pos (.inr (.inr (.inl g3)))]
      · rw [if_neg g3]
        by_cases g4 : 1000 < y
        · rw [if_pos g4, if_pos (.inr (.inr (.inr g4)))]
        · rw [if_neg g4, if_neg (by omega), f44_eq x y h0 h1 h2, askO_s]
          show (askO (f39 (shL l x y, ())) _) = _
          rw [f39_eq, askO_s]
/-- An element of the shifted Origin, as the law has it. -/
def shN (x y : Int) (o r u : List Int) (i : Nat) : Int := wrapF .i64 (wrapF .i64 (o.getD i 0 + wrapF .i64 (x * r.getD i 0)) + wrapF .i64 (y * u.getD i 0))
theorem mul_bound {x v : Int} (hx : -1000 ≤ x ∧ x ≤ 1000) (hv : okE v) : -1000000000000 ≤ x * v ∧ x * v ≤ 1000000000000 := by
  obtain ⟨h1, h2⟩ := hv
  have key : (x * v).natAbs ≤ 1000 * 1000000000 := by
    rw [Int.natAbs_mul]
    exact Nat.mul_le_mul (by omega) (by omega)
  omega
theorem shN_eq {x y : Int} {o r u : List Int} {i : Nat} (hx : -1000 ≤ x ∧ x ≤ 1000) (hy : -1000 ≤ y ∧ y ≤ 1000) (ho : okE (o.getD i 0)) (hr : okE (r.getD i 0)) (hu : okE (u.getD i 0)) : shN x y o r u i = wrapF .i64 (mxE x y r u i + o.getD i 0) := by
  have b1 := mul_bound hx hr
  have b2 := mul_bound hy hu
  obtain ⟨b3, b4⟩ := ho
  unfold shN mxE
  rw [wrap64 (x := x * r.getD i 0) (by omega) (by omega), wrap64 (x := y * u.getD i 0) (by omega) (by omega)]
  rw [wrap64 (x := o.getD i 0 + x * r.getD i 0) (by omega) (by omega), wrap64 (x := x * r.getD i 0 + y * u.getD i 0) (by omega) (by omega)]
  congr 1; omega
theorem loop4_eq (x y : Int) {l : Lay} {t : Lay} {e : Int} {wt : Bool} (h0 : l.2.1.length = l.2.2.1.length) (h1 : l.2.2.2.length = l.2.2.1.length) (h2 : l.2.2.1.length ≤ 1000) (ht : f17 (t, ()) = some (wt, ())) :
    loop4_0 (x, y, l, t, e, (l.1, ([], (l.2.2.1, l.2.2.2))), 0, ()) = some ((((List.range l.2.2.1.length).find? fun i => decide (¬ okE (shN x y l.2.1 l.2.2.1 l.2.2.2 i))).map fun _ : Nat => .inl (wt && eqI e 4, ())).getD (.inr (t, e, (l.1, ((List.range l.2.2.1.length).map (shN x y l.2.1 l.2.2.1 l.2.2.2), (l.2.2.1, l.2.2.2))), ()))) := by
  obtain ⟨k, o, r, u⟩ := l
  dsimp only at h0 h1 h2 ⊢
  rw [← findSome_if (fun i => ¬ okE (shN x y o r u i)) (fun i : Nat => Sum.inl (wt && eqI e 4, ()))]
  refine loopN_find (N := 2 ^ 64) (step := step4_0) (fun i => (x, y, (k, o, r, u), t, e, (k, ((List.range i).map (shN x y o r u), (r, u))), (i : Int), ())) (fun i => if ¬ okE (shN x y o r u i) then some (.inl (wt && eqI e 4, ())) else none) r.length _ (by omega) ?_ ?_
  · intro i hi
    have ht' : ∀ (q : Option (denK [.bool]) → Option (Shape.den sh4_0 ⊕ exDen ex4_0)), q (f17 ((t.1, (t.2.1, (t.2.2.1, t.2.2.2))), ())) = q (some (wt, ())) := fun q => by
      rw [show (f17 ((t.1, (t.2.1, (t.2.2.1, t.2.2.2))), ())) = some (wt, ()) from ht]
    simp only [step4_0, ltI_eq, idxOk_eq, nble_eq, cond_dec, Int.toNat_natCast, List.length_map, List.length_range, List.length_singleton]
    rw [if_pos (by omega), if_pos (by omega), if_pos (by omega), if_pos (by omega), f21_eq, askO_s, wrap64s i (by omega)]
    show (bif decide (okE (shN x y o r u i)) then _ else _) = _
    rw [cond_dec]
    by_cases h : okE (shN x y o r u i)
    · rw [if_pos h, if_neg (not_not_intro h), if_pos (by omega), if_pos (by omega), List.range_succ, List.map_append]
      rfl
    · rw [if_neg h, if_pos h]
      rw [show (f17 ((t.1, (t.2.1, (t.2.2.1, t.2.2.2))), ())) = some (wt, ()) from ht, askO_s]
      cases wt <;> rfl
  · simp only [step4_0, ltI_eq, cond_dec]
    rw [if_neg (by omega)]
theorem f4_true (l : Lay) (x y : Int) : f4 (l, x, y, ()) = some (true, ()) := by
  have h12 : f12 () = some (true, ()) := rfl
  obtain ⟨b, h13, hsh⟩ := f13_some l
  unfold f4
  show (askO (f12 ()) _) = _
  rw [h12, askO_s]
  show (askO (f13 (l, ())) _) = _
  rw [h13, askO_s]
  cases b with
  | false => rfl
  | true =>
    show (askO (f14 (l, ())) _) = _
    rw [f14_eq, askO_s]
    show (bif !(eqI (ce l) 0) then _ else _) = _
    rw [eqI_eq, not_dec, cond_dec]
    by_cases hc : ¬ ce l = 0
    · rw [if_pos hc]; rfl
    · rw [if_neg hc]
      have hc : ce l = 0 := by omega
      obtain ⟨hk, r0, r1, r2, n1, n2⟩ := ce_ok hc
      have b1 := (rc_ok r1).1
      have e0 : l.2.1.length = l.2.2.1.length := by omega
      have e1 : l.2.2.2.length = l.2.2.1.length := by omega
      have e2 : l.2.2.1.length ≤ 1000 := by omega
      show (askO (f20s (l, x, y, ())) _) = _
      rw [f20s_eq x y e0 e1 e2 hc, askO_s]
      simp only [ltI_eq, cond_dec]
      by_cases g : x < -1000 ∨ 1000 < x ∨ y < -1000 ∨ 1000 < y
      · rw [if_pos g]
        have fin : (askO (f17 (zL, ())) fun y6 => bif y6.1 then some (eqI 3 3, ()) else some (false, ())) = some (true, ()) := by
          rw [f17_eq ⟨by decide, by decide, by decide⟩, askO_s]; rfl
        by_cases g1 : x < -1000
        · rw [if_pos g1]; exact fin
        · rw [if_neg g1]
          by_cases g2 : 1000 < x
          · rw [if_pos g2]; exact fin
          · rw [if_neg g2]
            by_cases g3 : y < -1000
            · rw [if_pos g3]; exact fin
            · rw [if_neg g3, if_pos (by omega)]; exact fin
      · rw [if_neg g, if_neg (by omega), if_neg (by omega), if_neg (by omega), if_neg (by omega)]
        have hx : -1000 ≤ x ∧ x ≤ 1000 := by omega
        have hy : -1000 ≤ y ∧ y ≤ 1000 := by omega
        have hN : ∀ i, i < l.2.2.1.length → shN x y l.2.1 l.2.2.1 l.2.2.2 i = shfE x y l.2.1 l.2.2.1 l.2.2.2 l.2.2.1.length i := fun i hi => by
          have a0 := (rc_ok r0).2 _ (getD_mem (i := i) (s := l.2.1) (by omega))
          have a1 := (rc_ok r1).2 _ (getD_mem (i := i) (s := l.2.2.1) hi)
          have a2 := (rc_ok r2).2 _ (getD_mem (i := i) (s := l.2.2.2) (by omega))
          rw [shN_eq hx hy a0 a1 a2]
          unfold shfE
          rw [if_pos hi]
        have hS : (List.range l.2.2.1.length).map (shN x y l.2.1 l.2.2.1 l.2.2.2) = shf x y l.2.1 l.2.2.1 l.2.2.2 l.2.2.1.length := by
          unfold shf
          exact List.map_congr_left fun j hj => hN j (List.mem_range.1 hj)
        have hrc : rc (shL l x y).2.1 = if (∀ i, i < l.2.2.1.length → okE (shN x y l.2.1 l.2.2.1 l.2.2.2 i)) then 0 else 4 := by
          show rc (shf x y l.2.1 l.2.2.1 l.2.2.2 l.2.2.1.length) = _
          unfold rc
          rw [shf_length, if_neg (by omega)]
          have : (∀ i, i < l.2.2.1.length → okE ((shf x y l.2.1 l.2.2.1 l.2.2.2 l.2.2.1.length).getD i 0)) ↔ (∀ i, i < l.2.2.1.length → okE (shN x y l.2.1 l.2.2.1 l.2.2.2 i)) := by
            constructor <;> intro h i hi <;> have := h i hi
            · rwa [shf_get _ _ _ _ _ _ hi, ← hN i hi] at this
            · rwa [shf_get _ _ _ _ _ _ hi, ← hN i hi]
          simp only [this]
        by_cases hall : ∀ i, i < l.2.2.1.length → okE (shN x y l.2.1 l.2.2.1 l.2.2.2 i)
        · rw [if_pos ⟨by rw [hrc, if_pos hall], r1, r2⟩]
          have hsL : ShL (shL l x y) := ⟨by show (shf _ _ _ _ _ _).length ≤ _; rw [shf_length]; exact e2, e2, by show l.2.2.2.length ≤ _; omega⟩
          show (askO (loop4_0 (x, y, l, shL l x y, 0, (l.1, ([], (l.2.2.1, l.2.2.2))), 0, ())) _) = _
          rw [loop4_eq x y e0 e1 e2 (f17_eq hsL), List.find?_eq_none.2 (fun i hi => by
            have := hall i (List.mem_range.1 hi)
            simpa using this), hS, askO_s]
          show (askO (f19 (shL l x y, shL l x y, ())) _) = _
          rw [f19_eq _ hsL, askO_s, decide_eq_true rfl]
        · rw [if_neg (fun h => hall (by
            have := h.1
            rw [hrc] at this
            by_cases hh : ∀ i, i < l.2.2.1.length → okE (shN x y l.2.1 l.2.2.1 l.2.2.2 i)
            · exact hh
            · rw [if_neg hh] at this; cases this))]
          show (askO (loop4_0 (x, y, l, zL, 4, (l.1, ([], (l.2.2.1, l.2.2.2))), 0, ())) _) = _
          rw [loop4_eq x y e0 e1 e2 (f17_eq ⟨by decide, by decide, by decide⟩)]
          cases hf : (List.range l.2.2.1.length).find? fun i => decide (¬ okE (shN x y l.2.1 l.2.2.1 l.2.2.2 i)) with
          | none => exact absurd (fun i hi => by
              have := List.find?_eq_none.1 hf i (List.mem_range.2 hi)
              simpa using this) hall
          | some i => rfl
end Go.PM
