/- Chapter 40, ConsonanceChords: its function (printed) and its law. -/
import Derived.Test.YthbfchehcgnkpaaCoV
set_option linter.unusedSimpArgs false
set_option linter.unusedVariables false
namespace Go.PM
open Go Go.RowKit Go.Proofs
set_option maxRecDepth 100000
set_option maxHeartbeats 4000000

/-! schisma/schismalaw40.ConsonanceChords -/
abbrev sh6_0 : List (Nat × Kd) := [(1, .list (.list (.int .i64))), (8, .bool), (9, .int .i64), (11, .list (.list (.int .i64))), (12, .bool), (13, .int .i64)]
abbrev ex6_0 : List (Ex × List (Nat × Kd)) := [(.exit 0, [(8, .bool), (9, .int .i64), (12, .bool)])]
def step6_0 (x : Shape.den sh6_0) : Option (Shape.den sh6_0 ⊕ exDen ex6_0) := match x with
  | (v1, v8, v9, v11, v12, v13, ()) =>
    bif ltI v13 (v1.length : Int) then
      bif v12 then
        bif !(ltI v13 0) then bif Nat.ble 0 v13.toNat then bif Nat.ble v13.toNat v1.length then bif idxOk v13 v1.length then askO (f21 (v11, ((v1.drop 0).take (v13.toNat - 0)), (v1.getD v13.toNat []), ())) fun y10 =>
        some (.inl (v1, v8, v9, v11, y10.1, (wrapF .i64 (v13 + 1)), ())) else none else none else none else none
      else some (.inl (v1, v8, v9, v11, false, (wrapF .i64 (v13 + 1)), ()))
    else some (.inr ((v8, v9, v12, ())))
def loop6_0 (x : Shape.den sh6_0) : Option (exDen ex6_0) := loopN step6_0 (2 ^ 64) x
def f6 (x : denK [.int .i64, .list (.list (.int .i64)), .list (.list (.int .i64))]) : Option (denK [.bool]) := match x with
  | (v0, v1, v2, ()) =>
    askO (f10 (())) fun y1 =>
    bif y1.1 then
      askO (f11 (v1, ())) fun y2 =>
      bif y2.1 then
        askO (f11 (v2, ())) fun y3 =>
        bif y3.1 then
          askO (f22 (v0, v1, ())) fun y4 =>
          askO (f23 (v0, v1, ())) fun y5 =>
          bif !(eqI y5.1 y4.1) then
            some (false, ())
          else askO (f24 (v0, v2, v1, ())) fun y6 =>
          askO (f13 (v0, v2, ())) fun y7 =>
          bif eqI y7.1 0 then
            bif !(eqI y4.1 0) then
              bif y6.1 then
                some (false, ())
              else some (eqI y6.2.1 y4.1, ())
            else askO (f15 (v2, ())) fun y8 =>
            askO (loop6_0 (v1, y6.1, y6.2.1, y8.1, true, 0, ())) fun z11 =>
            bif z11.1 then
              bif z11.2.2.1 then
                some (eqI z11.2.1 0, ())
              else some (false, ())
            else bif z11.2.2.1 then
              some (false, ())
            else some (eqI z11.2.1 0, ())
          else bif !(eqI y7.1 0) then
            bif y6.1 then
              some (false, ())
            else some (eqI y6.2.1 y7.1, ())
          else askO (f15 (v2, ())) fun y12 =>
          askO (loop6_0 (v1, y6.1, y6.2.1, y12.1, true, 0, ())) fun z13 =>
          bif z13.1 then
            bif z13.2.2.1 then
              some (eqI z13.2.1 0, ())
            else some (false, ())
          else bif z13.2.2.1 then
            some (false, ())
          else some (eqI z13.2.1 0, ())
        else askO (f10 (())) fun y14 =>
        some (y14.1, ())
      else askO (f10 (())) fun y15 =>
      some (y15.1, ())
    else askO (f10 (())) fun y16 =>
    some (y16.1, ())
noncomputable def c6 : Code := bodyOf Try.f6
abbrev E6 : Env := envOf [e10, e11, e13, e15, e21, e22, e23, e24]
theorem E6_ok : EnvOK Try.prog E6 := env_ok ⟨e10_ok, e11_ok, e13_ok, e15_ok, e21_ok, e22_ok, e23_ok, e24_ok, trivial⟩
noncomputable def a6_0 : Code := loopAt c6 0
def lt6 (id : Nat) : Option LSpec := bif Nat.beq id 15 then some ⟨sh6_0, ex6_0, loop6_0⟩ else none
theorem round6_0 : ∀ x, roundK Try.prog E6 84 (keepOf Try.f6) lt6 a6_0 sh6_0 ex6_0 x = step6_0 x := by
  rintro ⟨v1, v8, v9, v11, v12, v13, ⟨⟩⟩
  kernel_rfl
theorem in6_0 : loopsOf a6_0 = [] := by kernel_rfl
theorem first6_0 : firstRegion a6_0 = 15 := by kernel_rfl
theorem spec6_0 : SpecOK Try.prog 84 a6_0 ⟨sh6_0, ex6_0, loop6_0⟩ := by
  exact loop_ok E6_ok.callee progOK.mixed _ (loops_ok in6_0 trivial) round6_0
theorem loops6 : loopsOf c6 = [a6_0] := by kernel_rfl
theorem body6 : ∀ x, bodyK Try.prog E6 Try.f6 (keepOf Try.f6) lt6 c6 [.int .i64, .list (.list (.int .i64)), .list (.list (.int .i64))] [.bool] x = f6 x := by
  rintro ⟨v0, v1, v2, ⟨⟩⟩
  kernel_rfl
theorem fn6 : FnOK Try.prog 6 [.int .i64, .list (.list (.int .i64)), .list (.list (.int .i64))] [.bool] f6 := by
  exact fun_ok progOK E6_ok Try.func6 (c := c6) (by kernel_rfl) (keep := keepOf Try.f6) (lt := lt6) (loops_ok loops6 ⟨spec_of first6_0 rfl spec6_0, trivial⟩) body6
abbrev e6 : Ent := ⟨6, [.int .i64, .list (.list (.int .i64)), .list (.list (.int .i64))], [.bool], f6⟩
theorem e6_ok : Ent.OK Try.prog e6 := fn6
/-- What a note's check says, by its place. -/
def stopD (n : Int) (c : List (List Int)) (i : Nat) : Option Int :=
  if ¬ rc (c.getD i []) = 0 then some (rc (c.getD i [])) else if ¬ ((c.getD i []).length : Int) = n then some 5 else
    if i = 0 then (if isZ (c.getD i []) then none else some 7) else if ¬ cmpL (c.getD (i - 1) []) (c.getD i []) < 0 then some 6 else none
def errH (n : Int) (c : List (List Int)) : Int := if n < 0 ∨ 12 < n then 3 else if c.length = 0 then 13 else if 6 < c.length then 4 else ((List.range c.length).findSome? (stopD n c)).getD 0
theorem f22_eq {n : Int} {c : List (List Int)} (h1 : c.length ≤ 1000) (h2 : Rws 1000 c) : f22 (n, c, ()) = some (errH n c, ()) := by
  have hloop : loop22_0 (n, c, 0, ()) = some (((List.range c.length).findSome? fun i => (stopD n c i).map fun e => .inl (e, ())).getD (.inr ())) := by
    refine loopN_find (N := 2 ^ 64) (step := step22_0) (fun i => (n, c, (i : Int), ())) (fun i => (stopD n c i).map fun e => .inl (e, ())) c.length (.inr ()) (by omega) ?_ ?_
    · intro i hi
      have hr := h2 _ (getDL_mem hi)
      simp only [step22_0, ltI_eq, eqI_eq, idxOk_eq, not_dec, cond_dec, Int.toNat_natCast]
      rw [if_pos (by omega), if_pos (by omega), f29_eq (by omega), askO_s, wrap64s i (by omega)]
      unfold stopD
      by_cases h : ¬ rc (c.getD i []) = 0
      · rw [if_pos h, if_pos h]; rfl
      · rw [if_neg h, if_neg h, if_pos (by omega)]
        by_cases h3 : ¬ ((c.getD i []).length : Int) = n
        · rw [if_pos h3, if_pos h3]; rfl
        · rw [if_neg h3, if_neg h3]
          by_cases h4 : i = 0
          · subst h4
            rw [if_pos (by omega), if_pos rfl, if_pos (by omega), f40_eq (by omega), askO_s]
            cases hz : isZ (c.getD 0 []) with
            | true => rfl
            | false => rfl
          · have w1 : wrapF .i64 ((i : Int) - 1) = ((i - 1 : Nat) : Int) := by rw [wrap64 (by omega) (by omega)]; omega
            have hr' := h2 _ (getDL_mem (l := c) (i := i - 1) (by omega))
            rw [if_neg (show ¬ ((i : Int) = 0) by omega), if_neg h4, if_pos (by omega), w1, Int.toNat_natCast, if_pos (by omega), if_pos (by omega), f36_eq _ _ (by omega) (by omega), askO_s]
            by_cases h5 : ¬ cmpL (c.getD (i - 1) []) (c.getD i []) < 0
            · rw [if_pos h5, if_pos h5]; rfl
            · rw [if_neg h5, if_neg h5]; rfl
    · simp only [step22_0, ltI_eq, cond_dec]
      rw [if_neg (by omega)]
  unfold f22 errH; dsimp only
  simp only [ltI_eq, eqI_eq, cond_dec]
  by_cases h : n < 0
  · rw [if_pos h, if_pos (.inl h)]
  · rw [if_neg h]
    by_cases h3 : 12 < n
    · rw [if_pos h3, if_pos (.inr h3)]
    · rw [if_neg h3, if_neg (show ¬ (n < 0 ∨ 12 < n) by omega)]
      by_cases h4 : c.length = 0
      · rw [if_pos h4, if_pos (by omega)]
      · rw [if_neg h4, if_neg (by omega)]
        by_cases h5 : 6 < c.length
        · rw [if_pos h5, if_pos (by omega)]
        · rw [if_neg h5, if_neg (by omega), hloop, askO_s, findSome_map]
          cases (List.range c.length).findSome? (stopD n c) <;> rfl
theorem f23_eq {n : Int} {c : List (List Int)} (h1 : c.length ≤ 1000) (h2 : Rws 1000 c) : f23 (n, c, ()) = some (errH n c, ()) := by
  have hloop : loop23_0 (n, c, c, (c.length : Int), 0, ()) = some (((List.range c.length).findSome? fun i => (stopD n c i).map fun e => .inl (e, ())).getD (.inr ())) := by
    refine loopN_find (N := 2 ^ 64) (step := step23_0) (fun i => (n, c, c, (c.length : Int), (i : Int), ())) (fun i => (stopD n c i).map fun e => .inl (e, ())) c.length (.inr ()) (by omega) ?_ ?_
    · intro i hi
      have hr := h2 _ (getDL_mem hi)
      simp only [step23_0, ltI_eq, eqI_eq, idxOk_eq, not_dec, cond_dec, Int.toNat_natCast]
      rw [if_pos (by omega), if_pos (by omega), f29_eq (by omega), askO_s, wrap64s i (by omega)]
      unfold stopD
      by_cases h : ¬ rc (c.getD i []) = 0
      · rw [if_pos h, if_pos h]; rfl
      · rw [if_neg h, if_neg h]
        by_cases h3 : ¬ ((c.getD i []).length : Int) = n
        · rw [if_pos h3, if_pos h3]; rfl
        · rw [if_neg h3, if_neg h3]
          by_cases h4 : i = 0
          · subst h4
            rw [if_pos (by omega), if_pos rfl, f32_eq (by omega), askO_s]
            cases hz : isZ (c.getD 0 []) with
            | true => rfl
            | false => rfl
          · have w1 : wrapF .i64 ((i : Int) - 1) = ((i - 1 : Nat) : Int) := by rw [wrap64 (by omega) (by omega)]; omega
            have hr' := h2 _ (getDL_mem (l := c) (i := i - 1) (by omega))
            rw [if_neg (show ¬ ((i : Int) = 0) by omega), if_neg h4, if_pos (by omega), w1, Int.toNat_natCast, if_pos (by omega), f36_eq _ _ (by omega) (by omega), askO_s]
            by_cases h5 : ¬ cmpL (c.getD (i - 1) []) (c.getD i []) < 0
            · rw [if_pos h5, if_pos h5]; rfl
            · rw [if_neg h5, if_neg h5]; rfl
    · simp only [step23_0, ltI_eq, cond_dec]
      rw [if_neg (by omega)]
  unfold f23 errH; dsimp only
  simp only [ltI_eq, eqI_eq, cond_dec]
  by_cases h : n < 0
  · rw [if_pos h, if_pos (.inl h)]
  · rw [if_neg h]
    by_cases h3 : 12 < n
    · rw [if_pos h3, if_pos (.inr h3)]
    · rw [if_neg h3, if_neg (show ¬ (n < 0 ∨ 12 < n) by omega)]
      by_cases h4 : c.length = 0
      · rw [if_pos h4, if_pos (by omega)]
      · rw [if_neg h4, if_neg (by omega)]
        by_cases h5 : 6 < c.length
        · rw [if_pos h5, if_pos (by omega)]
        · rw [if_neg h5, if_neg (by omega), hloop, askO_s, findSome_map]
          cases (List.range c.length).findSome? (stopD n c) <;> rfl
theorem errH_good {n : Int} {c : List (List Int)} (h : errH n c = 0) : 0 ≤ n ∧ n ≤ 12 ∧ 0 < c.length ∧ c.length ≤ 6 ∧ ∀ y ∈ c, (y.length : Int) = n := by
  unfold errH at h
  split at h
  · cases h
  · split at h
    · cases h
    · split at h
      · cases h
      · refine ⟨by omega, by omega, by omega, by omega, fun y hy => ?_⟩
        obtain ⟨i, hi, rfl⟩ := List.getElem_of_mem hy
        have hg : c.getD i [] = c[i] := by rw [List.getD_eq_getElem?_getD, List.getElem?_eq_getElem hi]; rfl
        cases hf : (List.range c.length).findSome? (stopD n c) with
        | none =>
          have := List.findSome?_eq_none_iff.1 hf i (List.mem_range.2 hi)
          unfold stopD at this
          rw [hg] at this
          split at this
          · cases this
          · split at this
            · cases this
            · rename_i h2
              exact Decidable.not_not.1 h2
        | some e =>
          rw [hf] at h
          obtain ⟨j, -, hj⟩ := List.exists_of_findSome?_eq_some hf
          change e = 0 at h
          subst h
          unfold stopD at hj
          split at hj
          · rename_i h1
            exact (h1 (Option.some.inj hj)).elim
          · split at hj
            · cases hj
            · split at hj
              · split at hj <;> cases hj
              · split at hj <;> cases hj
/-- has -/
theorem f46_eq {l : List (List Int)} {x : List Int} (h1 : l.length ≤ 1000) (h2 : Rws 1000 l) : f46 (l, x, ()) = some (decide (x ∈ l), ()) := by
  have hloop : loop46_0 (l, x, 0, ()) = some ((((List.range l.length).find? fun i => decide (l.getD i [] = x)).map fun i : Nat => .inl (true, ())).getD (.inr ())) := by
    rw [← findSome_if (fun i => l.getD i [] = x) (fun i : Nat => Sum.inl (true, ()))]
    refine loopN_find (N := 2 ^ 64) (step := step46_0) (fun i => (l, x, (i : Int), ())) (fun i => if l.getD i [] = x then some (.inl (true, ())) else none) l.length (.inr ()) (by omega) ?_ ?_
    · intro i hi
      have hr := h2 _ (getDL_mem hi)
      simp only [step46_0, ltI_eq, idxOk_eq, cond_dec, Int.toNat_natCast]
      rw [if_pos (by omega), if_pos (by omega), f39_eq _ _ (by omega), askO_s, wrap64s i (by omega), cond_dec]
      by_cases h : l.getD i [] = x
      · rw [if_pos h, if_pos h]
      · rw [if_neg h, if_neg h]
    · simp only [step46_0, ltI_eq, cond_dec]
      rw [if_neg (by omega)]
  unfold f46; dsimp only
  rw [hloop, askO_s]
  cases hf : (List.range l.length).find? fun i => decide (l.getD i [] = x) with
  | none =>
    rw [decide_eq_false]; · rfl
    intro hx
    obtain ⟨i, hi, rfl⟩ := List.getElem_of_mem hx
    have := List.find?_eq_none.1 hf i (List.mem_range.2 hi)
    rw [List.getD_eq_getElem?_getD, List.getElem?_eq_getElem hi] at this
    simp at this
  | some j =>
    have h1 := List.find?_some hf
    have h2 := List.mem_range.1 (List.mem_of_find?_eq_some hf)
    simp only [decide_eq_true_eq] at h1
    rw [decide_eq_true (h1 ▸ getDL_mem h2)]; rfl
theorem mid_eq : ∀ s : Nat, s < 300 → IntKind.wrap .i64 (Int.fdiv (IntKind.wrap .u64 (wrapF .i64 (s : Int))) (2 ^ (min 1 (IntKind.bits .u64)))) = ((s / 2 : Nat) : Int) := by decide +kernel
theorem loop67_eq {l : List (List Int)} {x : List Int} (h1 : l.length ≤ 100) (h2 : Rws 1000 l) (hs : SI l) (hx : x.length ≤ 1000) : ∀ (d i j N : Nat), j - i ≤ d → i ≤ j → j ≤ l.length → d < N → (∀ k, k < i → cmpL (l.getD k []) x < 0) → (∀ k, j ≤ k → k < l.length → ¬ cmpL (l.getD k []) x < 0) →
    ∃ i', i' ≤ l.length ∧ loopN step67s2f36_0 N (l, x, (), (l.length : Int), (i : Int), (j : Int), ()) = some (l, x, (), (l.length : Int), (i' : Int), ()) ∧ (∀ k, k < i' → cmpL (l.getD k []) x < 0) ∧ (∀ k, i' ≤ k → k < l.length → ¬ cmpL (l.getD k []) x < 0)
  | d, i, j, N, hd, hij, hj, hN, ha, hb => by
    obtain ⟨N, rfl⟩ : ∃ m, N = m + 1 := ⟨N - 1, by omega⟩
    by_cases he : i < j
    · obtain ⟨d, rfl⟩ : ∃ e, d = e + 1 := ⟨d - 1, by omega⟩
      have hm : (i + j) / 2 < l.length := by omega
      have hmid := mid_eq (i + j) (by omega)
      have ho : ∀ k k', k < k' → k' < l.length → cmpL (l.getD k []) (l.getD k' []) < 0 := by
        intro k k' hk hk'
        have := List.pairwise_iff_getElem.1 hs k k' (by omega) hk' hk
        rw [List.getD_eq_getElem?_getD, List.getD_eq_getElem?_getD, List.getElem?_eq_getElem (show k < l.length by omega), List.getElem?_eq_getElem hk']
        exact this
      have hst : step67s2f36_0 (l, x, (), (l.length : Int), (i : Int), (j : Int), ()) = if cmpL (l.getD ((i + j) / 2) []) x < 0 then some (.inl (l, x, (), (l.length : Int), (((i + j) / 2 + 1 : Nat) : Int), (j : Int), ())) else some (.inl (l, x, (), (l.length : Int), (i : Int), (((i + j) / 2 : Nat) : Int), ())) := by
        simp only [step67s2f36_0]
        rw [show (i : Int) + (j : Int) = ((i + j : Nat) : Int) by omega, hmid]
        simp only [ltI_eq, idxOk_eq, cond_dec, Int.toNat_natCast]
        rw [if_pos (by omega), if_pos (by omega), f36_eq _ _ (Nat.le_trans (h2 _ (getDL_mem hm)) (by omega)) (by omega), askO_s, wrap64s _ (by omega)]
      rw [loopN_succ, hst]
      by_cases hc : cmpL (l.getD ((i + j) / 2) []) x < 0
      · rw [if_pos hc]
        refine loop67_eq h1 h2 hs hx d _ _ N (by omega) (by omega) hj (by omega) ?_ hb
        intro k hk
        rcases Nat.lt_or_ge k ((i + j) / 2) with h | h
        · exact cmpL_trans (ho k _ h hm) hc
        · rwa [show k = (i + j) / 2 by omega]
      · rw [if_neg hc]
        refine loop67_eq h1 h2 hs hx d _ _ N (by omega) (by omega) (by omega) (by omega) ha ?_
        intro k hk hkl h
        rcases Nat.lt_or_ge ((i + j) / 2) k with h' | h'
        · exact hc (cmpL_trans (ho _ k h' hkl) h)
        · rw [show k = (i + j) / 2 by omega] at h; exact hc h
    · refine ⟨i, by omega, ?_, ha, fun k hk hkl => hb k (by omega) hkl⟩
      rw [loopN_succ]
      simp only [step67s2f36_0, ltI_eq, cond_dec]
      rw [if_neg (by omega)]
theorem f67_eq {l : List (List Int)} {x : List Int} (h1 : l.length ≤ 100) (h2 : Rws 1000 l) (hs : SI l) (hx : x.length ≤ 1000) : ∃ i, f67s2f36 (l, x, (), ()) = some (i, decide (x ∈ l), ()) := by
  obtain ⟨i, hi, hl, ha, hb⟩ := loop67_eq h1 h2 hs hx l.length 0 l.length (2 ^ 64) (by omega) (by omega) (by omega) (by omega) (fun k hk => by omega) (fun k hk hk' => by omega)
  have hl' : loop67s2f36_0 (l, x, (), (l.length : Int), 0, (l.length : Int), ()) = some (l, x, (), (l.length : Int), (i : Int), ()) := hl
  unfold f67s2f36; dsimp only
  rw [hl', askO_s]
  dsimp only
  simp only [ltI_eq, idxOk_eq, eqI_eq, cond_dec, Int.toNat_natCast]
  by_cases hn : i < l.length
  · rw [if_pos (by omega), if_pos (by omega), f36_eq _ _ (Nat.le_trans (h2 _ (getDL_mem hn)) (by omega)) (by omega), askO_s]
    refine ⟨i, ?_⟩
    have : decide (cmpL (l.getD i []) x = 0) = decide (x ∈ l) := by
      by_cases h0 : cmpL (l.getD i []) x = 0
      · rw [decide_eq_true h0, decide_eq_true]
        have := cmpL_eq0 h0
        rw [← this]; exact getDL_mem hn
      · rw [decide_eq_false h0, decide_eq_false]
        intro hm
        obtain ⟨k, hk, rfl⟩ := List.getElem_of_mem hm
        have hg : ∀ k (hk : k < l.length), l.getD k [] = l[k] := fun k hk => by rw [List.getD_eq_getElem?_getD, List.getElem?_eq_getElem hk]; rfl
        rcases Nat.lt_trichotomy k i with h | h | h
        · have := ha k h
          rw [hg k hk, cmpL_refl] at this; omega
        · subst h
          exact h0 (by rw [hg k hk, cmpL_refl])
        · have := List.pairwise_iff_getElem.1 hs i k hn hk h
          exact hb i (Nat.le_refl _) hn (by rw [hg i hn]; exact this)
    dsimp only
    rw [this]
  · rw [if_neg (by omega)]
    refine ⟨i, ?_⟩
    rw [decide_eq_false]
    intro hm
    obtain ⟨k, hk, rfl⟩ := List.getElem_of_mem hm
    have := ha k (by omega)
    rw [List.getD_eq_getElem?_getD, List.getElem?_eq_getElem hk] at this
    change cmpL l[k] l[k] < 0 at this
    rw [cmpL_refl] at this; omega
end Go.PM
