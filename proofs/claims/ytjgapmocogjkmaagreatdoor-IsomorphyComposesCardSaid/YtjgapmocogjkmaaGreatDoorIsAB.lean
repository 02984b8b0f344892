/- Chapter 46, plain law: layouts checked, compared and turned. -/
import Derived.Test.YtjgapmocogjkmaaGreatDoorIsGP
set_option linter.unusedSimpArgs false
set_option linter.unusedVariables false
namespace Go.PM
open Go Go.RowKit Go.Proofs
set_option maxRecDepth 100000

theorem findSome_if {τ : Type} (p : Nat → Prop) [DecidablePred p] (g : Nat → τ) : ∀ l : List Nat, (l.findSome? fun i => if p i then some (g i) else none) = (l.find? fun i => decide (p i)).map g
  | [] => rfl
  | i :: l => by
    rw [List.findSome?_cons, List.find?_cons]
    by_cases h : p i
    · simp [h]
    · simp [h, findSome_if p g l]
theorem not_ltI0 (j : Nat) : (!(ltI (j : Int) 0)) = true := by rw [ltI_eq, decide_eq_false (by omega)]; rfl
theorem getD_mem {s : List Int} {i : Nat} (h : i < s.length) : s.getD i 0 ∈ s := by
  rw [List.getD_eq_getElem?_getD, List.getElem?_eq_getElem h]; exact List.getElem_mem h
theorem f60_eq (v : Int) : f60 (v, ()) = some (decide (-1000000000 ≤ v ∧ v ≤ 1000000000), ()) := by
  unfold f60; dsimp only
  simp only [ltI_eq, not_dec, cond_dec]
  by_cases h : ¬ v < -1000000000
  · rw [if_pos h]
    by_cases h2 : v ≤ 1000000000
    · rw [decide_eq_true (show -1000000000 ≤ v ∧ v ≤ 1000000000 by omega), decide_eq_true (show ¬ 1000000000 < v by omega)]
    · rw [decide_eq_false (show ¬ (-1000000000 ≤ v ∧ v ≤ 1000000000) by omega), decide_eq_false (show ¬ ¬ 1000000000 < v by omega)]
  · rw [if_neg h, decide_eq_false (by omega)]
/-- An element that row.Check takes. -/
def okE (v : Int) : Prop := -1000000000 ≤ v ∧ v ≤ 1000000000
instance (v : Int) : Decidable (okE v) := by unfold okE; infer_instance
theorem f59_eq (v : Int) : f59 (v, ()) = some (decide (¬ okE v), ()) := by
  unfold f59; dsimp only
  rw [f60_eq, askO_s]
  by_cases h : okE v
  · rw [decide_eq_false (not_not_intro h)]
    unfold okE at h
    rw [decide_eq_true h]; rfl
  · rw [decide_eq_true h]
    unfold okE at h
    rw [decide_eq_false h]; rfl
theorem f21_eq (v : Int) : f21 (v, ()) = some (decide (okE v), ()) := by
  unfold f21; dsimp only
  simp only [ltI_eq, not_dec, cond_dec]
  by_cases h : ¬ 1000000000 < v
  · rw [if_pos h]
    by_cases h2 : -1000000000 ≤ v
    · rw [decide_eq_true (show okE v from ⟨by omega, by omega⟩), decide_eq_true (show ¬ v < -1000000000 by omega)]
    · rw [decide_eq_false (show ¬ okE v from fun hh => h2 hh.1), decide_eq_false (show ¬ ¬ v < -1000000000 by omega)]
  · rw [if_neg h, decide_eq_false (show ¬ okE v from fun hh => h (by have := hh.2; omega))]
/-- row.Check -/
def rc (r : List Int) : Int := if 64 < r.length then 4 else if (∀ i, i < r.length → okE (r.getD i 0)) then 0 else 4
theorem f37_eq (r : List Int) : f37 (r, ()) = some (rc r, ()) := by
  unfold f37 rc; dsimp only
  simp only [ltI_eq, cond_dec]
  by_cases h64 : 64 < r.length
  · rw [if_pos h64, if_pos (by omega)]
  · rw [if_neg h64, if_neg (by omega)]
    have hloop : loop73s1f59_0 (r, (), (r.length : Int), 0, ()) = some ((((List.range r.length).find? fun i => decide (¬ okE (r.getD i 0))).map fun i : Nat => .inl ((i : Int), ())).getD (.inr ())) := by
      rw [← findSome_if (fun i => ¬ okE (r.getD i 0)) (fun i : Nat => Sum.inl ((i : Int), ()))]
      refine loopN_find (N := 2 ^ 64) (step := step73s1f59_0) (fun i => (r, (), (r.length : Int), (i : Int), ())) (fun i => if ¬ okE (r.getD i 0) then some (.inl ((i : Int), ())) else none) r.length (.inr ()) (by omega) ?_ ?_
      · intro i hi
        simp only [step73s1f59_0, ltI_eq, eqI_eq, idxOk_eq, not_dec, cond_dec, Int.toNat_natCast]
        rw [if_pos (by omega), if_pos (by omega), f59_eq, askO_s, wrap64s i (by omega), cond_dec]
        by_cases h : ¬ okE (r.getD i 0)
        · rw [if_pos h, if_pos h]
        · rw [if_neg h, if_neg h]
      · simp only [step73s1f59_0, ltI_eq, cond_dec]
        rw [if_neg (by omega)]
    have h70 : f73s1f59 (r, (), ()) = some ((((List.range r.length).find? fun i => decide (¬ okE (r.getD i 0))).map fun i : Nat => (i : Int)).getD (-1), ()) := by
      unfold f73s1f59; dsimp only
      rw [hloop, askO_s]
      cases (List.range r.length).find? fun i => decide (¬ okE (r.getD i 0)) <;> rfl
    unfold f55s1f59; dsimp only
    rw [h70, askO_s]
    cases hf : (List.range r.length).find? fun i => decide (¬ okE (r.getD i 0)) with
    | none =>
      rw [if_pos (fun i hi => by
        have := List.find?_eq_none.1 hf i (List.mem_range.2 hi)
        simpa using this)]
      rfl
    | some i =>
      rw [if_neg (fun hall => by
        have h1 := List.find?_some hf
        have h2 := List.mem_range.1 (List.mem_of_find?_eq_some hf)
        simp only [decide_eq_true_eq] at h1
        exact h1 (hall i h2))]
      show (askO (some (!(ltI ((i : Nat) : Int) 0), ())) fun y1 => bif y1.1 then some (4, ()) else some (0, ())) = _
      rw [askO_s, not_ltI0]; rfl
theorem rc_cases (r : List Int) : rc r = 0 ∨ rc r = 4 := by
  unfold rc
  split
  · exact .inr rfl
  · split
    · exact .inl rfl
    · exact .inr rfl
theorem rc_ok {r : List Int} (h : rc r = 0) : r.length ≤ 64 ∧ ∀ v ∈ r, okE v := by
  unfold rc at h
  split at h
  · cases h
  · split at h
    · rename_i h1 h2
      refine ⟨by omega, fun v hv => ?_⟩
      obtain ⟨i, hi, rfl⟩ := List.getElem_of_mem hv
      have := h2 i hi
      rwa [List.getD_eq_getElem?_getD, List.getElem?_eq_getElem hi] at this
    · cases h
/-- slices.Equal -/
theorem f46_eq (a b : List Int) (ha : a.length ≤ 9223372036854775806) : f46 (a, b, ()) = some (decide (a = b), ()) := by
  unfold f46; dsimp only
  simp only [eqI_eq, not_dec, cond_dec]
  by_cases hl : a.length = b.length
  · rw [if_neg (by omega)]
    have : loop46_0 (a, b, (a.length : Int), 0, ()) = some (((List.range a.length).findSome? fun i => if ¬ a.getD i 0 = b.getD i 0 then some (.inl (false, ())) else none).getD (.inr ())) := loopN_find (N := 2 ^ 64) (step := step46_0) (fun i => (a, b, (a.length : Int), (i : Int), ())) (fun i => if ¬ a.getD i 0 = b.getD i 0 then some (.inl (false, ())) else none) a.length (.inr ()) (by omega) (by
      intro i hi
      simp only [step46_0, ltI_eq, eqI_eq, idxOk_eq, cond_dec, not_dec, Int.toNat_natCast]
      rw [if_pos (by omega), if_pos ⟨by omega, by omega⟩, if_pos ⟨by omega, by omega⟩, wrap64s i (by omega)]
      by_cases h : ¬ a.getD i 0 = b.getD i 0
      · rw [if_pos h, if_pos h]
      · rw [if_neg h, if_neg h]) (by
      simp only [step46_0, ltI_eq, cond_dec]
      rw [if_neg (by omega)])
    rw [this, findSome_if (fun i => ¬ a.getD i 0 = b.getD i 0), askO_s]
    cases hf : (List.range a.length).find? fun i => decide (¬ a.getD i 0 = b.getD i 0) with
    | none =>
      have hall : ∀ i, i < a.length → a.getD i 0 = b.getD i 0 := by
        intro i hi
        have := List.find?_eq_none.1 hf i (List.mem_range.2 hi)
        simpa using this
      have : a = b := by
        apply List.ext_getElem hl
        intro i h1 h2
        have := hall i h1
        rw [List.getD_eq_getElem?_getD, List.getD_eq_getElem?_getD, List.getElem?_eq_getElem h1, List.getElem?_eq_getElem h2] at this
        exact this
      rw [decide_eq_true this]; rfl
    | some i =>
      have h1 := List.find?_some hf
      have : ¬ a = b := fun e => by subst e; simp at h1
      rw [decide_eq_false this]; rfl
  · rw [if_pos (by omega), decide_eq_false]
    rintro rfl; exact hl rfl
theorem f43_eq (a b : List Int) (ha : a.length ≤ 9223372036854775806) : f43 (a, b, ()) = some (decide (a = b), ()) := by
  unfold f43; dsimp only
  rw [f46_eq a b ha, askO_s]
abbrev Lay : Type := Int × List Int × List Int × List Int
/-- Rows that are not too long. -/
def ShL (l : Lay) : Prop := l.2.1.length ≤ 1000 ∧ l.2.2.1.length ≤ 1000 ∧ l.2.2.2.length ≤ 1000
theorem f19_eq {a : Lay} (b : Lay) (h : ShL a) : f19 (a, b, ()) = some (decide (a = b), ()) := by
  obtain ⟨k, o, r, u⟩ := a
  obtain ⟨k', o', r', u'⟩ := b
  obtain ⟨h1, h2, h3⟩ := h
  dsimp only at h1 h2 h3
  unfold f19; dsimp only
  rw [f43_eq _ _ (by omega), f43_eq _ _ (by omega), f43_eq _ _ (by omega), askO_s, askO_s, askO_s]
  simp only [eqI_eq, cond_dec, Prod.mk.injEq]
  by_cases e1 : k = k'
  · by_cases e2 : o = o'
    · by_cases e3 : r = r'
      · simp [e1, e2, e3]
      · simp [e1, e2, e3]
    · simp [e1, e2]
  · simp [e1]
theorem f25_eq {a : Lay} (b : Lay) (h : ShL a) : f25 (a, b, ()) = some (decide (a = b), ()) := by
  obtain ⟨k, o, r, u⟩ := a
  obtain ⟨k', o', r', u'⟩ := b
  obtain ⟨h1, h2, h3⟩ := h
  dsimp only at h1 h2 h3
  unfold f25; dsimp only
  rw [f46_eq _ _ (by omega), f46_eq _ _ (by omega), f46_eq _ _ (by omega), askO_s, askO_s, askO_s]
  simp only [eqI_eq, cond_dec, Prod.mk.injEq]
  by_cases e1 : k = k'
  · by_cases e2 : o = o'
    · by_cases e3 : r = r'
      · simp [e1, e2, e3]
      · simp [e1, e2, e3]
    · simp [e1, e2]
  · simp [e1]
abbrev zL : Lay := (0, [], [], [])
theorem f17_eq {a : Lay} (h : ShL a) : f17 (a, ()) = some (decide (a = zL), ()) := by
  have := f19_eq zL h
  obtain ⟨k, o, r, u⟩ := a
  unfold f17; dsimp only
  rw [show (f19 ((k, o, r, u), ((0, [], [], []) : Lay), ())) = _ from this, askO_s]
/-- The error of a layout. -/
def ce (l : Lay) : Int :=
  if ¬ l.1 = 1 ∧ ¬ l.1 = 2 then 12 else
  if ¬ rc l.2.1 = 0 then rc l.2.1 else
  if ¬ rc l.2.2.1 = 0 then rc l.2.2.1 else if ¬ (l.2.2.1.length : Int) = l.2.1.length then 5 else
  if ¬ rc l.2.2.2 = 0 then rc l.2.2.2 else if ¬ (l.2.2.2.length : Int) = l.2.1.length then 5 else 0
/-- What the rows say. -/
def ce3 (l : Lay) : Option Int :=
  if ¬ rc l.2.1 = 0 then some (rc l.2.1) else
  if ¬ rc l.2.2.1 = 0 then some (rc l.2.2.1) else if ¬ (l.2.2.1.length : Int) = l.2.1.length then some 5 else
  if ¬ rc l.2.2.2 = 0 then some (rc l.2.2.2) else if ¬ (l.2.2.2.length : Int) = l.2.1.length then some 5 else none
def outE : Option Int → Sum (Int × Unit) Unit
  | some e => .inl (e, ())
  | none => .inr ()
theorem ce_eq (l : Lay) : ce l = if ¬ l.1 = 1 ∧ ¬ l.1 = 2 then 12 else (ce3 l).getD 0 := by
  unfold ce ce3
  repeat' split
  all_goals rfl
theorem loop24_eq (l : Lay) : loop24_0 (l, (l.2.1, l.2.2.1, l.2.2.2), 0, ()) = some (outE (ce3 l)) := by
  obtain ⟨k, o, r, u⟩ := l
  have s0 : step24_0 ((k, o, r, u), (o, r, u), 0, ()) = if ¬ rc o = 0 then some (.inr (.inl (rc o, ()))) else some (.inl ((k, o, r, u), (o, r, u), 1, ())) := by
    simp only [step24_0, ltI_eq, eqI_eq, not_dec, cond_dec]
    rw [if_pos (by decide), if_pos trivial, f37_eq, askO_s]
    dsimp only
    by_cases h : rc o = 0
    · rw [if_neg (not_not_intro h), if_neg (not_not_intro trivial), if_neg (not_not_intro h)]; rfl
    · rw [if_pos h, if_pos h]
  have s1 : step24_0 ((k, o, r, u), (o, r, u), 1, ()) = if ¬ rc r = 0 then some (.inr (.inl (rc r, ()))) else if ¬ (r.length : Int) = o.length then some (.inr (.inl (5, ()))) else some (.inl ((k, o, r, u), (o, r, u), 2, ())) := by
    simp only [step24_0, ltI_eq, eqI_eq, not_dec, cond_dec]
    rw [if_pos (by decide), if_neg (by decide), if_pos trivial, f37_eq, askO_s]
    rfl
  have s2 : step24_0 ((k, o, r, u), (o, r, u), 2, ()) = if ¬ rc u = 0 then some (.inr (.inl (rc u, ()))) else if ¬ (u.length : Int) = o.length then some (.inr (.inl (5, ()))) else some (.inl ((k, o, r, u), (o, r, u), 3, ())) := by
    simp only [step24_0, ltI_eq, eqI_eq, not_dec, cond_dec]
    rw [if_pos (by decide), if_neg (by decide), if_neg (by decide), if_pos trivial, f37_eq, askO_s]
    rfl
  have s3 : step24_0 ((k, o, r, u), (o, r, u), 3, ()) = some (.inr (.inr ())) := rfl
  unfold loop24_0 ce3
  dsimp only
  rw [show (2 : Nat) ^ 64 = 18446744073709551612 + 1 + 1 + 1 + 1 from rfl, loopN_succ, s0]
  by_cases h0 : rc o = 0
  · rw [if_neg (not_not_intro h0), if_neg (not_not_intro h0)]
    dsimp only
    rw [loopN_succ, s1]
    by_cases h1 : rc r = 0
    · rw [if_neg (not_not_intro h1), if_neg (not_not_intro h1)]
      by_cases h2 : (r.length : Int) = o.length
      · rw [if_neg (not_not_intro h2), if_neg (not_not_intro h2)]
        dsimp only
        rw [loopN_succ, s2]
        by_cases h3 : rc u = 0
        · rw [if_neg (not_not_intro h3), if_neg (not_not_intro h3)]
          by_cases h4 : (u.length : Int) = o.length
          · rw [if_neg (not_not_intro h4), if_neg (not_not_intro h4)]
            dsimp only
            rw [loopN_succ, s3]; rfl
          · rw [if_pos h4, if_pos h4]; rfl
        · rw [if_pos h3, if_pos h3]; rfl
      · rw [if_pos h2, if_pos h2]; rfl
    · rw [if_pos h1, if_pos h1]; rfl
  · rw [if_pos h0, if_pos h0]; rfl
theorem f24_eq (l : Lay) : f24 (l, ()) = some (ce l, ()) := by
  have hl := loop24_eq l
  rw [ce_eq]
  obtain ⟨k, o, r, u⟩ := l
  unfold f24
  dsimp only at hl ⊢
  simp only [eqI_eq, not_dec, cond_dec, hl, askO_s]
  by_cases h1 : k = 1
  · rw [if_neg (by omega), if_neg (by omega)]
    cases ce3 (k, o, r, u) <;> rfl
  · by_cases h2 : k = 2
    · rw [if_pos h1, if_neg (by omega), if_neg (by omega)]
      cases ce3 (k, o, r, u) <;> rfl
    · rw [if_pos h1, if_pos h2, if_pos ⟨h1, h2⟩]
theorem loop14_eq (l : Lay) : loop14_0 (l, [l.2.1, l.2.2.1, l.2.2.2], 3, 0, ()) = some (outE (ce3 l)) := by
  obtain ⟨k, o, r, u⟩ := l
  have s0 : step14_0 ((k, o, r, u), [o, r, u], 3, 0, ()) = if ¬ rc o = 0 then some (.inr (.inl (rc o, ()))) else some (.inl ((k, o, r, u), [o, r, u], 3, 1, ())) := by
    simp only [step14_0, ltI_eq, eqI_eq, idxOk_eq, not_dec, cond_dec]
    rw [if_pos (by decide), if_pos (by simp)]
    show (askO (f37 (o, ())) _) = _
    rw [f37_eq, askO_s]
    dsimp only
    by_cases h : rc o = 0
    · rw [if_neg (not_not_intro h), if_neg (not_not_intro h), if_neg (not_not_intro (show ((([o, r, u] : List (List Int)).getD (Int.toNat 0) []).length : Int) = o.length from rfl))]; rfl
    · rw [if_pos h, if_pos h]
  have s1 : step14_0 ((k, o, r, u), [o, r, u], 3, 1, ()) = if ¬ rc r = 0 then some (.inr (.inl (rc r, ()))) else if ¬ (r.length : Int) = o.length then some (.inr (.inl (5, ()))) else some (.inl ((k, o, r, u), [o, r, u], 3, 2, ())) := by
    simp only [step14_0, ltI_eq, eqI_eq, idxOk_eq, not_dec, cond_dec]
    rw [if_pos (by decide), if_pos (by simp)]
    show (askO (f37 (r, ())) _) = _
    rw [f37_eq, askO_s]
    rfl
  have s2 : step14_0 ((k, o, r, u), [o, r, u], 3, 2, ()) = if ¬ rc u = 0 then some (.inr (.inl (rc u, ()))) else if ¬ (u.length : Int) = o.length then some (.inr (.inl (5, ()))) else some (.inl ((k, o, r, u), [o, r, u], 3, 3, ())) := by
    simp only [step14_0, ltI_eq, eqI_eq, idxOk_eq, not_dec, cond_dec]
    rw [if_pos (by decide), if_pos (by simp)]
    show (askO (f37 (u, ())) _) = _
    rw [f37_eq, askO_s]
    rfl
  have s3 : step14_0 ((k, o, r, u), [o, r, u], 3, 3, ()) = some (.inr (.inr ())) := rfl
  unfold loop14_0 ce3
  dsimp only
  rw [show (2 : Nat) ^ 64 = 18446744073709551612 + 1 + 1 + 1 + 1 from rfl, loopN_succ, s0]
  by_cases h0 : rc o = 0
  · rw [if_neg (not_not_intro h0), if_neg (not_not_intro h0)]
    dsimp only
    rw [loopN_succ, s1]
    by_cases h1 : rc r = 0
    · rw [if_neg (not_not_intro h1), if_neg (not_not_intro h1)]
      by_cases h2 : (r.length : Int) = o.length
      · rw [if_neg (not_not_intro h2), if_neg (not_not_intro h2)]
        dsimp only
        rw [loopN_succ, s2]
        by_cases h3 : rc u = 0
        · rw [if_neg (not_not_intro h3), if_neg (not_not_intro h3)]
          by_cases h4 : (u.length : Int) = o.length
          · rw [if_neg (not_not_intro h4), if_neg (not_not_intro h4)]
            dsimp only
            rw [loopN_succ, s3]; rfl
          · rw [if_pos h4, if_pos h4]; rfl
        · rw [if_pos h3, if_pos h3]; rfl
      · rw [if_pos h2, if_pos h2]; rfl
    · rw [if_pos h1, if_pos h1]; rfl
  · rw [if_pos h0, if_pos h0]; rfl
theorem f14_eq (l : Lay) : f14 (l, ()) = some (ce l, ()) := by
  have hl := loop14_eq l
  rw [ce_eq]
  obtain ⟨k, o, r, u⟩ := l
  unfold f14
  dsimp only at hl ⊢
  simp only [eqI_eq, not_dec, cond_dec]
  have hl' : loop14_0 ((k, (o, (r, u))), [o, r, u], (([o, r, u] : List (List Int)).length : Int), 0, ()) = some (outE (ce3 (k, o, r, u))) := hl
  rw [hl', askO_s]
  by_cases h1 : k = 1
  · rw [if_neg (by omega), if_neg (by omega)]
    cases ce3 (k, o, r, u) <;> rfl
  · by_cases h2 : k = 2
    · rw [if_pos h1, if_neg (by omega), if_neg (by omega)]
      cases ce3 (k, o, r, u) <;> rfl
    · rw [if_pos h1, if_pos h2, if_pos ⟨h1, h2⟩]
theorem ce_ok {l : Lay} (h : ce l = 0) : (l.1 = 1 ∨ l.1 = 2) ∧ rc l.2.1 = 0 ∧ rc l.2.2.1 = 0 ∧ rc l.2.2.2 = 0 ∧ l.2.2.1.length = l.2.1.length ∧ l.2.2.2.length = l.2.1.length := by
  unfold ce at h
  split at h
  · cases h
  · split at h
    · contradiction
    · split at h
      · contradiction
      · split at h
        · cases h
        · split at h
          · contradiction
          · split at h
            · cases h
            · refine ⟨by omega, by omega, by omega, by omega, by omega, by omega⟩
/-- Rows that are few. -/
def fewL (r : List Int) : Prop := r.length ≤ 5 ∨ (63 ≤ r.length ∧ r.length ≤ 66)
theorem f13_some (l : Lay) : ∃ b, f13 (l, ()) = some (b, ()) ∧ (b = true → ShL l) := by
  obtain ⟨k, o, r, u⟩ := l
  have stp : ∀ (x : List Int) (i : Nat), i < 3 → [o, r, u].getD i [] = x → step13_0 ([o, r, u], 3, (i : Int), ()) = some (.inr (.inl (false, ()))) ∨ (x.length ≤ 1000 ∧ step13_0 ([o, r, u], 3, (i : Int), ()) = some (.inl ([o, r, u], 3, ((i + 1 : Nat) : Int), ()))) := by
    intro x i hi hx
    simp only [step13_0, ltI_eq, idxOk_eq, cond_dec, Int.toNat_natCast, hx]
    rw [if_pos (by omega), if_pos (by simp; omega), wrap64s i (by omega)]
    by_cases h1 : 5 < (x.length : Int)
    · rw [if_pos h1]
      by_cases h2 : (x.length : Int) < 63
      · rw [if_pos h2]; exact .inl rfl
      · rw [if_neg h2]
        by_cases h3 : 66 < (x.length : Int)
        · rw [if_pos h3]; exact .inl rfl
        · rw [if_neg h3]; exact .inr ⟨by omega, rfl⟩
    · rw [if_neg h1]; exact .inr ⟨by omega, rfl⟩
  have s3 : step13_0 ([o, r, u], 3, ((3 : Nat) : Int), ()) = some (.inr (.inr ())) := rfl
  have hl : loop13_0 ([o, r, u], 3, 0, ()) = some (.inl (false, ())) ∨ (ShL (k, o, r, u) ∧ loop13_0 ([o, r, u], 3, 0, ()) = some (.inr ())) := by
    unfold loop13_0
    rw [show (2 : Nat) ^ 64 = 18446744073709551612 + 1 + 1 + 1 + 1 from rfl, loopN_succ]
    rcases stp o 0 (by omega) rfl with h | ⟨g0, h⟩
    · rw [show ((0 : Int)) = ((0 : Nat) : Int) from rfl, h]; exact .inl rfl
    rw [show ((0 : Int)) = ((0 : Nat) : Int) from rfl, h]
    dsimp only
    rw [loopN_succ]
    rcases stp r 1 (by omega) rfl with h | ⟨g1, h⟩
    · rw [h]; exact .inl rfl
    rw [h]
    dsimp only
    rw [loopN_succ]
    rcases stp u 2 (by omega) rfl with h | ⟨g2, h⟩
    · rw [h]; exact .inl rfl
    rw [h]
    dsimp only
    rw [loopN_succ, s3]
    exact .inr ⟨⟨g0, g1, g2⟩, rfl⟩
  unfold f13
  dsimp only
  rcases hl with hl | ⟨hs, hl⟩
  · have hl' : loop13_0 ([o, r, u], (([o, r, u] : List (List Int)).length : Int), 0, ()) = _ := hl
    rw [hl', askO_s]
    exact ⟨false, rfl, fun h => by cases h⟩
  · have hl' : loop13_0 ([o, r, u], (([o, r, u] : List (List Int)).length : Int), 0, ()) = _ := hl
    rw [hl', askO_s]
    exact ⟨true, rfl, fun _ => hs⟩
end Go.PM

/- Chapter 46, plain law: Turns. -/
set_option linter.unusedSimpArgs false
set_option linter.unusedVariables false
namespace Go.PM
open Go Go.RowKit Go.Proofs
set_option maxRecDepth 100000

/-- An element of a sum of multiples. -/
def mxE (a b : Int) (r s : List Int) (i : Nat) : Int := wrapF .i64 (wrapF .i64 (a * r.getD i 0) + wrapF .i64 (b * s.getD i 0))
def mx (a b : Int) (r s : List Int) : List Int := (List.range r.length).map (mxE a b r s)
theorem mx_length (a b : Int) (r s : List Int) : (mx a b r s).length = r.length := by simp [mx]
theorem f65_eq {a b : Int} {r s : List Int} (hl : s.length = r.length) (hr : r.length ≤ 1000) : f65 (r, s, a, b, ()) = some (mx a b r s, ()) := by
  have hloop : loop65_0 (r, s, a, b, [], (r.length : Int), 0, ()) = some (mx a b r s, ()) := by
    refine loopN_all (N := 2 ^ 64) (step := step65_0) (fun i => (r, s, a, b, (List.range i).map (mxE a b r s), (r.length : Int), (i : Int), ())) r.length _ (by omega) ?_ ?_
    · intro i hi
      simp only [step65_0, ltI_eq, idxOk_eq, nble_eq, cond_dec, Int.toNat_natCast, List.length_map, List.length_range, List.length_singleton]
      rw [if_pos (by omega), if_pos (by omega), if_pos (by omega), if_pos (by omega), if_pos (by omega), wrap64s i (by omega), List.range_succ, List.map_append]
      rfl
    · simp only [step65_0, ltI_eq, cond_dec]
      rw [if_neg (by omega)]
      rfl
  unfold f65; dsimp only
  rw [hloop, askO_s]
/-- All fit. -/
def ftB (a b : Int) (r s : List Int) (n : Nat) : Bool := (List.range n).all fun i => decide (okE (mxE a b r s i))
theorem f42_eq {a b : Int} {r s : List Int} (hl : s.length = r.length) (hr : r.length ≤ 1000) : f42 (a, r, b, s, ()) = some (mx a b r s, ftB a b r s r.length, ()) := by
  have hloop : loop42_0 (a, r, b, s, [], true, 0, ()) = some (mx a b r s, ftB a b r s r.length, ()) := by
    refine loopN_all (N := 2 ^ 64) (step := step42_0) (fun i => (a, r, b, s, (List.range i).map (mxE a b r s), ftB a b r s i, (i : Int), ())) r.length _ (by omega) ?_ ?_
    · intro i hi
      have hn : ftB a b r s (i + 1) = (ftB a b r s i && decide (okE (mxE a b r s i))) := by
        unfold ftB
        rw [List.range_succ, List.all_append]; simp
      simp only [step42_0, ltI_eq, idxOk_eq, nble_eq, cond_dec, Int.toNat_natCast, List.length_map, List.length_range, List.length_singleton]
      have h1 : i ≤ 1048576 := by omega
      have h2 : 1 ≤ 1048576 := by omega
      rw [if_pos (by omega), if_pos (by omega), if_pos (by omega), wrap64s i (by omega), hn, List.range_succ, List.map_append]
      simp only [if_pos h1, if_pos h2]
      cases ftB a b r s i with
      | true =>
        rw [cond_true, f21_eq, askO_s]
        rfl
      | false => rfl
    · simp only [step42_0, ltI_eq, cond_dec]
      rw [if_neg (by omega)]
      rfl
  unfold f42; dsimp only
  rw [hloop, askO_s]
theorem rc_mx {a b : Int} {r s : List Int} (hr : r.length ≤ 64) : rc (mx a b r s) = if ftB a b r s r.length = true then 0 else 4 := by
  unfold rc
  rw [if_neg (by rw [mx_length]; omega)]
  have key : (∀ i, i < (mx a b r s).length → okE ((mx a b r s).getD i 0)) ↔ ftB a b r s r.length = true := by
    rw [mx_length]
    unfold ftB
    rw [List.all_eq_true]
    have hg : ∀ i, i < r.length → (mx a b r s).getD i 0 = mxE a b r s i := fun i hi => by
      unfold mx
      rw [List.getD_eq_getElem?_getD, List.getElem?_map, List.getElem?_range hi]; rfl
    constructor
    · intro h i hi
      have hi := List.mem_range.1 hi
      have := h i hi
      rw [hg i hi] at this
      exact decide_eq_true this
    · intro h i hi
      rw [hg i hi]
      exact of_decide_eq_true (h i (List.mem_range.2 hi))
  by_cases h : ftB a b r s r.length = true
  · rw [if_pos h, if_pos (key.2 h)]
  · rw [if_neg h, if_neg fun hh => h (key.1 hh)]
/-- The layout behind a symmetry. -/
def trn (l : Lay) (g : S4) : Lay := (l.1, l.2.1, mx g.1 g.2.2.1 l.2.2.1 l.2.2.2, mx g.2.1 g.2.2.2 l.2.2.1 l.2.2.2)
def fitsT (l : Lay) (g : S4) : Bool := ftB g.1 g.2.2.1 l.2.2.1 l.2.2.2 l.2.2.1.length && ftB g.2.1 g.2.2.2 l.2.2.1 l.2.2.2 l.2.2.1.length
theorem f40_eq {l : Lay} (g : S4) (h0 : l.2.1.length ≤ 1000) (h1 : l.2.2.2.length = l.2.2.1.length) (h2 : l.2.2.1.length ≤ 1000) : f40 (l, g, ()) = some (trn l g, ()) := by
  obtain ⟨k, o, r, u⟩ := l
  obtain ⟨a, b, c, d⟩ := g
  dsimp only at h0 h1 h2
  unfold f40; dsimp only
  have hc : f64c (o, ()) = some (o, ()) := by
    unfold f64c; dsimp only
    rw [nble_eq, cond_dec, if_pos (by omega)]
  rw [hc, askO_s, f65_eq h1 h2, askO_s, f65_eq h1 h2, askO_s]
  rfl
theorem f18_eq {l : Lay} (g : S4) (h1 : l.2.2.2.length = l.2.2.1.length) (h2 : l.2.2.1.length ≤ 1000) : f18 (l, g, ()) = some (trn l g, fitsT l g, ()) := by
  obtain ⟨k, o, r, u⟩ := l
  obtain ⟨a, b, c, d⟩ := g
  dsimp only at h1 h2
  unfold f18 fitsT; dsimp only
  rw [f42_eq h1 h2, askO_s, f42_eq h1 h2, askO_s]
  cases ftB a c r u r.length <;> rfl
theorem loop39_eq (l : Lay) (z : Lay) : loop39_0 (l, z, (l.2.1, l.2.2.1, l.2.2.2), 0, ()) = some (if rc l.2.1 = 0 ∧ rc l.2.2.1 = 0 ∧ rc l.2.2.2 = 0 then .inr (l, z, ()) else .inl (zL, 4, ())) := by
  obtain ⟨k, o, r, u⟩ := l
  obtain ⟨k', o', r', u'⟩ := z
  have s0 : step39_0 ((k, o, r, u), (k', o', r', u'), (o, r, u), 0, ()) = if ¬ rc o = 0 then some (.inr (.inl (zL, 4, ()))) else some (.inl ((k, o, r, u), (k', o', r', u'), (o, r, u), 1, ())) := by
    simp only [step39_0, ltI_eq, eqI_eq, not_dec, cond_dec]
    rw [if_pos (by decide), if_pos trivial, f37_eq, askO_s]
    rfl
  have s1 : step39_0 ((k, o, r, u), (k', o', r', u'), (o, r, u), 1, ()) = if ¬ rc r = 0 then some (.inr (.inl (zL, 4, ()))) else some (.inl ((k, o, r, u), (k', o', r', u'), (o, r, u), 2, ())) := by
    simp only [step39_0, ltI_eq, eqI_eq, not_dec, cond_dec]
    rw [if_pos (by decide), if_neg (by decide), if_pos trivial, f37_eq, askO_s]
    rfl
  have s2 : step39_0 ((k, o, r, u), (k', o', r', u'), (o, r, u), 2, ()) = if ¬ rc u = 0 then some (.inr (.inl (zL, 4, ()))) else some (.inl ((k, o, r, u), (k', o', r', u'), (o, r, u), 3, ())) := by
    simp only [step39_0, ltI_eq, eqI_eq, not_dec, cond_dec]
    rw [if_pos (by decide), if_neg (by decide), if_neg (by decide), if_pos trivial, f37_eq, askO_s]
    rfl
  have s3 : step39_0 ((k, o, r, u), (k', o', r', u'), (o, r, u), 3, ()) = some (.inr (.inr ((k, o, r, u), (k', o', r', u'), ()))) := rfl
  unfold loop39_0
  dsimp only
  rw [show (2 : Nat) ^ 64 = 18446744073709551612 + 1 + 1 + 1 + 1 from rfl, loopN_succ, s0]
  by_cases h0 : rc o = 0
  · rw [if_neg (not_not_intro h0)]
    dsimp only
    rw [loopN_succ, s1]
    by_cases h1 : rc r = 0
    · rw [if_neg (not_not_intro h1)]
      dsimp only
      rw [loopN_succ, s2]
      by_cases h3 : rc u = 0
      · rw [if_neg (not_not_intro h3)]
        dsimp only
        rw [loopN_succ, s3, if_pos ⟨h0, h1, h3⟩]
      · rw [if_pos h3, if_neg fun h => h3 h.2.2]
    · rw [if_pos h1, if_neg fun h => h1 h.2.1]
  · rw [if_pos h0, if_neg fun h => h0 h.1]
theorem f39_eq (l : Lay) : f39 (l, ()) = some (if rc l.2.1 = 0 ∧ rc l.2.2.1 = 0 ∧ rc l.2.2.2 = 0 then (l, 0, ()) else (zL, 4, ())) := by
  have := loop39_eq l zL
  obtain ⟨k, o, r, u⟩ := l
  unfold f39
  dsimp only at this ⊢
  rw [show (loop39_0 ((k, o, r, u), ((0, [], [], []) : Lay), (o, r, u), 0, ())) = _ from this, askO_s]
  by_cases h : rc o = 0 ∧ rc r = 0 ∧ rc u = 0
  · rw [if_pos h, if_pos h]; rfl
  · rw [if_neg h, if_neg h]; rfl
/-- The symmetries of a kind. -/
def nearOf (k : Int) : List (Int × Int) := if k = 2 then near6 else near4
def turnsOf (k : Int) : List S4 := if k = 2 then turns6 else turns4
theorem f61_eq (k : Int) : f61 (k, ()) = some (nearOf k, ()) := by
  unfold f61 nearOf; dsimp only
  rw [eqI_eq, cond_dec]
  by_cases h : k = 2
  · rw [if_pos h, if_pos h]; rfl
  · rw [if_neg h, if_neg h]; rfl
theorem f38_eq (k : Int) : f38 (k, ()) = some ((nearOf k, ()), ()) := by
  unfold f38; dsimp only
  rw [f61_eq, askO_s]
theorem fTurns_eq (k : Int) : fTurns (nearOf k, ()) = some ((turnsOf k).map fun g => (g, ())) := by
  unfold nearOf turnsOf
  by_cases h : k = 2
  · rw [if_pos h, if_pos h]; rfl
  · rw [if_neg h, if_neg h]; rfl
theorem run16a : f16 (1, ()) = some (turns4, ()) := by kernel_rfl
theorem run16b : f16 (2, ()) = some (turns6, ()) := by kernel_rfl
theorem f16_eq {k : Int} (h : k = 1 ∨ k = 2) : f16 (k, ()) = some (turnsOf k, ()) := by
  rcases h with rfl | rfl
  · exact run16a
  · exact run16b
theorem turns_len {k : Int} : (turnsOf k).length ≤ 12 := by unfold turnsOf; split <;> decide
def eq4 (a b : S4) : Bool := eqI a.1 b.1 && (eqI a.2.1 b.2.1 && (eqI a.2.2.1 b.2.2.1 && (eqI a.2.2.2 b.2.2.2 && true)))
theorem eq4_eq (a b : S4) : eq4 a b = decide (a = b) := by
  obtain ⟨a1, a2, a3, a4⟩ := a
  obtain ⟨b1, b2, b3, b4⟩ := b
  simp only [eq4, eqI_eq, Prod.mk.injEq]
  by_cases h1 : a1 = b1 <;> by_cases h2 : a2 = b2 <;> by_cases h3 : a3 = b3 <;> by_cases h4 : a4 = b4 <;> simp [h1, h2, h3, h4]
/-- Turn at a right layout. -/
theorem range15 {l : Lay} (g : S4) (n : List (Int × Int)) (h0 : l.2.1.length ≤ 1000) (h1 : l.2.2.2.length = l.2.2.1.length) (h2 : l.2.2.1.length ≤ 1000) : ∀ L : List S4,
    rangeN step15_0 (finG sh15_0 ex15_0) (L.map fun e => (e, ())) (l, g, zL, 0, (n, ()), ()) = if g ∈ L then some (.inr ((if rc (trn l g).2.1 = 0 ∧ rc (trn l g).2.2.1 = 0 ∧ rc (trn l g).2.2.2 = 0 then (trn l g, 0, ()) else (zL, 4, ())))) else some (.inl (zL, 0, ()))
  | [] => by rw [if_neg (by simp)]; rfl
  | e :: L => by
    have ih := range15 g n h0 h1 h2 L
    have hst : step15_0 (l, g, zL, 0, (n, ()), ()) (e, ()) = if g = e then some (.inr (.inr ((if rc (trn l g).2.1 = 0 ∧ rc (trn l g).2.2.1 = 0 ∧ rc (trn l g).2.2.2 = 0 then (trn l g, 0, ()) else (zL, 4, ()))))) else some (.inl (l, g, zL, 0, (n, ()), ())) := by
      have h40 := f40_eq g h0 h1 h2
      have h39 := f39_eq (trn l g)
      obtain ⟨k, o, r, u⟩ := l
      obtain ⟨a, b, c, d⟩ := g
      show (bif eq4 (a, b, c, d) e then _ else _) = _
      rw [eq4_eq, cond_dec]
      by_cases he : (a, b, c, d) = e
      · rw [if_pos he, if_pos he]
        show (askO (f40 ((k, o, r, u), (a, b, c, d), ())) _) = _
        rw [h40, askO_s]
        show (askO (f39 (trn (k, o, r, u) (a, b, c, d), ())) _) = _
        rw [h39, askO_s]
      · rw [if_neg he, if_neg he]
    rw [List.map_cons]
    unfold rangeN
    rw [hst]
    by_cases he : g = e
    · rw [if_pos he, if_pos (show g ∈ e :: L by rw [he]; exact List.mem_cons_self)]
    · rw [if_neg he]
      dsimp only
      rw [ih]
      by_cases hm : g ∈ L
      · rw [if_pos hm, if_pos (List.mem_cons_of_mem _ hm)]
      · rw [if_neg hm, if_neg (by
          intro h
          rcases List.mem_cons.1 h with h | h
          · exact he h
          · exact hm h)]
theorem f15_eq {l : Lay} (g : S4) (h0 : l.2.1.length ≤ 1000) (h1 : l.2.2.2.length = l.2.2.1.length) (h2 : l.2.2.1.length ≤ 1000) (hc : ce l = 0) :
    f15 (l, g, ()) = some (if g ∈ turnsOf l.1 then (if rc (trn l g).2.1 = 0 ∧ rc (trn l g).2.2.1 = 0 ∧ rc (trn l g).2.2.2 = 0 then (trn l g, 0, ()) else (zL, 4, ())) else (zL, 10, ())) := by
  have hr := range15 g (nearOf l.1) h0 h1 h2 (turnsOf l.1)
  have h24 := f24_eq l
  have hf := fTurns_eq l.1
  have h38 := f38_eq l.1
  rw [hc] at h24
  unfold f15
  show (askO (f24 (l, ())) _) = _
  rw [h24, askO_s]
  show (askO (f38 (l.1, ())) _) = _
  rw [h38, askO_s]
  show (askO (loop15_0 (l, g, zL, 0, (nearOf l.1, ()), ())) _) = _
  have hl : loop15_0 (l, g, zL, 0, (nearOf l.1, ()), ()) = if g ∈ turnsOf l.1 then some (.inr ((if rc (trn l g).2.1 = 0 ∧ rc (trn l g).2.2.1 = 0 ∧ rc (trn l g).2.2.2 = 0 then (trn l g, 0, ()) else (zL, 4, ())))) else some (.inl (zL, 0, ())) := by
    unfold loop15_0 runG
    have hff : (fun x => fTurns (cap15_0 x)) (l, g, zL, 0, (nearOf l.1, ()), ()) = _ := hf
    rw [hff]
    exact hr
  rw [hl]
  by_cases hg : g ∈ turnsOf l.1
  · rw [if_pos hg, if_pos hg, askO_s, onSum_inr]
  · rw [if_neg hg, if_neg hg, askO_s, onSum_inl]
theorem f15_err {l : Lay} (g : S4) (hc : ¬ ce l = 0) : f15 (l, g, ()) = some (zL, ce l, ()) := by
  have h24 := f24_eq l
  unfold f15
  show (askO (f24 (l, ())) _) = _
  rw [h24, askO_s]
  show (bif !(eqI (ce l) 0) then _ else _) = _
  rw [eqI_eq, not_dec, cond_dec, if_pos hc]
/-- Whether it is one of them. -/
theorem loop3_eq (l : Lay) (g : S4) (x : Lay) (e : Int) (L : List S4) (hL : L.length ≤ 1000) : loop3_0 (l, g, x, e, L, false, 0, ()) = some (l, g, x, e, decide (g ∈ L), ()) := by
  refine loopN_all (N := 2 ^ 64) (step := step3_0) (fun i => (l, g, x, e, L, decide (g ∈ L.take i), (i : Int), ())) L.length _ (by omega) ?_ ?_
  · intro i hi
    have hn : decide (g ∈ L.take (i + 1)) = (decide (g ∈ L.take i) || eq4 (L.getD i (0, 0, 0, 0)) g) := by
      rw [eq4_eq]
      have hti : L.take (i + 1) = L.take i ++ [L.getD i (0, 0, 0, 0)] := by
        rw [List.take_succ_eq_append_getElem hi, List.getD_eq_getElem?_getD, List.getElem?_eq_getElem hi]; rfl
      rw [hti]
      by_cases h1 : g ∈ L.take i
      · simp [h1]
      · simp [h1, eq_comm]
    simp only [step3_0, ltI_eq, idxOk_eq, cond_dec, Int.toNat_natCast]
    rw [if_pos (by omega), wrap64s i (by omega), hn]
    by_cases h1 : g ∈ L.take i
    · rw [if_pos h1, decide_eq_true h1]; rfl
    · rw [if_neg h1, if_pos (by omega), decide_eq_false h1]; rfl
  · simp only [step3_0, ltI_eq, cond_dec]
    rw [if_neg (by omega), List.take_length]
theorem trn_sh {l : Lay} (g : S4) (h : ShL l) : ShL (trn l g) := ⟨h.1, by show (mx _ _ _ _).length ≤ _; rw [mx_length]; exact h.2.1, by show (mx _ _ _ _).length ≤ _; rw [mx_length]; exact h.2.1⟩
theorem f3_true (l : Lay) (g : S4) : f3 (l, g, ()) = some (true, ()) := by
  have h12 : f12 () = some (true, ()) := rfl
  obtain ⟨b, h13, hsh⟩ := f13_some l
  unfold f3
  show (askO (f12 ()) _) = _
  rw [h12, askO_s]
  show (askO (f13 (l, ())) _) = _
  rw [h13, askO_s]
  cases b with
  | false => rfl
  | true =>
    have hs := hsh rfl
    show (askO (f14 (l, ())) _) = _
    rw [f14_eq, askO_s]
    show (bif !(eqI (ce l) 0) then _ else _) = _
    rw [eqI_eq, not_dec, cond_dec]
    by_cases hc : ¬ ce l = 0
    · rw [if_pos hc]; rfl
    · rw [if_neg hc]
      have hc : ce l = 0 := by omega
      obtain ⟨hk, r0, r1, r2, n1, n2⟩ := ce_ok hc
      have b0 := (rc_ok r0).1
      have b1 := (rc_ok r1).1
      have hu : l.2.2.2.length = l.2.2.1.length := by omega
      show (askO (f15 (l, g, ())) _) = _
      rw [f15_eq g (by omega) hu (by omega) hc, askO_s]
      show (askO (f16 (l.1, ())) _) = _
      rw [f16_eq hk, askO_s]
      have hrc : (rc (trn l g).2.1 = 0 ∧ rc (trn l g).2.2.1 = 0 ∧ rc (trn l g).2.2.2 = 0) ↔ fitsT l g = true := by
        show (rc l.2.1 = 0 ∧ rc (mx _ _ _ _) = 0 ∧ rc (mx _ _ _ _) = 0) ↔ _
        rw [rc_mx b1, rc_mx b1]
        unfold fitsT
        rw [Bool.and_eq_true]
        constructor
        · rintro ⟨-, h1, h2⟩
          refine ⟨?_, ?_⟩
          · by_cases h : ftB g.1 g.2.2.1 l.2.2.1 l.2.2.2 l.2.2.1.length = true
            · exact h
            · rw [if_neg h] at h1; cases h1
          · by_cases h : ftB g.2.1 g.2.2.2 l.2.2.1 l.2.2.2 l.2.2.1.length = true
            · exact h
            · rw [if_neg h] at h2; cases h2
        · rintro ⟨h1, h2⟩
          exact ⟨r0, if_pos h1, if_pos h2⟩
      by_cases hg : g ∈ turnsOf l.1
      · rw [if_pos hg]
        by_cases hf : fitsT l g = true
        · rw [if_pos (hrc.2 hf)]
          show (askO (loop3_0 (l, g, trn l g, 0, turnsOf l.1, false, 0, ())) _) = _
          rw [loop3_eq _ _ _ _ _ (Nat.le_trans turns_len (by decide)), askO_s, decide_eq_true hg]
          show (askO (f18 (l, g, ())) _) = _
          rw [f18_eq g hu (by omega), askO_s, hf]
          show (askO (f19 (trn l g, trn l g, ())) _) = _
          rw [f19_eq _ (trn_sh g hs), askO_s, decide_eq_true rfl]
        · rw [if_neg fun h => hf (hrc.1 h)]
          show (askO (loop3_0 (l, g, zL, 4, turnsOf l.1, false, 0, ())) _) = _
          rw [loop3_eq _ _ _ _ _ (Nat.le_trans turns_len (by decide)), askO_s, decide_eq_true hg]
          show (askO (f18 (l, g, ())) _) = _
          rw [f18_eq g hu (by omega), askO_s, Bool.eq_false_iff.2 hf]
          show (askO (f17 (zL, ())) _) = _
          rw [f17_eq ⟨by decide, by decide, by decide⟩, askO_s]; rfl
      · rw [if_neg hg]
        show (askO (loop3_0 (l, g, zL, 10, turnsOf l.1, false, 0, ())) _) = _
        rw [loop3_eq _ _ _ _ _ (Nat.le_trans turns_len (by decide)), askO_s, decide_eq_false hg]
        show (askO (f17 (zL, ())) _) = _
        rw [f17_eq ⟨by decide, by decide, by decide⟩, askO_s]; rfl
end Go.PM
