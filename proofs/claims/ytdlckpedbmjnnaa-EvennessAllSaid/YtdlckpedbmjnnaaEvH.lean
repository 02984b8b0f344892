/- Chapter 35, plain law: lists of sets in order: what Compare says, SortFunc by it. -/
import Derived.Test.YtdlckpedbmjnnaaEvG
import Derived.Test.YtdlckpedbmjnnaaEvQ
set_option linter.unusedSimpArgs false
set_option linter.unusedVariables false
namespace Go.PM
open Go Go.RowKit Go.Proofs
set_option maxRecDepth 100000

/-- slices.Compare at ints. -/
def cmpL : List Int → List Int → Int
  | [], [] => 0
  | [], _ :: _ => -1
  | _ :: _, [] => 1
  | a :: l, b :: m => if a < b then -1 else if b < a then 1 else cmpL l m
theorem cmpL_refl : ∀ l, cmpL l l = 0
  | [] => rfl
  | a :: l => by simp [cmpL, cmpL_refl l]
theorem cmpL_zero : ∀ {l m : List Int}, ¬ cmpL l m < 0 → ¬ cmpL m l < 0 → l = m
  | [], [], _, _ => rfl
  | [], _ :: _, h, _ => by simp [cmpL] at h
  | _ :: _, [], _, h => by simp [cmpL] at h
  | a :: l, b :: m, h, k => by
    simp only [cmpL] at h k
    by_cases h1 : a < b
    · simp [h1] at h
    · by_cases h2 : b < a
      · simp [h2] at k
      · rw [if_neg h1, if_neg h2] at h
        rw [if_neg h2, if_neg h1] at k
        have : a = b := by omega
        rw [this, cmpL_zero h k]
theorem cmpL_trans : ∀ {l m n : List Int}, cmpL l m < 0 → cmpL m n < 0 → cmpL l n < 0
  | [], [], _, h, _ => by simp [cmpL] at h
  | [], _ :: _, [], _, k => by simp [cmpL] at k
  | [], _ :: _, _ :: _, _, _ => by simp [cmpL]
  | _ :: _, [], _, h, _ => by simp [cmpL] at h
  | _ :: _, _ :: _, [], _, k => by simp [cmpL] at k
  | a :: l, b :: m, c :: n, h, k => by
    simp only [cmpL] at h k ⊢
    by_cases h1 : a < b
    · by_cases h3 : b < c
      · rw [if_pos (show a < c by omega)]; omega
      · by_cases h4 : c < b
        · rw [if_neg h3, if_pos h4] at k; omega
        · rw [if_pos (show a < c by omega)]; omega
    · by_cases h2 : b < a
      · rw [if_neg h1, if_pos h2] at h; omega
      · rw [if_neg h1, if_neg h2] at h
        by_cases h3 : b < c
        · rw [if_pos (show a < c by omega)]; omega
        · by_cases h4 : c < b
          · rw [if_neg h3, if_pos h4] at k; omega
          · rw [if_neg h3, if_neg h4] at k
            rw [if_neg (show ¬ a < c by omega), if_neg (show ¬ c < a by omega)]
            exact cmpL_trans h k
theorem cmpL_asym : ∀ {l m : List Int}, cmpL l m < 0 → ¬ cmpL m l < 0 := fun h k => by
  have := cmpL_trans h k
  rw [cmpL_refl] at this; omega
/-- How long a list may be. -/
def D64 (l : List Int) : Bool := Nat.ble l.length 9223372036854775806
theorem lo46 : LO D64 fun x y => decide (cmpL x y < 0) where
  irrefl x _ := by rw [cmpL_refl]; rfl
  trans x y z _ _ _ h k := by
    simp only [decide_eq_true_eq] at h k ⊢; exact cmpL_trans h k
  ntrans x y z _ _ _ h k := by
    simp only [decide_eq_false_iff_not] at h k ⊢
    intro hz
    -- x < z: then x < y or y < z
    by_cases h1 : x = y
    · subst h1; exact k hz
    · have : cmpL y x < 0 := by
        by_cases h2 : cmpL y x < 0
        · exact h2
        · exact (h1 (cmpL_zero h h2)).elim
      exact k (cmpL_trans this hz)
  anti x y _ _ h k := by
    simp only [decide_eq_false_iff_not] at h k; exact cmpL_zero h k

theorem f77_eq (a : Int) : f77 (a, ()) = some (false, ()) := by
  unfold f77; dsimp only
  simp [eqI_eq]
theorem f57_eq (a b : Int) : f57 (a, b, ()) = some (if a < b then -1 else if b < a then 1 else 0, ()) := by
  unfold f57; dsimp only
  rw [f77_eq, askO_s, f77_eq, askO_s]
  simp only [cond_false, ltI_eq, cond_dec]
  by_cases h1 : a < b
  · rw [if_pos h1, if_pos h1]
  · rw [if_neg h1, if_neg h1]
    by_cases h2 : b < a
    · rw [if_pos h2, if_pos h2]
    · rw [if_neg h2, if_neg h2]
/-- Where two lists differ first. -/
def cmpS (l m : List Int) (i : Nat) : Option Int :=
  if ¬ i < m.length then some 1 else if l.getD i 0 < m.getD i 0 then some (-1) else if m.getD i 0 < l.getD i 0 then some 1 else none
theorem cmpL_find : ∀ (l m : List Int) (j : Nat), ((List.range' j (l.length - j)).findSome? (cmpS l m)).getD (if l.length < m.length then -1 else 0) = cmpL (l.drop j) (m.drop j) ∨ l.length < j
  | l, m, j => by
    rcases Nat.lt_or_ge l.length j with h | h
    · exact .inr h
    · left
      generalize hn : l.length - j = n
      induction n generalizing j with
      | zero =>
        have h1 : l.drop j = [] := List.drop_eq_nil_of_le (by omega)
        rw [h1]
        simp only [List.range'_zero, List.findSome?_nil, Option.getD_none]
        by_cases h2 : l.length < m.length
        · rw [if_pos h2, List.drop_eq_getElem_cons (show j < m.length by omega)]; rfl
        · rw [if_neg h2, List.drop_eq_nil_of_le (show m.length ≤ j by omega)]; rfl
      | succ n ih =>
        have hj : j < l.length := by omega
        rw [List.range'_succ, List.findSome?_cons, List.drop_eq_getElem_cons hj]
        unfold cmpS
        by_cases h2 : j < m.length
        · rw [if_neg (fun h => h h2), List.drop_eq_getElem_cons h2]
          have g1 : l.getD j 0 = l[j] := by rw [List.getD_eq_getElem?_getD, List.getElem?_eq_getElem hj]; rfl
          have g2 : m.getD j 0 = m[j] := by rw [List.getD_eq_getElem?_getD, List.getElem?_eq_getElem h2]; rfl
          rw [g1, g2]
          simp only [cmpL]
          by_cases h3 : l[j] < m[j]
          · rw [if_pos h3, if_pos h3]; rfl
          · rw [if_neg h3, if_neg h3]
            by_cases h4 : m[j] < l[j]
            · rw [if_pos h4, if_pos h4]; rfl
            · rw [if_neg h4, if_neg h4]
              exact ih (j + 1) (by omega) (by omega)
        · rw [if_pos h2, List.drop_eq_nil_of_le (show m.length ≤ j by omega)]; rfl
theorem f46_eq (l m : List Int) (hl : l.length ≤ 9223372036854775806) (hm : m.length ≤ 9223372036854775806) : f46 (l, m, ()) = some (cmpL l m, ()) := by
  have hloop : loop46_0 (l, m, l, (l.length : Int), 0, ()) = some (((List.range l.length).findSome? fun i => (cmpS l m i).map fun y => .inl (y, ())).getD (.inr (l, m, ()))) := by
    refine loopN_find (N := 2 ^ 64) (step := step46_0) (fun i => (l, m, l, (l.length : Int), (i : Int), ())) (fun i => (cmpS l m i).map fun y => .inl (y, ())) l.length (.inr (l, m, ())) (by omega) ?_ ?_
    · intro i hi
      simp only [step46_0, ltI_eq, eqI_eq, idxOk_eq, not_dec, cond_dec, Int.toNat_natCast]
      rw [if_pos (by omega), if_pos (by omega), f57_eq, askO_s, wrap64s i (by omega)]
      by_cases h2 : i < m.length
      · rw [if_neg (by omega), if_pos (by omega)]
        by_cases h3 : l.getD i 0 < m.getD i 0
        · have hc : cmpS l m i = some (-1) := by unfold cmpS; rw [if_neg (fun h => h h2), if_pos h3]
          rw [hc, if_pos h3, if_pos (by decide)]; rfl
        · by_cases h4 : m.getD i 0 < l.getD i 0
          · have hc : cmpS l m i = some 1 := by unfold cmpS; rw [if_neg (fun h => h h2), if_neg h3, if_pos h4]
            rw [hc, if_neg h3, if_pos h4, if_pos (by decide)]; rfl
          · have hc : cmpS l m i = none := by unfold cmpS; rw [if_neg (fun h => h h2), if_neg h3, if_neg h4]
            rw [hc, if_neg h3, if_neg h4, if_neg (by decide)]; rfl
      · have hc : cmpS l m i = some 1 := by unfold cmpS; rw [if_pos h2]
        rw [hc, if_pos (by omega)]; rfl
    · simp only [step46_0, ltI_eq, cond_dec]
      rw [if_neg (by omega)]
  have hfind := (cmpL_find l m 0).resolve_right (by omega)
  rw [Nat.sub_zero, ← List.range_eq_range'] at hfind
  simp only [List.drop_zero] at hfind
  unfold f46; dsimp only
  rw [hloop, askO_s, findSome_map, ← hfind]
  cases (List.range l.length).findSome? (cmpS l m) with
  | some y => rfl
  | none =>
    simp only [Option.map_none, Option.getD_none, onSum_inr, ltI_eq, cond_dec]
    by_cases h : l.length < m.length
    · rw [if_pos h, if_pos (by omega)]
    · rw [if_neg h, if_neg (by omega)]
theorem D64_len {l : List Int} (h : D64 l = true) : l.length ≤ 9223372036854775806 := Nat.le_of_ble_eq_true h
theorem f45_eq (l m : List Int) (hl : l.length ≤ 9223372036854775806) (hm : m.length ≤ 9223372036854775806) : f45 (l, m, ()) = some (cmpL l m, ()) := by
  unfold f45; dsimp only
  rw [f46_eq l m hl hm, askO_s]
abbrev s44a : Shr := (44, sortFH (.int .i64) (.fn 46) D64 fun x y => decide (cmpL x y < 0))
theorem s44a_ok : ShrOK Try.prog s44a :=
  sortf_own (.inl rfl) lo46 fn46 (fun x y hx hy => f46_eq x y (D64_len hx) (D64_len hy)) (enters Try.func44 (by kernel_rfl) (by kernel_rfl)) (enters Try.func46 (by kernel_rfl) (by kernel_rfl))
    fun enc h1 cf hO cb blk off cap d w hcmp hH hblk hsz => Try.slices_SortFunc enc h1 cf hO 46 cb blk off cap d w (enters Try.func46 (by kernel_rfl) (by kernel_rfl)) hcmp hH hblk hsz
abbrev s44b : Shr := (44, sortFH (.int .i64) (.fn 45) D64 fun x y => decide (cmpL x y < 0))
theorem s44b_ok : ShrOK Try.prog s44b :=
  sortf_own (.inl rfl) lo46 fn45 (fun x y hx hy => f45_eq x y (D64_len hx) (D64_len hy)) (enters Try.func44 (by kernel_rfl) (by kernel_rfl)) (enters Try.func45 (by kernel_rfl) (by kernel_rfl))
    fun enc h1 cf hO cb blk off cap d w hcmp hH hblk hsz => Try.slices_SortFunc enc h1 cf hO 45 cb blk off cap d w (enters Try.func45 (by kernel_rfl) (by kernel_rfl)) hcmp hH hblk hsz
end Go.PM
