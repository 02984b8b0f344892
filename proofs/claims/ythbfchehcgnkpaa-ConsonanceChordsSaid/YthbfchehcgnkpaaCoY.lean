/- Chapter 40, plain law: fits; ConsonanceChords' function answers true. -/
import Derived.Test.YthbfchehcgnkpaaCoW
set_option linter.unusedSimpArgs false
set_option linter.unusedVariables false
namespace Go.PM
open Go Go.RowKit Go.Proofs
set_option maxRecDepth 100000

theorem wr_sub (a b : Int) : wrapF .i64 (a + wrapF .i64 (-1 * b)) = wrapF .i64 (a - b) := by
  rw [wrapF_eq, wrapF_eq, wrapF_eq, IntKind.wrap_i64, IntKind.wrap_i64, IntKind.wrap_i64]
  omega
theorem plus_minus (a b : List Int) : plusL a b (-1) = minusL a b := by
  unfold plusL minusL
  exact List.map_congr_left fun i _ => wr_sub _ _
/-- A row differs from all notes by rows of the closure. -/
def fitB (cl notes : List (List Int)) (x : List Int) : Bool := ((List.range notes.length).find? fun i => decide (¬ minusL x (notes.getD i []) ∈ cl)).isNone
theorem f66_eq {cl : List (List Int)} {x y : List Int} (h1 : cl.length ≤ 100) (h2 : Rws 1000 cl) (hs : SI cl) (hx : x.length ≤ 1000) (hy : x.length ≤ y.length) : f66s1plli2pli (y, cl, x, ()) = some (decide (¬ minusL x y ∈ cl), ()) := by
  obtain ⟨i, hi⟩ := f67_eq h1 h2 hs (x := minusL x y) (by rw [minusL_length]; omega)
  unfold f66s1plli2pli; dsimp only
  rw [f34_eq (-1) hy (by omega), askO_s, plus_minus]
  dsimp only
  rw [hi, askO_s]
  by_cases h : minusL x y ∈ cl
  · rw [decide_eq_true h, decide_eq_false (not_not_intro h)]; rfl
  · rw [decide_eq_false h, decide_eq_true h]; rfl
theorem f45_eq {cl notes : List (List Int)} {x : List Int} (h1 : cl.length ≤ 100) (h2 : Rws 1000 cl) (hs : SI cl) (hx : x.length ≤ 1000) (hn : notes.length ≤ 1000) (hy : ∀ y ∈ notes, x.length ≤ y.length) : f45 (cl, notes, x, ()) = some (fitB cl notes x, ()) := by
  have hloop : loop65s1c66llili_0 (notes, (cl, x, ()), (notes.length : Int), 0, ()) = some ((((List.range notes.length).find? fun i => decide (¬ minusL x (notes.getD i []) ∈ cl)).map fun i : Nat => .inl ((i : Int), ())).getD (.inr ())) := by
    rw [← findSome_if (fun i => ¬ minusL x (notes.getD i []) ∈ cl) (fun i : Nat => Sum.inl ((i : Int), ()))]
    refine loopN_find (N := 2 ^ 64) (step := step65s1c66llili_0) (fun i => (notes, (cl, x, ()), (notes.length : Int), (i : Int), ())) (fun i => if ¬ minusL x (notes.getD i []) ∈ cl then some (.inl ((i : Int), ())) else none) notes.length (.inr ()) (by omega) ?_ ?_
    · intro i hi
      simp only [step65s1c66llili_0, ltI_eq, idxOk_eq, cond_dec, Int.toNat_natCast]
      rw [if_pos (by omega), if_pos (by omega), f66_eq h1 h2 hs hx (hy _ (getDL_mem hi)), askO_s, wrap64s i (by omega), cond_dec]
      by_cases h : ¬ minusL x (notes.getD i []) ∈ cl
      · rw [if_pos h, if_pos h]
      · rw [if_neg h, if_neg h]
    · simp only [step65s1c66llili_0, ltI_eq, cond_dec]
      rw [if_neg (by omega)]
  have h65 : f65s1c66llili (notes, (cl, x, ()), ()) = some ((((List.range notes.length).find? fun i => decide (¬ minusL x (notes.getD i []) ∈ cl)).map fun i : Nat => (i : Int)).getD (-1), ()) := by
    unfold f65s1c66llili; dsimp only
    rw [hloop, askO_s]
    cases (List.range notes.length).find? fun i => decide (¬ minusL x (notes.getD i []) ∈ cl) <;> rfl
  unfold f45 fitB; dsimp only
  unfold f43s1c66llili; dsimp only
  rw [h65, askO_s]
  cases (List.range notes.length).find? fun i => decide (¬ minusL x (notes.getD i []) ∈ cl) with
  | none => rfl
  | some i =>
    show (askO (some (!(ltI ((i : Nat) : Int) 0), ())) fun y1 => bif y1.1 then some (false, ()) else some (true, ())) = _
    rw [askO_s, not_ltI0]; rfl
theorem f21_eq {cl notes : List (List Int)} {x : List Int} (h1 : cl.length ≤ 100) (h2 : Rws 1000 cl) (hx : x.length ≤ 1000) (hn : notes.length ≤ 1000) (hy : ∀ y ∈ notes, x.length ≤ y.length) : f21 (cl, notes, x, ()) = some (fitB cl notes x, ()) := by
  have hloop : loop21_0 (cl, notes, x, 0, ()) = some ((((List.range notes.length).find? fun i => decide (¬ minusL x (notes.getD i []) ∈ cl)).map fun i : Nat => .inl (false, ())).getD (.inr ())) := by
    rw [← findSome_if (fun i => ¬ minusL x (notes.getD i []) ∈ cl) (fun i : Nat => Sum.inl (false, ()))]
    refine loopN_find (N := 2 ^ 64) (step := step21_0) (fun i => (cl, notes, x, (i : Int), ())) (fun i => if ¬ minusL x (notes.getD i []) ∈ cl then some (.inl (false, ())) else none) notes.length (.inr ()) (by omega) ?_ ?_
    · intro i hi
      simp only [step21_0, ltI_eq, idxOk_eq, cond_dec, Int.toNat_natCast]
      rw [if_pos (by omega), if_pos (by omega), f28_eq (hy _ (getDL_mem hi)) (by omega), askO_s]
      dsimp only
      rw [f46_eq (by omega) h2, askO_s, wrap64s i (by omega), cond_dec]
      by_cases h : minusL x (notes.getD i []) ∈ cl
      · rw [if_pos h, if_neg (not_not_intro h)]
      · rw [if_neg h, if_pos h]
    · simp only [step21_0, ltI_eq, cond_dec]
      rw [if_neg (by omega)]
  unfold f21 fitB; dsimp only
  rw [hloop, askO_s]
  cases (List.range notes.length).find? fun i => decide (¬ minusL x (notes.getD i []) ∈ cl) <;> rfl
/-- A chord's notes, up to a place, fit those before them. -/
def fineB (cl c : List (List Int)) (m : Nat) : Bool := (List.range m).all fun i => fitB cl (c.take i) (c.getD i [])
theorem fineB_succ (cl c : List (List Int)) (m : Nat) : fineB cl c (m + 1) = (fineB cl c m && fitB cl (c.take m) (c.getD m [])) := by
  unfold fineB
  rw [List.range_succ, List.all_append]; simp
theorem fineB_find (cl c : List (List Int)) (m : Nat) : fineB cl c m = ((List.range m).find? fun i => decide (¬ fitB cl (c.take i) (c.getD i []) = true)).isNone := by
  unfold fineB
  generalize List.range m = r
  induction r with
  | nil => rfl
  | cons a r ih =>
    rw [List.all_cons, List.find?_cons]
    cases h : fitB cl (c.take a) (c.getD a []) with
    | true => simpa using ih
    | false => simp
theorem take_len {c : List (List Int)} {n : Int} (hn : 0 ≤ n ∧ n ≤ 12) (hc : c.length ≤ 1000) (hy : ∀ y ∈ c, (y.length : Int) = n) {i : Nat} (hi : i < c.length) : (c.getD i []).length ≤ 1000 ∧ (c.take i).length ≤ 1000 ∧ ∀ y ∈ c.take i, (c.getD i []).length ≤ y.length := by
  have a := hy _ (getDL_mem hi)
  refine ⟨by omega, by rw [List.length_take]; omega, fun y hyy => ?_⟩
  have b := hy y (List.mem_of_mem_take hyy)
  omega
theorem loop24_eq {cl c : List (List Int)} {n : Int} (h1 : cl.length ≤ 100) (h2 : Rws 1000 cl) (hs : SI cl) (hn : 0 ≤ n ∧ n ≤ 12) (hc : c.length ≤ 1000) (hy : ∀ y ∈ c, (y.length : Int) = n) : loop24_0 (c, cl, c, (c.length : Int), 0, ()) = some (if fineB cl c c.length then .inr () else .inl (false, 0, ())) := by
  have h : loop24_0 (c, cl, c, (c.length : Int), 0, ()) = some ((((List.range c.length).find? fun i => decide (¬ fitB cl (c.take i) (c.getD i []) = true)).map fun i : Nat => .inl (false, 0, ())).getD (.inr ())) := by
    rw [← findSome_if (fun i => ¬ fitB cl (c.take i) (c.getD i []) = true) (fun i : Nat => Sum.inl (false, 0, ()))]
    refine loopN_find (N := 2 ^ 64) (step := step24_0) (fun i => (c, cl, c, (c.length : Int), (i : Int), ())) (fun i => if ¬ fitB cl (c.take i) (c.getD i []) = true then some (.inl (false, 0, ())) else none) c.length (.inr ()) (by omega) ?_ ?_
    · intro i hi
      obtain ⟨t1, t2, t3⟩ := take_len hn hc hy hi
      simp only [step24_0, ltI_eq, idxOk_eq, nble_eq, not_dec, cond_dec, Int.toNat_natCast, List.drop_zero, Nat.sub_zero]
      rw [if_pos (by omega), if_pos (by omega), if_pos (by omega), if_pos (by omega), if_pos (by omega), f45_eq h1 h2 hs t1 t2 t3, askO_s, wrap64s i (by omega)]
      cases fitB cl (c.take i) (c.getD i []) <;> rfl
    · simp only [step24_0, ltI_eq, cond_dec]
      rw [if_neg (by omega)]
  rw [h, fineB_find]
  cases (List.range c.length).find? fun i => decide (¬ fitB cl (c.take i) (c.getD i []) = true) <;> rfl
theorem loop6_eq {cl c : List (List Int)} {n : Int} (h1 : cl.length ≤ 100) (h2 : Rws 1000 cl) (hn : 0 ≤ n ∧ n ≤ 12) (hc : c.length ≤ 1000) (hy : ∀ y ∈ c, (y.length : Int) = n) (is : Bool) (e : Int) : loop6_0 (c, is, e, cl, true, 0, ()) = some (is, e, fineB cl c c.length, ()) := by
  refine loopN_all (N := 2 ^ 64) (step := step6_0) (fun i => (c, is, e, cl, fineB cl c i, (i : Int), ())) c.length (is, e, fineB cl c c.length, ()) (by omega) ?_ ?_
  · intro i hi
    obtain ⟨t1, t2, t3⟩ := take_len hn hc hy hi
    rw [fineB_succ]
    simp only [step6_0, ltI_eq, idxOk_eq, nble_eq, not_dec, cond_dec, Int.toNat_natCast, List.drop_zero, Nat.sub_zero]
    rw [if_pos (by omega), if_pos (by omega), if_pos (by omega), if_pos (by omega), if_pos (by omega), f21_eq h1 h2 t1 t2 t3, askO_s, wrap64s i (by omega)]
    cases fineB cl c i <;> rfl
  · simp only [step6_0, ltI_eq, cond_dec]
    rw [if_neg (by omega)]
theorem f24_eq {n : Int} {l c : List (List Int)} (h1 : l.length ≤ 40) (h2 : Rws 1000 l) (h3 : c.length ≤ 1000) (h4 : Rws 1000 c) : f24 (n, l, c, ()) = some (if ¬ errD n l = 0 then (false, errD n l, ()) else if ¬ errH n c = 0 then (false, errH n c, ()) else (fineB (closC [] l) c c.length, 0, ())) := by
  unfold f24; dsimp only
  rw [f12_errD (by omega) h2, askO_s]
  simp only [eqI_eq, not_dec, cond_dec]
  by_cases hD : errD n l = 0
  · rw [if_pos hD, if_neg (not_not_intro hD), if_neg (by simp), f23_eq h3 h4, askO_s]
    by_cases hH : errH n c = 0
    · obtain ⟨g1, g2, g3, g4, g5⟩ := errH_good hH
      have hlen := closC_length l []
      simp only [List.length_nil, Nat.zero_add] at hlen
      rw [if_neg (not_not_intro hH), if_neg (not_not_intro hH)]
      dsimp only
      rw [loop24_eq (cl := closC [] l) (by omega) (closC_rws h2 (fun y hy => by cases hy)) (closC_si l (by simp [SI])) ⟨g1, g2⟩ h3 g5, askO_s]
      cases fineB (closC [] l) c c.length <;> rfl
    · rw [if_pos hH, if_pos hH]
  · rw [if_neg hD, if_pos hD, if_pos hD]
theorem f6_true (n : Int) {c l : List (List Int)} (hc : c.length ≤ 9223372036854775807) (hl : l.length ≤ 9223372036854775807) : f6 (n, c, l, ()) = some (true, ()) := by
  obtain ⟨b, hb, hfew⟩ := f11_eq hc
  obtain ⟨b', hb', hfew'⟩ := f11_eq hl
  unfold f6; dsimp only
  rw [f10_eq, askO_s, hb, askO_s, hb']
  cases b with
  | false => rfl
  | true =>
    rw [cond_true, cond_true, askO_s]
    cases b' with
    | false => rfl
    | true =>
      obtain ⟨h1, h2⟩ := hfew rfl
      obtain ⟨h3, h4⟩ := hfew' rfl
      have h2 : Rws 1000 c := fun y hy => Nat.le_trans (h2 y hy) (by omega)
      have h4 : Rws 1000 l := fun y hy => Nat.le_trans (h4 y hy) (by omega)
      rw [cond_true, f22_eq (by omega) h2, askO_s, f23_eq (by omega) h2, askO_s, f24_eq (by omega) h4 (by omega) h2, askO_s, f13_eq (by omega) h4, askO_s]
      simp only [eqI_eq, not_dec, cond_dec]
      rw [if_neg (by simp)]
      by_cases hD : errD n l = 0
      · rw [if_pos hD, if_neg (not_not_intro hD)]
        by_cases hH : errH n c = 0
        · obtain ⟨g1, g2, g3, g4, g5⟩ := errH_good hH
          have hlen := closC_length l []
          simp only [List.length_nil, Nat.zero_add] at hlen
          rw [if_neg (not_not_intro hH), if_neg (not_not_intro hH), f15_eq (by omega) h4, askO_s]
          dsimp only
          rw [loop6_eq (cl := closC [] l) (by omega) (closC_rws h4 (fun y hy => by cases hy)) ⟨g1, g2⟩ (by omega) g5, askO_s]
          cases fineB (closC [] l) c c.length <;> rfl
        · rw [if_pos hH, if_pos hH]
          simp
      · rw [if_neg hD, if_pos hD, if_pos hD]
        simp
end Go.PM
