/- Chapter 40, ConsonanceCloses: its function (printed) and its law. -/
import Derived.Test.YthbfchehcgnkpaaCoX
set_option linter.unusedSimpArgs false
set_option linter.unusedVariables false
namespace Go.PM
open Go Go.RowKit Go.Proofs
set_option maxRecDepth 100000
set_option maxHeartbeats 4000000

/-! schisma/schismalaw40.ConsonanceCloses -/
def f3 (x : denK [.int .i64, .list (.list (.int .i64))]) : Option (denK [.bool]) := match x with
  | (v0, v1, ()) =>
    askO (f10 (())) fun y1 =>
    bif y1.1 then
      askO (f11 (v1, ())) fun y2 =>
      bif y2.1 then
        askO (f12 (v0, v1, ())) fun y3 =>
        askO (f13 (v0, v1, ())) fun y4 =>
        bif !(eqI y4.1 0) then
          bif eqI (y3.1.length : Int) 0 then
            some (eqI y3.2.1 y4.1, ())
          else some (false, ())
        else askO (f15 (v1, ())) fun y5 =>
        askO (f14 (y3.1, y5.1, ())) fun y6 =>
        bif y6.1 then
          some (eqI y3.2.1 0, ())
        else some (false, ())
      else askO (f10 (())) fun y7 =>
      some (y7.1, ())
    else askO (f10 (())) fun y8 =>
    some (y8.1, ())
noncomputable def c3 : Code := bodyOf Try.f3
abbrev E3 : Env := envOf [e10, e11, e12, e13, e14, e15]
theorem E3_ok : EnvOK Try.prog E3 := env_ok ⟨e10_ok, e11_ok, e12_ok, e13_ok, e14_ok, e15_ok, trivial⟩
def lt3 (id : Nat) : Option LSpec := none
theorem loops3 : loopsOf c3 = [] := by kernel_rfl
theorem body3 : ∀ x, bodyK Try.prog E3 Try.f3 (keepOf Try.f3) lt3 c3 [.int .i64, .list (.list (.int .i64))] [.bool] x = f3 x := by
  rintro ⟨v0, v1, ⟨⟩⟩
  kernel_rfl
theorem fn3 : FnOK Try.prog 3 [.int .i64, .list (.list (.int .i64))] [.bool] f3 := by
  exact fun_ok progOK E3_ok Try.func3 (c := c3) (by kernel_rfl) (keep := keepOf Try.f3) (lt := lt3) (loops_ok loops3 trivial) body3
abbrev e3 : Ent := ⟨3, [.int .i64, .list (.list (.int .i64))], [.bool], f3⟩
theorem e3_ok : Ent.OK Try.prog e3 := fn3
abbrev ltC : List Int → List Int → Bool := fun x y => decide (cmpL x y < 0)
theorem sortFE_eq {l : List (List Int)} (hs : Short l) (h1 : l.length < 4611686018427387904) : sortFE (t := .int .i64) D64 ltC l = some (srtB ltC l) := by
  cases l with
  | nil => rfl
  | cons x r =>
    show sortFO (t := .int .i64) D64 ltC (x :: r) = _
    unfold sortFO
    have : (Nat.blt 0 (x :: r).length && Nat.blt (x :: r).length 4611686018427387904 && (x :: r).all D64) = true := by
      rw [nblt_eq, nblt_eq, decide_eq_true (show 0 < (x :: r).length by simp), decide_eq_true h1, Bool.true_and, Bool.true_and, List.all_eq_true]
      exact fun y hy => Nat.ble_eq_true_of_le (hs.2 y hy)
    have h2 : (bif Nat.blt 0 (x :: r).length && Nat.blt (x :: r).length 4611686018427387904 && (x :: r).all D64 then some (srtB ltC (x :: r)) else none) = some (srtB ltC (x :: r)) := by rw [this]; rfl
    exact h2
theorem srt_short {l : List (List Int)} (hs : Short l) : Short (srtB ltC l) :=
  ⟨by rw [srtB_length]; exact hs.1, fun x hx => hs.2 x ((srtB_perm l).mem_iff.1 hx)⟩
/-- Sorted and compacted, the rows are the closure. -/
theorem close_eq {l : List (List Int)} (h : Rws 1000 l) : Lib.compact (srtB ltC (flatN l)) = closC [] l := by
  refine si_unique (si_compact (srtB_sorted loL _ fun x hx => Nat.ble_eq_true_of_le (Nat.le_trans (flatN_rws h x hx) (by omega)))) (closC_si l (by simp [SI])) fun x => ?_
  rw [cmp_mem, (srtB_perm _).mem_iff, closC_mem]; simp
theorem flatN_length : ∀ l : List (List Int), (flatN l).length ≤ 2 * l.length
  | [] => by simp [flatN]
  | r :: l => by
    have := flatN_length l
    unfold flatN at this ⊢
    rw [List.flatMap_cons, List.length_append, List.length_cons]
    split
    · simp only [List.length_nil]; omega
    · simp only [List.length_cons, List.length_nil]; omega
theorem flatN_take {l : List (List Int)} {i : Nat} (h : i < l.length) : flatN (l.take (i + 1)) = flatN (l.take i) ++ (if isZ (l.getD i []) then [] else [l.getD i [], neg (l.getD i [])]) := by
  unfold flatN
  rw [List.take_add_one, List.flatMap_append, List.getElem?_eq_getElem h, show l.getD i [] = l[i] by rw [List.getD_eq_getElem?_getD, List.getElem?_eq_getElem h]; rfl]
  simp
theorem not_isZ_pos {r : List Int} (h : isZ r = false) : 0 < r.length := by
  rcases Nat.eq_zero_or_pos r.length with h0 | h0
  · unfold isZ at h
    rw [decide_eq_true (fun i hi => by omega)] at h
    cases h
  · exact h0
theorem f33_eq {r : List Int} (h : 0 < r.length) (h2 : r.length ≤ 1048576) : f33 (r, ()) = some (r, ()) := by
  unfold f33; dsimp only
  rw [nblt_eq, nble_eq, decide_eq_true h, decide_eq_true h2]; rfl
theorem loop12_eq {n : Int} {l : List (List Int)} (h1 : l.length ≤ 1000) (h0 : 0 ≤ n ∧ n ≤ 12) (h2 : ∀ y ∈ l, (y.length : Int) = n) : loop12_0 (n, [], l, (l.length : Int), 0, ()) = some (flatN l, ()) := by
  refine loopN_all (N := 2 ^ 64) (step := step12_0) (fun i => (n, flatN (l.take i), l, (l.length : Int), (i : Int), ())) l.length (flatN l, ()) (by omega) ?_ ?_
  · intro i hi
    have hr := h2 _ (getDL_mem hi)
    have hc := flatN_length (l.take i)
    have hti : (l.take i).length ≤ 1000 := by rw [List.length_take]; omega
    rw [flatN_take hi]
    simp only [step12_0, ltI_eq, idxOk_eq, not_dec, nble_eq, cond_dec, Int.toNat_natCast]
    rw [if_pos (by omega), if_pos (by omega), f32_eq (by omega), askO_s, wrap64s i (by omega)]
    cases hz : isZ (l.getD i []) with
    | true => simp only [cond_true, if_true, List.append_nil]
    | false =>
      simp only [cond_false]
      have hn : n.toNat = (l.getD i []).length := by omega
      have e2 := f34_eq (a := List.replicate (l.getD i []).length 0) (b := l.getD i []) (-1) (by rw [List.length_replicate]; omega) (by rw [List.length_replicate]; omega)
      rw [f33_eq (not_isZ_pos hz) (by omega), askO_s, if_pos (by omega), if_pos (by omega), if_pos (by omega), hn, e2, askO_s, plus_neg]
      simp only [List.length_cons, List.length_nil]
      rw [if_pos (by omega), if_pos (by omega)]; rfl
  · simp only [step12_0, ltI_eq, cond_dec]
    rw [if_neg (by omega), List.take_length]
/-- Close -/
theorem f12_eq {n : Int} {l : List (List Int)} (h1 : l.length ≤ 1000) (h2 : Rws 1000 l) : f12 (n, l, ()) = some (if ¬ errC n l = 0 then ([], errC n l, ()) else if 60 < (closC [] l).length then ([], 4, ()) else (closC [] l, 0, ())) := by
  unfold f12; dsimp only
  rw [f31_eq (by omega) (fun y hy => Nat.le_trans (h2 y hy) (by omega)), askO_s]
  simp only [eqI_eq, not_dec, cond_dec]
  by_cases he : errC n l = 0
  · obtain ⟨g1, g2, g3⟩ := errC_good he
    have hfl := flatN_length l
    have hsh : Short (flatN l) := ⟨by omega, fun y hy => Nat.le_trans (flatN_rws h2 y hy) (by omega)⟩
    rw [if_neg (not_not_intro he), if_neg (not_not_intro he), loop12_eq h1 ⟨g1, g2⟩ (fun y hy => (g3 y hy).2), askO_s, sortFE_eq hsh (by omega), askO_s, f37_eq (srt_short hsh), askO_s, close_eq h2]
    simp only [ltI_eq, cond_dec]
    by_cases h60 : 60 < (closC [] l).length
    · rw [if_pos h60, if_pos (by omega)]
    · rw [if_neg h60, if_neg (by omega)]
  · rw [if_pos he, if_pos he]
/-- The error of a closure. -/
def errD (n : Int) (l : List (List Int)) : Int := if ¬ errC n l = 0 then errC n l else if 60 < (closC [] l).length then 4 else 0
theorem f13_eq {n : Int} {l : List (List Int)} (h1 : l.length ≤ 1000) (h2 : Rws 1000 l) : f13 (n, l, ()) = some (errD n l, ()) := by
  unfold f13 errD; dsimp only
  rw [f26_eq (by omega) (fun y hy => Nat.le_trans (h2 y hy) (by omega)), askO_s]
  simp only [eqI_eq, not_dec, cond_dec]
  by_cases he : ¬ errC n l = 0
  · rw [if_pos he, if_pos he]
  · rw [if_neg he, if_neg he, f15_eq h1 h2, askO_s]
    simp only [ltI_eq, cond_dec]
    by_cases h60 : 60 < (closC [] l).length
    · rw [if_pos h60, if_pos (by omega)]
    · rw [if_neg h60, if_neg (by omega)]
theorem f12_errD {n : Int} {l : List (List Int)} (h1 : l.length ≤ 1000) (h2 : Rws 1000 l) : f12 (n, l, ()) = some (if errD n l = 0 then (closC [] l, 0, ()) else ([], errD n l, ())) := by
  rw [f12_eq h1 h2]
  unfold errD
  by_cases he : ¬ errC n l = 0
  · rw [if_pos he, if_pos he, if_neg he]
  · rw [if_neg he, if_neg he]
    by_cases h60 : 60 < (closC [] l).length
    · rw [if_pos h60, if_pos h60]; rfl
    · rw [if_neg h60, if_neg h60]; rfl
/-- Same -/
theorem f39_eq (a b : List Int) (ha : a.length ≤ 9223372036854775806) : f39 (a, b, ()) = some (decide (a = b), ()) := by
  unfold f39; dsimp only
  simp only [eqI_eq, not_dec, cond_dec]
  by_cases hl : a.length = b.length
  · rw [if_neg (by omega)]
    have hloop : loop39_0 (a, b, 0, ()) = some ((((List.range a.length).find? fun i => decide (¬ a.getD i 0 = b.getD i 0)).map fun i : Nat => .inl (false, ())).getD (.inr ())) := by
      rw [← findSome_if (fun i => ¬ a.getD i 0 = b.getD i 0) (fun i : Nat => Sum.inl (false, ()))]
      refine loopN_find (N := 2 ^ 64) (step := step39_0) (fun i => (a, b, (i : Int), ())) (fun i => if ¬ a.getD i 0 = b.getD i 0 then some (.inl (false, ())) else none) a.length (.inr ()) (by omega) ?_ ?_
      · intro i hi
        simp only [step39_0, ltI_eq, eqI_eq, idxOk_eq, cond_dec, not_dec, Int.toNat_natCast]
        rw [if_pos (by omega), if_pos (by omega), if_pos (by omega), wrap64s i (by omega)]
        by_cases h : ¬ a.getD i 0 = b.getD i 0
        · rw [if_pos h, if_pos h]
        · rw [if_neg h, if_neg h]
      · simp only [step39_0, ltI_eq, cond_dec]
        rw [if_neg (by omega)]
    have h61 := f61_eq a b ha
    rw [hloop, askO_s]
    cases hf : (List.range a.length).find? fun i => decide (¬ a.getD i 0 = b.getD i 0) with
    | none =>
      have : a = b := by
        apply List.ext_getElem hl
        intro i g1 g2
        have := List.find?_eq_none.1 hf i (List.mem_range.2 g1)
        simp only [decide_eq_true_eq, Decidable.not_not] at this
        rw [List.getD_eq_getElem?_getD, List.getD_eq_getElem?_getD, List.getElem?_eq_getElem g1, List.getElem?_eq_getElem g2] at this
        exact this
      rw [decide_eq_true this]; rfl
    | some j =>
      have h1 := List.find?_some hf
      simp only [decide_eq_true_eq] at h1
      rw [decide_eq_false (fun h => h1 (by rw [h]))]; rfl
  · rw [if_pos (by omega), decide_eq_false (fun h => hl (by rw [h]))]
/-- rows -/
theorem f14_eq (a b : List (List Int)) (ha : a.length ≤ 9223372036854775806) (hs : Rws 9223372036854775806 a) : f14 (a, b, ()) = some (decide (a = b), ()) := by
  unfold f14; dsimp only
  simp only [eqI_eq, not_dec, cond_dec]
  by_cases hl : a.length = b.length
  · rw [if_neg (by omega)]
    have hloop : loop14_0 (a, b, 0, ()) = some ((((List.range a.length).find? fun i => decide (¬ a.getD i [] = b.getD i [])).map fun i : Nat => .inl (false, ())).getD (.inr ())) := by
      rw [← findSome_if (fun i => ¬ a.getD i [] = b.getD i []) (fun i : Nat => Sum.inl (false, ()))]
      refine loopN_find (N := 2 ^ 64) (step := step14_0) (fun i => (a, b, (i : Int), ())) (fun i => if ¬ a.getD i [] = b.getD i [] then some (.inl (false, ())) else none) a.length (.inr ()) (by omega) ?_ ?_
      · intro i hi
        simp only [step14_0, ltI_eq, eqI_eq, idxOk_eq, cond_dec, not_dec, Int.toNat_natCast]
        rw [if_pos (by omega), if_pos (by omega), if_pos (by omega), f39_eq _ _ (hs _ (getDL_mem hi)), askO_s, wrap64s i (by omega), cond_dec]
        by_cases h : a.getD i [] = b.getD i []
        · rw [if_pos h, if_neg (not_not_intro h)]
        · rw [if_neg h, if_pos h]
      · simp only [step14_0, ltI_eq, cond_dec]
        rw [if_neg (by omega)]
    rw [hloop, askO_s]
    cases hf : (List.range a.length).find? fun i => decide (¬ a.getD i [] = b.getD i []) with
    | none =>
      have : a = b := by
        apply List.ext_getElem hl
        intro i g1 g2
        have := List.find?_eq_none.1 hf i (List.mem_range.2 g1)
        simp only [decide_eq_true_eq, Decidable.not_not] at this
        rw [List.getD_eq_getElem?_getD, List.getD_eq_getElem?_getD, List.getElem?_eq_getElem g1, List.getElem?_eq_getElem g2] at this
        exact this
      rw [decide_eq_true this]; rfl
    | some j =>
      have h1 := List.find?_some hf
      simp only [decide_eq_true_eq] at h1
      rw [decide_eq_false (fun h => h1 (by rw [h]))]; rfl
  · rw [if_pos (by omega), decide_eq_false (fun h => hl (by rw [h]))]
/-- few -/
theorem f11_eq {l : List (List Int)} (h : l.length ≤ 9223372036854775807) : ∃ b, f11 (l, ()) = some (b, ()) ∧ (b = true → l.length ≤ 40 ∧ Rws 14 l) := by
  have hloop : loop11_0 (l, 0, ()) = some ((((List.range l.length).find? fun i => decide (14 < (l.getD i []).length)).map fun i : Nat => .inl (false, ())).getD (.inr (l, ()))) := by
    rw [← findSome_if (fun i => 14 < (l.getD i []).length) (fun i : Nat => Sum.inl (false, ()))]
    refine loopN_find (N := 2 ^ 64) (step := step11_0) (fun i => (l, (i : Int), ())) (fun i => if 14 < (l.getD i []).length then some (.inl (false, ())) else none) l.length (.inr (l, ())) (by omega) ?_ ?_
    · intro i hi
      simp only [step11_0, ltI_eq, idxOk_eq, cond_dec, Int.toNat_natCast]
      rw [if_pos (by omega), if_pos (by omega), wrap64s i (by omega)]
      by_cases h : 14 < (l.getD i []).length
      · rw [if_pos h, if_pos (by omega)]
      · rw [if_neg h, if_neg (by omega)]
    · simp only [step11_0, ltI_eq, cond_dec]
      rw [if_neg (by omega)]
  unfold f11; dsimp only
  rw [hloop, askO_s]
  cases hf : (List.range l.length).find? fun i => decide (14 < (l.getD i []).length) with
  | some j => exact ⟨false, rfl, fun h => by cases h⟩
  | none =>
    refine ⟨!(ltI 40 (l.length : Int)), rfl, fun hb => ⟨?_, ?_⟩⟩
    · rw [ltI_eq, not_dec, decide_eq_true_eq] at hb; omega
    · intro y hy
      obtain ⟨i, hi, rfl⟩ := List.getElem_of_mem hy
      have := List.find?_eq_none.1 hf i (List.mem_range.2 hi)
      rw [List.getD_eq_getElem?_getD, List.getElem?_eq_getElem hi] at this
      simp only [decide_eq_true_eq, Option.getD_some] at this
      omega
theorem f10_eq (x : denK []) : f10 x = some (true, ()) := rfl
theorem f3_true (n : Int) {l : List (List Int)} (h : l.length ≤ 9223372036854775807) : f3 (n, l, ()) = some (true, ()) := by
  obtain ⟨b, hb, hfew⟩ := f11_eq h
  unfold f3; dsimp only
  rw [f10_eq, askO_s, hb, askO_s]
  cases b with
  | false => rfl
  | true =>
    obtain ⟨h1, h2⟩ := hfew rfl
    have h2 : Rws 1000 l := fun y hy => Nat.le_trans (h2 y hy) (by omega)
    simp only [cond_true]
    rw [f12_errD (by omega) h2, askO_s, f13_eq (by omega) h2, askO_s]
    simp only [eqI_eq, not_dec, cond_dec]
    by_cases he : errD n l = 0
    · have hlen := closC_length l []
      simp only [List.length_nil, Nat.zero_add] at hlen
      rw [if_neg (not_not_intro he), f15_eq (by omega) h2, askO_s, if_pos he, f14_eq _ _ (by omega) (fun y hy => Nat.le_trans (closC_rws h2 (fun y hy => by cases hy) y hy) (by omega)), askO_s]
      simp
    · rw [if_pos he, if_neg he]
      simp
end Go.PM
