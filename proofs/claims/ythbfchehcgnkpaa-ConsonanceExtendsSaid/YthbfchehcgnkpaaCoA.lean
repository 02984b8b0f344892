/- Chapter 40, plain law: lists of rows compared and compacted (turned from chapter 35's). -/
import Derived.Test.YthbfchehcgnkpaaCoP
import Derived.Test.YthbfchehcgnkpaaPnY
set_option linter.unusedSimpArgs false
set_option linter.unusedVariables false
namespace Go.PM
open Go Go.RowKit Go.Proofs
set_option maxRecDepth 100000

theorem findSome_none {τ : Type} {m : Nat} {f : Nat → Option τ} {z : τ} (h : ∀ i, i < m → f i = none) : ((List.range m).findSome? f).getD z = z := by
  rw [List.findSome?_eq_none_iff.2 (fun i hi => h i (List.mem_range.1 hi))]; rfl
theorem findSome_if {τ : Type} (p : Nat → Prop) [DecidablePred p] (g : Nat → τ) : ∀ l : List Nat, (l.findSome? fun i => if p i then some (g i) else none) = (l.find? fun i => decide (p i)).map g
  | [] => rfl
  | i :: l => by
    rw [List.findSome?_cons, List.find?_cons]
    by_cases h : p i
    · simp [h]
    · simp [h, findSome_if p g l]
theorem getD_mem {s : List Int} {i : Nat} (h : i < s.length) : s.getD i 0 ∈ s := by
  rw [List.getD_eq_getElem?_getD, List.getElem?_eq_getElem h]; exact List.getElem_mem h
/-- slices.Equal -/
theorem f61_eq (a b : List Int) (ha : a.length ≤ 9223372036854775806) : f61 (a, b, ()) = some (decide (a = b), ()) := by
  unfold f61
  simp only [eqI_eq, not_dec, cond_dec]
  by_cases hl : a.length = b.length
  · rw [if_neg (by omega)]
    have : loopN step61_0 (2 ^ 64) (a, b, (a.length : Int), 0, ()) = _ := loopN_find (N := 2 ^ 64) (step := step61_0) (fun i => (a, b, (a.length : Int), (i : Int), ())) (fun i => if ¬ a.getD i 0 = b.getD i 0 then some (.inl (false, ())) else none) a.length (.inr ()) (by omega) (by
      intro i hi
      simp only [step61_0, ltI_eq, eqI_eq, idxOk_eq, cond_dec, not_dec, Int.toNat_natCast]
      rw [if_pos (by omega), if_pos ⟨by omega, by omega⟩, if_pos ⟨by omega, by omega⟩, wrap64s i (by omega)]
      by_cases h : ¬ a.getD i 0 = b.getD i 0
      · rw [if_pos h, if_pos h]
      · rw [if_neg h, if_neg h]) (by
      simp only [step61_0, ltI_eq, cond_dec]
      rw [if_neg (by omega)])
    unfold loop61_0
    rw [this, findSome_if (fun i => ¬ a.getD i 0 = b.getD i 0), askO_s]
    cases hf : (List.range a.length).find? fun i => decide (¬ a.getD i 0 = b.getD i 0) with
    | none =>
      have hall : ∀ i, i < a.length → a.getD i 0 = b.getD i 0 := by
        intro i hi
        have := List.find?_eq_none.1 hf i (List.mem_range.2 hi)
        simpa using this
      have : a = b := by
        apply List.ext_getElem hl
        intro i h1 h2
        have := hall i h1
        rw [List.getD_eq_getElem?_getD, List.getD_eq_getElem?_getD, List.getElem?_eq_getElem h1, List.getElem?_eq_getElem h2] at this
        exact this
      rw [decide_eq_true this]; rfl
    | some i =>
      have h1 := List.find?_some hf
      have : ¬ a = b := fun e => by subst e; simp at h1
      rw [decide_eq_false this]; rfl
  · rw [if_pos (by omega), decide_eq_false]
    rintro rfl; exact hl rfl
theorem f38_eq (a b : List Int) (ha : a.length ≤ 9223372036854775806) : f38 (a, b, ()) = some (decide (a = b), ()) := by
  unfold f38; dsimp only
  rw [f61_eq a b ha, askO_s]
/-- A loop that keeps a relation. -/
theorem loopN_inv {σ τ : Type} {step : σ → Option (σ ⊕ τ)} (R : Nat → σ → Prop) (out : σ → τ) (m : Nat) (h : ∀ i x, i < m → R i x → ∃ y, step x = some (.inl y) ∧ R (i + 1) y) (he : ∀ x, R m x → step x = some (.inr (out x))) :
    ∀ (k j : Nat) (N : Nat) (x : σ), j + k = m → k < N → R j x → ∃ y, R m y ∧ loopN step N x = some (out y)
  | 0, j, N, x, hj, hN, hr => by
    have : j = m := by omega
    subst this
    obtain ⟨N, rfl⟩ : ∃ n, N = n + 1 := ⟨N - 1, by omega⟩
    exact ⟨x, hr, by rw [loopN_succ, he x hr]⟩
  | k + 1, j, N, x, hj, hN, hr => by
    obtain ⟨N, rfl⟩ : ∃ n, N = n + 1 := ⟨N - 1, by omega⟩
    obtain ⟨y, h1, h2⟩ := h j x (by omega) hr
    obtain ⟨z, h3, h4⟩ := loopN_inv R out m h he k (j + 1) N y (by omega) (by omega) h2
    exact ⟨z, h3, by rw [loopN_succ, h1]; exact h4⟩
theorem not_ltI0 (j : Nat) : (!(ltI (j : Int) 0)) = true := by rw [ltI_eq, decide_eq_false (by omega)]; rfl
/-- Lists that are not too long. -/
def Short (l : List (List Int)) : Prop := l.length ≤ 4611686018427387904 ∧ ∀ x ∈ l, x.length ≤ 9223372036854775806
theorem getDL_mem {l : List (List Int)} {i : Nat} (h : i < l.length) : l.getD i [] ∈ l := by
  rw [List.getD_eq_getElem?_getD, List.getElem?_eq_getElem h]; exact List.getElem_mem h
theorem getDL_arr {l : List (List Int)} {i : Nat} (h : i < l.length) : l.toArray[i]! = l.getD i [] := by
  rw [getElem!_pos l.toArray i (by simpa using h), List.getD_eq_getElem?_getD, List.getElem?_eq_getElem h]; simp
/-- The second loop of CompactFunc. -/
theorem loop37_in {l : List (List Int)} (hs : Short l) {j : Nat} (hj0 : 0 < j) (hj : j < l.length) (hall : ∀ i, i < j → Lib.keeps l.toArray i = true) (hdup : Lib.keeps l.toArray j = false) :
    ∃ (dk : List (List Int)) (kk : Nat), Lib.CompInv l.toArray l.length kk dk.toArray ∧ loop37s1f38t_0 (l, (), (j : Int), (j, l.length - j), 1, ()) = some (dk, (kk : Int), ()) := by
  obtain ⟨y, ⟨dk, kk, rfl, hI⟩, hy⟩ := loopN_inv (step := step37s1f38t_0) (fun i x => ∃ (dk : List (List Int)) (kk : Nat), x = (dk, (), (kk : Int), (j, l.length - j), ((i + 1 : Nat) : Int), ()) ∧ Lib.CompInv l.toArray (j + 1 + i) kk dk.toArray)
    (fun x => (x.1, x.2.2.1, ())) (l.length - j - 1) (by
      rintro i x hi ⟨dk, kk, rfl, hI⟩
      have hsz : dk.length = l.length := by have := hI.size; simpa using this
      have hlt := hI.lt
      have hm : j + (i + 1) < l.length := by omega
      have g1 : dk.getD (j + (i + 1)) [] = l.getD (j + (i + 1)) [] := by
        have := hI.high (j + (i + 1)) (by omega)
        rwa [getDL_arr (by omega), getDL_arr hm] at this
      have g2 : dk.getD (j + i) [] = l.getD (j + i) [] := by
        have := hI.high (j + i) (by omega)
        rwa [getDL_arr (by omega), getDL_arr (by omega)] at this
      have hk1 := hs.1
      have w1 : wrapF .i64 (((i + 1 : Nat) : Int) - 1) = ((i : Nat) : Int) := by rw [wrap64 (by omega) (by omega)]; omega
      simp only [step37s1f38t_0, ltI_eq, idxOk_eq, nblt_eq, cond_dec, Int.toNat_natCast, w1, g1, g2]
      rw [if_pos (by omega), if_pos (by omega), if_pos (by omega), if_pos (by omega), if_pos (by omega), f38_eq _ _ (hs.2 _ (getDL_mem hm)), askO_s, cond_dec, wrap64s (i + 1) (by omega)]
      by_cases he : l.getD (j + (i + 1)) [] = l.getD (j + i) []
      · rw [if_pos he]
        refine ⟨_, rfl, dk, kk, rfl, ?_⟩
        have hneg : Lib.keeps l.toArray (j + 1 + i) = false := by
          refine Lib.keeps_neg (by omega) ?_
          rw [getDL_arr (by omega), getDL_arr (by omega), show j + 1 + i = j + (i + 1) by omega, show j + (i + 1) - 1 = j + i by omega, he]
        exact hI.skip hneg
      · rw [if_neg he, if_pos (by omega), if_pos (by omega), if_pos (by omega), if_pos (by omega), wrap64s kk (by omega)]
        refine ⟨_, rfl, _, kk + 1, rfl, ?_⟩
        have hpos : Lib.keeps l.toArray (j + 1 + i) = true := by
          refine Lib.keeps_pos ?_
          rw [getDL_arr (by omega), getDL_arr (by omega), show j + 1 + i = j + (i + 1) by omega, show j + (i + 1) - 1 = j + i by omega]
          exact he
        have := hI.keep (by simp; omega) hpos
        rw [getDL_arr (by omega), show j + 1 + i = j + (i + 1) by omega] at this
        rw [show j + 1 + (i + 1) = j + (i + 1) + 1 by omega]
        simpa using this) (by
      rintro x ⟨dk, kk, rfl, hI⟩
      simp only [step37s1f38t_0, ltI_eq, cond_dec]
      rw [if_neg (by omega)]) (l.length - j - 1) 0 (2 ^ 64) (l, (), (j : Int), (j, l.length - j), 1, ()) (by omega) (by have := hs.1; omega) ⟨l, j, rfl, by
        rw [Nat.add_zero]
        exact Lib.CompInv.start hall hdup⟩
  rw [show j + 1 + (l.length - j - 1) = l.length by omega] at hI
  exact ⟨dk, kk, hI, hy⟩
theorem compact_take {l dk : List (List Int)} {kk : Nat} (h : Lib.CompInv l.toArray l.length kk dk.toArray) : dk.take kk = Lib.compact l := by
  have hsz : dk.length = l.length := by have := h.size; simpa using this
  have hlt := h.lt
  have hlen : (Lib.compact l).length = kk := h.len
  apply List.ext_getElem
  · rw [List.length_take, hlen]; omega
  · intro i h1 h2
    have hi : i < kk := by rw [List.length_take] at h1; omega
    have := h.low i hi
    change (Lib.compact l)[i]? = _ at this
    rw [List.getElem?_eq_getElem h2, getElem!_pos dk.toArray i (by simp; omega)] at this
    rw [List.getElem_take]
    have := Option.some.inj this
    rw [this]; simp
theorem find_first (p : Nat → Bool) : ∀ (m : Nat) {j : Nat}, (List.range m).find? p = some j → p j = true ∧ j < m ∧ ∀ i, i < j → p i = false := by
  intro m j h
  have h1 := List.find?_some h
  have h2 := List.mem_range.1 (List.mem_of_find?_eq_some h)
  refine ⟨h1, h2, fun i hi => ?_⟩
  obtain ⟨-, xs, ys, hab, hn⟩ := List.find?_eq_some_iff_append.1 h
  have hlen : xs.length = j := by
    have : (List.range m)[xs.length]? = some j := by rw [hab]; simp
    rw [List.getElem?_range (by have := congrArg List.length hab; simp at this; omega)] at this
    exact Option.some.inj this
  have him : i ∈ xs := by
    have h3 : xs = (List.range m).take xs.length := by rw [hab]; simp
    rw [h3, hlen, List.take_range]
    exact List.mem_range.2 (by omega)
  simpa using hn i him
theorem f37_eq {l : List (List Int)} (hs : Short l) : f37s1f38t l ((), ()) = some (Lib.compact l, ()) := by
  have hk1 := hs.1
  unfold f37s1f38t; dsimp only
  rw [ltI_eq, cond_dec]
  by_cases h2 : (l.length : Int) < 2
  · rw [if_pos h2, Lib.compact_all l (fun j hj => Lib.keeps_lt_one _ j (by omega))]
  rw [if_neg h2]
  -- the first loop
  have key : ∀ j, 0 < j → j < l.length → (l.getD j [] = l.getD (j - 1) [] ↔ Lib.keeps l.toArray j = false) := by
    intro j h0 hj
    constructor
    · intro h
      exact Lib.keeps_neg h0 (by rw [getDL_arr hj, getDL_arr (by omega), h])
    · intro h
      by_cases he : l.getD j [] = l.getD (j - 1) []
      · exact he
      · have := Lib.keeps_pos (d := l.toArray) (m := j) (by rw [getDL_arr hj, getDL_arr (by omega)]; exact he)
        rw [h] at this; cases this
  have step : ∀ j, 0 < j → j < l.length → step37s1f38t_1 (l, (), (j : Int), ()) = if l.getD j [] = l.getD (j - 1) [] then
      (askO (loop37s1f38t_0 (l, (), (j : Int), (j, l.length - j), 1, ())) fun z6 =>
        bif !(ltI z6.2.1 0) then bif Nat.ble z6.2.1.toNat z6.1.length then bif Nat.ble z6.1.length z6.1.length then bif Nat.blt z6.2.1.toNat z6.1.length then bif Nat.ble (z6.2.1.toNat + (z6.1.length - z6.2.1.toNat)) z6.1.length then bif !(ltI z6.2.1 0) then bif Nat.ble 0 z6.2.1.toNat then bif Nat.ble z6.2.1.toNat ((clr z6.1 z6.2.1.toNat (z6.1.length - z6.2.1.toNat) []).length) then bif Nat.blt 0 ((clr z6.1 z6.2.1.toNat (z6.1.length - z6.2.1.toNat) []).length) then some (.inr (.inl ((clr z6.1 z6.2.1.toNat (z6.1.length - z6.2.1.toNat) []), (0, (z6.2.1.toNat - 0)), ()))) else none else none else none else none else none else none else none else none else none)
      else some (.inl (l, (), ((j + 1 : Nat) : Int), ())) := by
    intro j h0 hj
    have w1 : wrapF .i64 ((j : Int) - 1) = ((j - 1 : Nat) : Int) := by rw [wrap64 (by omega) (by omega)]; omega
    simp only [step37s1f38t_1]
    rw [ltI_eq, decide_eq_true (show (j : Int) < (l.length : Int) by omega), cond_true, idxOk_eq, decide_eq_true (show 0 ≤ (j : Int) ∧ (j : Int) < (l.length : Int) by omega), cond_true, Int.toNat_natCast, nblt_eq, decide_eq_true hj, cond_true, w1, idxOk_eq, decide_eq_true (show 0 ≤ ((j - 1 : Nat) : Int) ∧ ((j - 1 : Nat) : Int) < (l.length : Int) by omega), cond_true, Int.toNat_natCast, nblt_eq, decide_eq_true (show j - 1 < l.length by omega), cond_true, f38_eq _ _ (hs.2 _ (getDL_mem hj)), askO_s]
    by_cases he : l.getD j [] = l.getD (j - 1) []
    · rw [if_pos he, decide_eq_true he, cond_true, not_ltI0, cond_true, nble_eq, decide_eq_true (show j ≤ l.length by omega), cond_true, nble_eq, decide_eq_true (Nat.le_refl l.length), cond_true, cond_true]
    · rw [if_neg he, decide_eq_false he, cond_false, wrap64s j (by omega)]
  cases hf : (List.range (l.length - 1)).find? (fun i => !(Lib.keeps l.toArray (i + 1))) with
  | none =>
    have hall : ∀ i, i < l.length → Lib.keeps l.toArray i = true := by
      intro i hi
      cases i with
      | zero => exact Lib.keeps_lt_one _ 0 (by omega)
      | succ i =>
        have := List.find?_eq_none.1 hf i (List.mem_range.2 (by omega))
        simpa using this
    have hl : loop37s1f38t_1 (l, (), 1, ()) = some (.inr (l, ())) := by
      refine loopN_all (N := 2 ^ 64) (step := step37s1f38t_1) (fun i => (l, (), ((i + 1 : Nat) : Int), ())) (l.length - 1) (.inr (l, ())) (by omega) ?_ ?_
      · intro i hi
        rw [step (i + 1) (by omega) (by omega), if_neg]
        intro he
        have := (key (i + 1) (by omega) (by omega)).1 he
        rw [hall (i + 1) (by omega)] at this; cases this
      · simp only [step37s1f38t_1]
        rw [ltI_eq, decide_eq_false (by omega), cond_false]
    rw [hl, Lib.compact_all l hall]; rfl
  | some j =>
    obtain ⟨hj1, hj2, hj3⟩ := find_first _ _ hf
    have hdup : Lib.keeps l.toArray (j + 1) = false := by simpa using hj1
    have hall : ∀ i, i < j + 1 → Lib.keeps l.toArray i = true := by
      intro i hi
      cases i with
      | zero => exact Lib.keeps_lt_one _ 0 (by omega)
      | succ i =>
        have := hj3 i (by omega)
        simpa using this
    obtain ⟨dk, kk, hI, hin⟩ := loop37_in hs (Nat.succ_pos j) (by omega) hall hdup
    have hsz : dk.length = l.length := by have := hI.size; simpa using this
    have hlt := hI.lt
    have hclr : (clr dk kk (l.length - kk) []).length = l.length := by
      simp only [clr, List.length_append, List.length_take, List.length_replicate, List.length_drop]; omega
    have hl : loop37s1f38t_1 (l, (), 1, ()) = some (.inl (clr dk kk (l.length - kk) [], (0, kk - 0), ())) := by
      have hsteps := loopN_steps (step := step37s1f38t_1) (fun i => (l, (), ((i + 1 : Nat) : Int), ())) (2 ^ 64 - j - 1 + 1) j 0 (fun i _ hi => by
        rw [step (i + 1) (by omega) (by omega), if_neg]
        intro he
        have := (key (i + 1) (by omega) (by omega)).1 he
        rw [hall (i + 1) (by omega)] at this; cases this)
      have e : j + (2 ^ 64 - j - 1 + 1) = 2 ^ 64 := by omega
      rw [e, show 0 + j + 1 = j + 1 by omega] at hsteps
      refine Eq.trans hsteps ?_
      rw [loopN_succ, step (j + 1) (by omega) (by omega), if_pos ((key (j + 1) (by omega) (by omega)).2 hdup), hin, askO_s]
      dsimp only
      rw [not_ltI0, Int.toNat_natCast, hsz, hclr]
      simp only [nble_eq, nblt_eq, cond_true]
      rw [decide_eq_true (show kk ≤ l.length by omega), decide_eq_true (Nat.le_refl l.length), decide_eq_true hlt, decide_eq_true (show kk + (l.length - kk) ≤ l.length by omega), decide_eq_true (Nat.zero_le kk), decide_eq_true (show 0 < l.length by omega)]
      rfl
    rw [hl, askO_s]
    simp only [onSum_inl, Nat.sub_zero, List.drop_zero]
    have : (clr dk kk (l.length - kk) []).take kk = dk.take kk := by
      unfold clr
      rw [List.take_append_of_le_length (by rw [List.length_take]; omega), List.take_take, Nat.min_self]
    rw [this, compact_take hI]
theorem arrL_get {l : List (List Int)} {i : Nat} (h : i < l.length) : l.toArray[i]! = l[i] := by
  rw [getElem!_pos l.toArray i (by simpa using h)]; simp
theorem cmp_mem (l : List (List Int)) (x : List Int) : x ∈ Lib.compact l ↔ x ∈ l := by
  constructor
  · intro h
    unfold Lib.compact Lib.compactUpTo at h
    obtain ⟨i, hi, rfl⟩ := List.mem_map.1 h
    have hl := List.mem_range.1 (List.mem_filter.1 hi).1
    rw [arrL_get hl]; exact List.getElem_mem hl
  · intro h
    obtain ⟨i, hi, rfl⟩ := List.getElem_of_mem h
    have key : ∀ i (hi : i < l.length), l[i] ∈ Lib.compact l := by
      intro i
      induction i with
      | zero =>
        intro hi
        unfold Lib.compact Lib.compactUpTo
        refine List.mem_map.2 ⟨0, List.mem_filter.2 ⟨List.mem_range.2 hi, by simp [Lib.keeps]⟩, arrL_get hi⟩
      | succ i ih =>
        intro hi
        by_cases he : l[i + 1] = l[i]'(by omega)
        · rw [he]; exact ih (by omega)
        · unfold Lib.compact Lib.compactUpTo
          refine List.mem_map.2 ⟨i + 1, List.mem_filter.2 ⟨List.mem_range.2 hi, ?_⟩, arrL_get hi⟩
          refine Lib.keeps_pos ?_
          rw [arrL_get hi, Nat.add_sub_cancel, arrL_get (by omega)]; exact he
    exact key i hi
theorem cmp_nodup {l : List (List Int)} (h : l.Pairwise (fun a b => decide (cmpL b a < 0) = false)) : (Lib.compact l).Nodup := by
  unfold Lib.compact Lib.compactUpTo
  refine List.pairwise_map.2 ?_
  have hp : ((List.range l.length).filter (Lib.keeps l.toArray)).Pairwise fun i j => i < j := List.Pairwise.filter _ List.pairwise_lt_range
  refine List.Pairwise.imp_of_mem ?_ hp
  intro i j hi hj hij he
  obtain ⟨hi1, hi2⟩ := List.mem_filter.1 hi
  obtain ⟨hj1, hj2⟩ := List.mem_filter.1 hj
  have hi1 := List.mem_range.1 hi1
  have hj1 := List.mem_range.1 hj1
  simp only [Lib.keeps, decide_eq_true_eq] at hj2
  have h2 : l.toArray[j]! ≠ l.toArray[j - 1]! := by
    rcases hj2 with h2 | h2
    · omega
    · exact h2
  rw [arrL_get hj1, arrL_get (i := j - 1) (by omega)] at h2
  rw [arrL_get hi1, arrL_get hj1] at he
  have ord : ∀ i j (hij : i < j) (hj : j < l.length), ¬ cmpL l[j] (l[i]'(by omega)) < 0 := fun i j hij hj => by
    have := List.pairwise_iff_getElem.1 h i j (by omega) hj hij
    simpa using this
  have a1 := ord (j - 1) j (by omega) hj1
  have a2 : cmpL (l[j - 1]'(by omega)) l[j] < 0 := by
    by_cases h3 : cmpL (l[j - 1]'(by omega)) l[j] < 0
    · exact h3
    · exact (h2 (cmpL_zero a1 h3)).elim
  rcases Nat.lt_or_ge i (j - 1) with h3 | h3
  · have a3 := ord i (j - 1) h3 (by omega)
    rw [he] at a3
    exact a3 a2
  · have : i = j - 1 := by omega
    subst this
    exact h2 he.symm
theorem compact_le (l : List (List Int)) : (Lib.compact l).length ≤ l.length := by
  unfold Lib.compact Lib.compactUpTo
  rw [List.length_map]
  exact Nat.le_trans (List.length_filter_le _ _) (by rw [List.length_range]; exact Nat.le_refl _)
theorem short_compact {l : List (List Int)} (hs : Short l) : Short (Lib.compact l) := by
  refine ⟨Nat.le_trans (compact_le l) hs.1, fun x hx => ?_⟩
  unfold Lib.compact Lib.compactUpTo at hx
  obtain ⟨i, hi, rfl⟩ := List.mem_map.1 hx
  have hlt := List.mem_range.1 (List.mem_filter.1 hi).1
  rw [getDL_arr hlt]
  exact hs.2 _ (getDL_mem hlt)
end Go.PM

/- Chapter 40, plain law: rows in order; insert; minus and plus; closure; Close. -/
set_option linter.unusedSimpArgs false
set_option linter.unusedVariables false
namespace Go.PM
open Go Go.RowKit Go.Proofs
set_option maxRecDepth 100000

theorem cmpL_eq0 : ∀ {l m : List Int}, cmpL l m = 0 → l = m
  | [], [], _ => rfl
  | [], _ :: _, h => by simp [cmpL] at h
  | _ :: _, [], h => by simp [cmpL] at h
  | a :: l, b :: m, h => by
    simp only [cmpL] at h
    by_cases h1 : a < b
    · rw [if_pos h1] at h; omega
    · rw [if_neg h1] at h
      by_cases h2 : b < a
      · rw [if_pos h2] at h; omega
      · rw [if_neg h2] at h
        rw [cmpL_eq0 h, show a = b by omega]
theorem cmpL_swap {x y : List Int} (h0 : ¬ cmpL x y = 0) (h1 : ¬ cmpL x y < 0) : cmpL y x < 0 := by
  by_cases h : cmpL y x < 0
  · exact h
  · have e := cmpL_zero h1 h
    subst e
    exact (h0 (cmpL_refl _)).elim
/-- Rows in strict order. -/
def SI (l : List (List Int)) : Prop := l.Pairwise fun a b => cmpL a b < 0
theorem si_nodup {l : List (List Int)} (h : SI l) : l.Nodup := by
  refine List.Pairwise.imp (fun {a b} h e => ?_) h
  rw [e, cmpL_refl] at h
  omega
theorem si_unique {l l' : List (List Int)} (h : SI l) (h' : SI l') (hm : ∀ x, x ∈ l ↔ x ∈ l') : l = l' :=
  List.Perm.eq_of_pairwise (le := fun a b => cmpL a b < 0) (fun a b _ _ h1 h2 => (cmpL_asym h1 h2).elim) h h' ((List.perm_ext_iff_of_nodup (si_nodup h) (si_nodup h')).2 hm)
theorem si_compact {l : List (List Int)} (h : l.Pairwise (fun a b => decide (cmpL b a < 0) = false)) : SI (Lib.compact l) := by
  have s : (Lib.compact l).Pairwise (fun a b => decide (cmpL b a < 0) = false) := by
    unfold Lib.compact Lib.compactUpTo
    refine List.pairwise_map.2 ?_
    have hp : ((List.range l.length).filter (Lib.keeps l.toArray)).Pairwise fun i j => i < j := List.Pairwise.filter _ List.pairwise_lt_range
    refine List.Pairwise.imp_of_mem ?_ hp
    intro i j hi hj hij
    have hi1 := List.mem_range.1 (List.mem_filter.1 hi).1
    have hj1 := List.mem_range.1 (List.mem_filter.1 hj).1
    rw [arrL_get hi1, arrL_get hj1]
    exact List.pairwise_iff_getElem.1 h i j hi1 hj1 hij
  refine List.Pairwise.imp (fun {a b} h => ?_) (List.pairwise_and_iff.2 ⟨s, cmp_nodup h⟩)
  obtain ⟨h1, h2⟩ := h
  simp only [decide_eq_false_iff_not] at h1
  by_cases h3 : cmpL a b < 0
  · exact h3
  · exact (h2 (cmpL_zero h3 h1)).elim

/-- insert -/
def insC (x : List Int) : List (List Int) → List (List Int)
  | [] => [x]
  | y :: r => if cmpL x y = 0 then y :: r else if cmpL x y < 0 then x :: y :: r else y :: insC x r
theorem insC_mem (x z : List Int) : ∀ l, z ∈ insC x l ↔ z = x ∨ z ∈ l
  | [] => by simp [insC]
  | y :: r => by
    unfold insC
    by_cases h0 : cmpL x y = 0
    · rw [if_pos h0, cmpL_eq0 h0]; simp
    · rw [if_neg h0]
      by_cases h1 : cmpL x y < 0
      · rw [if_pos h1]; simp
      · rw [if_neg h1, List.mem_cons, insC_mem x z r, List.mem_cons]
        constructor
        · rintro (h | h | h)
          · exact .inr (.inl h)
          · exact .inl h
          · exact .inr (.inr h)
        · rintro (h | h | h)
          · exact .inr (.inl h)
          · exact .inl h
          · exact .inr (.inr h)
theorem insC_si (x : List Int) : ∀ {l}, SI l → SI (insC x l)
  | [], _ => by simp [insC, SI]
  | y :: r, h => by
    unfold SI at h
    obtain ⟨hy, hr⟩ := List.pairwise_cons.1 h
    unfold insC
    by_cases h0 : cmpL x y = 0
    · rw [if_pos h0]; exact h
    · rw [if_neg h0]
      by_cases h1 : cmpL x y < 0
      · rw [if_pos h1]
        refine List.pairwise_cons.2 ⟨fun z hz => ?_, h⟩
        rcases List.mem_cons.1 hz with rfl | hz
        · exact h1
        · exact cmpL_trans h1 (hy z hz)
      · rw [if_neg h1]
        refine List.pairwise_cons.2 ⟨fun z hz => ?_, insC_si x hr⟩
        rcases (insC_mem x z r).1 hz with rfl | hz
        · exact cmpL_swap h0 h1
        · exact hy z hz
theorem insC_length (x : List Int) : ∀ l, (insC x l).length ≤ l.length + 1
  | [] => by simp [insC]
  | y :: r => by
    unfold insC
    split
    · simp
    · split
      · simp
      · have := insC_length x r
        simp only [List.length_cons]; omega
theorem getD_app {α : Type} (d : α) (pre : List α) (y : α) (r : List α) : (pre ++ y :: r).getD pre.length d = y := by
  rw [List.getD_eq_getElem?_getD, List.getElem?_append_right (Nat.le_refl _), Nat.sub_self]; rfl
theorem loop27_eq {x : List Int} (hx : x.length ≤ 9223372036854775806) : ∀ (suf pre : List (List Int)) (N : Nat), pre.length + suf.length ≤ 1000000 → (∀ y ∈ suf, y.length ≤ 9223372036854775806) → suf.length < N →
    ∃ z, loopN step27_0 N (pre ++ suf, x, pre, (pre.length : Int), ()) = some z ∧ (onSum z (fun a4 => some (a4.1, ())) fun b5 => bif Nat.ble [b5.1].length 1048576 then bif Nat.ble b5.2.1.length 1048576 then some ((b5.2.1 ++ [b5.1]), ()) else none else none) = (some (pre ++ insC x suf, ()) : Option (denK [.list (.list (.int .i64))]))
  | [], pre, N, hl, _, hN => by
    obtain ⟨n, rfl⟩ : ∃ n, N = n + 1 := ⟨N - 1, by omega⟩
    refine ⟨.inr (x, pre, ()), ?_, ?_⟩
    · rw [loopN_succ]
      simp only [step27_0, List.append_nil, ltI_eq, cond_dec]
      rw [if_neg (by omega)]
    · simp only [List.length_nil, Nat.add_zero] at hl
      simp only [onSum_inr, nble_eq, cond_dec, List.length_cons, List.length_nil]
      rw [if_pos (by omega), if_pos (by omega)]; rfl
  | y :: r, pre, N, hl, hs, hN => by
    obtain ⟨n, rfl⟩ : ∃ n, N = n + 1 := ⟨N - 1, by omega⟩
    simp only [List.length_cons] at hl hN
    have hlen : (pre ++ y :: r).length = pre.length + (r.length + 1) := by simp
    have hst : step27_0 (pre ++ y :: r, x, pre, (pre.length : Int), ()) = if cmpL x y = 0 then some (.inr (.inl (pre ++ y :: r, ()))) else if cmpL x y < 0 then some (.inr (.inl (pre ++ x :: y :: r, ()))) else some (.inl (pre ++ y :: r, x, pre ++ [y], ((pre.length + 1 : Nat) : Int), ())) := by
      simp only [step27_0, ltI_eq, eqI_eq, idxOk_eq, nble_eq, not_dec, cond_dec, Int.toNat_natCast, getD_app]
      rw [if_pos (by omega), if_pos (by omega), f36_eq x y hx (hs y (by simp)), askO_s]
      have hd : ((pre ++ y :: r).drop pre.length).take ((pre ++ y :: r).length - pre.length) = y :: r := by
        rw [List.drop_left, hlen, Nat.add_sub_cancel_left]
        exact List.take_of_length_le (by simp)
      dsimp only
      by_cases h0 : cmpL x y = 0
      · rw [if_pos h0, if_pos h0]
      · rw [if_neg h0, if_neg h0]
        by_cases h1 : cmpL x y < 0
        · rw [if_pos h1, if_pos h1, hd]
          simp only [List.length_cons, List.length_append, List.length_nil]
          rw [if_pos (by omega), if_pos (by omega), if_pos (by omega), if_pos (by omega), if_pos (by omega), if_pos (by omega), if_pos (by omega), List.append_assoc]; rfl
        · rw [if_neg h1, if_neg h1]
          simp only [List.length_cons, List.length_nil]
          rw [if_pos (by omega), if_pos (by omega), if_pos (by omega), wrap64s _ (by omega)]
    rw [loopN_succ, hst]
    unfold insC
    by_cases h0 : cmpL x y = 0
    · rw [if_pos h0, if_pos h0]; exact ⟨_, rfl, rfl⟩
    · rw [if_neg h0, if_neg h0]
      by_cases h1 : cmpL x y < 0
      · rw [if_pos h1, if_pos h1]; exact ⟨_, rfl, rfl⟩
      · rw [if_neg h1, if_neg h1]
        have := loop27_eq hx r (pre ++ [y]) n (by simp only [List.length_append, List.length_cons, List.length_nil]; omega) (fun z hz => hs z (by simp [hz])) (by omega)
        simp only [List.append_assoc, List.cons_append, List.nil_append, List.length_append, List.length_cons, List.length_nil] at this
        exact this
theorem f27_eq {l : List (List Int)} {x : List Int} (hl : l.length ≤ 1000000) (hs : ∀ y ∈ l, y.length ≤ 9223372036854775806) (hx : x.length ≤ 9223372036854775806) : f27 (l, x, ()) = some (insC x l, ()) := by
  obtain ⟨z, h1, h2⟩ := loop27_eq hx l [] (2 ^ 64) (by simpa using hl) hs (by omega)
  unfold f27; dsimp only
  have h1' : loop27_0 (l, x, [], 0, ()) = some z := h1
  rw [h1', askO_s, h2]; rfl
end Go.PM

/- Chapter 40, plain law: zero, minus, plus, closure; the checks of rows; Close and closed. -/
set_option linter.unusedSimpArgs false
set_option linter.unusedVariables false
namespace Go.PM
open Go Go.RowKit Go.Proofs
set_option maxRecDepth 100000

theorem wr64 (x : Int) : -9223372036854775808 ≤ wrapF .i64 x ∧ wrapF .i64 x < 9223372036854775808 := by
  rw [wrapF_eq, IntKind.wrap_i64]
  omega
theorem wr_wr (x : Int) : wrapF .i64 (wrapF .i64 x) = wrapF .i64 x := wrap64 (wr64 x).1 (wr64 x).2
/-- A row filled from the left. -/
def fillTo (f : Nat → Int) (n i : Nat) : List Int := (List.range i).map f ++ List.replicate (n - i) 0
theorem fillTo_length (f : Nat → Int) {n i : Nat} (h : i ≤ n) : (fillTo f n i).length = n := by
  simp only [fillTo, List.length_append, List.length_map, List.length_range, List.length_replicate]; omega
theorem fillTo_zero (f : Nat → Int) (n : Nat) : fillTo f n 0 = List.replicate n 0 := by simp [fillTo]
theorem fillTo_all (f : Nat → Int) (n : Nat) : fillTo f n n = (List.range n).map f := by simp [fillTo]
theorem fillTo_set (f : Nat → Int) {n i : Nat} (h : i < n) : (fillTo f n i).set i (f i) = fillTo f n (i + 1) := by
  unfold fillTo
  rw [List.set_append_right _ _ (by simp)]
  simp only [List.length_map, List.length_range, Nat.sub_self]
  obtain ⟨k, hk⟩ : ∃ k, n - i = k + 1 := ⟨n - i - 1, by omega⟩
  rw [hk, List.replicate_succ, List.set_cons_zero, show n - (i + 1) = k by omega, List.range_succ, List.map_append, List.append_assoc]; rfl
def minusL (a b : List Int) : List Int := (List.range a.length).map fun i => wrapF .i64 (a.getD i 0 - b.getD i 0)
def plusL (a b : List Int) (k : Int) : List Int := (List.range a.length).map fun i => wrapF .i64 (a.getD i 0 + wrapF .i64 (k * b.getD i 0))
theorem minusL_length (a b : List Int) : (minusL a b).length = a.length := by simp [minusL]
theorem f28_eq {a b : List Int} (h1 : a.length ≤ b.length) (h2 : a.length ≤ 1048576) : f28 (a, b, ()) = some (minusL a b, ()) := by
  have hloop : loop28_0 (a, b, List.replicate a.length 0, 0, ()) = some (minusL a b, ()) := by
    rw [← fillTo_zero (fun i => wrapF .i64 (a.getD i 0 - b.getD i 0))]
    refine loopN_all (N := 2 ^ 64) (step := step28_0) (fun i => (a, b, fillTo (fun i => wrapF .i64 (a.getD i 0 - b.getD i 0)) a.length i, (i : Int), ())) a.length _ (by omega) ?_ ?_
    · intro i hi
      simp only [step28_0, ltI_eq, idxOk_eq, nblt_eq, cond_dec, Int.toNat_natCast, fillTo_length _ (Nat.le_of_lt hi)]
      rw [if_pos (by omega), if_pos (by omega), if_pos (by omega), if_pos (by omega), if_pos (by omega), wrap64s i (by omega)]
      rw [fillTo_set (fun i => wrapF .i64 (a.getD i 0 - b.getD i 0)) hi]
    · simp only [step28_0, ltI_eq, cond_dec]
      rw [if_neg (by omega), fillTo_all]; rfl
  unfold f28; dsimp only
  simp only [ltI_eq, not_dec, cond_dec, Int.toNat_natCast]
  rw [if_pos (by omega), if_pos (by omega), if_pos (by omega), hloop, askO_s]
theorem f34_eq {a b : List Int} (k : Int) (h1 : a.length ≤ b.length) (h2 : a.length ≤ 1048576) : f34 (a, b, k, ()) = some (plusL a b k, ()) := by
  have hloop : loop34_0 (a, b, k, List.replicate a.length 0, (a.length : Int), 0, ()) = some (plusL a b k, ()) := by
    rw [← fillTo_zero (fun i => wrapF .i64 (a.getD i 0 + wrapF .i64 (k * b.getD i 0)))]
    refine loopN_all (N := 2 ^ 64) (step := step34_0) (fun i => (a, b, k, fillTo (fun i => wrapF .i64 (a.getD i 0 + wrapF .i64 (k * b.getD i 0))) a.length i, (a.length : Int), (i : Int), ())) a.length _ (by omega) ?_ ?_
    · intro i hi
      simp only [step34_0, ltI_eq, idxOk_eq, nblt_eq, cond_dec, Int.toNat_natCast, fillTo_length _ (Nat.le_of_lt hi)]
      rw [if_pos (by omega), if_pos (by omega), if_pos (by omega), if_pos (by omega), if_pos (by omega), wrap64s i (by omega)]
      rw [fillTo_set (fun i => wrapF .i64 (a.getD i 0 + wrapF .i64 (k * b.getD i 0))) hi]
    · simp only [step34_0, ltI_eq, cond_dec]
      rw [if_neg (by omega), fillTo_all]; rfl
  unfold f34; dsimp only
  simp only [ltI_eq, not_dec, cond_dec, Int.toNat_natCast]
  rw [if_pos (by omega), if_pos (by omega), if_pos (by omega), hloop, askO_s]
/-- The row turned round. -/
def neg (r : List Int) : List Int := minusL (List.replicate r.length 0) r
theorem neg_length (r : List Int) : (neg r).length = r.length := by unfold neg; rw [minusL_length, List.length_replicate]
theorem plus_neg (r : List Int) : plusL (List.replicate r.length 0) r (-1) = neg r := by
  unfold plusL neg minusL
  refine List.map_congr_left fun i hi => ?_
  have hi := List.mem_range.1 hi
  rw [List.length_replicate] at hi
  have h0 : (List.replicate r.length (0 : Int)).getD i 0 = 0 := by
    rw [List.getD_eq_getElem?_getD, List.getElem?_replicate_of_lt hi]; rfl
  rw [h0, Int.zero_add, wr_wr, show (-1 : Int) * r.getD i 0 = 0 - r.getD i 0 by omega]
/-- Only zeros. -/
def isZ (r : List Int) : Bool := decide (∀ i, i < r.length → r.getD i 0 = 0)
theorem isZ_find (r : List Int) : isZ r = ((List.range r.length).find? fun i => decide (¬ r.getD i 0 = 0)).isNone := by
  unfold isZ
  cases h : (List.range r.length).find? fun i => decide (¬ r.getD i 0 = 0) with
  | none =>
    refine decide_eq_true fun i hi => ?_
    have := List.find?_eq_none.1 h i (List.mem_range.2 hi)
    simpa using this
  | some j =>
    refine decide_eq_false fun hall => ?_
    have h1 := List.find?_some h
    have h2 := List.mem_range.1 (List.mem_of_find?_eq_some h)
    have := hall j h2
    simp only [decide_eq_true_eq] at h1
    exact h1 this
theorem f40_eq {r : List Int} (h : r.length ≤ 1048576) : f40 (r, ()) = some (isZ r, ()) := by
  have hloop : loop40_0 (r, 0, ()) = some ((((List.range r.length).find? fun i => decide (¬ r.getD i 0 = 0)).map fun i => .inl (false, ())).getD (.inr ())) := by
    rw [← findSome_if]
    refine loopN_find (N := 2 ^ 64) (step := step40_0) (fun i => (r, (i : Int), ())) (fun i => if ¬ r.getD i 0 = 0 then some (.inl (false, ())) else none) r.length (.inr ()) (by omega) ?_ ?_
    · intro i hi
      simp only [step40_0, ltI_eq, eqI_eq, idxOk_eq, not_dec, cond_dec, Int.toNat_natCast]
      rw [if_pos (by omega), if_pos (by omega), wrap64s i (by omega)]
      by_cases h : ¬ r.getD i 0 = 0
      · rw [if_pos h, if_pos h]
      · rw [if_neg h, if_neg h]
    · simp only [step40_0, ltI_eq, cond_dec]
      rw [if_neg (by omega)]
  unfold f40; dsimp only
  rw [hloop, askO_s, isZ_find]
  cases (List.range r.length).find? fun i => decide (¬ r.getD i 0 = 0) <;> rfl
theorem f57_eq (v : Int) : f57 (v, ()) = some (decide (¬ v = 0), ()) := by
  unfold f57; dsimp only
  rw [eqI_eq, not_dec]
theorem f32_eq {r : List Int} (h : r.length ≤ 1048576) : f32 (r, ()) = some (isZ r, ()) := by
  have hloop : loop70s1f57_0 (r, (), (r.length : Int), 0, ()) = some ((((List.range r.length).find? fun i => decide (¬ r.getD i 0 = 0)).map fun i : Nat => .inl ((i : Int), ())).getD (.inr ())) := by
    rw [← findSome_if (fun i => ¬ r.getD i 0 = 0) (fun i : Nat => Sum.inl ((i : Int), ()))]
    refine loopN_find (N := 2 ^ 64) (step := step70s1f57_0) (fun i => (r, (), (r.length : Int), (i : Int), ())) (fun i => if ¬ r.getD i 0 = 0 then some (.inl ((i : Int), ())) else none) r.length (.inr ()) (by omega) ?_ ?_
    · intro i hi
      simp only [step70s1f57_0, ltI_eq, eqI_eq, idxOk_eq, not_dec, cond_dec, Int.toNat_natCast]
      rw [if_pos (by omega), if_pos (by omega), f57_eq, askO_s, wrap64s i (by omega), cond_dec]
      by_cases h : ¬ r.getD i 0 = 0
      · rw [if_pos h, if_pos h]
      · rw [if_neg h, if_neg h]
    · simp only [step70s1f57_0, ltI_eq, cond_dec]
      rw [if_neg (by omega)]
  have h70 : f70s1f57 (r, (), ()) = some ((((List.range r.length).find? fun i => decide (¬ r.getD i 0 = 0)).map fun i : Nat => (i : Int)).getD (-1), ()) := by
    unfold f70s1f57; dsimp only
    rw [hloop, askO_s]
    cases (List.range r.length).find? fun i => decide (¬ r.getD i 0 = 0) <;> rfl
  unfold f32; dsimp only
  unfold f49s1f57; dsimp only
  rw [h70, askO_s, isZ_find]
  cases (List.range r.length).find? fun i => decide (¬ r.getD i 0 = 0) with
  | none => rfl
  | some i =>
    show (askO (some (!(ltI ((i : Nat) : Int) 0), ())) fun y1 => bif y1.1 then some (false, ()) else some (true, ())) = _
    rw [askO_s, not_ltI0]; rfl
/-- closure -/
def closC : List (List Int) → List (List Int) → List (List Int)
  | out, [] => out
  | out, r :: l => closC (if isZ r then out else insC (neg r) (insC r out)) l
/-- Each row that is not zero, and it turned round. -/
def flatN (l : List (List Int)) : List (List Int) := l.flatMap fun r => if isZ r then [] else [r, neg r]
theorem closC_si : ∀ (l : List (List Int)) {out}, SI out → SI (closC out l)
  | [], _, h => h
  | r :: l, out, h => by
    unfold closC
    refine closC_si l ?_
    split
    · exact h
    · exact insC_si _ (insC_si _ h)
theorem closC_mem (z : List Int) : ∀ (l out : List (List Int)), z ∈ closC out l ↔ z ∈ out ∨ z ∈ flatN l
  | [], out => by simp [closC, flatN]
  | r :: l, out => by
    unfold closC
    rw [closC_mem z l]
    simp only [flatN, List.flatMap_cons, List.mem_append]
    by_cases h : isZ r
    · rw [if_pos h, if_pos h]; simp
    · rw [if_neg h, if_neg h, insC_mem, insC_mem]
      simp only [List.mem_cons, List.not_mem_nil, or_false]
      constructor
      · rintro ((h | h | h) | h)
        · exact .inr (.inl (.inr h))
        · exact .inr (.inl (.inl h))
        · exact .inl h
        · exact .inr (.inr h)
      · rintro (h | (h | h) | h)
        · exact .inl (.inr (.inr h))
        · exact .inl (.inr (.inl h))
        · exact .inl (.inl h)
        · exact .inr h
theorem closC_length : ∀ (l out : List (List Int)), (closC out l).length ≤ out.length + 2 * l.length
  | [], out => by simp [closC]
  | r :: l, out => by
    unfold closC
    have := closC_length l (if isZ r then out else insC (neg r) (insC r out))
    have h2 : (if isZ r then out else insC (neg r) (insC r out)).length ≤ out.length + 2 := by
      split
      · omega
      · have a := insC_length (neg r) (insC r out)
        have b := insC_length r out
        omega
    simp only [List.length_cons]; omega
theorem closC_take {l : List (List Int)} (out : List (List Int)) {i : Nat} (h : i < l.length) : closC out (l.take (i + 1)) = (if isZ (l.getD i []) then closC out (l.take i) else insC (neg (l.getD i [])) (insC (l.getD i []) (closC out (l.take i)))) := by
  have hs : ∀ (a b : List (List Int)) (out : List (List Int)), closC out (a ++ b) = closC (closC out a) b := by
    intro a
    induction a with
    | nil => intro b out; rfl
    | cons r a ih => intro b out; simp only [List.cons_append, closC]; exact ih b _
  rw [List.take_add_one, hs, List.getElem?_eq_getElem h, show l.getD i [] = l[i] by rw [List.getD_eq_getElem?_getD, List.getElem?_eq_getElem h]; rfl]
  rfl
end Go.PM

/- Chapter 40, plain law: the checks; Close and closed agree with the closure; ConsonanceCloses' functions. -/
set_option linter.unusedSimpArgs false
set_option linter.unusedVariables false
namespace Go.PM
open Go Go.RowKit Go.Proofs
set_option maxRecDepth 100000

/-- Rows of so many elements at most. -/
def Rws (n : Nat) (l : List (List Int)) : Prop := ∀ y ∈ l, y.length ≤ n
theorem flatN_rws {n : Nat} {l : List (List Int)} (h : Rws n l) : Rws n (flatN l) := by
  intro y hy
  obtain ⟨r, hr, hy⟩ := List.mem_flatMap.1 hy
  split at hy
  · cases hy
  · rcases List.mem_cons.1 hy with rfl | hy
    · exact h _ hr
    · rw [List.mem_singleton.1 hy, neg_length]; exact h _ hr
theorem closC_rws {n : Nat} {l out : List (List Int)} (h : Rws n l) (ho : Rws n out) : Rws n (closC out l) := by
  intro y hy
  rcases (closC_mem y l out).1 hy with hy | hy
  · exact ho y hy
  · exact flatN_rws h y hy
theorem rws_take {n : Nat} {l : List (List Int)} (h : Rws n l) (i : Nat) : Rws n (l.take i) := fun y hy => h y (List.mem_of_mem_take hy)
theorem f15_eq {l : List (List Int)} (h1 : l.length ≤ 1000) (h2 : Rws 1000 l) : f15 (l, ()) = some (closC [] l, ()) := by
  have hloop : loop15_0 (l, [], 0, ()) = some (closC [] l, ()) := by
    refine loopN_all (N := 2 ^ 64) (step := step15_0) (fun i => (l, closC [] (l.take i), (i : Int), ())) l.length (closC [] l, ()) (by omega) ?_ ?_
    · intro i hi
      have hr := h2 _ (getDL_mem hi)
      have hc := closC_length (l.take i) []
      have hct := closC_rws (rws_take h2 i) (n := 1000) (out := []) (fun y hy => by cases hy)
      have hti : (l.take i).length ≤ 1000 := by rw [List.length_take]; omega
      simp only [List.length_nil, Nat.zero_add] at hc
      rw [closC_take [] hi]
      simp only [step15_0, ltI_eq, idxOk_eq, not_dec, nble_eq, cond_dec, Int.toNat_natCast]
      rw [if_pos (by omega), if_pos (by omega), f40_eq (by omega), askO_s, wrap64s i (by omega)]
      cases hz : isZ (l.getD i []) with
      | true => simp only [cond_true, if_true]
      | false =>
        simp only [cond_false]
        have e1 := f27_eq (l := closC [] (l.take i)) (x := l.getD i []) (by omega) (fun y hy => Nat.le_trans (hct y hy) (by omega)) (by omega)
        have e2 := f28_eq (a := List.replicate (l.getD i []).length 0) (b := l.getD i []) (by rw [List.length_replicate]; omega) (by rw [List.length_replicate]; omega)
        have e3 := f27_eq (l := insC (l.getD i []) (closC [] (l.take i))) (x := neg (l.getD i [])) (by have := insC_length (l.getD i []) (closC [] (l.take i)); omega) (fun y hy => by
          rcases (insC_mem _ y _).1 hy with rfl | hy
          · omega
          · exact Nat.le_trans (hct y hy) (by omega)) (by rw [neg_length]; omega)
        rw [if_pos (by omega), if_pos (by omega), e1, askO_s, if_pos (by omega), if_pos (by omega), if_pos (by omega), if_pos (by omega), if_pos (by omega), e2, askO_s]
        change (askO (f27 (insC (l.getD i []) (closC [] (l.take i)), neg (l.getD i []), ())) _) = _
        rw [e3, askO_s]; rfl
    · simp only [step15_0, ltI_eq, cond_dec]
      rw [if_neg (by omega), List.take_length]
  unfold f15; dsimp only
  rw [hloop, askO_s]
theorem f51_eq (v : Int) : f51 (v, ()) = some (decide (-1000000000 ≤ v ∧ v ≤ 1000000000), ()) := by
  unfold f51; dsimp only
  simp only [ltI_eq, not_dec, cond_dec]
  by_cases h : ¬ v < -1000000000
  · rw [if_pos h]
    by_cases h2 : v ≤ 1000000000
    · rw [decide_eq_true (show -1000000000 ≤ v ∧ v ≤ 1000000000 by omega), decide_eq_true (show ¬ 1000000000 < v by omega)]
    · rw [decide_eq_false (show ¬ (-1000000000 ≤ v ∧ v ≤ 1000000000) by omega), decide_eq_false (show ¬ ¬ 1000000000 < v by omega)]
  · rw [if_neg h, decide_eq_false (by omega)]
/-- An element that row.Check takes. -/
def okE (v : Int) : Prop := -1000000000 ≤ v ∧ v ≤ 1000000000
instance (v : Int) : Decidable (okE v) := by unfold okE; infer_instance
theorem f50_eq (v : Int) : f50 (v, ()) = some (decide (¬ okE v), ()) := by
  unfold f50; dsimp only
  rw [f51_eq, askO_s]
  by_cases h : okE v
  · rw [decide_eq_false (not_not_intro h)]
    unfold okE at h
    rw [decide_eq_true h]; rfl
  · rw [decide_eq_true h]
    unfold okE at h
    rw [decide_eq_false h]; rfl
/-- row.Check -/
def rc (r : List Int) : Int := if 64 < r.length then 4 else if (∀ i, i < r.length → okE (r.getD i 0)) then 0 else 4
theorem f29_eq {r : List Int} (h : r.length ≤ 1048576) : f29 (r, ()) = some (rc r, ()) := by
  have hloop : loop70s1f50_0 (r, (), (r.length : Int), 0, ()) = some ((((List.range r.length).find? fun i => decide (¬ okE (r.getD i 0))).map fun i : Nat => .inl ((i : Int), ())).getD (.inr ())) := by
    rw [← findSome_if (fun i => ¬ okE (r.getD i 0)) (fun i : Nat => Sum.inl ((i : Int), ()))]
    refine loopN_find (N := 2 ^ 64) (step := step70s1f50_0) (fun i => (r, (), (r.length : Int), (i : Int), ())) (fun i => if ¬ okE (r.getD i 0) then some (.inl ((i : Int), ())) else none) r.length (.inr ()) (by omega) ?_ ?_
    · intro i hi
      simp only [step70s1f50_0, ltI_eq, eqI_eq, idxOk_eq, not_dec, cond_dec, Int.toNat_natCast]
      rw [if_pos (by omega), if_pos (by omega), f50_eq, askO_s, wrap64s i (by omega), cond_dec]
      by_cases h : ¬ okE (r.getD i 0)
      · rw [if_pos h, if_pos h]
      · rw [if_neg h, if_neg h]
    · simp only [step70s1f50_0, ltI_eq, cond_dec]
      rw [if_neg (by omega)]
  have h70 : f70s1f50 (r, (), ()) = some ((((List.range r.length).find? fun i => decide (¬ okE (r.getD i 0))).map fun i : Nat => (i : Int)).getD (-1), ()) := by
    unfold f70s1f50; dsimp only
    rw [hloop, askO_s]
    cases (List.range r.length).find? fun i => decide (¬ okE (r.getD i 0)) <;> rfl
  unfold f29 rc; dsimp only
  simp only [ltI_eq, cond_dec]
  by_cases h64 : 64 < r.length
  · rw [if_pos h64, if_pos (by omega)]
  · rw [if_neg h64, if_neg (by omega)]
    unfold f49s1f50; dsimp only
    rw [h70, askO_s]
    cases hf : (List.range r.length).find? fun i => decide (¬ okE (r.getD i 0)) with
    | none =>
      rw [if_pos (fun i hi => by
        have := List.find?_eq_none.1 hf i (List.mem_range.2 hi)
        simpa using this)]
      rfl
    | some i =>
      rw [if_neg (fun hall => by
        have h1 := List.find?_some hf
        have h2 := List.mem_range.1 (List.mem_of_find?_eq_some hf)
        simp only [decide_eq_true_eq] at h1
        exact h1 (hall i h2))]
      show (askO (some (!(ltI ((i : Nat) : Int) 0), ())) fun y1 => bif y1.1 then some (4, ()) else some (0, ())) = _
      rw [askO_s, not_ltI0]; rfl
/-- What a row's check says, by its place. -/
def stopC (n : Int) (l : List (List Int)) (i : Nat) : Option Int := if ¬ rc (l.getD i []) = 0 then some (rc (l.getD i [])) else if ¬ ((l.getD i []).length : Int) = n then some 5 else none
/-- The check of rows with so many columns. -/
def errC (n : Int) (l : List (List Int)) : Int := if n < 0 ∨ 12 < n then 3 else ((List.range l.length).findSome? (stopC n l)).getD 0
theorem f56_eq {n : Int} {l : List (List Int)} (h1 : l.length ≤ 1048576) (h2 : Rws 1048576 l) : f56 (l, n, ()) = some (((List.range l.length).findSome? (stopC n l)).getD 0, ()) := by
  have hloop : loop56_0 (n, l, (l.length : Int), 0, ()) = some (((List.range l.length).findSome? fun i => (stopC n l i).map fun e => .inl (e, ())).getD (.inr ())) := by
    refine loopN_find (N := 2 ^ 64) (step := step56_0) (fun i => (n, l, (l.length : Int), (i : Int), ())) (fun i => (stopC n l i).map fun e => .inl (e, ())) l.length (.inr ()) (by omega) ?_ ?_
    · intro i hi
      simp only [step56_0, ltI_eq, eqI_eq, idxOk_eq, not_dec, cond_dec, Int.toNat_natCast]
      rw [if_pos (by omega), if_pos (by omega), f29_eq (h2 _ (getDL_mem hi)), askO_s, wrap64s i (by omega)]
      unfold stopC
      by_cases h : ¬ rc (l.getD i []) = 0
      · rw [if_pos h, if_pos h]; rfl
      · rw [if_neg h, if_neg h]
        by_cases h3 : ¬ ((l.getD i []).length : Int) = n
        · rw [if_pos h3, if_pos h3]; rfl
        · rw [if_neg h3, if_neg h3]; rfl
    · simp only [step56_0, ltI_eq, cond_dec]
      rw [if_neg (by omega)]
  unfold f56; dsimp only
  rw [hloop, askO_s, findSome_map]
  cases (List.range l.length).findSome? (stopC n l) <;> rfl
theorem f31_eq {n : Int} {l : List (List Int)} (h1 : l.length ≤ 1048576) (h2 : Rws 1048576 l) : f31 (n, l, ()) = some (errC n l, ()) := by
  unfold f31 errC; dsimp only
  simp only [ltI_eq, cond_dec]
  by_cases h : n < 0
  · rw [if_pos h, if_pos (.inl h)]
  · rw [if_neg h]
    by_cases h3 : 12 < n
    · rw [if_pos h3, if_pos (.inr h3)]
    · rw [if_neg h3, if_neg (by omega), f56_eq h1 h2, askO_s]
theorem f26_eq {n : Int} {l : List (List Int)} (h1 : l.length ≤ 1048576) (h2 : Rws 1048576 l) : f26 (n, l, ()) = some (errC n l, ()) := by
  have hloop : loop26_0 (n, l, 0, ()) = some (((List.range l.length).findSome? fun i => (stopC n l i).map fun e => .inl (e, ())).getD (.inr ())) := by
    refine loopN_find (N := 2 ^ 64) (step := step26_0) (fun i => (n, l, (i : Int), ())) (fun i => (stopC n l i).map fun e => .inl (e, ())) l.length (.inr ()) (by omega) ?_ ?_
    · intro i hi
      simp only [step26_0, ltI_eq, eqI_eq, idxOk_eq, not_dec, cond_dec, Int.toNat_natCast]
      rw [if_pos (by omega), if_pos (by omega), f29_eq (h2 _ (getDL_mem hi)), askO_s, wrap64s i (by omega)]
      unfold stopC
      by_cases h : ¬ rc (l.getD i []) = 0
      · rw [if_pos h, if_pos h]; rfl
      · rw [if_neg h, if_neg h, if_pos (by omega)]
        by_cases h3 : ¬ ((l.getD i []).length : Int) = n
        · rw [if_pos h3, if_pos h3]; rfl
        · rw [if_neg h3, if_neg h3]; rfl
    · simp only [step26_0, ltI_eq, cond_dec]
      rw [if_neg (by omega)]
  unfold f26 errC; dsimp only
  simp only [ltI_eq, cond_dec]
  by_cases h : n < 0
  · rw [if_pos h, if_pos (.inl h)]
  · rw [if_neg h]
    by_cases h3 : 12 < n
    · rw [if_pos h3, if_pos (.inr h3)]
    · rw [if_neg h3, if_neg (by omega), hloop, askO_s, findSome_map]
      cases (List.range l.length).findSome? (stopC n l) <;> rfl
theorem rc_cases (r : List Int) : rc r = 0 ∨ rc r = 4 := by
  unfold rc
  split
  · exact .inr rfl
  · split
    · exact .inl rfl
    · exact .inr rfl
/-- Rows that are well. -/
theorem errC_good {n : Int} {l : List (List Int)} (h : errC n l = 0) : 0 ≤ n ∧ n ≤ 12 ∧ ∀ y ∈ l, rc y = 0 ∧ (y.length : Int) = n := by
  unfold errC at h
  split at h
  · cases h
  · refine ⟨by omega, by omega, fun y hy => ?_⟩
    obtain ⟨i, hi, rfl⟩ := List.getElem_of_mem hy
    have hg : l.getD i [] = l[i] := by rw [List.getD_eq_getElem?_getD, List.getElem?_eq_getElem hi]; rfl
    cases hf : (List.range l.length).findSome? (stopC n l) with
    | none =>
      have := List.findSome?_eq_none_iff.1 hf i (List.mem_range.2 hi)
      unfold stopC at this
      rw [hg] at this
      split at this
      · cases this
      · rename_i h1
        split at this
        · cases this
        · rename_i h2
          exact ⟨Decidable.not_not.1 h1, Decidable.not_not.1 h2⟩
    | some e =>
      rw [hf] at h
      obtain ⟨j, -, hj⟩ := List.exists_of_findSome?_eq_some hf
      change e = 0 at h
      subst h
      unfold stopC at hj
      split at hj
      · rename_i h1
        exact (h1 (Option.some.inj hj)).elim
      · split at hj
        · cases hj
        · cases hj
end Go.PM

/- Chapter 40, ConsonanceCloses: its function (printed) and its law. -/
set_option linter.unusedSimpArgs false
set_option linter.unusedVariables false
namespace Go.PM
open Go Go.RowKit Go.Proofs
set_option maxRecDepth 100000
set_option maxHeartbeats 4000000

/-! schisma/schismalaw40.ConsonanceCloses -/
def f3 (x : denK [.int .i64, .list (.list (.int .i64))]) : Option (denK [.bool]) := match x with
  | (v0, v1, ()) =>
    askO (f10 (())) fun y1 =>
    bif y1.1 then
      askO (f11 (v1, ())) fun y2 =>
      bif y2.1 then
        askO (f12 (v0, v1, ())) fun y3 =>
        askO (f13 (v0, v1, ())) fun y4 =>
        bif !(eqI y4.1 0) then
          bif eqI (y3.1.length : Int) 0 then
            some (eqI y3.2.1 y4.1, ())
          else some (false, ())
        else askO (f15 (v1, ())) fun y5 =>
        askO (f14 (y3.1, y5.1, ())) fun y6 =>
        bif y6.1 then
          some (eqI y3.2.1 0, ())
        else some (false, ())
      else askO (f10 (())) fun y7 =>
      some (y7.1, ())
    else askO (f10 (())) fun y8 =>
    some (y8.1, ())
noncomputable def c3 : Code := bodyOf Try.f3
abbrev E3 : Env := envOf [e10, e11, e12, e13, e14, e15]
theorem E3_ok : EnvOK Try.prog E3 := env_ok ⟨e10_ok, e11_ok, e12_ok, e13_ok, e14_ok, e15_ok, trivial⟩
def lt3 (id : Nat) : Option LSpec := none
theorem loops3 : loopsOf c3 = [] := by kernel_rfl
theorem body3 : ∀ x, bodyK Try.prog E3 Try.f3 (keepOf Try.f3) lt3 c3 [.int .i64, .list (.list (.int .i64))] [.bool] x = f3 x := by
  rintro ⟨v0, v1, ⟨⟩⟩
  kernel_rfl
theorem fn3 : FnOK Try.prog 3 [.int .i64, .list (.list (.int .i64))] [.bool] f3 := by
  exact fun_ok progOK E3_ok Try.func3 (c := c3) (by kernel_rfl) (keep := keepOf Try.f3) (lt := lt3) (loops_ok loops3 trivial) body3
abbrev e3 : Ent := ⟨3, [.int .i64, .list (.list (.int .i64))], [.bool], f3⟩
theorem e3_ok : Ent.OK Try.prog e3 := fn3
abbrev ltC : List Int → List Int → Bool := fun x y => decide (cmpL x y < 0)
theorem sortFE_eq {l : List (List Int)} (hs : Short l) (h1 : l.length < 4611686018427387904) : sortFE (t := .int .i64) D64 ltC l = some (srtB ltC l) := by
  cases l with
  | nil => rfl
  | cons x r =>
    show sortFO (t := .int .i64) D64 ltC (x :: r) = _
    unfold sortFO
    have : (Nat.blt 0 (x :: r).length && Nat.blt (x :: r).length 4611686018427387904 && (x :: r).all D64) = true := by
      rw [nblt_eq, nblt_eq, decide_eq_true (show 0 < (x :: r).length by simp), decide_eq_true h1, Bool.true_and, Bool.true_and, List.all_eq_true]
      exact fun y hy => Nat.ble_eq_true_of_le (hs.2 y hy)
    have h2 : (bif Nat.blt 0 (x :: r).length && Nat.blt (x :: r).length 4611686018427387904 && (x :: r).all D64 then some (srtB ltC (x :: r)) else none) = some (srtB ltC (x :: r)) := by rw [this]; rfl
    exact h2
theorem srt_short {l : List (List Int)} (hs : Short l) : Short (srtB ltC l) :=
  ⟨by rw [srtB_length]; exact hs.1, fun x hx => hs.2 x ((srtB_perm l).mem_iff.1 hx)⟩
/-- Sorted and compacted, the rows are the closure. -/
theorem close_eq {l : List (List Int)} (h : Rws 1000 l) : Lib.compact (srtB ltC (flatN l)) = closC [] l := by
  refine si_unique (si_compact (srtB_sorted loL _ fun x hx => Nat.ble_eq_true_of_le (Nat.le_trans (flatN_rws h x hx) (by omega)))) (closC_si l (by simp [SI])) fun x => ?_
  rw [cmp_mem, (srtB_perm _).mem_iff, closC_mem]; simp
theorem flatN_length : ∀ l : List (List Int), (flatN l).length ≤ 2 * l.length
  | [] => by simp [flatN]
  | r :: l => by
    have := flatN_length l
    unfold flatN at this ⊢
    rw [List.flatMap_cons, List.length_append, List.length_cons]
    split
    · simp only [List.length_nil]; omega
    · simp only [List.length_cons, List.length_nil]; omega
theorem flatN_take {l : List (List Int)} {i : Nat} (h : i < l.length) : flatN (l.take (i + 1)) = flatN (l.take i) ++ (if isZ (l.getD i []) then [] else [l.getD i [], neg (l.getD i [])]) := by
  unfold flatN
  rw [List.take_add_one, List.flatMap_append, List.getElem?_eq_getElem h, show l.getD i [] = l[i] by rw [List.getD_eq_getElem?_getD, List.getElem?_eq_getElem h]; rfl]
  simp
theorem not_isZ_pos {r : List Int} (h : isZ r = false) : 0 < r.length := by
  rcases Nat.eq_zero_or_pos r.length with h0 | h0
  · unfold isZ at h
    rw [decide_eq_true (fun i hi => by omega)] at h
    cases h
  · exact h0
theorem f33_eq {r : List Int} (h : 0 < r.length) (h2 : r.length ≤ 1048576) : f33 (r, ()) = some (r, ()) := by
  unfold f33; dsimp only
  rw [nblt_eq, nble_eq, decide_eq_true h, decide_eq_true h2]; rfl
theorem loop12_eq {n : Int} {l : List (List Int)} (h1 : l.length ≤ 1000) (h0 : 0 ≤ n ∧ n ≤ 12) (h2 : ∀ y ∈ l, (y.length : Int) = n) : loop12_0 (n, [], l, (l.length : Int), 0, ()) = some (flatN l, ()) := by
  refine loopN_all (N := 2 ^ 64) (step := step12_0) (fun i => (n, flatN (l.take i), l, (l.length : Int), (i : Int), ())) l.length (flatN l, ()) (by omega) ?_ ?_
  · intro i hi
    have hr := h2 _ (getDL_mem hi)
    have hc := flatN_length (l.take i)
    have hti : (l.take i).length ≤ 1000 := by rw [List.length_take]; omega
    rw [flatN_take hi]
    simp only [step12_0, ltI_eq, idxOk_eq, not_dec, nble_eq, cond_dec, Int.toNat_natCast]
    rw [if_pos (by omega), if_pos (by omega), f32_eq (by omega), askO_s, wrap64s i (by omega)]
    cases hz : isZ (l.getD i []) with
    | true => simp only [cond_true, if_true, List.append_nil]
    | false =>
      simp only [cond_false]
      have hn : n.toNat = (l.getD i []).length := by omega
      have e2 := f34_eq (a := List.replicate (l.getD i []).length 0) (b := l.getD i []) (-1) (by rw [List.length_replicate]; omega) (by rw [List.length_replicate]; omega)
      rw [f33_eq (not_isZ_pos hz) (by omega), askO_s, if_pos (by omega), if_pos (by omega), if_pos (by omega), hn, e2, askO_s, plus_neg]
      simp only [List.length_cons, List.length_nil]
      rw [if_pos (by omega), if_pos (by omega)]; rfl
  · simp only [step12_0, ltI_eq, cond_dec]
    rw [if_neg (by omega), List.take_length]
/-- Close -/
theorem f12_eq {n : Int} {l : List (List Int)} (h1 : l.length ≤ 1000) (h2 : Rws 1000 l) : f12 (n, l, ()) = some (if ¬ errC n l = 0 then ([], errC n l, ()) else if 60 < (closC [] l).length then ([], 4, ()) else (closC [] l, 0, ())) := by
  unfold f12; dsimp only
  rw [f31_eq (by omega) (fun y hy => Nat.le_trans (h2 y hy) (by omega)), askO_s]
  simp only [eqI_eq, not_dec, cond_dec]
  by_cases he : errC n l = 0
  · obtain ⟨g1, g2, g3⟩ := errC_good he
    have hfl := flatN_length l
    have hsh : Short (flatN l) := ⟨by omega, fun y hy => Nat.le_trans (flatN_rws h2 y hy) (by omega)⟩
    rw [if_neg (not_not_intro he), if_neg (not_not_intro he), loop12_eq h1 ⟨g1, g2⟩ (fun y hy => (g3 y hy).2), askO_s, sortFE_eq hsh (by omega), askO_s, f37_eq (srt_short hsh), askO_s, close_eq h2]
    simp only [ltI_eq, cond_dec]
    by_cases h60 : 60 < (closC [] l).length
    · rw [if_pos h60, if_pos (by omega)]
    · rw [if_neg h60, if_neg (by omega)]
  · rw [if_pos he, if_pos he]
/-- The error of a closure. -/
def errD (n : Int) (l : List (List Int)) : Int := if ¬ errC n l = 0 then errC n l else if 60 < (closC [] l).length then 4 else 0
theorem f13_eq {n : Int} {l : List (List Int)} (h1 : l.length ≤ 1000) (h2 : Rws 1000 l) : f13 (n, l, ()) = some (errD n l, ()) := by
  unfold f13 errD; dsimp only
  rw [f26_eq (by omega) (fun y hy => Nat.le_trans (h2 y hy) (by omega)), askO_s]
  simp only [eqI_eq, not_dec, cond_dec]
  by_cases he : ¬ errC n l = 0
  · rw [if_pos he, if_pos he]
  · rw [if_neg he, if_neg he, f15_eq h1 h2, askO_s]
    simp only [ltI_eq, cond_dec]
    by_cases h60 : 60 < (closC [] l).length
    · rw [if_pos h60, if_pos (by omega)]
    · rw [if_neg h60, if_neg (by omega)]
theorem f12_errD {n : Int} {l : List (List Int)} (h1 : l.length ≤ 1000) (h2 : Rws 1000 l) : f12 (n, l, ()) = some (if errD n l = 0 then (closC [] l, 0, ()) else ([], errD n l, ())) := by
  rw [f12_eq h1 h2]
  unfold errD
  by_cases he : ¬ errC n l = 0
  · rw [if_pos he, if_pos he, if_neg he]
  · rw [if_neg he, if_neg he]
    by_cases h60 : 60 < (closC [] l).length
    · rw [if_pos h60, if_pos h60]; rfl
    · rw [if_neg h60, if_neg h60]; rfl
/-- Same -/
theorem f39_eq (a b : List Int) (ha : a.length ≤ 9223372036854775806) : f39 (a, b, ()) = some (decide (a = b), ()) := by
  unfold f39; dsimp only
  simp only [eqI_eq, not_dec, cond_dec]
  by_cases hl : a.length = b.length
  · rw [if_neg (by omega)]
    have hloop : loop39_0 (a, b, 0, ()) = some ((((List.range a.length).find? fun i => decide (¬ a.getD i 0 = b.getD i 0)).map fun i : Nat => .inl (false, ())).getD (.inr ())) := by
      rw [← findSome_if (fun i => ¬ a.getD i 0 = b.getD i 0) (fun i : Nat => Sum.inl (false, ()))]
      refine loopN_find (N := 2 ^ 64) (step := step39_0) (fun i => (a, b, (i : Int), ())) (fun i => if ¬ a.getD i 0 = b.getD i 0 then some (.inl (false, ())) else none) a.length (.inr ()) (by omega) ?_ ?_
      · intro i hi
        simp only [step39_0, ltI_eq, eqI_eq, idxOk_eq, cond_dec, not_dec, Int.toNat_natCast]
        rw [if_pos (by omega), if_pos (by omega), if_pos (by omega), wrap64s i (by omega)]
        by_cases h : ¬ a.getD i 0 = b.getD i 0
        · rw [if_pos h, if_pos h]
        · rw [if_neg h, if_neg h]
      · simp only [step39_0, ltI_eq, cond_dec]
        rw [if_neg (by omega)]
    have h61 := f61_eq a b ha
    rw [hloop, askO_s]
    cases hf : (List.range a.length).find? fun i => decide (¬ a.getD i 0 = b.getD i 0) with
    | none =>
      have : a = b := by
        apply List.ext_getElem hl
        intro i g1 g2
        have := List.find?_eq_none.1 hf i (List.mem_range.2 g1)
        simp only [decide_eq_true_eq, Decidable.not_not] at this
        rw [List.getD_eq_getElem?_getD, List.getD_eq_getElem?_getD, List.getElem?_eq_getElem g1, List.getElem?_eq_getElem g2] at this
        exact this
      rw [decide_eq_true this]; rfl
    | some j =>
      have h1 := List.find?_some hf
      simp only [decide_eq_true_eq] at h1
      rw [decide_eq_false (fun h => h1 (by rw [h]))]; rfl
  · rw [if_pos (by omega), decide_eq_false (fun h => hl (by rw [h]))]
/-- rows -/
theorem f14_eq (a b : List (List Int)) (ha : a.length ≤ 9223372036854775806) (hs : Rws 9223372036854775806 a) : f14 (a, b, ()) = some (decide (a = b), ()) := by
  unfold f14; dsimp only
  simp only [eqI_eq, not_dec, cond_dec]
  by_cases hl : a.length = b.length
  · rw [if_neg (by omega)]
    have hloop : loop14_0 (a, b, 0, ()) = some ((((List.range a.length).find? fun i => decide (¬ a.getD i [] = b.getD i [])).map fun i : Nat => .inl (false, ())).getD (.inr ())) := by
      rw [← findSome_if (fun i => ¬ a.getD i [] = b.getD i []) (fun i : Nat => Sum.inl (false, ()))]
      refine loopN_find (N := 2 ^ 64) (step := step14_0) (fun i => (a, b, (i : Int), ())) (fun i => if ¬ a.getD i [] = b.getD i [] then some (.inl (false, ())) else none) a.length (.inr ()) (by omega) ?_ ?_
      · intro i hi
        simp only [step14_0, ltI_eq, eqI_eq, idxOk_eq, cond_dec, not_dec, Int.toNat_natCast]
        rw [if_pos (by omega), if_pos (by omega), if_pos (by omega), f39_eq _ _ (hs _ (getDL_mem hi)), askO_s, wrap64s i (by omega), cond_dec]
        by_cases h : a.getD i [] = b.getD i []
        · rw [if_pos h, if_neg (not_not_intro h)]
        · rw [if_neg h, if_pos h]
      · simp only [step14_0, ltI_eq, cond_dec]
        rw [if_neg (by omega)]
    rw [hloop, askO_s]
    cases hf : (List.range a.length).find? fun i => decide (¬ a.getD i [] = b.getD i []) with
    | none =>
      have : a = b := by
        apply List.ext_getElem hl
        intro i g1 g2
        have := List.find?_eq_none.1 hf i (List.mem_range.2 g1)
        simp only [decide_eq_true_eq, Decidable.not_not] at this
        rw [List.getD_eq_getElem?_getD, List.getD_eq_getElem?_getD, List.getElem?_eq_getElem g1, List.getElem?_eq_getElem g2] at this
        exact this
      rw [decide_eq_true this]; rfl
    | some j =>
      have h1 := List.find?_some hf
      simp only [decide_eq_true_eq] at h1
      rw [decide_eq_false (fun h => h1 (by rw [h]))]; rfl
  · rw [if_pos (by omega), decide_eq_false (fun h => hl (by rw [h]))]
/-- few -/
theorem f11_eq {l : List (List Int)} (h : l.length ≤ 9223372036854775807) : ∃ b, f11 (l, ()) = some (b, ()) ∧ (b = true → l.length ≤ 40 ∧ Rws 14 l) := by
  have hloop : loop11_0 (l, 0, ()) = some ((((List.range l.length).find? fun i => decide (14 < (l.getD i []).length)).map fun i : Nat => .inl (false, ())).getD (.inr (l, ()))) := by
    rw [← findSome_if (fun i => 14 < (l.getD i []).length) (fun i : Nat => Sum.inl (false, ()))]
    refine loopN_find (N := 2 ^ 64) (step := step11_0) (fun i => (l, (i : Int), ())) (fun i => if 14 < (l.getD i []).length then some (.inl (false, ())) else none) l.length (.inr (l, ())) (by omega) ?_ ?_
    · intro i hi
      simp only [step11_0, ltI_eq, idxOk_eq, cond_dec, Int.toNat_natCast]
      rw [if_pos (by omega), if_pos (by omega), wrap64s i (by omega)]
      by_cases h : 14 < (l.getD i []).length
      · rw [if_pos h, if_pos (by omega)]
      · rw [if_neg h, if_neg (by omega)]
    · simp only [step11_0, ltI_eq, cond_dec]
      rw [if_neg (by omega)]
  unfold f11; dsimp only
  rw [hloop, askO_s]
  cases hf : (List.range l.length).find? fun i => decide (14 < (l.getD i []).length) with
  | some j => exact ⟨false, rfl, fun h => by cases h⟩
  | none =>
    refine ⟨!(ltI 40 (l.length : Int)), rfl, fun hb => ⟨?_, ?_⟩⟩
    · rw [ltI_eq, not_dec, decide_eq_true_eq] at hb; omega
    · intro y hy
      obtain ⟨i, hi, rfl⟩ := List.getElem_of_mem hy
      have := List.find?_eq_none.1 hf i (List.mem_range.2 hi)
      rw [List.getD_eq_getElem?_getD, List.getElem?_eq_getElem hi] at this
      simp only [decide_eq_true_eq, Option.getD_some] at this
      omega
theorem f10_eq (x : denK []) : f10 x = some (true, ()) := rfl
theorem f3_true (n : Int) {l : List (List Int)} (h : l.length ≤ 9223372036854775807) : f3 (n, l, ()) = some (true, ()) := by
  obtain ⟨b, hb, hfew⟩ := f11_eq h
  unfold f3; dsimp only
  rw [f10_eq, askO_s, hb, askO_s]
  cases b with
  | false => rfl
  | true =>
    obtain ⟨h1, h2⟩ := hfew rfl
    have h2 : Rws 1000 l := fun y hy => Nat.le_trans (h2 y hy) (by omega)
    simp only [cond_true]
    rw [f12_errD (by omega) h2, askO_s, f13_eq (by omega) h2, askO_s]
    simp only [eqI_eq, not_dec, cond_dec]
    by_cases he : errD n l = 0
    · have hlen := closC_length l []
      simp only [List.length_nil, Nat.zero_add] at hlen
      rw [if_neg (not_not_intro he), f15_eq (by omega) h2, askO_s, if_pos he, f14_eq _ _ (by omega) (fun y hy => Nat.le_trans (closC_rws h2 (fun y hy => by cases hy) y hy) (by omega)), askO_s]
      simp
    · rw [if_pos he, if_neg he]
      simp
end Go.PM

/- Chapter 40, ConsonanceChords: its function (printed) and its law. -/
set_option linter.unusedSimpArgs false
set_option linter.unusedVariables false
namespace Go.PM
open Go Go.RowKit Go.Proofs
set_option maxRecDepth 100000
set_option maxHeartbeats 4000000

/-! schisma/schismalaw40.ConsonanceChords -/
abbrev sh6_0 : List (Nat × Kd) := [(1, .list (.list (.int .i64))), (8, .bool), (9, .int .i64), (11, .list (.list (.int .i64))), (12, .bool), (13, .int .i64)]
abbrev ex6_0 : List (Ex × List (Nat × Kd)) := [(.exit 0, [(8, .bool), (9, .int .i64), (12, .bool)])]
def step6_0 (x : Shape.den sh6_0) : Option (Shape.den sh6_0 ⊕ exDen ex6_0) := match x with
  | (v1, v8, v9, v11, v12, v13, ()) =>
    bif ltI v13 (v1.length : Int) then
      bif v12 then
        bif !(ltI v13 0) then bif Nat.ble 0 v13.toNat then bif Nat.ble v13.toNat v1.length then bif idxOk v13 v1.length then askO (f21 (v11, ((v1.drop 0).take (v13.toNat - 0)), (v1.getD v13.toNat []), ())) fun y10 =>
        some (.inl (v1, v8, v9, v11, y10.1, (wrapF .i64 (v13 + 1)), ())) else none else none else none else none
      else some (.inl (v1, v8, v9, v11, false, (wrapF .i64 (v13 + 1)), ()))
    else some (.inr ((v8, v9, v12, ())))
def loop6_0 (x : Shape.den sh6_0) : Option (exDen ex6_0) := loopN step6_0 (2 ^ 64) x
def f6 (x : denK [.int .i64, .list (.list (.int .i64)), .list (.list (.int .i64))]) : Option (denK [.bool]) := match x with
  | (v0, v1, v2, ()) =>
    askO (f10 (())) fun y1 =>
    bif y1.1 then
      askO (f11 (v1, ())) fun y2 =>
      bif y2.1 then
        askO (f11 (v2, ())) fun y3 =>
        bif y3.1 then
          askO (f22 (v0, v1, ())) fun y4 =>
          askO (f23 (v0, v1, ())) fun y5 =>
          bif !(eqI y5.1 y4.1) then
            some (false, ())
          else askO (f24 (v0, v2, v1, ())) fun y6 =>
          askO (f13 (v0, v2, ())) fun y7 =>
          bif eqI y7.1 0 then
            bif !(eqI y4.1 0) then
              bif y6.1 then
                some (false, ())
              else some (eqI y6.2.1 y4.1, ())
            else askO (f15 (v2, ())) fun y8 =>
            askO (loop6_0 (v1, y6.1, y6.2.1, y8.1, true, 0, ())) fun z11 =>
            bif z11.1 then
              bif z11.2.2.1 then
                some (eqI z11.2.1 0, ())
              else some (false, ())
            else bif z11.2.2.1 then
              some (false, ())
            else some (eqI z11.2.1 0, ())
          else bif !(eqI y7.1 0) then
            bif y6.1 then
              some (false, ())
            else some (eqI y6.2.1 y7.1, ())
          else askO (f15 (v2, ())) fun y12 =>
          askO (loop6_0 (v1, y6.1, y6.2.1, y12.1, true, 0, ())) fun z13 =>
          bif z13.1 then
            bif z13.2.2.1 then
              some (eqI z13.2.1 0, ())
            else some (false, ())
          else bif z13.2.2.1 then
            some (false, ())
          else some (eqI z13.2.1 0, ())
        else askO (f10 (())) fun y14 =>
        some (y14.1, ())
      else askO (f10 (())) fun y15 =>
      some (y15.1, ())
    else askO (f10 (())) fun y16 =>
    some (y16.1, ())
noncomputable def c6 : Code := bodyOf Try.f6
abbrev E6 : Env := envOf [e10, e11, e13, e15, e21, e22, e23, e24]
theorem E6_ok : EnvOK Try.prog E6 := env_ok ⟨e10_ok, e11_ok, e13_ok, e15_ok, e21_ok, e22_ok, e23_ok, e24_ok, trivial⟩
noncomputable def a6_0 : Code := loopAt c6 0
def lt6 (id : Nat) : Option LSpec := bif Nat.beq id 15 then some ⟨sh6_0, ex6_0, loop6_0⟩ else none
theorem round6_0 : ∀ x, roundK Try.prog E6 84 (keepOf Try.f6) lt6 a6_0 sh6_0 ex6_0 x = step6_0 x := by
  rintro ⟨v1, v8, v9, v11, v12, v13, ⟨⟩⟩
  kernel_rfl
theorem in6_0 : loopsOf a6_0 = [] := by kernel_rfl
theorem first6_0 : firstRegion a6_0 = 15 := by kernel_rfl
theorem spec6_0 : SpecOK Try.prog 84 a6_0 ⟨sh6_0, ex6_0, loop6_0⟩ := by
  exact loop_ok E6_ok.callee progOK.mixed _ (loops_ok in6_0 trivial) round6_0
theorem loops6 : loopsOf c6 = [a6_0] := by kernel_rfl
theorem body6 : ∀ x, bodyK Try.prog E6 Try.f6 (keepOf Try.f6) lt6 c6 [.int .i64, .list (.list (.int .i64)), .list (.list (.int .i64))] [.bool] x = f6 x := by
  rintro ⟨v0, v1, v2, ⟨⟩⟩
  kernel_rfl
theorem fn6 : FnOK Try.prog 6 [.int .i64, .list (.list (.int .i64)), .list (.list (.int .i64))] [.bool] f6 := by
  exact fun_ok progOK E6_ok Try.func6 (c := c6) (by kernel_rfl) (keep := keepOf Try.f6) (lt := lt6) (loops_ok loops6 ⟨spec_of first6_0 rfl spec6_0, trivial⟩) body6
abbrev e6 : Ent := ⟨6, [.int .i64, .list (.list (.int .i64)), .list (.list (.int .i64))], [.bool], f6⟩
theorem e6_ok : Ent.OK Try.prog e6 := fn6
/-- What a note's check says, by its place. -/
def stopD (n : Int) (c : List (List Int)) (i : Nat) : Option Int :=
  if ¬ rc (c.getD i []) = 0 then some (rc (c.getD i [])) else if ¬ ((c.getD i []).length : Int) = n then some 5 else
    if i = 0 then (if isZ (c.getD i []) then none else some 7) else if ¬ cmpL (c.getD (i - 1) []) (c.getD i []) < 0 then some 6 else none
def errH (n : Int) (c : List (List Int)) : Int := if n < 0 ∨ 12 < n then 3 else if c.length = 0 then 13 else if 6 < c.length then 4 else ((List.range c.length).findSome? (stopD n c)).getD 0
theorem f22_eq {n : Int} {c : List (List Int)} (h1 : c.length ≤ 1000) (h2 : Rws 1000 c) : f22 (n, c, ()) = some (errH n c, ()) := by
  have hloop : loop22_0 (n, c, 0, ()) = some (((List.range c.length).findSome? fun i => (stopD n c i).map fun e => .inl (e, ())).getD (.inr ())) := by
    refine loopN_find (N := 2 ^ 64) (step := step22_0) (fun i => (n, c, (i : Int), ())) (fun i => (stopD n c i).map fun e => .inl (e, ())) c.length (.inr ()) (by omega) ?_ ?_
    · intro i hi
      have hr := h2 _ (getDL_mem hi)
      simp only [step22_0, ltI_eq, eqI_eq, idxOk_eq, not_dec, cond_dec, Int.toNat_natCast]
      rw [if_pos (by omega), if_pos (by omega), f29_eq (by omega), askO_s, wrap64s i (by omega)]
      unfold stopD
      by_cases h : ¬ rc (c.getD i []) = 0
      · rw [if_pos h, if_pos h]; rfl
      · rw [if_neg h, if_neg h, if_pos (by omega)]
        by_cases h3 : ¬ ((c.getD i []).length : Int) = n
        · rw [if_pos h3, if_pos h3]; rfl
        · rw [if_neg h3, if_neg h3]
          by_cases h4 : i = 0
          · subst h4
            rw [if_pos (by omega), if_pos rfl, if_pos (by omega), f40_eq (by omega), askO_s]
            cases hz : isZ (c.getD 0 []) with
            | true => rfl
            | false => rfl
          · have w1 : wrapF .i64 ((i : Int) - 1) = ((i - 1 : Nat) : Int) := by rw [wrap64 (by omega) (by omega)]; omega
            have hr' := h2 _ (getDL_mem (l := c) (i := i - 1) (by omega))
            rw [if_neg (show ¬ ((i : Int) = 0) by omega), if_neg h4, if_pos (by omega), w1, Int.toNat_natCast, if_pos (by omega), if_pos (by omega), f36_eq _ _ (by omega) (by omega), askO_s]
            by_cases h5 : ¬ cmpL (c.getD (i - 1) []) (c.getD i []) < 0
            · rw [if_pos h5, if_pos h5]; rfl
            · rw [if_neg h5, if_neg h5]; rfl
    · simp only [step22_0, ltI_eq, cond_dec]
      rw [if_neg (by omega)]
  unfold f22 errH; dsimp only
  simp only [ltI_eq, eqI_eq, cond_dec]
  by_cases h : n < 0
  · rw [if_pos h, if_pos (.inl h)]
  · rw [if_neg h]
    by_cases h3 : 12 < n
    · rw [if_pos h3, if_pos (.inr h3)]
    · rw [if_neg h3, if_neg (show ¬ (n < 0 ∨ 12 < n) by omega)]
      by_cases h4 : c.length = 0
      · rw [if_pos h4, if_pos (by omega)]
      · rw [if_neg h4, if_neg (by omega)]
        by_cases h5 : 6 < c.length
        · rw [if_pos h5, if_pos (by omega)]
        · rw [if_neg h5, if_neg (by omega), hloop, askO_s, findSome_map]
          cases (List.range c.length).findSome? (stopD n c) <;> rfl
theorem f23_eq {n : Int} {c : List (List Int)} (h1 : c.length ≤ 1000) (h2 : Rws 1000 c) : f23 (n, c, ()) = some (errH n c, ()) := by
  have hloop : loop23_0 (n, c, c, (c.length : Int), 0, ()) = some (((List.range c.length).findSome? fun i => (stopD n c i).map fun e => .inl (e, ())).getD (.inr ())) := by
    refine loopN_find (N := 2 ^ 64) (step := step23_0) (fun i => (n, c, c, (c.length : Int), (i : Int), ())) (fun i => (stopD n c i).map fun e => .inl (e, ())) c.length (.inr ()) (by omega) ?_ ?_
    · intro i hi
      have hr := h2 _ (getDL_mem hi)
      simp only [step23_0, ltI_eq, eqI_eq, idxOk_eq, not_dec, cond_dec, Int.toNat_natCast]
      rw [if_pos (by omega), if_pos (by omega), f29_eq (by omega), askO_s, wrap64s i (by omega)]
      unfold stopD
      by_cases h : ¬ rc (c.getD i []) = 0
      · rw [if_pos h, if_pos h]; rfl
      · rw [if_neg h, if_neg h]
        by_cases h3 : ¬ ((c.getD i []).length : Int) = n
        · rw [if_pos h3, if_pos h3]; rfl
        · rw [if_neg h3, if_neg h3]
          by_cases h4 : i = 0
          · subst h4
            rw [if_pos (by omega), if_pos rfl, f32_eq (by omega), askO_s]
            cases hz : isZ (c.getD 0 []) with
            | true => rfl
            | false => rfl
          · have w1 : wrapF .i64 ((i : Int) - 1) = ((i - 1 : Nat) : Int) := by rw [wrap64 (by omega) (by omega)]; omega
            have hr' := h2 _ (getDL_mem (l := c) (i := i - 1) (by omega))
            rw [if_neg (show ¬ ((i : Int) = 0) by omega), if_neg h4, if_pos (by omega), w1, Int.toNat_natCast, if_pos (by omega), f36_eq _ _ (by omega) (by omega), askO_s]
            by_cases h5 : ¬ cmpL (c.getD (i - 1) []) (c.getD i []) < 0
            · rw [if_pos h5, if_pos h5]; rfl
            · rw [if_neg h5, if_neg h5]; rfl
    · simp only [step23_0, ltI_eq, cond_dec]
      rw [if_neg (by omega)]
  unfold f23 errH; dsimp only
  simp only [ltI_eq, eqI_eq, cond_dec]
  by_cases h : n < 0
  · rw [if_pos h, if_pos (.inl h)]
  · rw [if_neg h]
    by_cases h3 : 12 < n
    · rw [if_pos h3, if_pos (.inr h3)]
    · rw [if_neg h3, if_neg (show ¬ (n < 0 ∨ 12 < n) by omega)]
      by_cases h4 : c.length = 0
      · rw [if_pos h4, if_pos (by omega)]
      · rw [if_neg h4, if_neg (by omega)]
        by_cases h5 : 6 < c.length
        · rw [if_pos h5, if_pos (by omega)]
        · rw [if_neg h5, if_neg (by omega), hloop, askO_s, findSome_map]
          cases (List.range c.length).findSome? (stopD n c) <;> rfl
theorem errH_good {n : Int} {c : List (List Int)} (h : errH n c = 0) : 0 ≤ n ∧ n ≤ 12 ∧ 0 < c.length ∧ c.length ≤ 6 ∧ ∀ y ∈ c, (y.length : Int) = n := by
  unfold errH at h
  split at h
  · cases h
  · split at h
    · cases h
    · split at h
      · cases h
      · refine ⟨by omega, by omega, by omega, by omega, fun y hy => ?_⟩
        obtain ⟨i, hi, rfl⟩ := List.getElem_of_mem hy
        have hg : c.getD i [] = c[i] := by rw [List.getD_eq_getElem?_getD, List.getElem?_eq_getElem hi]; rfl
        cases hf : (List.range c.length).findSome? (stopD n c) with
        | none =>
          have := List.findSome?_eq_none_iff.1 hf i (List.mem_range.2 hi)
          unfold stopD at this
          rw [hg] at this
          split at this
          · cases this
          · split at this
            · cases this
            · rename_i h2
              exact Decidable.not_not.1 h2
        | some e =>
          rw [hf] at h
          obtain ⟨j, -, hj⟩ := List.exists_of_findSome?_eq_some hf
          change e = 0 at h
          subst h
          unfold stopD at hj
          split at hj
          · rename_i h1
            exact (h1 (Option.some.inj hj)).elim
          · split at hj
            · cases hj
            · split at hj
              · split at hj <;> cases hj
              · split at hj <;> cases hj
/-- has -/
theorem f46_eq {l : List (List Int)} {x : List Int} (h1 : l.length ≤ 1000) (h2 : Rws 1000 l) : f46 (l, x, ()) = some (decide (x ∈ l), ()) := by
  have hloop : loop46_0 (l, x, 0, ()) = some ((((List.range l.length).find? fun i => decide (l.getD i [] = x)).map fun i : Nat => .inl (true, ())).getD (.inr ())) := by
    rw [← findSome_if (fun i => l.getD i [] = x) (fun i : Nat => Sum.inl (true, ()))]
    refine loopN_find (N := 2 ^ 64) (step := step46_0) (fun i => (l, x, (i : Int), ())) (fun i => if l.getD i [] = x then some (.inl (true, ())) else none) l.length (.inr ()) (by omega) ?_ ?_
    · intro i hi
      have hr := h2 _ (getDL_mem hi)
      simp only [step46_0, ltI_eq, idxOk_eq, cond_dec, Int.toNat_natCast]
      rw [if_pos (by omega), if_pos (by omega), f39_eq _ _ (by omega), askO_s, wrap64s i (by omega), cond_dec]
      by_cases h : l.getD i [] = x
      · rw [if_pos h, if_pos h]
      · rw [if_neg h, if_neg h]
    · simp only [step46_0, ltI_eq, cond_dec]
      rw [if_neg (by omega)]
  unfold f46; dsimp only
  rw [hloop, askO_s]
  cases hf : (List.range l.length).find? fun i => decide (l.getD i [] = x) with
  | none =>
    rw [decide_eq_false]; · rfl
    intro hx
    obtain ⟨i, hi, rfl⟩ := List.getElem_of_mem hx
    have := List.find?_eq_none.1 hf i (List.mem_range.2 hi)
    rw [List.getD_eq_getElem?_getD, List.getElem?_eq_getElem hi] at this
    simp at this
  | some j =>
    have h1 := List.find?_some hf
    have h2 := List.mem_range.1 (List.mem_of_find?_eq_some hf)
    simp only [decide_eq_true_eq] at h1
    rw [decide_eq_true (h1 ▸ getDL_mem h2)]; rfl
theorem mid_eq : ∀ s : Nat, s < 300 → IntKind.wrap .i64 (Int.fdiv (IntKind.wrap .u64 (wrapF .i64 (s : Int))) (2 ^ (min 1 (IntKind.bits .u64)))) = ((s / 2 : Nat) : Int) := by decide +kernel
theorem loop67_eq {l : List (List Int)} {x : List Int} (h1 : l.length ≤ 100) (h2 : Rws 1000 l) (hs : SI l) (hx : x.length ≤ 1000) : ∀ (d i j N : Nat), j - i ≤ d → i ≤ j → j ≤ l.length → d < N → (∀ k, k < i → cmpL (l.getD k []) x < 0) → (∀ k, j ≤ k → k < l.length → ¬ cmpL (l.getD k []) x < 0) →
    ∃ i', i' ≤ l.length ∧ loopN step67s2f36_0 N (l, x, (), (l.length : Int), (i : Int), (j : Int), ()) = some (l, x, (), (l.length : Int), (i' : Int), ()) ∧ (∀ k, k < i' → cmpL (l.getD k []) x < 0) ∧ (∀ k, i' ≤ k → k < l.length → ¬ cmpL (l.getD k []) x < 0)
  | d, i, j, N, hd, hij, hj, hN, ha, hb => by
    obtain ⟨N, rfl⟩ : ∃ m, N = m + 1 := ⟨N - 1, by omega⟩
    by_cases he : i < j
    · obtain ⟨d, rfl⟩ : ∃ e, d = e + 1 := ⟨d - 1, by omega⟩
      have hm : (i + j) / 2 < l.length := by omega
      have hmid := mid_eq (i + j) (by omega)
      have ho : ∀ k k', k < k' → k' < l.length → cmpL (l.getD k []) (l.getD k' []) < 0 := by
        intro k k' hk hk'
        have := List.pairwise_iff_getElem.1 hs k k' (by omega) hk' hk
        rw [List.getD_eq_getElem?_getD, List.getD_eq_getElem?_getD, List.getElem?_eq_getElem (show k < l.length by omega), List.getElem?_eq_getElem hk']
        exact this
      have hst : step67s2f36_0 (l, x, (), (l.length : Int), (i : Int), (j : Int), ()) = if cmpL (l.getD ((i + j) / 2) []) x < 0 then some (.inl (l, x, (), (l.length : Int), (((i + j) / 2 + 1 : Nat) : Int), (j : Int), ())) else some (.inl (l, x, (), (l.length : Int), (i : Int), (((i + j) / 2 : Nat) : Int), ())) := by
        simp only [step67s2f36_0]
        rw [show (i : Int) + (j : Int) = ((i + j : Nat) : Int) by omega, hmid]
        simp only [ltI_eq, idxOk_eq, cond_dec, Int.toNat_natCast]
        rw [if_pos (by omega), if_pos (by omega), f36_eq _ _ (Nat.le_trans (h2 _ (getDL_mem hm)) (by omega)) (by omega), askO_s, wrap64s _ (by omega)]
      rw [loopN_succ, hst]
      by_cases hc : cmpL (l.getD ((i + j) / 2) []) x < 0
      · rw [if_pos hc]
        refine loop67_eq h1 h2 hs hx d _ _ N (by omega) (by omega) hj (by omega) ?_ hb
        intro k hk
        rcases Nat.lt_or_ge k ((i + j) / 2) with h | h
        · exact cmpL_trans (ho k _ h hm) hc
        · rwa [show k = (i + j) / 2 by omega]
      · rw [if_neg hc]
        refine loop67_eq h1 h2 hs hx d _ _ N (by omega) (by omega) (by omega) (by omega) ha ?_
        intro k hk hkl h
        rcases Nat.lt_or_ge ((i + j) / 2) k with h' | h'
        · exact hc (cmpL_trans (ho _ k h' hkl) h)
        · rw [show k = (i + j) / 2 by omega] at h; exact hc h
    · refine ⟨i, by omega, ?_, ha, fun k hk hkl => hb k (by omega) hkl⟩
      rw [loopN_succ]
      simp only [step67s2f36_0, ltI_eq, cond_dec]
      rw [if_neg (by omega)]
theorem f67_eq {l : List (List Int)} {x : List Int} (h1 : l.length ≤ 100) (h2 : Rws 1000 l) (hs : SI l) (hx : x.length ≤ 1000) : ∃ i, f67s2f36 (l, x, (), ()) = some (i, decide (x ∈ l), ()) := by
  obtain ⟨i, hi, hl, ha, hb⟩ := loop67_eq h1 h2 hs hx l.length 0 l.length (2 ^ 64) (by omega) (by omega) (by omega) (by omega) (fun k hk => by omega) (fun k hk hk' => by omega)
  have hl' : loop67s2f36_0 (l, x, (), (l.length : Int), 0, (l.length : Int), ()) = some (l, x, (), (l.length : Int), (i : Int), ()) := hl
  unfold f67s2f36; dsimp only
  rw [hl', askO_s]
  dsimp only
  simp only [ltI_eq, idxOk_eq, eqI_eq, cond_dec, Int.toNat_natCast]
  by_cases hn : i < l.length
  · rw [if_pos (by omega), if_pos (by omega), f36_eq _ _ (Nat.le_trans (h2 _ (getDL_mem hn)) (by omega)) (by omega), askO_s]
    refine ⟨i, ?_⟩
    have : decide (cmpL (l.getD i []) x = 0) = decide (x ∈ l) := by
      by_cases h0 : cmpL (l.getD i []) x = 0
      · rw [decide_eq_true h0, decide_eq_true]
        have := cmpL_eq0 h0
        rw [← this]; exact getDL_mem hn
      · rw [decide_eq_false h0, decide_eq_false]
        intro hm
        obtain ⟨k, hk, rfl⟩ := List.getElem_of_mem hm
        have hg : ∀ k (hk : k < l.length), l.getD k [] = l[k] := fun k hk => by rw [List.getD_eq_getElem?_getD, List.getElem?_eq_getElem hk]; rfl
        rcases Nat.lt_trichotomy k i with h | h | h
        · have := ha k h
          rw [hg k hk, cmpL_refl] at this; omega
        · subst h
          exact h0 (by rw [hg k hk, cmpL_refl])
        · have := List.pairwise_iff_getElem.1 hs i k hn hk h
          exact hb i (Nat.le_refl _) hn (by rw [hg i hn]; exact this)
    dsimp only
    rw [this]
  · rw [if_neg (by omega)]
    refine ⟨i, ?_⟩
    rw [decide_eq_false]
    intro hm
    obtain ⟨k, hk, rfl⟩ := List.getElem_of_mem hm
    have := ha k (by omega)
    rw [List.getD_eq_getElem?_getD, List.getElem?_eq_getElem hk] at this
    change cmpL l[k] l[k] < 0 at this
    rw [cmpL_refl] at this; omega
end Go.PM

/- Chapter 40, plain law: fits; ConsonanceChords' function answers true. -/
set_option linter.unusedSimpArgs false
set_option linter.unusedVariables false
namespace Go.PM
open Go Go.RowKit Go.Proofs
set_option maxRecDepth 100000

theorem wr_sub (a b : Int) : wrapF .i64 (a + wrapF .i64 (-1 * b)) = wrapF .i64 (a - b) := by
  rw [wrapF_eq, wrapF_eq, wrapF_eq, IntKind.wrap_i64, IntKind.wrap_i64, IntKind.wrap_i64]
  omega
theorem plus_minus (a b : List Int) : plusL a b (-1) = minusL a b := by
  unfold plusL minusL
  exact List.map_congr_left fun i _ => wr_sub _ _
/-- A row differs from all notes by rows of the closure. -/
def fitB (cl notes : List (List Int)) (x : List Int) : Bool := ((List.range notes.length).find? fun i => decide (¬ minusL x (notes.getD i []) ∈ cl)).isNone
theorem f66_eq {cl : List (List Int)} {x y : List Int} (h1 : cl.length ≤ 100) (h2 : Rws 1000 cl) (hs : SI cl) (hx : x.length ≤ 1000) (hy : x.length ≤ y.length) : f66s1plli2pli (y, cl, x, ()) = some (decide (¬ minusL x y ∈ cl), ()) := by
  obtain ⟨i, hi⟩ := f67_eq h1 h2 hs (x := minusL x y) (by rw [minusL_length]; omega)
  unfold f66s1plli2pli; dsimp only
  rw [f34_eq (-1) hy (by omega), askO_s, plus_minus]
  dsimp only
  rw [hi, askO_s]
  by_cases h : minusL x y ∈ cl
  · rw [decide_eq_true h, decide_eq_false (not_not_intro h)]; rfl
  · rw [decide_eq_false h, decide_eq_true h]; rfl
theorem f45_eq {cl notes : List (List Int)} {x : List Int} (h1 : cl.length ≤ 100) (h2 : Rws 1000 cl) (hs : SI cl) (hx : x.length ≤ 1000) (hn : notes.length ≤ 1000) (hy : ∀ y ∈ notes, x.length ≤ y.length) : f45 (cl, notes, x, ()) = some (fitB cl notes x, ()) := by
  have hloop : loop65s1c66llili_0 (notes, (cl, x, ()), (notes.length : Int), 0, ()) = some ((((List.range notes.length).find? fun i => decide (¬ minusL x (notes.getD i []) ∈ cl)).map fun i : Nat => .inl ((i : Int), ())).getD (.inr ())) := by
    rw [← findSome_if (fun i => ¬ minusL x (notes.getD i []) ∈ cl) (fun i : Nat => Sum.inl ((i : Int), ()))]
    refine loopN_find (N := 2 ^ 64) (step := step65s1c66llili_0) (fun i => (notes, (cl, x, ()), (notes.length : Int), (i : Int), ())) (fun i => if ¬ minusL x (notes.getD i []) ∈ cl then some (.inl ((i : Int), ())) else none) notes.length (.inr ()) (by omega) ?_ ?_
    · intro i hi
      simp only [step65s1c66llili_0, ltI_eq, idxOk_eq, cond_dec, Int.toNat_natCast]
      rw [if_pos (by omega), if_pos (by omega), f66_eq h1 h2 hs hx (hy _ (getDL_mem hi)), askO_s, wrap64s i (by omega), cond_dec]
      by_cases h : ¬ minusL x (notes.getD i []) ∈ cl
      · rw [if_pos h, if_pos h]
      · rw [if_neg h, if_neg h]
    · simp only [step65s1c66llili_0, ltI_eq, cond_dec]
      rw [if_neg (by omega)]
  have h65 : f65s1c66llili (notes, (cl, x, ()), ()) = some ((((List.range notes.length).find? fun i => decide (¬ minusL x (notes.getD i []) ∈ cl)).map fun i : Nat => (i : Int)).getD (-1), ()) := by
    unfold f65s1c66llili; dsimp only
    rw [hloop, askO_s]
    cases (List.range notes.length).find? fun i => decide (¬ minusL x (notes.getD i []) ∈ cl) <;> rfl
  unfold f45 fitB; dsimp only
  unfold f43s1c66llili; dsimp only
  rw [h65, askO_s]
  cases (List.range notes.length).find? fun i => decide (¬ minusL x (notes.getD i []) ∈ cl) with
  | none => rfl
  | some i =>
    show (askO (some (!(ltI ((i : Nat) : Int) 0), ())) fun y1 => bif y1.1 then some (false, ()) else some (true, ())) = _
    rw [askO_s, not_ltI0]; rfl
theorem f21_eq {cl notes : List (List Int)} {x : List Int} (h1 : cl.length ≤ 100) (h2 : Rws 1000 cl) (hx : x.length ≤ 1000) (hn : notes.length ≤ 1000) (hy : ∀ y ∈ notes, x.length ≤ y.length) : f21 (cl, notes, x, ()) = some (fitB cl notes x, ()) := by
  have hloop : loop21_0 (cl, notes, x, 0, ()) = some ((((List.range notes.length).find? fun i => decide (¬ minusL x (notes.getD i []) ∈ cl)).map fun i : Nat => .inl (false, ())).getD (.inr ())) := by
    rw [← findSome_if (fun i => ¬ minusL x (notes.getD i []) ∈ cl) (fun i : Nat => Sum.inl (false, ()))]
    refine loopN_find (N := 2 ^ 64) (step := step21_0) (fun i => (cl, notes, x, (i : Int), ())) (fun i => if ¬ minusL x (notes.getD i []) ∈ cl then some (.inl (false, ())) else none) notes.length (.inr ()) (by omega) ?_ ?_
    · intro i hi
      simp only [step21_0, ltI_eq, idxOk_eq, cond_dec, Int.toNat_natCast]
      rw [if_pos (by omega), if_pos (by omega), f28_eq (hy _ (getDL_mem hi)) (by omega), askO_s]
      dsimp only
      rw [f46_eq (by omega) h2, askO_s, wrap64s i (by omega), cond_dec]
      by_cases h : minusL x (notes.getD i []) ∈ cl
      · rw [if_pos h, if_neg (not_not_intro h)]
      · rw [if_neg h, if_pos h]
    · simp only [step21_0, ltI_eq, cond_dec]
      rw [if_neg (by omega)]
  unfold f21 fitB; dsimp only
  rw [hloop, askO_s]
  cases (List.range notes.length).find? fun i => decide (¬ minusL x (notes.getD i []) ∈ cl) <;> rfl
/-- A chord's notes, up to a place, fit those before them. -/
def fineB (cl c : List (List Int)) (m : Nat) : Bool := (List.range m).all fun i => fitB cl (c.take i) (c.getD i [])
theorem fineB_succ (cl c : List (List Int)) (m : Nat) : fineB cl c (m + 1) = (fineB cl c m && fitB cl (c.take m) (c.getD m [])) := by
  unfold fineB
  rw [List.range_succ, List.all_append]; simp
theorem fineB_find (cl c : List (List Int)) (m : Nat) : fineB cl c m = ((List.range m).find? fun i => decide (¬ fitB cl (c.take i) (c.getD i []) = true)).isNone := by
  unfold fineB
  generalize List.range m = r
  induction r with
  | nil => rfl
  | cons a r ih =>
    rw [List.all_cons, List.find?_cons]
    cases h : fitB cl (c.take a) (c.getD a []) with
    | true => simpa using ih
    | false => simp
theorem take_len {c : List (List Int)} {n : Int} (hn : 0 ≤ n ∧ n ≤ 12) (hc : c.length ≤ 1000) (hy : ∀ y ∈ c, (y.length : Int) = n) {i : Nat} (hi : i < c.length) : (c.getD i []).length ≤ 1000 ∧ (c.take i).length ≤ 1000 ∧ ∀ y ∈ c.take i, (c.getD i []).length ≤ y.length := by
  have a := hy _ (getDL_mem hi)
  refine ⟨by omega, by rw [List.length_take]; omega, fun y hyy => ?_⟩
  have b := hy y (List.mem_of_mem_take hyy)
  omega
theorem loop24_eq {cl c : List (List Int)} {n : Int} (h1 : cl.length ≤ 100) (h2 : Rws 1000 cl) (hs : SI cl) (hn : 0 ≤ n ∧ n ≤ 12) (hc : c.length ≤ 1000) (hy : ∀ y ∈ c, (y.length : Int) = n) : loop24_0 (c, cl, c, (c.length : Int), 0, ()) = some (if fineB cl c c.length then .inr () else .inl (false, 0, ())) := by
  have h : loop24_0 (c, cl, c, (c.length : Int), 0, ()) = some ((((List.range c.length).find? fun i => decide (¬ fitB cl (c.take i) (c.getD i []) = true)).map fun i : Nat => .inl (false, 0, ())).getD (.inr ())) := by
    rw [← findSome_if (fun i => ¬ fitB cl (c.take i) (c.getD i []) = true) (fun i : Nat => Sum.inl (false, 0, ()))]
    refine loopN_find (N := 2 ^ 64) (step := step24_0) (fun i => (c, cl, c, (c.length : Int), (i : Int), ())) (fun i => if ¬ fitB cl (c.take i) (c.getD i []) = true then some (.inl (false, 0, ())) else none) c.length (.inr ()) (by omega) ?_ ?_
    · intro i hi
      obtain ⟨t1, t2, t3⟩ := take_len hn hc hy hi
      simp only [step24_0, ltI_eq, idxOk_eq, nble_eq, not_dec, cond_dec, Int.toNat_natCast, List.drop_zero, Nat.sub_zero]
      rw [if_pos (by omega), if_pos (by omega), if_pos (by omega), if_pos (by omega), if_pos (by omega), f45_eq h1 h2 hs t1 t2 t3, askO_s, wrap64s i (by omega)]
      cases fitB cl (c.take i) (c.getD i []) <;> rfl
    · simp only [step24_0, ltI_eq, cond_dec]
      rw [if_neg (by omega)]
  rw [h, fineB_find]
  cases (List.range c.length).find? fun i => decide (¬ fitB cl (c.take i) (c.getD i []) = true) <;> rfl
theorem loop6_eq {cl c : List (List Int)} {n : Int} (h1 : cl.length ≤ 100) (h2 : Rws 1000 cl) (hn : 0 ≤ n ∧ n ≤ 12) (hc : c.length ≤ 1000) (hy : ∀ y ∈ c, (y.length : Int) = n) (is : Bool) (e : Int) : loop6_0 (c, is, e, cl, true, 0, ()) = some (is, e, fineB cl c c.length, ()) := by
  refine loopN_all (N := 2 ^ 64) (step := step6_0) (fun i => (c, is, e, cl, fineB cl c i, (i : Int), ())) c.length (is, e, fineB cl c c.length, ()) (by omega) ?_ ?_
  · intro i hi
    obtain ⟨t1, t2, t3⟩ := take_len hn hc hy hi
    rw [fineB_succ]
    simp only [step6_0, ltI_eq, idxOk_eq, nble_eq, not_dec, cond_dec, Int.toNat_natCast, List.drop_zero, Nat.sub_zero]
    rw [if_pos (by omega), if_pos (by omega), if_pos (by omega), if_pos (by omega), if_pos (by omega), f21_eq h1 h2 t1 t2 t3, askO_s, wrap64s i (by omega)]
    cases fineB cl c i <;> rfl
  · simp only [step6_0, ltI_eq, cond_dec]
    rw [if_neg (by omega)]
theorem f24_eq {n : Int} {l c : List (List Int)} (h1 : l.length ≤ 40) (h2 : Rws 1000 l) (h3 : c.length ≤ 1000) (h4 : Rws 1000 c) : f24 (n, l, c, ()) = some (if ¬ errD n l = 0 then (false, errD n l, ()) else if ¬ errH n c = 0 then (false, errH n c, ()) else (fineB (closC [] l) c c.length, 0, ())) := by
  unfold f24; dsimp only
  rw [f12_errD (by omega) h2, askO_s]
  simp only [eqI_eq, not_dec, cond_dec]
  by_cases hD : errD n l = 0
  · rw [if_pos hD, if_neg (not_not_intro hD), if_neg (by simp), f23_eq h3 h4, askO_s]
    by_cases hH : errH n c = 0
    · obtain ⟨g1, g2, g3, g4, g5⟩ := errH_good hH
      have hlen := closC_length l []
      simp only [List.length_nil, Nat.zero_add] at hlen
      rw [if_neg (not_not_intro hH), if_neg (not_not_intro hH)]
      dsimp only
      rw [loop24_eq (cl := closC [] l) (by omega) (closC_rws h2 (fun y hy => by cases hy)) (closC_si l (by simp [SI])) ⟨g1, g2⟩ h3 g5, askO_s]
      cases fineB (closC [] l) c c.length <;> rfl
    · rw [if_pos hH, if_pos hH]
  · rw [if_neg hD, if_pos hD, if_pos hD]
theorem f6_true (n : Int) {c l : List (List Int)} (hc : c.length ≤ 9223372036854775807) (hl : l.length ≤ 9223372036854775807) : f6 (n, c, l, ()) = some (true, ()) := by
  obtain ⟨b, hb, hfew⟩ := f11_eq hc
  obtain ⟨b', hb', hfew'⟩ := f11_eq hl
  unfold f6; dsimp only
  rw [f10_eq, askO_s, hb, askO_s, hb']
  cases b with
  | false => rfl
  | true =>
    rw [cond_true, cond_true, askO_s]
    cases b' with
    | false => rfl
    | true =>
      obtain ⟨h1, h2⟩ := hfew rfl
      obtain ⟨h3, h4⟩ := hfew' rfl
      have h2 : Rws 1000 c := fun y hy => Nat.le_trans (h2 y hy) (by omega)
      have h4 : Rws 1000 l := fun y hy => Nat.le_trans (h4 y hy) (by omega)
      rw [cond_true, f22_eq (by omega) h2, askO_s, f23_eq (by omega) h2, askO_s, f24_eq (by omega) h4 (by omega) h2, askO_s, f13_eq (by omega) h4, askO_s]
      simp only [eqI_eq, not_dec, cond_dec]
      rw [if_neg (by simp)]
      by_cases hD : errD n l = 0
      · rw [if_pos hD, if_neg (not_not_intro hD)]
        by_cases hH : errH n c = 0
        · obtain ⟨g1, g2, g3, g4, g5⟩ := errH_good hH
          have hlen := closC_length l []
          simp only [List.length_nil, Nat.zero_add] at hlen
          rw [if_neg (not_not_intro hH), if_neg (not_not_intro hH), f15_eq (by omega) h4, askO_s]
          dsimp only
          rw [loop6_eq (cl := closC [] l) (by omega) (closC_rws h4 (fun y hy => by cases hy)) ⟨g1, g2⟩ (by omega) g5, askO_s]
          cases fineB (closC [] l) c c.length <;> rfl
        · rw [if_pos hH, if_pos hH]
          simp
      · rw [if_neg hD, if_pos hD, if_pos hD]
        simp
end Go.PM

/- Chapter 40, plain law: chords depth first are chords breadth first. -/
set_option linter.unusedSimpArgs false
set_option linter.unusedVariables false
namespace Go.PM
open Go Go.RowKit Go.Proofs
set_option maxRecDepth 100000

/-- The chords that go on by one note. -/
def nxt (cl c : List (List Int)) : List (List (List Int)) := cl.flatMap fun x => if 0 < cmpL x (c.getD (c.length - 1) []) ∧ fitB cl c x = true then [c ++ [x]] else []
def stepL (cl : List (List Int)) (L : List (List (List Int))) : List (List (List Int)) := L.flatMap (nxt cl)
def iterL (cl : List (List Int)) : Nat → List (List (List Int)) → List (List (List Int))
  | 0, L => L
  | r + 1, L => iterL cl r (stepL cl L)
theorem iterL_append (cl : List (List Int)) : ∀ (r : Nat) (A B : List (List (List Int))), iterL cl r (A ++ B) = iterL cl r A ++ iterL cl r B
  | 0, A, B => rfl
  | r + 1, A, B => by
    show iterL cl r (stepL cl (A ++ B)) = _
    unfold stepL
    rw [List.flatMap_append, iterL_append cl r]; rfl
theorem iterL_nil (cl : List (List Int)) : ∀ r : Nat, iterL cl r [] = []
  | 0 => rfl
  | r + 1 => by show iterL cl r (stepL cl []) = []; exact iterL_nil cl r
theorem iterL_flat (cl : List (List Int)) (r : Nat) : ∀ L : List (List (List Int)), iterL cl r L = L.flatMap fun c => iterL cl r [c]
  | [] => iterL_nil cl r
  | c :: L => by
    rw [show c :: L = [c] ++ L from rfl, iterL_append, iterL_flat cl r L]; rfl
theorem iterL_succ (cl : List (List Int)) : ∀ (r : Nat) (L : List (List (List Int))), iterL cl (r + 1) L = stepL cl (iterL cl r L)
  | 0, L => rfl
  | r + 1, L => by
    show iterL cl (r + 1) (stepL cl L) = _
    rw [iterL_succ cl r]; rfl
theorem growL_some {f : List Int → Option (List (List (List Int)))} {g : List Int → List (List (List Int))} : ∀ {l : List (List Int)}, (∀ x ∈ l, f x = some (g x)) → growL f l = some (l.flatMap g)
  | [], _ => rfl
  | x :: l, h => by
    simp only [growL, h x (by simp), growL_some (l := l) fun y hy => h y (by simp [hy])]
    rfl
theorem grow_eq {cl : List (List Int)} {n : Nat} (h1 : cl.length ≤ 100) (hs : SI cl) (hn : n ≤ 1000) (hcl : ∀ y ∈ cl, y.length = n) : ∀ (r : Nat) (c : List (List Int)), (∀ y ∈ c, y.length = n) → c.length + r ≤ 1000 → 0 < c.length → grow cl r c = some (iterL cl r [c])
  | 0, c, _, _, _ => rfl
  | r + 1, c, hc, hr, h0 => by
    have hlast := hc _ (getDL_mem (l := c) (i := c.length - 1) (by omega))
    unfold grow
    rw [growL_some (g := fun x => if 0 < cmpL x (c.getD (c.length - 1) []) ∧ fitB cl c x = true then iterL cl r [c ++ [x]] else [])]
    · congr 1
      show _ = iterL cl r (stepL cl [c])
      rw [iterL_flat, show stepL cl [c] = nxt cl c by simp [stepL], nxt, List.flatMap_assoc]
      congr 1
      funext x
      split
      · simp
      · rfl
    · intro x hx
      have hxl := hcl x hx
      rw [f36_eq _ _ (by omega) (by omega), askO_s]
      simp only [ltI_eq, cond_dec]
      by_cases h : 0 < cmpL x (c.getD (c.length - 1) [])
      · rw [if_pos h, f45_eq h1 (fun y hy => by rw [hcl y hy]; exact hn) hs (by omega) (by omega) (fun y hy => by rw [hc y hy]; omega), askO_s]
        cases hf : fitB cl c x with
        | false => rw [if_neg (fun h => by cases h.2)]; rfl
        | true =>
          rw [if_pos ⟨h, rfl⟩]
          show grow cl r (c ++ [x]) = _
          exact grow_eq h1 hs hn hcl r (c ++ [x]) (fun y hy => by
            rcases List.mem_append.1 hy with hy | hy
            · exact hc y hy
            · rw [List.mem_singleton.1 hy]; exact hxl) (by simp only [List.length_append, List.length_cons, List.length_nil]; omega) (by simp)
      · rw [if_neg h, if_neg (fun h2 => h h2.1)]
/-- How many rows of a list are behind a row. -/
def gtN (cl : List (List Int)) (x : List Int) : Nat := (cl.filter fun y => decide (0 < cmpL y x)).length
theorem cmpL_gt {x y : List Int} : 0 < cmpL y x ↔ cmpL x y < 0 := by
  constructor
  · intro h
    exact cmpL_swap (by omega) (by omega)
  · intro h
    have h1 := cmpL_asym h
    by_cases h2 : cmpL y x = 0
    · have := cmpL_eq0 h2
      subst this
      rw [cmpL_refl] at h; omega
    · omega
theorem gt_sum : ∀ {S : List (List Int)}, SI S → (S.map fun x => 2 ^ gtN S x).sum ≤ 2 ^ S.length
  | [], _ => by simp
  | x :: S, h => by
    unfold SI at h
    obtain ⟨hx, hS⟩ := List.pairwise_cons.1 h
    have e1 : gtN (x :: S) x = S.length := by
      unfold gtN
      rw [List.filter_cons, if_neg (by rw [cmpL_refl]; decide), List.filter_eq_self.2 fun y hy => decide_eq_true (cmpL_gt.2 (hx y hy))]
    have e2 : (S.map fun y => 2 ^ gtN (x :: S) y) = S.map fun y => 2 ^ gtN S y := by
      refine List.map_congr_left fun y hy => ?_
      have : gtN (x :: S) y = gtN S y := by
        unfold gtN
        rw [List.filter_cons, if_neg]
        rw [decide_eq_true_eq]
        intro h1
        exact cmpL_asym (hx y hy) (cmpL_gt.1 h1)
      rw [this]
    rw [List.map_cons, List.sum_cons, e1, e2, List.length_cons, Nat.pow_succ]
    have := gt_sum hS
    omega
theorem sum_le_sub (f : List Int → Nat) (p q : List Int → Bool) : ∀ cl : List (List Int), (∀ x ∈ cl, p x = true → q x = true) → ((cl.filter p).map f).sum ≤ ((cl.filter q).map f).sum
  | [], _ => by simp
  | x :: cl, h => by
    have ih := sum_le_sub f p q cl fun y hy => h y (by simp [hy])
    rw [List.filter_cons, List.filter_cons]
    cases hp : p x with
    | true =>
      rw [h x (by simp) hp]
      simp only [if_true, List.map_cons, List.sum_cons]; omega
    | false =>
      cases hq : q x with
      | true => simp only [if_true, List.map_cons, List.sum_cons]; simp; omega
      | false => simpa using ih
theorem iterL_length {cl : List (List Int)} (hs : SI cl) : ∀ (r : Nat) (c : List (List Int)), (iterL cl r [c]).length ≤ 2 ^ gtN cl (c.getD (c.length - 1) [])
  | 0, c => by
    show 1 ≤ _
    exact Nat.one_le_two_pow
  | r + 1, c => by
    show (iterL cl r (stepL cl [c])).length ≤ _
    rw [iterL_flat, show stepL cl [c] = nxt cl c by simp [stepL], nxt, List.flatMap_assoc, List.length_flatMap]
    have hf : ∀ x ∈ cl, ((if 0 < cmpL x (c.getD (c.length - 1) []) ∧ fitB cl c x = true then [c ++ [x]] else []).flatMap fun c => iterL cl r [c]).length ≤ (if 0 < cmpL x (c.getD (c.length - 1) []) then 2 ^ gtN cl x else 0) := by
      intro x hx
      split
      · rename_i h
        rw [if_pos h.1]
        have := iterL_length hs r (c ++ [x])
        have hl : (c ++ [x]).getD ((c ++ [x]).length - 1) [] = x := by
          rw [List.length_append, List.length_cons, List.length_nil, Nat.add_sub_cancel]
          exact getD_app [] c x []
        rw [hl] at this
        simpa using this
      · simp
    have hsum : ∀ (l : List (List Int)) (g g' : List Int → Nat), (∀ x ∈ l, g x ≤ g' x) → (l.map g).sum ≤ (l.map g').sum := by
      intro l g g' h
      induction l with
      | nil => simp
      | cons x l ih =>
        have a := h x (by simp)
        have b := ih fun y hy => h y (by simp [hy])
        simp only [List.map_cons, List.sum_cons]; omega
    refine Nat.le_trans (hsum cl _ _ hf) ?_
    generalize c.getD (c.length - 1) [] = t
    have h1 : ∀ l : List (List Int), (l.map fun x => if 0 < cmpL x t then 2 ^ gtN cl x else 0).sum = ((l.filter fun y => decide (0 < cmpL y t)).map fun x => 2 ^ gtN cl x).sum := by
      intro l
      induction l with
      | nil => rfl
      | cons x l ih =>
        rw [List.map_cons, List.sum_cons, ih, List.filter_cons]
        by_cases h : 0 < cmpL x t
        · rw [if_pos h, if_pos (by simpa using h), List.map_cons, List.sum_cons]
        · rw [if_neg h, if_neg (by simpa using h), Nat.zero_add]
    rw [h1]
    have hS : SI (cl.filter fun y => decide (0 < cmpL y t)) := List.Pairwise.filter _ hs
    have h2 : ((cl.filter fun y => decide (0 < cmpL y t)).map fun x => 2 ^ gtN cl x) = (cl.filter fun y => decide (0 < cmpL y t)).map fun x => 2 ^ gtN (cl.filter fun y => decide (0 < cmpL y t)) x := by
      refine List.map_congr_left fun x hx => ?_
      have hxt := (List.mem_filter.1 hx).2
      rw [decide_eq_true_eq] at hxt
      congr 1
      unfold gtN
      rw [List.filter_filter]
      congr 1
      refine List.filter_congr fun y _ => ?_
      by_cases h : 0 < cmpL y x
      · have : 0 < cmpL y t := cmpL_gt.2 (cmpL_trans (cmpL_gt.1 hxt) (cmpL_gt.1 h))
        rw [decide_eq_true h, decide_eq_true this]; rfl
      · rw [decide_eq_false h]; rfl
    rw [h2]
    exact gt_sum hS
theorem gtN_le (cl : List (List Int)) (x : List Int) : gtN cl x ≤ cl.length := List.length_filter_le _ _
end Go.PM
