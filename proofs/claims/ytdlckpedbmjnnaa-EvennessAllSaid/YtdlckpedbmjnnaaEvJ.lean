/- Chapter 35, plain law: moved sets, their lists sorted and compacted; EvennessMoves answers true. -/
import Derived.Test.YtdlckpedbmjnnaaEvI
set_option linter.unusedSimpArgs false
set_option linter.unusedVariables false
namespace Go.PM
open Go Go.RowKit Go.Proofs
set_option maxRecDepth 100000

/-- A loop that keeps a relation. -/
theorem loopN_inv {σ τ : Type} {step : σ → Option (σ ⊕ τ)} (R : Nat → σ → Prop) (out : σ → τ) (m : Nat) (h : ∀ i x, i < m → R i x → ∃ y, step x = some (.inl y) ∧ R (i + 1) y) (he : ∀ x, R m x → step x = some (.inr (out x))) :
    ∀ (k j : Nat) (N : Nat) (x : σ), j + k = m → k < N → R j x → ∃ y, R m y ∧ loopN step N x = some (out y)
  | 0, j, N, x, hj, hN, hr => by
    have : j = m := by omega
    subst this
    obtain ⟨N, rfl⟩ : ∃ n, N = n + 1 := ⟨N - 1, by omega⟩
    exact ⟨x, hr, by rw [loopN_succ, he x hr]⟩
  | k + 1, j, N, x, hj, hN, hr => by
    obtain ⟨N, rfl⟩ : ∃ n, N = n + 1 := ⟨N - 1, by omega⟩
    obtain ⟨y, h1, h2⟩ := h j x (by omega) hr
    obtain ⟨z, h3, h4⟩ := loopN_inv R out m h he k (j + 1) N y (by omega) (by omega) h2
    exact ⟨z, h3, by rw [loopN_succ, h1]; exact h4⟩

theorem not_ltI0 (j : Nat) : (!(ltI (j : Int) 0)) = true := by rw [ltI_eq, decide_eq_false (by omega)]; rfl
/-- Lists that are not too long. -/
def Short (l : List (List Int)) : Prop := l.length ≤ 4611686018427387904 ∧ ∀ x ∈ l, x.length ≤ 9223372036854775806
theorem getDL_mem {l : List (List Int)} {i : Nat} (h : i < l.length) : l.getD i [] ∈ l := by
  rw [List.getD_eq_getElem?_getD, List.getElem?_eq_getElem h]; exact List.getElem_mem h
theorem getDL_arr {l : List (List Int)} {i : Nat} (h : i < l.length) : l.toArray[i]! = l.getD i [] := by
  rw [getElem!_pos l.toArray i (by simpa using h), List.getD_eq_getElem?_getD, List.getElem?_eq_getElem h]; simp
theorem f48_f14 : f48 = f14 := by
  funext x
  obtain ⟨a, b, ⟨⟩⟩ := x
  unfold f48; dsimp only
  cases f14 (a, b, ()) with
  | none => rfl
  | some y => obtain ⟨y, ⟨⟩⟩ := y; rfl
theorem step48_14 : step47s1f48t_0 = step47s1f14t_0 := by
  funext x
  obtain ⟨v0, v1, v5, v6, v7, ⟨⟩⟩ := x
  unfold step47s1f48t_0 step47s1f14t_0
  rw [f48_f14]
theorem loop48_14 : loop47s1f48t_0 = loop47s1f14t_0 := by
  funext x
  unfold loop47s1f48t_0 loop47s1f14t_0
  rw [step48_14]
theorem stepo48_14 : step47s1f48t_1 = step47s1f14t_1 := by
  funext x
  obtain ⟨v0, v1, v5, ⟨⟩⟩ := x
  unfold step47s1f48t_1 step47s1f14t_1
  rw [f48_f14, loop48_14]
theorem f47_same (l : List (List Int)) : f47s1f48t l ((), ()) = f47s1f14t l ((), ()) := by
  unfold f47s1f48t f47s1f14t
  dsimp only
  have : loop47s1f48t_1 = loop47s1f14t_1 := by
    funext x
    unfold loop47s1f48t_1 loop47s1f14t_1
    rw [stepo48_14]
  rw [this]
/-- The second loop of CompactFunc. -/
theorem loop47_in {l : List (List Int)} (hs : Short l) {j : Nat} (hj0 : 0 < j) (hj : j < l.length) (hall : ∀ i, i < j → Lib.keeps l.toArray i = true) (hdup : Lib.keeps l.toArray j = false) :
    ∃ (dk : List (List Int)) (kk : Nat), Lib.CompInv l.toArray l.length kk dk.toArray ∧ loop47s1f14t_0 (l, (), (j : Int), (j, l.length - j), 1, ()) = some (dk, (kk : Int), ()) := by
  obtain ⟨y, ⟨dk, kk, rfl, hI⟩, hy⟩ := loopN_inv (step := step47s1f14t_0) (fun i x => ∃ (dk : List (List Int)) (kk : Nat), x = (dk, (), (kk : Int), (j, l.length - j), ((i + 1 : Nat) : Int), ()) ∧ Lib.CompInv l.toArray (j + 1 + i) kk dk.toArray)
    (fun x => (x.1, x.2.2.1, ())) (l.length - j - 1) (by
      rintro i x hi ⟨dk, kk, rfl, hI⟩
      have hsz : dk.length = l.length := by have := hI.size; simpa using this
      have hlt := hI.lt
      have hm : j + (i + 1) < l.length := by omega
      have g1 : dk.getD (j + (i + 1)) [] = l.getD (j + (i + 1)) [] := by
        have := hI.high (j + (i + 1)) (by omega)
        rwa [getDL_arr (by omega), getDL_arr hm] at this
      have g2 : dk.getD (j + i) [] = l.getD (j + i) [] := by
        have := hI.high (j + i) (by omega)
        rwa [getDL_arr (by omega), getDL_arr (by omega)] at this
      have hk1 := hs.1
      have w1 : wrapF .i64 (((i + 1 : Nat) : Int) - 1) = ((i : Nat) : Int) := by rw [wrap64 (by omega) (by omega)]; omega
      simp only [step47s1f14t_0, ltI_eq, idxOk_eq, nblt_eq, cond_dec, Int.toNat_natCast, w1, g1, g2]
      rw [if_pos (by omega), if_pos (by omega), if_pos (by omega), if_pos (by omega), if_pos (by omega), f14_eq _ _ (hs.2 _ (getDL_mem hm)), askO_s, cond_dec, wrap64s (i + 1) (by omega)]
      by_cases he : l.getD (j + (i + 1)) [] = l.getD (j + i) []
      · rw [if_pos he]
        refine ⟨_, rfl, dk, kk, rfl, ?_⟩
        have hneg : Lib.keeps l.toArray (j + 1 + i) = false := by
          refine Lib.keeps_neg (by omega) ?_
          rw [getDL_arr (by omega), getDL_arr (by omega), show j + 1 + i = j + (i + 1) by omega, show j + (i + 1) - 1 = j + i by omega, he]
        exact hI.skip hneg
      · rw [if_neg he, if_pos (by omega), if_pos (by omega), if_pos (by omega), if_pos (by omega), wrap64s kk (by omega)]
        refine ⟨_, rfl, _, kk + 1, rfl, ?_⟩
        have hpos : Lib.keeps l.toArray (j + 1 + i) = true := by
          refine Lib.keeps_pos ?_
          rw [getDL_arr (by omega), getDL_arr (by omega), show j + 1 + i = j + (i + 1) by omega, show j + (i + 1) - 1 = j + i by omega]
          exact he
        have := hI.keep (by simp; omega) hpos
        rw [getDL_arr (by omega), show j + 1 + i = j + (i + 1) by omega] at this
        rw [show j + 1 + (i + 1) = j + (i + 1) + 1 by omega]
        simpa using this) (by
      rintro x ⟨dk, kk, rfl, hI⟩
      simp only [step47s1f14t_0, ltI_eq, cond_dec]
      rw [if_neg (by omega)]) (l.length - j - 1) 0 (2 ^ 64) (l, (), (j : Int), (j, l.length - j), 1, ()) (by omega) (by have := hs.1; omega) ⟨l, j, rfl, by
        rw [Nat.add_zero]
        exact Lib.CompInv.start hall hdup⟩
  rw [show j + 1 + (l.length - j - 1) = l.length by omega] at hI
  exact ⟨dk, kk, hI, hy⟩
theorem compact_take {l dk : List (List Int)} {kk : Nat} (h : Lib.CompInv l.toArray l.length kk dk.toArray) : dk.take kk = Lib.compact l := by
  have hsz : dk.length = l.length := by have := h.size; simpa using this
  have hlt := h.lt
  have hlen : (Lib.compact l).length = kk := h.len
  apply List.ext_getElem
  · rw [List.length_take, hlen]; omega
  · intro i h1 h2
    have hi : i < kk := by rw [List.length_take] at h1; omega
    have := h.low i hi
    change (Lib.compact l)[i]? = _ at this
    rw [List.getElem?_eq_getElem h2, getElem!_pos dk.toArray i (by simp; omega)] at this
    rw [List.getElem_take]
    have := Option.some.inj this
    rw [this]; simp
theorem find_first (p : Nat → Bool) : ∀ (m : Nat) {j : Nat}, (List.range m).find? p = some j → p j = true ∧ j < m ∧ ∀ i, i < j → p i = false := by
  intro m j h
  have h1 := List.find?_some h
  have h2 := List.mem_range.1 (List.mem_of_find?_eq_some h)
  refine ⟨h1, h2, fun i hi => ?_⟩
  obtain ⟨-, xs, ys, hab, hn⟩ := List.find?_eq_some_iff_append.1 h
  have hlen : xs.length = j := by
    have : (List.range m)[xs.length]? = some j := by rw [hab]; simp
    rw [List.getElem?_range (by have := congrArg List.length hab; simp at this; omega)] at this
    exact Option.some.inj this
  have him : i ∈ xs := by
    have h3 : xs = (List.range m).take xs.length := by rw [hab]; simp
    rw [h3, hlen, List.take_range]
    exact List.mem_range.2 (by omega)
  simpa using hn i him
theorem f47_eq {l : List (List Int)} (hs : Short l) : f47s1f14t l ((), ()) = some (Lib.compact l, ()) := by
  have hk1 := hs.1
  unfold f47s1f14t; dsimp only
  rw [ltI_eq, cond_dec]
  by_cases h2 : (l.length : Int) < 2
  · rw [if_pos h2, Lib.compact_all l (fun j hj => Lib.keeps_lt_one _ j (by omega))]
  rw [if_neg h2]
  -- the first loop
  have key : ∀ j, 0 < j → j < l.length → (l.getD j [] = l.getD (j - 1) [] ↔ Lib.keeps l.toArray j = false) := by
    intro j h0 hj
    constructor
    · intro h
      exact Lib.keeps_neg h0 (by rw [getDL_arr hj, getDL_arr (by omega), h])
    · intro h
      by_cases he : l.getD j [] = l.getD (j - 1) []
      · exact he
      · have := Lib.keeps_pos (d := l.toArray) (m := j) (by rw [getDL_arr hj, getDL_arr (by omega)]; exact he)
        rw [h] at this; cases this
  have step : ∀ j, 0 < j → j < l.length → step47s1f14t_1 (l, (), (j : Int), ()) = if l.getD j [] = l.getD (j - 1) [] then
      (askO (loop47s1f14t_0 (l, (), (j : Int), (j, l.length - j), 1, ())) fun z6 =>
        bif !(ltI z6.2.1 0) then bif Nat.ble z6.2.1.toNat z6.1.length then bif Nat.ble z6.1.length z6.1.length then bif Nat.blt z6.2.1.toNat z6.1.length then bif Nat.ble (z6.2.1.toNat + (z6.1.length - z6.2.1.toNat)) z6.1.length then bif !(ltI z6.2.1 0) then bif Nat.ble 0 z6.2.1.toNat then bif Nat.ble z6.2.1.toNat ((clr z6.1 z6.2.1.toNat (z6.1.length - z6.2.1.toNat) []).length) then bif Nat.blt 0 ((clr z6.1 z6.2.1.toNat (z6.1.length - z6.2.1.toNat) []).length) then some (.inr (.inl ((clr z6.1 z6.2.1.toNat (z6.1.length - z6.2.1.toNat) []), (0, (z6.2.1.toNat - 0)), ()))) else none else none else none else none else none else none else none else none else none)
      else some (.inl (l, (), ((j + 1 : Nat) : Int), ())) := by
    intro j h0 hj
    have w1 : wrapF .i64 ((j : Int) - 1) = ((j - 1 : Nat) : Int) := by rw [wrap64 (by omega) (by omega)]; omega
    simp only [step47s1f14t_1]
    rw [ltI_eq, decide_eq_true (show (j : Int) < (l.length : Int) by omega), cond_true, idxOk_eq, decide_eq_true (show 0 ≤ (j : Int) ∧ (j : Int) < (l.length : Int) by omega), cond_true, Int.toNat_natCast, nblt_eq, decide_eq_true hj, cond_true, w1, idxOk_eq, decide_eq_true (show 0 ≤ ((j - 1 : Nat) : Int) ∧ ((j - 1 : Nat) : Int) < (l.length : Int) by omega), cond_true, Int.toNat_natCast, nblt_eq, decide_eq_true (show j - 1 < l.length by omega), cond_true, f14_eq _ _ (hs.2 _ (getDL_mem hj)), askO_s]
    by_cases he : l.getD j [] = l.getD (j - 1) []
    · rw [if_pos he, decide_eq_true he, cond_true, not_ltI0, cond_true, nble_eq, decide_eq_true (show j ≤ l.length by omega), cond_true, nble_eq, decide_eq_true (Nat.le_refl l.length), cond_true, cond_true]
    · rw [if_neg he, decide_eq_false he, cond_false, wrap64s j (by omega)]
  cases hf : (List.range (l.length - 1)).find? (fun i => !(Lib.keeps l.toArray (i + 1))) with
  | none =>
    have hall : ∀ i, i < l.length → Lib.keeps l.toArray i = true := by
      intro i hi
      cases i with
      | zero => exact Lib.keeps_lt_one _ 0 (by omega)
      | succ i =>
        have := List.find?_eq_none.1 hf i (List.mem_range.2 (by omega))
        simpa using this
    have hl : loop47s1f14t_1 (l, (), 1, ()) = some (.inr (l, ())) := by
      refine loopN_all (N := 2 ^ 64) (step := step47s1f14t_1) (fun i => (l, (), ((i + 1 : Nat) : Int), ())) (l.length - 1) (.inr (l, ())) (by omega) ?_ ?_
      · intro i hi
        rw [step (i + 1) (by omega) (by omega), if_neg]
        intro he
        have := (key (i + 1) (by omega) (by omega)).1 he
        rw [hall (i + 1) (by omega)] at this; cases this
      · simp only [step47s1f14t_1]
        rw [ltI_eq, decide_eq_false (by omega), cond_false]
    rw [hl, Lib.compact_all l hall]; rfl
  | some j =>
    obtain ⟨hj1, hj2, hj3⟩ := find_first _ _ hf
    have hdup : Lib.keeps l.toArray (j + 1) = false := by simpa using hj1
    have hall : ∀ i, i < j + 1 → Lib.keeps l.toArray i = true := by
      intro i hi
      cases i with
      | zero => exact Lib.keeps_lt_one _ 0 (by omega)
      | succ i =>
        have := hj3 i (by omega)
        simpa using this
    obtain ⟨dk, kk, hI, hin⟩ := loop47_in hs (Nat.succ_pos j) (by omega) hall hdup
    have hsz : dk.length = l.length := by have := hI.size; simpa using this
    have hlt := hI.lt
    have hclr : (clr dk kk (l.length - kk) []).length = l.length := by
      simp only [clr, List.length_append, List.length_take, List.length_replicate, List.length_drop]; omega
    have hl : loop47s1f14t_1 (l, (), 1, ()) = some (.inl (clr dk kk (l.length - kk) [], (0, kk - 0), ())) := by
      have hsteps := loopN_steps (step := step47s1f14t_1) (fun i => (l, (), ((i + 1 : Nat) : Int), ())) (2 ^ 64 - j - 1 + 1) j 0 (fun i _ hi => by
        rw [step (i + 1) (by omega) (by omega), if_neg]
        intro he
        have := (key (i + 1) (by omega) (by omega)).1 he
        rw [hall (i + 1) (by omega)] at this; cases this)
      have e : j + (2 ^ 64 - j - 1 + 1) = 2 ^ 64 := by omega
      rw [e, show 0 + j + 1 = j + 1 by omega] at hsteps
      refine Eq.trans hsteps ?_
      rw [loopN_succ, step (j + 1) (by omega) (by omega), if_pos ((key (j + 1) (by omega) (by omega)).2 hdup), hin, askO_s]
      dsimp only
      rw [not_ltI0, Int.toNat_natCast, hsz, hclr]
      simp only [nble_eq, nblt_eq, cond_true]
      rw [decide_eq_true (show kk ≤ l.length by omega), decide_eq_true (Nat.le_refl l.length), decide_eq_true hlt, decide_eq_true (show kk + (l.length - kk) ≤ l.length by omega), decide_eq_true (Nat.zero_le kk), decide_eq_true (show 0 < l.length by omega)]
      rfl
    rw [hl, askO_s]
    simp only [onSum_inl, Nat.sub_zero, List.drop_zero]
    have : (clr dk kk (l.length - kk) []).take kk = dk.take kk := by
      unfold clr
      rw [List.take_append_of_le_length (by rw [List.length_take]; omega), List.take_take, Nat.min_self]
    rw [this, compact_take hI]
end Go.PM
