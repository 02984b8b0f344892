/- The plain machine, plain law: conditions and loops in plain words. No program. -/
import Derived.Test.YtjgapmocogjkmaaGreatDoorPnC
set_option linter.unusedSimpArgs false
set_option linter.unusedVariables false
namespace Go.PM
open Go

theorem idxOk_eq (i : Int) (n : Nat) : idxOk i n = decide (0 ≤ i ∧ i < n) := by
  cases i with
  | ofNat m =>
    show Nat.blt m n = _
    rw [nblt_eq]
    by_cases h : m < n
    · rw [decide_eq_true h, decide_eq_true]; exact ⟨Int.natCast_nonneg m, Int.ofNat_lt.2 h⟩
    · rw [decide_eq_false h, decide_eq_false]; rintro ⟨-, h2⟩; exact h (Int.ofNat_lt.1 h2)
  | negSucc m =>
    show false = _
    rw [decide_eq_false]; rintro ⟨h, -⟩; exact absurd h (by omega)
theorem nble_eq (m n : Nat) : Nat.ble m n = decide (m ≤ n) := by
  cases h : Nat.ble m n with
  | true => exact (decide_eq_true (Nat.le_of_ble_eq_true h)).symm
  | false =>
    refine (decide_eq_false fun hl => ?_).symm
    rw [Nat.ble_eq_true_of_le hl] at h
    cases h
theorem wrap64 {x : Int} (h1 : -9223372036854775808 ≤ x) (h2 : x < 9223372036854775808) : wrapF .i64 x = x := by
  cases x with
  | ofNat m =>
    have : m < 9223372036854775808 := by have : (m : Int) < 9223372036854775808 := h2; omega
    unfold wrapF
    simp only [nblt_eq, decide_eq_true this, cond_true]
  | negSucc m =>
    have : m < 9223372036854775808 := by omega
    unfold wrapF
    simp only [nblt_eq, decide_eq_true this, cond_true]
theorem wrap64s (i : Nat) (h : i < 9223372036854775807) : wrapF .i64 ((i : Int) + 1) = ((i + 1 : Nat) : Int) := by
  rw [wrap64 (by omega) (by omega)]; rfl
theorem wrap64' {x : Int} (h1 : -9223372036854775808 ≤ x) (h2 : x < 9223372036854775808) : IntKind.wrap .i64 x = x := by
  rw [← wrapF_eq]; exact wrap64 h1 h2
theorem cond_dec {α : Type} (p : Prop) [Decidable p] (a b : α) : (bif decide p then a else b) = if p then a else b := by
  by_cases h : p <;> simp [h]
theorem askO_s {τ α : Type} (x : τ) (k : τ → Option α) : askO (some x) k = k x := rfl
theorem not_dec (p : Prop) [Decidable p] : (!decide p) = decide (¬ p) := by by_cases h : p <;> simp [h]
theorem dec_and (p q : Prop) [Decidable p] [Decidable q] : (decide p && decide q) = decide (p ∧ q) := by by_cases h : p <;> by_cases k : q <;> simp [h, k]
theorem onSum_inl {β γ α : Type} (z : β) (f : β → Option α) (g : γ → Option α) : onSum (.inl z) f g = f z := rfl
theorem onSum_inr {β γ α : Type} (z : γ) (f : β → Option α) (g : γ → Option α) : onSum (.inr z) f g = g z := rfl

section
variable {σ τ : Type} {step : σ → Option (σ ⊕ τ)}
theorem loopN_succ (n : Nat) (x : σ) : loopN step (n + 1) x = match step x with
    | some (.inl y) => loopN step n y
    | some (.inr z) => some z
    | none => none := rfl
theorem loopN_steps (F : Nat → σ) (k : Nat) : ∀ (m j : Nat), (∀ i, j ≤ i → i < j + m → step (F i) = some (.inl (F (i + 1)))) → loopN step (m + k) (F j) = loopN step k (F (j + m))
  | 0, j, _ => by rw [Nat.zero_add, Nat.add_zero]
  | m + 1, j, h => by
    rw [Nat.add_right_comm, loopN_succ, h j (Nat.le_refl _) (by omega)]
    show loopN step (m + k) (F (j + 1)) = _
    rw [loopN_steps F k m (j + 1) fun i h1 h2 => h i (by omega) (by omega)]
    congr 2; omega
/-- A loop that goes through m rounds and ends. -/
theorem loopN_all {N : Nat} (F : Nat → σ) (m : Nat) (z : τ) (hN : m < N) (h : ∀ i, i < m → step (F i) = some (.inl (F (i + 1)))) (he : step (F m) = some (.inr z)) : loopN step N (F 0) = some z := by
  obtain ⟨k, rfl⟩ : ∃ k, N = m + (k + 1) := ⟨N - m - 1, by omega⟩
  rw [loopN_steps F (k + 1) m 0 (fun i _ h2 => h i (by omega)), Nat.zero_add, loopN_succ, he]
/-- A loop that goes through m rounds and ends, or is left at the first round for which stop has an answer. -/
theorem loopN_find_aux (F : Nat → σ) (stop : Nat → Option τ) (z : τ) (k : Nat) : ∀ (m j : Nat), (∀ i, j ≤ i → i < j + m → step (F i) = some (match stop i with | some y => .inr y | none => .inl (F (i + 1)))) → step (F (j + m)) = some (.inr z) →
      loopN step (m + (k + 1)) (F j) = some (((List.range' j m).findSome? stop).getD z)
  | 0, j, _, he => by
    rw [Nat.zero_add, loopN_succ, show F j = F (j + 0) from rfl, he]; rfl
  | m + 1, j, h, he => by
    rw [Nat.add_right_comm, loopN_succ, h j (Nat.le_refl _) (by omega), List.range'_succ, List.findSome?_cons]
    cases hs : stop j with
    | some y => rfl
    | none =>
      show loopN step (m + (k + 1)) (F (j + 1)) = _
      exact loopN_find_aux F stop z k m (j + 1) (fun i h1 h2 => h i (by omega) (by omega)) (by rw [← he]; congr 2; omega)
theorem loopN_find {N : Nat} (F : Nat → σ) (stop : Nat → Option τ) (m : Nat) (z : τ) (hN : m < N) (h : ∀ i, i < m → step (F i) = some (match stop i with | some y => .inr y | none => .inl (F (i + 1)))) (he : step (F m) = some (.inr z)) :
    loopN step N (F 0) = some (((List.range m).findSome? stop).getD z) := by
  obtain ⟨k, rfl⟩ : ∃ k, N = m + (k + 1) := ⟨N - m - 1, by omega⟩
  rw [List.range_eq_range']
  exact loopN_find_aux F stop z k m 0 (fun i _ h2 => h i (by omega)) (by rwa [Nat.zero_add])
end
/-- Two loops that go the same way. -/
theorem loopN_sim {σ σ' τ τ' : Type} {step : σ → Option (σ ⊕ τ)} {step' : σ' → Option (σ' ⊕ τ')} (A : σ → σ') (B : τ → τ') (h : ∀ x, step' (A x) = (step x).map fun z => match z with | .inl y => .inl (A y) | .inr y => .inr (B y)) :
    ∀ (n : Nat) (x : σ), loopN step' n (A x) = (loopN step n x).map B
  | 0, _ => rfl
  | n + 1, x => by
    rw [loopN_succ, loopN_succ, h x]
    cases hs : step x with
    | none => rfl
    | some z =>
      cases z with
      | inl y => exact loopN_sim A B h n y
      | inr y => rfl
end Go.PM
