/- Chapter 35, plain law: what the printed functions compute. -/
import Derived.Test.YtdlckpedbmjnnaaEvF
import Derived.Test.YtdlckpedbmjnnaaPnM
set_option linter.unusedSimpArgs false
set_option linter.unusedVariables false
namespace Go.PM
open Go Go.RowKit Go.Proofs
set_option maxRecDepth 100000

theorem findSome_none {τ : Type} {m : Nat} {f : Nat → Option τ} {z : τ} (h : ∀ i, i < m → f i = none) : ((List.range m).findSome? f).getD z = z := by
  rw [List.findSome?_eq_none_iff.2 (fun i hi => h i (List.mem_range.1 hi))]; rfl
theorem findSome_if {τ : Type} (p : Nat → Prop) [DecidablePred p] (g : Nat → τ) : ∀ l : List Nat, (l.findSome? fun i => if p i then some (g i) else none) = (l.find? fun i => decide (p i)).map g
  | [] => rfl
  | i :: l => by
    rw [List.findSome?_cons, List.find?_cons]
    by_cases h : p i
    · simp [h]
    · simp [h, findSome_if p g l]
theorem getD_mem {s : List Int} {i : Nat} (h : i < s.length) : s.getD i 0 ∈ s := by
  rw [List.getD_eq_getElem?_getD, List.getElem?_eq_getElem h]; exact List.getElem_mem h
theorem len64 {s : List Int} (h : s.length ≤ 9223372036854775807) : (s.length : Int) < 9223372036854775808 := by omega

/-- slices.Equal -/
theorem f14_eq (a b : List Int) (ha : a.length ≤ 9223372036854775806) : f14 (a, b, ()) = some (decide (a = b), ()) := by
  unfold f14
  simp only [eqI_eq, not_dec, cond_dec]
  by_cases hl : a.length = b.length
  · rw [if_neg (by omega)]
    have : loopN step14_0 (2 ^ 64) (a, b, (a.length : Int), 0, ()) = _ := loopN_find (N := 2 ^ 64) (step := step14_0) (fun i => (a, b, (a.length : Int), (i : Int), ())) (fun i => if ¬ a.getD i 0 = b.getD i 0 then some (.inl (false, ())) else none) a.length (.inr ()) (by omega) (by
      intro i hi
      simp only [step14_0, ltI_eq, eqI_eq, idxOk_eq, cond_dec, not_dec, Int.toNat_natCast]
      rw [if_pos (by omega), if_pos ⟨by omega, by omega⟩, if_pos ⟨by omega, by omega⟩, wrap64s i (by omega)]
      by_cases h : ¬ a.getD i 0 = b.getD i 0
      · rw [if_pos h, if_pos h]
      · rw [if_neg h, if_neg h]) (by
      simp only [step14_0, ltI_eq, cond_dec]
      rw [if_neg (by omega)])
    unfold loop14_0
    rw [this, findSome_if (fun i => ¬ a.getD i 0 = b.getD i 0), askO_s]
    cases hf : (List.range a.length).find? fun i => decide (¬ a.getD i 0 = b.getD i 0) with
    | none =>
      have hall : ∀ i, i < a.length → a.getD i 0 = b.getD i 0 := by
        intro i hi
        have := List.find?_eq_none.1 hf i (List.mem_range.2 hi)
        simpa using this
      have : a = b := by
        apply List.ext_getElem hl
        intro i h1 h2
        have := hall i h1
        rw [List.getD_eq_getElem?_getD, List.getD_eq_getElem?_getD, List.getElem?_eq_getElem h1, List.getElem?_eq_getElem h2] at this
        exact this
      rw [decide_eq_true this]; rfl
    | some i =>
      have h1 := List.find?_some hf
      have : ¬ a = b := fun e => by subst e; simp at h1
      rw [decide_eq_false this]; rfl
  · rw [if_pos (by omega), decide_eq_false]
    rintro rfl; exact hl rfl

/-- slices.Index -/
def idx (s : List Int) (v : Int) : Int := match (List.range s.length).find? (fun i => decide (v = s.getD i 0)) with | some i => (i : Int) | none => -1
theorem f41_eq (s : List Int) (v : Int) (hs : s.length ≤ 9223372036854775806) : f41 (s, v, ()) = some (idx s v, ()) := by
  unfold f41; dsimp only
  have : loopN step41_0 (2 ^ 64) (s, v, (s.length : Int), 0, ()) = _ := loopN_find (N := 2 ^ 64) (step := step41_0) (fun i => (s, v, (s.length : Int), (i : Int), ())) (fun i => if v = s.getD i 0 then some (.inl ((i : Int), ())) else none) s.length (.inr ()) (by omega) (by
    intro i hi
    simp only [step41_0, ltI_eq, eqI_eq, idxOk_eq, cond_dec, Int.toNat_natCast]
    rw [if_pos (by omega), if_pos ⟨by omega, by omega⟩, wrap64s i (by omega)]
    by_cases h : v = s.getD i 0
    · rw [if_pos h, if_pos h]
    · rw [if_neg h, if_neg h]) (by
    simp only [step41_0, ltI_eq, cond_dec]
    rw [if_neg (by omega)])
  unfold loop41_0
  rw [this, findSome_if (fun i => v = s.getD i 0), askO_s]
  unfold idx
  cases hf : (List.range s.length).find? fun i => decide (v = s.getD i 0) <;> rfl
theorem idx_neg (s : List Int) (v : Int) : idx s v < 0 ↔ v ∉ s := by
  unfold idx
  cases hf : (List.range s.length).find? fun i => decide (v = s.getD i 0) with
  | none =>
    simp only
    refine ⟨fun _ hv => ?_, fun _ => by omega⟩
    obtain ⟨i, hi, rfl⟩ := List.getElem_of_mem hv
    have := List.find?_eq_none.1 hf i (List.mem_range.2 hi)
    rw [List.getD_eq_getElem?_getD, List.getElem?_eq_getElem hi] at this
    simp at this
  | some i =>
    simp only
    refine ⟨fun h => by omega, fun h => (h ?_).elim⟩
    have h1 := List.find?_some hf
    have h2 := List.mem_range.1 (List.mem_of_find?_eq_some hf)
    have h1 : v = s.getD i 0 := by simpa using h1
    rw [h1]; exact getD_mem h2
theorem f33_eq (s : List Int) (v : Int) (hs : s.length ≤ 9223372036854775806) : f33 (s, v, ()) = some (decide (v ∈ s), ()) := by
  unfold f33; dsimp only
  rw [f41_eq s v hs]
  simp only [askO_s, ltI_eq, not_dec]
  congr 2
  have := idx_neg s v
  by_cases h : v ∈ s
  · rw [decide_eq_true, decide_eq_true h]; intro h2; exact this.1 h2 h
  · rw [decide_eq_false, decide_eq_false h]; intro h2; exact h2 (this.2 h)

/-- slices.Min, slices.Max -/
def mnF (s : List Int) : Nat → Int
  | 0 => s.getD 0 0
  | j + 1 => if s.getD (j + 1) 0 < mnF s j then s.getD (j + 1) 0 else mnF s j
def mxF (s : List Int) : Nat → Int
  | 0 => s.getD 0 0
  | j + 1 => if mxF s j < s.getD (j + 1) 0 then s.getD (j + 1) 0 else mxF s j
theorem f39_eq (s : List Int) (h0 : 0 < s.length) (hs : s.length ≤ 9223372036854775806) : f39 (s, ()) = some (mnF s (s.length - 1), ()) := by
  unfold f39
  simp only [ltI_eq, idxOk_eq, cond_dec]
  rw [if_neg (by omega), if_pos ⟨by omega, by omega⟩]
  have := loopN_all (N := 2 ^ 64) (step := step39_0) (fun j => (s, mnF s j, ((j + 1 : Nat) : Int), ())) (s.length - 1) (mnF s (s.length - 1), ()) (by omega) (by
    intro j hj
    simp only [step39_0, ltI_eq, idxOk_eq, cond_dec, Int.toNat_natCast]
    rw [if_pos (by omega), if_pos ⟨by omega, by omega⟩, wrap64s (j + 1) (by omega)]
    rfl) (by
    simp only [step39_0, ltI_eq, cond_dec]
    rw [if_neg (by omega)])
  unfold loop39_0
  have e : (s, s.getD 0 0, (1 : Int), ()) = (fun j => (s, mnF s j, ((j + 1 : Nat) : Int), ())) 0 := rfl
  rw [e, this]; rfl
theorem f40_eq (s : List Int) (h0 : 0 < s.length) (hs : s.length ≤ 9223372036854775806) : f40 (s, ()) = some (mxF s (s.length - 1), ()) := by
  unfold f40
  simp only [ltI_eq, idxOk_eq, cond_dec]
  rw [if_neg (by omega), if_pos ⟨by omega, by omega⟩]
  have := loopN_all (N := 2 ^ 64) (step := step40_0) (fun j => (s, mxF s j, ((j + 1 : Nat) : Int), ())) (s.length - 1) (mxF s (s.length - 1), ()) (by omega) (by
    intro j hj
    simp only [step40_0, ltI_eq, idxOk_eq, cond_dec, Int.toNat_natCast]
    rw [if_pos (by omega), if_pos ⟨by omega, by omega⟩, wrap64s (j + 1) (by omega)]
    rfl) (by
    simp only [step40_0, ltI_eq, cond_dec]
    rw [if_neg (by omega)])
  unfold loop40_0
  have e : (s, s.getD 0 0, (1 : Int), ()) = (fun j => (s, mxF s j, ((j + 1 : Nat) : Int), ())) 0 := rfl
  rw [e, this]; rfl

/-- division -/
theorem f38_eq (n : Int) : f38 (n, ()) = some (if n < 1 ∨ 60 < n then 3 else 0, ()) := by
  unfold f38
  simp only [ltI_eq, cond_dec]
  by_cases h1 : n < 1
  · simp [h1]
  · by_cases h2 : 60 < n <;> simp [h1, h2]
/-- evenness.Check and the law's check -/
def chkS (n : Int) (s : List Int) (i : Nat) : Option Int :=
  if s.getD i 0 < 0 then some 3 else if ¬ s.getD i 0 < n then some 3 else if 0 < i ∧ ¬ s.getD (i - 1) 0 < s.getD i 0 then some 6 else none
def chk (n : Int) (s : List Int) : Int := if n < 1 ∨ 60 < n then 3 else if s.length = 0 then 13 else ((List.range s.length).findSome? (chkS n s)).getD 0
theorem findSome_map {α β : Type} (f : Nat → Option α) (g : α → β) : ∀ l : List Nat, (l.findSome? fun i => (f i).map g) = (l.findSome? f).map g
  | [] => rfl
  | i :: l => by
    rw [List.findSome?_cons, List.findSome?_cons]
    cases h : f i with
    | some y => rfl
    | none => exact findSome_map f g l
theorem step37_eq (n : Int) (s : List Int) (hs : s.length ≤ 9223372036854775806) : loop37_0 (n, s, s, (s.length : Int), 0, ()) = some (((List.range s.length).findSome? fun i => (chkS n s i).map fun y => .inl (y, ())).getD (.inr ())) := by
  refine loopN_find (N := 2 ^ 64) (step := step37_0) (fun i => (n, s, s, (s.length : Int), (i : Int), ())) (fun i => (chkS n s i).map fun y => .inl (y, ())) s.length (.inr ()) (by omega) ?_ ?_
  · intro i hi
    simp only [step37_0, ltI_eq, eqI_eq, idxOk_eq, cond_dec, not_dec, Int.toNat_natCast, chkS]
    rw [if_pos (by omega), if_pos ⟨by omega, by omega⟩, wrap64s i (by omega)]
    by_cases h1 : s.getD i 0 < 0
    · rw [if_pos h1, if_pos h1]; rfl
    · rw [if_neg h1, if_neg h1]
      by_cases h2 : ¬ s.getD i 0 < n
      · rw [if_pos h2, if_pos h2]; rfl
      · rw [if_neg h2, if_neg h2]
        by_cases h3 : (0 : Int) < (i : Int)
        · have h4 : 0 < i := by omega
          rw [if_pos h3, wrap64 (by omega) (by omega), show ((i : Int) - 1) = ((i - 1 : Nat) : Int) by omega, Int.toNat_natCast, if_pos ⟨by omega, by omega⟩]
          by_cases h5 : ¬ s.getD (i - 1) 0 < s.getD i 0
          · rw [if_pos h5, if_pos ⟨h4, h5⟩]; rfl
          · rw [if_neg h5, if_neg (fun h => h5 h.2)]; rfl
        · rw [if_neg h3, if_neg (fun h => h3 (by omega))]; rfl
  · simp only [step37_0, ltI_eq, cond_dec]
    rw [if_neg (by omega)]
theorem step36_eq (n : Int) (s : List Int) (hs : s.length ≤ 9223372036854775806) : loop36_0 (n, s, s, (s.length : Int), 0, ()) = some (((List.range s.length).findSome? fun i => (chkS n s i).map fun y => .inl (y, ())).getD (.inr ())) := step37_eq n s hs
theorem chk_out (n : Int) (s : List Int) : onSum (((List.range s.length).findSome? fun i => (chkS n s i).map fun y => (.inl (y, ()) : (Int × Unit) ⊕ Unit)).getD (.inr ())) (fun a => some (a.1, ())) (fun _ => some ((0 : Int), ())) = some (((List.range s.length).findSome? (chkS n s)).getD 0, ()) := by
  rw [findSome_map]
  cases (List.range s.length).findSome? (chkS n s) <;> rfl
theorem f37_eq (n : Int) (s : List Int) (hs : s.length ≤ 9223372036854775806) : f37 (n, s, ()) = some (chk n s, ()) := by
  unfold f37 chk; dsimp only
  rw [f38_eq]
  simp only [askO_s, eqI_eq, not_dec, cond_dec]
  by_cases h1 : n < 1 ∨ 60 < n
  · simp [h1]
  · simp only [if_neg h1, not_true, if_false]
    by_cases h2 : s.length = 0
    · rw [if_pos (by omega), if_pos h2]
    · rw [if_neg (by omega), if_neg h2, step37_eq n s hs, askO_s]
      exact chk_out n s
theorem f36_eq (n : Int) (s : List Int) (hs : s.length ≤ 9223372036854775806) : f36 (n, s, ()) = some (chk n s, ()) := by
  unfold f36 chk; dsimp only
  simp only [ltI_eq, eqI_eq, cond_dec]
  by_cases h1 : n < 1
  · rw [if_pos h1, if_pos (.inl h1)]
  · rw [if_neg h1]
    by_cases h3 : 60 < n
    · rw [if_pos h3, if_pos (.inr h3)]
    · rw [if_neg h3, if_neg (show ¬ (n < 1 ∨ 60 < n) by omega)]
      by_cases h2 : s.length = 0
      · rw [if_pos (by omega), if_pos h2]
      · rw [if_neg (by omega), if_neg h2, step36_eq n s hs, askO_s]
        exact chk_out n s

/-- A set of a division. -/
structure Good (n : Int) (s : List Int) : Prop where
  low : 1 ≤ n
  high : n ≤ 60
  some : s ≠ []
  inc : s.Pairwise (· < ·)
  rng : ∀ x ∈ s, 0 ≤ x ∧ x < n
theorem Good.get {n : Int} {s : List Int} (h : Good n s) {i : Nat} (hi : i < s.length) : 0 ≤ s.getD i 0 ∧ s.getD i 0 < n := h.rng _ (getD_mem hi)
theorem Good.lt {n : Int} {s : List Int} (h : Good n s) {i j : Nat} (hi : i < j) (hj : j < s.length) : s.getD i 0 < s.getD j 0 := by
  rw [List.getD_eq_getElem?_getD, List.getD_eq_getElem?_getD, List.getElem?_eq_getElem hj, List.getElem?_eq_getElem (Nat.lt_trans hi hj)]
  exact List.pairwise_iff_getElem.1 h.inc i j _ _ hi
theorem Good.pos {n : Int} {s : List Int} (h : Good n s) : 0 < s.length := List.length_pos_iff.2 h.some
theorem Good.chk {n : Int} {s : List Int} (h : Good n s) : chk n s = 0 := by
  unfold PM.chk
  rw [if_neg (by have := h.low; have := h.high; omega), if_neg (by have := h.pos; omega)]
  refine findSome_none fun i hi => ?_
  unfold chkS
  have h1 := h.get hi
  rw [if_neg (by omega), if_neg (by omega)]
  by_cases h0 : 0 < i
  · have := h.lt (show i - 1 < i by omega) hi
    rw [if_neg (fun e => e.2 this)]
  · rw [if_neg (fun e => h0 e.1)]
theorem pairwise_room {n : Int} : ∀ {s : List Int} {a : Int}, s.Pairwise (· < ·) → (∀ x ∈ s, a ≤ x ∧ x < n) → s = [] ∨ (s.length : Int) ≤ n - a
  | [], _, _, _ => .inl rfl
  | x :: s, a, h, hr => by
    right
    obtain ⟨h1, h2⟩ := List.pairwise_cons.1 h
    have hx := hr x (by simp)
    rcases pairwise_room (a := x + 1) h2 (fun y hy => ⟨by have := h1 y hy; omega, (hr y (by simp [hy])).2⟩) with h3 | h3
    · subst h3; simp; omega
    · rw [List.length_cons]; omega
theorem Good.len {n : Int} {s : List Int} (h : Good n s) : (s.length : Int) ≤ n := by
  rcases pairwise_room h.inc (fun x hx => ⟨(h.rng x hx).1, (h.rng x hx).2⟩) with h1 | h1
  · exact (h.some h1).elim
  · omega
theorem Good.len60 {n : Int} {s : List Int} (h : Good n s) : s.length ≤ 60 := by have := h.len; have := h.high; omega
end Go.PM
