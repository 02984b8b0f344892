/- Chapter 35, plain law: EvennessGenerators and EvennessChecks answer true. -/
import Derived.Test.YtdlckpedbmjnnaaEvQ
set_option linter.unusedSimpArgs false
set_option linter.unusedVariables false
namespace Go.PM
open Go Go.RowKit Go.Proofs
set_option maxRecDepth 100000

/-- A set is what of the division's steps is in it. -/
theorem Good.filter {n : Int} {s : List Int} (h : Good n s) : s = ((List.range n.toNat).map fun i : Nat => (i : Int)).filter fun x => decide (x ∈ s) := by
  refine incr_unique h.inc ?_ ?_
  · refine List.Pairwise.filter _ (List.pairwise_map.2 (List.pairwise_lt_range.imp fun h => ?_))
    omega
  · intro x
    rw [List.mem_filter, List.mem_map]
    constructor
    · intro hx
      have := h.rng x hx
      exact ⟨⟨x.toNat, List.mem_range.2 (by omega), by omega⟩, by simpa using hx⟩
    · rintro ⟨-, h2⟩; simpa using h2
/-- The first start, of the set's notes or of all. -/
theorem first_start {n : Int} {s : List Int} (h : Good n s) (p : Int → Bool) (hp : ∀ x, p x = true → x ∈ s) : s.find? p = ((List.range n.toNat).map fun i : Nat => (i : Int)).find? p := by
  conv => lhs; rw [h.filter]
  rw [List.find?_filter]
  congr 1
  funext x
  by_cases hx : p x = true
  · simp [hx, hp x hx]
  · simp [hx]
theorem gen_start {n g st : Int} {k : Nat} {l : List Int} (hk : 1 ≤ k) (hs : 0 ≤ st ∧ st < n) (h : gen n g k st = some l) : st ∈ l := by
  unfold gen at h
  split at h
  · cases h
  · cases h
    rw [(srt_perm _).mem_iff]
    refine List.mem_map.2 ⟨0, List.mem_range.2 (by omega), ?_⟩
    unfold gx
    simp only [Int.natCast_zero, Int.zero_mul, Int.add_zero]
    exact Int.tmod_eq_of_lt hs.1 hs.2
/-- Which start makes the set. -/
def hit (n : Int) (s : List Int) (g : Int) (x : Int) : Bool := decide (0 ≤ x ∧ x < n) && decide (gen n g s.length x = some s)
/-- The first start for a generator. -/
def fst1 (n : Int) (s : List Int) (g : Int) : Option Int := s.find? (hit n s g)
theorem findSome_get {τ : Type} (p : Int → Bool) (f : Int → τ) (s : List Int) : ((List.range s.length).findSome? fun i => if p (s.getD i 0) = true then some (f (s.getD i 0)) else none) = (s.find? p).map f := by
  have key : ∀ (l : List Int), (l.findSome? fun x => if p x = true then some (f x) else none) = (l.find? p).map f := by
    intro l
    induction l with
    | nil => rfl
    | cons x l ih =>
      rw [List.findSome?_cons, List.find?_cons]
      cases hp : p x <;> simp [ih]
  rw [← key]
  have : s = (List.range s.length).map fun i => s.getD i 0 := by
    apply List.ext_getElem (by simp)
    intro i h1 h2
    simp [h1]
  conv => rhs; rw [this]
  rw [List.findSome?_map]
  rfl
abbrev Z18 := (Int × Int × Bool × Int × Unit) ⊕ (Int × List Int × Int × Unit)
theorem loop18_in {n : Int} {s : List Int} (h : Good n s) {g : Int} (hg : 0 ≤ g ∧ g < n) : loop18_0 (n, s, g, s, (s.length : Int), 0, ()) = some (match fst1 n s g with | some x => .inl (g, x, true, 0, ()) | none => .inr (n, s, g, ())) := by
  have hk := h.len60
  have hp := h.pos
  have hl := h.len
  have : loop18_0 (n, s, g, s, (s.length : Int), 0, ()) = _ := loopN_find (N := 2 ^ 64) (step := step18_0) (fun i => (n, s, g, s, (s.length : Int), (i : Int), ())) (fun i => if hit n s g (s.getD i 0) = true then some (.inl (g, s.getD i 0, true, 0, ())) else none) s.length (.inr (n, s, g, ())) (by omega) (by
    intro i hi
    have hx := h.get hi
    have hf := f15_good (k := s.length) ⟨h.low, h.high⟩ ⟨hp, hl⟩ hg hx
    simp only [step18_0, ltI_eq, idxOk_eq, cond_dec, Int.toNat_natCast]
    rw [if_pos (by omega), if_pos (by omega), hf, askO_s, wrap64s i (by omega)]
    unfold hit
    rw [decide_eq_true hx, Bool.true_and]
    cases hgen : gen n g s.length (s.getD i 0) with
    | none => rw [if_neg (by simp)]; rfl
    | some l =>
      have h0 : eqI 0 0 = true := rfl
      simp only [h0, cond_true]
      rw [f14_eq _ _ (by rw [gen_length hgen]; omega), askO_s]
      by_cases he : l = s
      · rw [decide_eq_true he, if_pos (by simp [he])]; rfl
      · rw [decide_eq_false he, if_neg (by simp [he])]; rfl) (by
    simp only [step18_0, ltI_eq, cond_dec]
    rw [if_neg (by omega)])
  rw [findSome_get (hit n s g) (fun x => (.inl (g, x, true, 0, ()) : Z18))] at this
  refine Eq.trans this ?_
  unfold fst1
  cases s.find? (hit n s g) <;> rfl
/-- The first generator, with its first start. -/
def fst2 (n : Int) (s : List Int) : Option (Int × Int) := (List.range (n.toNat - 1)).findSome? fun j => (fst1 n s ((j + 1 : Nat) : Int)).map fun x => (((j + 1 : Nat) : Int), x)
theorem findSome_map2 {α β γ : Type} (f : Nat → Option α) (g : Nat → α → β) (k : β → γ) (l : List Nat) : (l.findSome? fun i => (f i).map fun x => k (g i x)) = (l.findSome? fun i => (f i).map (g i)).map k := by
  rw [← findSome_map]
  congr 1
  funext i
  cases f i <;> rfl
theorem loop18_out {n : Int} {s : List Int} (h : Good n s) : loop18_1 (n, s, 1, ()) = some (match fst2 n s with | some y => .inl (y.1, y.2, true, 0, ()) | none => .inr ()) := by
  have hn := h.low
  have hh := h.high
  have : loop18_1 (n, s, 1, ()) = _ := loopN_find (N := 2 ^ 64) (step := step18_1) (fun j => (n, s, ((j + 1 : Nat) : Int), ())) (fun j => (fst1 n s ((j + 1 : Nat) : Int)).map fun x => (.inl (((j + 1 : Nat) : Int), x, true, 0, ()))) (n.toNat - 1) (.inr ()) (by omega) (by
    intro j hj
    simp only [step18_1, ltI_eq, cond_dec]
    rw [if_pos (by omega), loop18_in h (by omega), askO_s]
    cases fst1 n s ((j + 1 : Nat) : Int) with
    | none =>
      simp only [onSum_inr]
      rw [wrap64s (j + 1) (by omega)]; rfl
    | some x => rfl) (by
    simp only [step18_1, ltI_eq, cond_dec]
    rw [if_neg (by omega)])
  rw [findSome_map2 (fun j => fst1 n s ((j + 1 : Nat) : Int)) (fun j x => (((j + 1 : Nat) : Int), x)) (fun y => (.inl (y.1, y.2, true, 0, ()) : (Int × Int × Bool × Int × Unit) ⊕ Unit))] at this
  refine Eq.trans this ?_
  show some (((fst2 n s).map _).getD _) = _
  cases fst2 n s <;> rfl
theorem f18_good {n : Int} {s : List Int} (h : Good n s) : f18 (n, s, ()) = if s.length = 1 then some ((0 : Int), (0 : Int), false, (0 : Int), ()) else match fst2 n s with | some y => some (y.1, y.2, true, (0 : Int), ()) | none => some ((0 : Int), (0 : Int), false, (0 : Int), ()) := by
  have hk := h.len60
  unfold f18; dsimp only
  rw [f37_eq n s (by omega), h.chk, askO_s]
  simp only [eqI_eq, not_dec, cond_dec]
  rw [if_neg (by simp)]
  by_cases h1 : s.length = 1
  · rw [if_pos (by omega), if_pos h1]
  · rw [if_neg (by omega), if_neg h1, loop18_out h, askO_s]
    cases fst2 n s <;> rfl
/-- The law's loops, for what the program answered. -/
theorem loop5_in {n : Int} {s : List Int} (h : Good n s) (g0 st0 : Int) (fd : Bool) {g : Int} (hg : 0 ≤ g ∧ g < n) : loop5_0 (n, s, g0, st0, fd, g, n, 0, ()) = some (match fst1 n s g with
    | some x => .inl ((bif fd then bif eqI g0 g then eqI st0 x else false else false), ())
    | none => .inr (n, s, g0, st0, fd, g, ())) := by
  have hk := h.len60
  have hp := h.pos
  have hl := h.len
  have hn := h.low
  have hh := h.high
  obtain ⟨m, rfl⟩ : ∃ m : Nat, n = (m : Int) := ⟨n.toNat, by omega⟩
  have : loop5_0 ((m : Int), s, g0, st0, fd, g, (m : Int), 0, ()) = _ := loopN_find (N := 2 ^ 64) (step := step5_0) (fun i => ((m : Int), s, g0, st0, fd, g, (m : Int), (i : Int), ())) (fun i => if hit (m : Int) s g (i : Int) = true then some (.inl ((bif fd then bif eqI g0 g then eqI st0 (i : Int) else false else false), ())) else none) m (.inr ((m : Int), s, g0, st0, fd, g, ())) (by omega) (by
    intro i hi
    have hx : 0 ≤ (i : Int) ∧ (i : Int) < (m : Int) := by omega
    have hf := f16_good (k := s.length) ⟨h.low, h.high⟩ ⟨hp, hl⟩ hg hx
    simp only [step5_0]
    rw [ltI_eq, decide_eq_true hx.2, cond_true, hf, askO_s, wrap64s i (by omega)]
    unfold hit
    rw [decide_eq_true hx, Bool.true_and]
    cases hgen : gen (m : Int) g s.length (i : Int) with
    | none => rw [if_neg (by simp)]; rfl
    | some l =>
      simp only [cond_true]
      rw [f14_eq _ _ (by rw [gen_length hgen]; omega), askO_s]
      by_cases he : l = s
      · rw [decide_eq_true he, if_pos (by simp [he])]
        cases fd <;> cases eqI g0 g <;> rfl
      · rw [decide_eq_false he, if_neg (by simp [he])]; rfl) (by
    simp only [step5_0]
    rw [ltI_eq, decide_eq_false (by omega), cond_false])
  have e2 : fst1 (m : Int) s g = ((List.range m).map fun i : Nat => (i : Int)).find? (hit (m : Int) s g) := by
    unfold fst1
    have := first_start h (hit (m : Int) s g) (fun x hx => by
      unfold hit at hx
      simp only [Bool.and_eq_true, decide_eq_true_eq] at hx
      exact gen_start hp hx.1 hx.2)
    rw [Int.toNat_natCast] at this
    exact this
  refine Eq.trans this ?_
  rw [e2]
  have key : ∀ (l : List Nat), (l.findSome? fun i : Nat => if hit (m : Int) s g (i : Int) = true then some ((.inl ((bif fd then bif eqI g0 g then eqI st0 (i : Int) else false else false), ())) : (Bool × Unit) ⊕ (Int × List Int × Int × Int × Bool × Int × Unit)) else none) = ((l.map fun i : Nat => (i : Int)).find? (hit (m : Int) s g)).map fun x => .inl ((bif fd then bif eqI g0 g then eqI st0 x else false else false), ()) := by
    intro l
    induction l with
    | nil => rfl
    | cons i l ih =>
      rw [List.findSome?_cons, List.map_cons, List.find?_cons]
      cases hit (m : Int) s g (i : Int) with
      | true => rfl
      | false => exact ih
  rw [key]
  cases ((List.range m).map fun i : Nat => (i : Int)).find? (hit (m : Int) s g) <;> rfl
theorem loop5_out {n : Int} {s : List Int} (h : Good n s) (h1 : s.length ≠ 1) (g0 st0 : Int) (fd : Bool) : loop5_1 (n, s, g0, st0, fd, 1, ()) = some (match fst2 n s with
    | some y => .inl ((bif fd then bif eqI g0 y.1 then eqI st0 y.2 else false else false), ())
    | none => .inr (g0, st0, fd, ())) := by
  have hn := h.low
  have hh := h.high
  have hp := h.pos
  have : loop5_1 (n, s, g0, st0, fd, 1, ()) = _ := loopN_find (N := 2 ^ 64) (step := step5_1) (fun j => (n, s, g0, st0, fd, ((j + 1 : Nat) : Int), ())) (fun j => (fst1 n s ((j + 1 : Nat) : Int)).map fun x => (.inl ((bif fd then bif eqI g0 ((j + 1 : Nat) : Int) then eqI st0 x else false else false), ()))) (n.toNat - 1) (.inr (g0, st0, fd, ())) (by omega) (by
    intro j hj
    simp only [step5_1]
    rw [ltI_eq, decide_eq_true (by omega), cond_true, ltI_eq, decide_eq_true (by omega), cond_true, loop5_in h g0 st0 fd (by omega), askO_s]
    cases fst1 n s ((j + 1 : Nat) : Int) with
    | none =>
      simp only [onSum_inr]
      rw [wrap64s (j + 1) (by omega)]; rfl
    | some x => rfl) (by
    simp only [step5_1]
    rw [ltI_eq, decide_eq_false (by omega), cond_false])
  rw [findSome_map2 (fun j => fst1 n s ((j + 1 : Nat) : Int)) (fun j x => (((j + 1 : Nat) : Int), x)) (fun y => (.inl ((bif fd then bif eqI g0 y.1 then eqI st0 y.2 else false else false), ()) : (Bool × Unit) ⊕ (Int × Int × Bool × Unit)))] at this
  refine Eq.trans this ?_
  show some (((fst2 n s).map _).getD _) = _
  cases fst2 n s <;> rfl
theorem loop5_one {n : Int} {s : List Int} (h1 : s.length = 1) : loop5_1 (n, s, 0, 0, false, 1, ()) = some (.inr (0, 0, false, ())) := by
  unfold loop5_1
  rw [show (2 ^ 64 : Nat) = (2 ^ 64 - 1) + 1 from rfl, loopN_succ]
  have : step5_1 (n, s, 0, 0, false, 1, ()) = some (.inr (.inr (0, 0, false, ()))) := by
    simp only [step5_1, ltI_eq, cond_dec]
    by_cases h2 : 1 < n
    · rw [if_pos h2, if_neg (by omega)]
    · rw [if_neg h2]
  rw [this]
theorem f5_true (a b : Int) (ha : 0 ≤ a) : f5 ((a, b), ()) = some (true, ()) := by
  obtain ⟨n, s, h1, h, hn⟩ := f17_eq a b ha
  unfold f5; dsimp only
  rw [f12_true, askO_s]
  simp only [cond_true]
  rw [h1, askO_s]
  dsimp only
  rw [f18_good h]
  by_cases hl : s.length = 1
  · rw [if_pos hl, askO_s]
    dsimp only
    rw [loop5_one hl]; rfl
  · rw [if_neg hl]
    cases hf : fst2 n s with
    | none =>
      dsimp only
      rw [askO_s]
      dsimp only
      rw [loop5_out h hl, hf]; rfl
    | some y =>
      dsimp only
      rw [askO_s]
      dsimp only
      rw [loop5_out h hl, hf, askO_s]
      simp [eqI_eq, onSum]

/-- EvennessChecks -/
theorem f11_true (n : Int) (s : List Int) : f11 (n, s, ()) = some (true, ()) := by
  unfold f11; dsimp only
  rw [f12_true, askO_s]
  simp only [cond_true, askO_s]
  rw [ltI_eq, cond_dec]
  by_cases h8 : (8 : Int) < (s.length : Int)
  · rw [if_pos h8]
  rw [if_neg h8, f36_eq n s (by omega), askO_s, f37_eq n s (by omega), askO_s]
  simp only [eqI_eq, not_dec, cond_dec, not_true, if_false]
  obtain ⟨e, he⟩ : ∃ e, e = chk n s := ⟨_, rfl⟩
  have hc : f37 (n, s, ()) = some (e, ()) := by rw [he]; exact f37_eq n s (by omega)
  rw [← he]
  by_cases h0 : e = 0
  · rw [if_pos h0]
  rw [if_neg h0]
  have hn : (!(eqI e 0)) = true := by rw [eqI_eq, decide_eq_false h0]; rfl
  have g29 : f29 (n, s, ()) = some ([], e, ()) := by unfold f29; dsimp only; rw [hc, askO_s, hn]; rfl
  have g28 : f28 (n, s, 0, ()) = some ([], e, ()) := by unfold f28; dsimp only; rw [hc, askO_s, hn]; rfl
  have g27 : f27 (n, s, ()) = some (false, (0, (0, 0)), e, ()) := by unfold f27; dsimp only; rw [hc, askO_s, hn]; rfl
  have g23 : f23 (n, s, 1, ()) = some ([], e, ()) := by unfold f23; dsimp only; rw [hc, askO_s, hn]; rfl
  have g25 : f25 (n, s, ()) = some ([], e, ()) := by unfold f25; dsimp only; rw [hc, askO_s, hn]; rfl
  have g26 : f26 (n, s, ()) = some ([], e, ()) := by unfold f26; dsimp only; rw [hc, askO_s, hn]; rfl
  have g24 : f24 (n, s, ()) = some ([], e, ()) := by unfold f24; dsimp only; rw [hc, askO_s, hn]; rfl
  have g18 : f18 (n, s, ()) = some (0, 0, false, e, ()) := by unfold f18; dsimp only; rw [hc, askO_s, hn]; rfl
  rw [g29, askO_s, g28, askO_s, g27, askO_s, g23, askO_s, g25, askO_s, g26, askO_s, g24, askO_s, g18, askO_s]
  simp only [if_true]
  rfl
end Go.PM
