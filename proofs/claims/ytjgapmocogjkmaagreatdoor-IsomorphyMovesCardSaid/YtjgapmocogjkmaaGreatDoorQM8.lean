/- Texts of one proof, joined (8). -/
import Derived.Lib.AtoiAllCases
import Derived.Test.YtjgapmocogjkmaaGreatDoorQM7
set_option linter.unusedSimpArgs false
set_option linter.unusedVariables false
namespace Go.Lz
abbrev V := Nat → Int
inductive Sp (k : Nat) (M : Nat → V) : V → Prop
 | zero : Sp k M (fun _ => 0)
 | add {v : V} (j : Nat) (t : Int) : j < k → Sp k M v → Sp k M (fun i => v i + t * M j i)

theorem Sp.mem {k : Nat} {M : Nat → V} {j : Nat} (h : j < k) : Sp k M (M j) := by
 have := Sp.add j 1 h (Sp.zero (k := k) (M := M))
 simpa using this
theorem Sp.comb {k : Nat} {M : Nat → V} {u v : V} (t : Int) (hu : Sp k M u) (hv : Sp k M v) : Sp k M (fun i => u i + t * v i) := by
 induction hv with
 | zero => simpa using hu
 | add j s hj _ ih =>
  have := Sp.add j (t * s) hj ih
  refine cast (congrArg (Sp k M) ?_) this
  funext i
  grind
theorem Sp.sum {k : Nat} {M : Nat → V} {u v : V} (hu : Sp k M u) (hv : Sp k M v) : Sp k M (fun i => u i + v i) := by
 have := Sp.comb 1 hu hv
 simpa using this
theorem Sp.smul {k : Nat} {M : Nat → V} {v : V} (t : Int) (hv : Sp k M v) : Sp k M (fun i => t * v i) := by
 have := Sp.comb t Sp.zero hv
 simpa using this
theorem Sp.sub {k : Nat} {M : Nat → V} {u v : V} (hu : Sp k M u) (hv : Sp k M v) : Sp k M (fun i => u i - v i) := by
 have := Sp.comb (-1) hu hv
 refine cast (congrArg (Sp k M) ?_) this
 funext i
 grind
theorem Sp.trans {k k' : Nat} {M M' : Nat → V} (h : ∀ j, j < k → Sp k' M' (M j)) {v : V} (hv : Sp k M v) : Sp k' M' v := by
 induction hv with
 | zero => exact .zero
 | add j t hj _ ih => exact Sp.comb t ih (h j hj)
theorem Sp.SL {k : Nat} {M : Nat → V} {x : Nat} (h : ∀ j, j < k → M j x = 0) {v : V} (hv : Sp k M v) : v x = 0 := by
 induction hv with
 | zero => rfl
 | add j t hj _ ih => simp only [ih, h j hj, Int.mul_zero, Int.add_zero]
def Same (k : Nat) (M : Nat → V) (k' : Nat) (M' : Nat → V) : Prop := ∀ v, Sp k M v ↔ Sp k' M' v
theorem Same.refl (k : Nat) (M : Nat → V) : Same k M k M := fun _ => Iff.rfl
theorem Same.symm {k k' : Nat} {M M' : Nat → V} (h : Same k M k' M') : Same k' M' k M := fun v => (h v).symm
theorem Same.trans {k k' k'' : Nat} {M M' M'' : Nat → V} (h : Same k M k' M') (g : Same k' M' k'' M'') : Same k M k'' M'' := fun v => (h v).trans (g v)
theorem Same.of {k k' : Nat} {M M' : Nat → V} (h : ∀ j, j < k → Sp k' M' (M j)) (g : ∀ j, j < k' → Sp k M (M' j)) : Same k M k' M' := fun _ => ⟨Sp.trans h, Sp.trans g⟩
theorem Sp.first {k : Nat} {M : Nat → V} {v : V} (h : Sp (k + 1) M v) : ∃ t u, Sp k (fun i => M (i + 1)) u ∧ v = fun i => u i + t * M 0 i := by
 induction h with
 | zero => exact ⟨0, fun _ => 0, .zero, by funext i; simp⟩
 | add j s hj _ ih =>
  obtain ⟨t, u, hu, rfl⟩ := ih
  cases j with
  | zero => exact ⟨t + s, u, hu, by funext i; grind⟩
  | succ j => exact ⟨t, _, Sp.add j s (by omega) hu, by funext i; grind⟩
theorem Sp.behind {k : Nat} {M : Nat → V} {u : V} (h : Sp k (fun i => M (i + 1)) u) : Sp (k + 1) M u :=
 Sp.trans (fun j hj => Sp.mem (by omega)) h

structure Hn (k : Nat) (M : Nat → V) (c : Nat → Nat) : Prop where
 inc : ∀ i j, i < j → j < k → c i < c j
 low : ∀ i, i < k → ∀ x, x < c i → M i x = 0
 pos : ∀ i, i < k → 0 < M i (c i)
 red : ∀ i j, i < j → j < k → 0 ≤ M i (c j) ∧ M i (c j) < M j (c j)

theorem Hn.tail {k : Nat} {M : Nat → V} {c : Nat → Nat} (h : Hn (k + 1) M c) : Hn k (fun i => M (i + 1)) (fun i => c (i + 1)) where
 inc := fun i j hij hj => h.inc _ _ (by omega) (by omega)
 low := fun i hi => h.low _ (by omega)
 pos := fun i hi => h.pos _ (by omega)
 red := fun i j hij hj => h.red _ _ (by omega) (by omega)
theorem Hn.TV {k : Nat} {M : Nat → V} {c : Nat → Nat} (h : Hn (k + 1) M c) {u : V} (hu : Sp k (fun i => M (i + 1)) u) {x : Nat} (hx : x ≤ c 0) : u x = 0 :=
 Sp.SL (fun j hj => h.low (j + 1) (by omega) x (by have := h.inc 0 (j + 1) (by omega) (by omega); omega)) hu

theorem Hn.small : ∀ {k : Nat} {M : Nat → V} {c : Nat → Nat}, Hn k M c → ∀ {v : V}, Sp k M v → (∀ i, i < k → -(M i (c i)) < v (c i) ∧ v (c i) < M i (c i)) → v = fun _ => 0
 | 0, M, c, h, v, hv, _ => by
  cases hv with
  | zero => rfl
  | add j t hj _ => omega
 | k + 1, M, c, h, v, hv, hs => by
  obtain ⟨t, u, hu, rfl⟩ := hv.first
  have h0 := h.TV hu (Nat.le_refl _)
  have hp := h.pos 0 (by omega)
  have hs0 := hs 0 (by omega)
  simp only [h0, Int.zero_add] at hs0
  have ht : t = 0 := by
   rcases Int.lt_trichotomy t 0 with h1 | h1 | h1
   ·have : t * M 0 (c 0) ≤ (-1) * M 0 (c 0) := Int.mul_le_mul_of_nonneg_right (by omega) (by omega)
    omega
   ·exact h1
   ·have : 1 * M 0 (c 0) ≤ t * M 0 (c 0) := Int.mul_le_mul_of_nonneg_right (by omega) (by omega)
    omega
  subst ht
  have e : (fun i => u i + 0 * M 0 i) = u := by funext i; simp
  rw [e] at hs ⊢
  exact Hn.small h.tail hu fun i hi => hs (i + 1) (by omega)

theorem Hn.unique : ∀ {k k' : Nat} {M M' : Nat → V} {c c' : Nat → Nat}, Hn k M c → Hn k' M' c' → Same k M k' M' → k = k' ∧ (∀ i, i < k → c i = c' i) ∧ ∀ i, i < k → M i = M' i
 | 0, 0, _, _, _, _, _, _, _ => ⟨rfl, fun i hi => by omega, fun i hi => by omega⟩
 | 0, k' + 1, M, M', c, c', h, h', e => by
  have := Hn.small h ((e _).2 (Sp.mem (M := M') (Nat.succ_pos k'))) (fun i hi => by omega)
  have hp := h'.pos 0 (by omega)
  rw [this] at hp
  simp at hp
 | k + 1, 0, M, M', c, c', h, h', e => by
  have := Hn.small h' ((e _).1 (Sp.mem (M := M) (Nat.succ_pos k))) (fun i hi => by omega)
  have hp := h.pos 0 (by omega)
  rw [this] at hp
  simp at hp
 | k + 1, k' + 1, M, M', c, c', h, h', e => by
  have hp := h.pos 0 (by omega)
  have hp' := h'.pos 0 (by omega)
  obtain ⟨t, u, hu, ht⟩ := Sp.first ((e _).1 (Sp.mem (M := M) (Nat.succ_pos k)))
  obtain ⟨t', u', hu', ht'⟩ := Sp.first ((e _).2 (Sp.mem (M := M') (Nat.succ_pos k')))
  have hc : c 0 = c' 0 := by
   rcases Nat.lt_trichotomy (c 0) (c' 0) with h1 | h1 | h1
   ·exfalso
    have a1 := congrFun ht (c 0)
    have a2 := h'.TV hu (x := c 0) (by omega)
    have a3 := h'.low 0 (by omega) _ h1
    simp only [a2, a3, Int.mul_zero, Int.add_zero] at a1
    omega
   ·exact h1
   ·exfalso
    have a1 := congrFun ht' (c' 0)
    have a2 := h.TV hu' (x := c' 0) (by omega)
    have a3 := h.low 0 (by omega) _ h1
    simp only [a2, a3, Int.mul_zero, Int.add_zero] at a1
    omega
  have e1 : M 0 (c 0) = t * M' 0 (c 0) := by
   have a1 := congrFun ht (c 0)
   have a2 := h'.TV hu (x := c 0) (by omega)
   simpa [a2] using a1
  have e2 : M' 0 (c 0) = t' * M 0 (c 0) := by
   have a1 := congrFun ht' (c 0)
   have a2 := h.TV hu' (x := c 0) (by omega)
   simpa [a2] using a1
  rw [← hc] at hp'
  have e3 : M 0 (c 0) = M' 0 (c 0) := Int.le_antisymm (Int.le_of_dvd hp' ⟨t', by rw [e2]; exact Int.mul_comm _ _⟩) (Int.le_of_dvd hp ⟨t, by rw [e1]; exact Int.mul_comm _ _⟩)
  have tails : Same k (fun i => M (i + 1)) k' (fun i => M' (i + 1)) := by
   intro v
   constructor
   ·intro hv
    obtain ⟨s, w, hw, rfl⟩ := Sp.first ((e _).1 hv.behind)
    have a1 := h.TV hv (Nat.le_refl _)
    have a2 := h'.TV hw (x := c 0) (by omega)
    simp only [a2, Int.zero_add] at a1
    have : s = 0 := by
     rcases Int.mul_eq_zero.1 a1 with h1 | h1
     ·exact h1
     ·omega
    subst this
    have e : (fun i => w i + 0 * M' 0 i) = w := by funext i; simp
    rw [e]; exact hw
   ·intro hv
    obtain ⟨s, w, hw, rfl⟩ := Sp.first ((e _).2 hv.behind)
    have a1 := h'.TV hv (x := c 0) (by omega)
    have a2 := h.TV hw (x := c 0) (by omega)
    simp only [a2, Int.zero_add] at a1
    have : s = 0 := by
     rcases Int.mul_eq_zero.1 a1 with h1 | h1
     ·exact h1
     ·omega
    subst this
    have e : (fun i => w i + 0 * M 0 i) = w := by funext i; simp
    rw [e]; exact hw
  obtain ⟨q1, q2, q3⟩ := Hn.unique h.tail h'.tail tails
  subst q1
  have hd : Sp k (fun i => M (i + 1)) (fun x => M 0 x - M' 0 x) := by
   obtain ⟨s, w, hw, hs⟩ := Sp.first (Sp.sub (Sp.mem (M := M) (Nat.succ_pos k)) ((e _).2 (Sp.mem (M := M') (Nat.succ_pos k))))
   have a1 := congrFun hs (c 0)
   have a2 := h.TV hw (Nat.le_refl _)
   simp only [a2, e3, Int.zero_add, Int.sub_self] at a1
   have : s = 0 := by
    rcases Int.mul_eq_zero.1 a1.symm with h1 | h1
    ·exact h1
    ·omega
   subst this
   have e : (fun i => w i + 0 * M 0 i) = w := by funext i; simp
   rw [hs, e]; exact hw
  have hz := Hn.small h.tail hd (fun i hi => by
   have r1 := h.red 0 (i + 1) (by omega) (by omega)
   have r2 := h'.red 0 (i + 1) (by omega) (by omega)
   have r3 := q2 i hi
   have r4 := congrFun (q3 i hi) (c (i + 1))
   rw [← r3] at r2
   rw [← r4] at r2
   constructor <;> omega)
  refine ⟨rfl, fun i hi => ?_, fun i hi => ?_⟩
  ·cases i with
   | zero => exact hc
   | succ i => exact q2 i (by omega)
  ·cases i with
   | zero =>
    funext x
    have := congrFun hz x
    omega
   | succ i => exact q3 i (by omega)

theorem Hn.aHM {k : Nat} {M : Nat → V} {c : Nat → Nat} (h : Hn k M c) {u v : V} (hs : Sp k M (fun x => u x - v x))
  (hu : ∀ i, i < k → 0 ≤ u (c i) ∧ u (c i) < M i (c i)) (hv : ∀ i, i < k → 0 ≤ v (c i) ∧ v (c i) < M i (c i)) : u = v := by
 have := Hn.small h hs fun i hi => by
  have := hu i hi
  have := hv i hi
  constructor <;> omega
 funext x
 have := congrFun this x
 omega

def up (M : Nat → V) (i : Nat) (r : V) : Nat → V := fun j => if j = i then r else M j
theorem DB (M : Nat → V) (i : Nat) (r : V) : up M i r i = r := by simp [up]
theorem u6 (M : Nat → V) {i j : Nat} (r : V) (h : j ≠ i) : up M i r j = M j := by simp [up, h]
def swp (M : Nat → V) (a b : Nat) : Nat → V := fun j => if j = a then M b else if j = b then M a else M j

theorem aS3 {k a b : Nat} (M : Nat → V) (ha : a < k) (hb : b < k) : Same k M k (swp M a b) := by
 refine Same.of (fun j hj => ?_) (fun j hj => ?_)
 ·by_cases h1 : j = a
  ·subst h1
   by_cases h2 : b = j
   ·have := Sp.mem (M := swp M j b) ha
    simp only [swp, if_true, h2] at this ⊢
    exact this
   ·have := Sp.mem (M := swp M j b) hb
    simp only [swp, h2, if_false, if_true] at this ⊢
    exact this
  ·by_cases h2 : j = b
   ·subst h2
    have := Sp.mem (M := swp M a j) ha
    simp only [swp, if_true] at this ⊢
    exact this
   ·have := Sp.mem (M := swp M a b) hj
    simp only [swp, h1, h2, if_false] at this ⊢
    exact this
 ·unfold swp
  split
  ·exact Sp.mem hb
  ·split
   ·exact Sp.mem ha
   ·exact Sp.mem hj
theorem aC5 {k i d : Nat} (M : Nat → V) (q : Int) (hi : i < k) (hd : d < k) (hne : i ≠ d) : Same k M k (up M i fun x => M i x - q * M d x) := by
 refine Same.of (fun j hj => ?_) (fun j hj => ?_)
 ·by_cases h : j = i
  ·subst h
   have h1 := Sp.mem (M := up M j fun x => M j x - q * M d x) hj
   have h2 := Sp.mem (M := up M j fun x => M j x - q * M d x) hd
   rw [DB] at h1
   rw [u6 _ _ (Ne.symm hne)] at h2
   have := Sp.comb q h1 h2
   refine cast (congrArg _ ?_) this
   funext x
   grind
  ·have := Sp.mem (M := up M i fun x => M i x - q * M d x) hj
   rwa [u6 _ _ h] at this
 ·by_cases h : j = i
  ·subst h
   rw [DB]
   have := Sp.comb (-q) (Sp.mem (M := M) hj) (Sp.mem (M := M) hd)
   refine cast (congrArg _ ?_) this
   funext x
   grind
  ·rw [u6 _ _ h]; exact Sp.mem hj
theorem aSP {k i : Nat} (M : Nat → V) (hi : i < k) : Same k M k (up M i fun x => -(M i x)) := by
 refine Same.of (fun j hj => ?_) (fun j hj => ?_)
 ·by_cases h : j = i
  ·subst h
   have h1 := Sp.mem (M := up M j fun x => -(M j x)) hj
   rw [DB] at h1
   have := Sp.smul (-1) h1
   refine cast (congrArg _ ?_) this
   funext x
   grind
  ·have := Sp.mem (M := up M i fun x => -(M i x)) hj
   rwa [u6 _ _ h] at this
 ·by_cases h : j = i
  ·subst h
   rw [DB]
   have := Sp.smul (-1) (Sp.mem (M := M) hj)
   refine cast (congrArg _ ?_) this
   funext x
   grind
  ·rw [u6 _ _ h]; exact Sp.mem hj
theorem aSS {k d : Nat} (M : Nat → V) (hd : d ≤ k) (h : ∀ i, d ≤ i → i < k → M i = fun _ => 0) : Same k M d M := by
 refine Same.of (fun j hj => ?_) (fun j hj => Sp.mem (by omega))
 rcases Nat.lt_or_ge j d with h1 | h1
 ·exact Sp.mem h1
 ·rw [h j h1 hj]; exact .zero

structure Fo (k : Nat) (M0 M : Nat → V) (d c : Nat) (p : Nat → Nat) : Prop where
 le : d ≤ k
 same : Same k M0 k M
 inc : ∀ i j, i < j → j < d → p i < p j
 lt : ∀ i, i < d → p i < c
 low : ∀ i, i < d → ∀ x, x < p i → M i x = 0
 pos : ∀ i, i < d → 0 < M i (p i)
 red : ∀ i j, i < j → j < d → 0 ≤ M i (p j) ∧ M i (p j) < M j (p j)
 rest : ∀ i, d ≤ i → i < k → ∀ x, x < c → M i x = 0

theorem Fo.start (k : Nat) (M : Nat → V) : Fo k M M 0 0 (fun _ => 0) where
 le := Nat.zero_le _
 same := Same.refl _ _
 inc := fun i j _ h => by omega
 lt := fun i h => by omega
 low := fun i h => by omega
 pos := fun i h => by omega
 red := fun i j _ h => by omega
 rest := fun i _ _ x h => by omega
section
variable {k d c : Nat} {M0 M : Nat → V} {p : Nat → Nat}
theorem Fo.QK (h : Fo k M0 M d c p) {M' : Nat → V} (hs : Same k M k M') (h1 : ∀ i, i < d → M' i = M i) (h2 : ∀ i, d ≤ i → i < k → ∀ x, x < c → M' i x = 0) : Fo k M0 M' d c p where
 le := h.le
 same := h.same.trans hs
 inc := h.inc
 lt := h.lt
 low := fun i hi => by rw [h1 i hi]; exact h.low i hi
 pos := fun i hi => by rw [h1 i hi]; exact h.pos i hi
 red := fun i j hij hj => by rw [h1 i (by omega), h1 j hj]; exact h.red i j hij hj
 rest := h2
theorem Fo.swap (h : Fo k M0 M d c p) {a : Nat} (ha : d ≤ a) (hk : a < k) : Fo k M0 (swp M d a) d c p := by
 refine h.QK (aS3 M (by omega) hk) (fun i hi => ?_) (fun i h1 h2 x hx => ?_)
 ·have e1 : ¬ i = d := by omega
  have e2 : ¬ i = a := by omega
  simp only [swp, e1, e2, if_false]
 ·unfold swp
  split
  ·exact h.rest a ha hk x hx
  ·split
   ·exact h.rest d (Nat.le_refl _) (by omega) x hx
   ·exact h.rest i h1 h2 x hx
theorem Fo.less (h : Fo k M0 M d c p) {i : Nat} (q : Int) (hi : d < i) (hk : i < k) : Fo k M0 (up M i fun x => M i x - q * M d x) d c p := by
 refine h.QK (aC5 M q hk (by omega) (by omega)) (fun j hj => u6 _ _ (by omega)) (fun j h1 h2 x hx => ?_)
 by_cases e : j = i
 ·subst e
  rw [DB, h.rest j h1 h2 x hx, h.rest d (Nat.le_refl _) (by omega) x hx]
  simp
 ·rw [u6 _ _ e]; exact h.rest j h1 h2 x hx
theorem Fo.neg (h : Fo k M0 M d c p) (hk : d < k) : Fo k M0 (up M d fun x => -(M d x)) d c p := by
 refine h.QK (aSP M hk) (fun j hj => u6 _ _ (by omega)) (fun j h1 h2 x hx => ?_)
 by_cases e : j = d
 ·subst e
  rw [DB, h.rest j h1 h2 x hx]
  simp
 ·rw [u6 _ _ e]; exact h.rest j h1 h2 x hx
theorem Fo.skip (h : Fo k M0 M d c p) (hz : ∀ i, d ≤ i → i < k → M i c = 0) : Fo k M0 M d (c + 1) p where
 le := h.le
 same := h.same
 inc := h.inc
 lt := fun i hi => by have := h.lt i hi; omega
 low := h.low
 pos := h.pos
 red := h.red
 rest := fun i h1 h2 x hx => by
  rcases Nat.lt_or_ge x c with h3 | h3
  ·exact h.rest i h1 h2 x h3
  ·have : x = c := by omega
   subst this
   exact hz i h1 h2

structure Fp (k : Nat) (M0 M : Nat → V) (d c : Nat) (p : Nat → Nat) (m : Nat) : Prop extends Fo k M0 M d c p where
 dk : d < k
 piv : 0 < M d c
 below : ∀ i, d < i → i < k → M i c = 0
 up : ∀ i, i < m → 0 ≤ M i c ∧ M i c < M d c
theorem Fp.less {m : Nat} (h : Fp k M0 M d c p m) (hm : m < d) : Fp k M0 (Lz.up M m fun x => M m x - (M m c).fdiv (M d c) * M d x) d c p (m + 1) := by
 have hd0 : ∀ x, x < c → M d x = 0 := h.rest d (Nat.le_refl _) h.dk
 have hr : ∀ x, x < c → ∀ i, Lz.up M m (fun x => M m x - (M m c).fdiv (M d c) * M d x) i x = M i x := by
  intro x hx i
  by_cases e : i = m
  ·subst e
   rw [DB, hd0 x hx]; simp
  ·rw [u6 _ _ e]
 have hne : ∀ i, i ≠ m → Lz.up M m (fun x => M m x - (M m c).fdiv (M d c) * M d x) i = M i := fun i e => u6 _ _ e
 refine { le := h.le, same := h.same.trans (aC5 M _ (by have := h.le; omega) h.dk (by omega)), inc := h.inc, lt := h.lt, low := fun i hi x hx => ?_, pos := fun i hi => ?_, red := fun i j hij hj => ?_, rest := fun i h1 h2 x hx => ?_, dk := h.dk, piv := ?_, below := fun i h1 h2 => ?_, up := fun i hi => ?_ }
 ·rw [hr x (by have := h.lt i hi; omega)]; exact h.low i hi x hx
 ·rw [hr _ (h.lt i hi)]; exact h.pos i hi
 ·rw [hr _ (h.lt j hj), hr _ (h.lt j hj)]; exact h.red i j hij hj
 ·rw [hr x hx]; exact h.rest i h1 h2 x hx
 ·rw [hne d (by omega)]; exact h.piv
 ·rw [hne i (by omega)]; exact h.below i h1 h2
 ·rw [hne d (by omega)]
  by_cases e : i = m
  ·subst e
   rw [DB]
   have h1 := Int.fmod_def (M i c) (M d c)
   have h2 := Int.fmod_nonneg_of_pos (M i c) h.piv
   have h3 := Int.fmod_lt_of_pos (M i c) h.piv
   have h4 : (M i c).fdiv (M d c) * M d c = M d c * (M i c).fdiv (M d c) := Int.mul_comm _ _
   omega
  ·rw [hne i e]; exact h.up i (by omega)
theorem Fp.done (h : Fp k M0 M d c p d) : Fo k M0 M (d + 1) (c + 1) (fun i => if i = d then c else p i) := by
 have hp : ∀ i, i < d → (if i = d then c else p i) = p i := fun i hi => by rw [if_neg (by omega)]
 refine { le := h.dk, same := h.same, inc := fun i j hij hj => ?_, lt := fun i hi => ?_, low := fun i hi x hx => ?_, pos := fun i hi => ?_, red := fun i j hij hj => ?_, rest := fun i h1 h2 x hx => ?_ }
 ·rw [hp i (by omega)]
  by_cases e : j = d
  ·subst e; rw [if_pos rfl]; exact h.lt i hij
  ·rw [if_neg e]; exact h.inc i j hij (by omega)
 ·by_cases e : i = d
  ·rw [if_pos e]; omega
  ·rw [if_neg e]; have := h.lt i (by omega); omega
 ·by_cases e : i = d
  ·subst e; rw [if_pos rfl] at hx; exact h.rest i (Nat.le_refl _) h.dk x hx
  ·rw [if_neg e] at hx; exact h.low i (by omega) x hx
 ·by_cases e : i = d
  ·subst e; rw [if_pos rfl]; exact h.piv
  ·rw [if_neg e]; exact h.pos i (by omega)
 ·by_cases e : j = d
  ·subst e; rw [if_pos rfl]; exact h.up i hij
  ·rw [if_neg e]; exact h.red i j hij (by omega)
 ·rcases Nat.lt_or_ge x c with h3 | h3
  ·exact h.rest i (by omega) h2 x h3
  ·have : x = c := by omega
   subst this
   exact h.below i (by omega) h2
theorem Fo.hn (h : Fo k M0 M d c p) (hz : d = k ∨ ∀ i, i < k → ∀ x, c ≤ x → M i x = 0) : Hn d M p ∧ Same k M0 d M := by
 refine ⟨⟨h.inc, h.low, h.pos, h.red⟩, h.same.trans ?_⟩
 rcases hz with rfl | hz
 ·exact Same.refl _ _
 ·refine aSS M h.le fun i h1 h2 => ?_
  funext x
  rcases Nat.lt_or_ge x c with h3 | h3
  ·exact h.rest i h1 h2 x h3
  ·exact hz i h2 x h3
end
def dot : Nat → V → V → Int
 | 0, _, _ => 0
 | n + 1, a, b => dot n a b + a n * b n
theorem a7J (u v b : V) (t : Int) : ∀ n, dot n (fun i => u i + t * v i) b = dot n u b + t * dot n v b
 | 0 => by simp [dot]
 | n + 1 => by
  rw [dot, dot, dot, a7J u v b t n]
  grind
theorem a7L (b : V) : ∀ n, dot n (fun _ => 0) b = 0
 | 0 => rfl
 | n + 1 => by rw [dot, a7L b n]; simp
theorem aQK {a b a' b' : V} : ∀ {n}, (∀ i, i < n → a i = a' i) → (∀ i, i < n → b i = b' i) → dot n a b = dot n a' b'
 | 0, _, _ => rfl
 | n + 1, h, g => by rw [dot, dot, aQK (fun i hi => h i (by omega)) (fun i hi => g i (by omega)), h n (by omega), g n (by omega)]
def Ker (n m : Nat) (A : Nat → V) (y : V) : Prop := (∀ c, n ≤ c → y c = 0) ∧ ∀ x, x < m → dot n y (A x) = 0
def a7I (n m : Nat) (A : Nat → V) (k : Nat) (K : Nat → V) : Prop := ∀ y, Sp k K y ↔ Ker n m A y
def wide (n m : Nat) (A : Nat → V) : Nat → V := fun c x => if x < m then A x c else if x = m + c then 1 else 0
theorem a7M {n m : Nat} {A : Nat → V} (y : V) : ∀ j, j ≤ n → Sp n (wide n m A) (fun x => if x < m then dot j y (A x) else if x < m + j then y (x - m) else 0)
 | 0, _ => by
  refine cast (congrArg _ ?_) Sp.zero
  funext x
  split
  ·simp [dot]
  ·split
   ·omega
   ·rfl
 | j + 1, h => by
  have := Sp.comb (y j) (a7M y j (by omega)) (Sp.mem (M := wide n m A) (show j < n by omega))
  refine cast (congrArg _ ?_) this
  funext x
  simp only [wide]
  split
  ·rw [dot]
  ·by_cases h1 : x = m + j
   ·subst h1
    have e1 : ¬ m + j < m + j := by omega
    have e2 : m + j < m + (j + 1) := by omega
    have e3 : m + j - m = j := by omega
    simp only [if_true, e1, e2, if_false, e3]
    simp
   ·have e1 : (x < m + (j + 1)) ↔ x < m + j := by omega
    simp only [h1, if_false, e1, Int.mul_zero, Int.add_zero]
theorem a7K {n m : Nat} {A : Nat → V} {v : V} (h : Sp n (wide n m A) v) : (∀ x, x < m → v x = dot n (fun c => v (m + c)) (A x)) ∧ ∀ c, n ≤ c → v (m + c) = 0 := by
 have unit : ∀ (j : Nat) (b : V), ∀ n, dot n (fun c => if m + c = m + j then (1 : Int) else 0) b = if j < n then b j else 0 := by
  intro j b n
  induction n with
  | zero => rfl
  | succ n ih =>
   rw [dot, ih]
   by_cases h1 : j < n
   ·have e1 : ¬ m + n = m + j := by omega
    have e2 : j < n + 1 := by omega
    have e3 : ¬ n = j := by omega
    simp [h1, e2, e3]
   ·by_cases h2 : n = j
    ·subst h2
     simp
    ·have e1 : ¬ m + n = m + j := by omega
     have e2 : ¬ j < n + 1 := by omega
     simp [h1, e2, h2]
 induction h with
 | zero => exact ⟨fun x _ => (a7L _ _).symm, fun _ _ => rfl⟩
 | add j t hj _ ih =>
  obtain ⟨h1, h2⟩ := ih
  refine ⟨fun x hx => ?_, fun c hc => ?_⟩
  ·rw [a7J, ← h1 x hx]
   have e : (fun c => wide n m A j (m + c)) = fun c => if m + c = m + j then (1 : Int) else 0 := by
    funext c
    have : ¬ m + c < m := by omega
    simp only [wide, this, if_false]
   rw [e, unit, if_pos hj]
   simp only [wide, hx, if_true]
  ·have h3 := h2 c hc
   have e1 : ¬ m + c < m := by omega
   have e2 : ¬ m + c = m + j := by omega
   simp only [wide, e1, e2, if_false, Int.mul_zero, Int.add_zero, h3]
theorem Hn.drop : ∀ {j k : Nat} {M : Nat → V} {p : Nat → Nat} {m : Nat}, Hn k M p → j ≤ k → (∀ i, i < j → p i < m) → ∀ {v : V}, Sp k M v → (∀ x, x < m → v x = 0) → Sp (k - j) (fun i => M (j + i)) v
 | 0, k, M, p, m, h, _, _, v, hv, _ => by
  have e : (fun i => M (0 + i)) = M := by funext i; rw [Nat.zero_add]
  rw [e]; exact hv
 | j + 1, 0, M, p, m, h, hj, _, v, hv, _ => by omega
 | j + 1, k + 1, M, p, m, h, hj, hp, v, hv, hz => by
  obtain ⟨t, u, hu, rfl⟩ := hv.first
  have h0 := hz (p 0) (hp 0 (by omega))
  have h1 := h.TV hu (Nat.le_refl _)
  have h2 := h.pos 0 (by omega)
  simp only [h1, Int.zero_add] at h0
  have ht : t = 0 := by
   rcases Int.mul_eq_zero.1 h0 with h3 | h3
   ·exact h3
   ·omega
  subst ht
  have e : (fun i => u i + 0 * M 0 i) = u := by funext i; simp
  rw [e] at hz ⊢
  have := Hn.drop (j := j) h.tail (by omega) (fun i hi => hp (i + 1) (by omega)) hu hz
  have e1 : k + 1 - (j + 1) = k - j := by omega
  rw [e1]
  refine cast (congrArg (fun f => Sp (k - j) f u) ?_) this
  funext i
  show M (j + i + 1) = M (j + 1 + i)
  congr 1
  omega
theorem a32 {n m k j : Nat} {A W : Nat → V} {p : Nat → Nat} (h : Hn k W p) (hs : Same n (wide n m A) k W) (hj : j ≤ k) (h1 : ∀ i, i < j → p i < m) (h2 : ∀ i, j ≤ i → i < k → m ≤ p i) :
  a7I n m A (k - j) (fun i y => W (j + i) (m + y)) := by
 intro y
 constructor
 ·intro hy
  have key : ∃ v, Sp k W v ∧ (∀ x, x < m → v x = 0) ∧ y = fun c => v (m + c) := by
   induction hy with
   | zero => exact ⟨_, .zero, fun _ _ => rfl, rfl⟩
   | add i t hi _ ih =>
    obtain ⟨v, g1, g2, rfl⟩ := ih
    refine ⟨_, Sp.add (j + i) t (by omega) g1, fun x hx => ?_, rfl⟩
    have := h.low (j + i) (by omega) x (by have := h2 (j + i) (by omega) (by omega); omega)
    simp only [g2 x hx, this, Int.mul_zero, Int.add_zero]
  obtain ⟨v, g1, g2, rfl⟩ := key
  obtain ⟨q1, q2⟩ := a7K ((hs v).2 g1)
  exact ⟨q2, fun x hx => by rw [← q1 x hx]; exact g2 x hx⟩
 ·rintro ⟨g1, g2⟩
  have hv := a7M (A := A) (n := n) (m := m) y n (Nat.le_refl _)
  have := Hn.drop h hj h1 ((hs _).1 hv) (fun x hx => by simp only [hx, if_true]; exact g2 x hx)
  have key : ∀ {v : V}, Sp (k - j) (fun i => W (j + i)) v → Sp (k - j) (fun i y => W (j + i) (m + y)) (fun c => v (m + c)) := by
   intro v hv
   induction hv with
   | zero => exact .zero
   | add i t hi _ ih => exact Sp.add i t hi ih
  have := key this
  refine cast (congrArg _ ?_) this
  funext c
  have e1 : ¬ m + c < m := by omega
  have e3 : m + c - m = c := by omega
  simp only [e1, if_false, e3]
  split
  ·rfl
  ·exact (g1 c (by omega)).symm

theorem KP (a : Int) {m : Int} (h : m < 0) : m < a.fmod m ∧ a.fmod m ≤ 0 := by
 have h1 := Int.neg_fmod_neg (-a) (-m)
 rw [Int.neg_neg, Int.neg_neg] at h1
 have h2 := Int.fmod_nonneg_of_pos (-a) (show 0 < -m by omega)
 have h3 := Int.fmod_lt_of_pos (-a) (show 0 < -m by omega)
 omega
theorem aHF (a m : Int) (hm : m ≠ 0) : (a.fdiv m).natAbs * m.natAbs ≤ a.natAbs + m.natAbs := by
 have h1 := Int.fmod_def a m
 have h2 : (m * a.fdiv m).natAbs = (a.fdiv m).natAbs * m.natAbs := by rw [Int.natAbs_mul, Nat.mul_comm]
 rcases Int.lt_or_gt_of_ne hm with h | h
 ·have h3 := KP a h
  omega
 ·have h3 := Int.fmod_nonneg_of_pos a h
  have h4 := Int.fmod_lt_of_pos a h
  omega
theorem aHH (a m : Int) (hm : m ≠ 0) : (a.fmod m).natAbs < m.natAbs := by
 rcases Int.lt_or_gt_of_ne hm with h | h
 ·have h3 := KP a h
  omega
 ·have h3 := Int.fmod_nonneg_of_pos a h
  have h4 := Int.fmod_lt_of_pos a h
  omega
theorem P2 (a m : Int) : a - a.fdiv m * m = a.fmod m := by
 rw [Int.fmod_def, Int.mul_comm]
theorem aVB {a b q : Int} {E Q : Nat} (ha : a.natAbs ≤ E) (hb : b.natAbs ≤ E) (hq : q.natAbs ≤ Q) : (a - q * b).natAbs ≤ E + Q * E := by
 have h1 : (q * b).natAbs = q.natAbs * b.natAbs := Int.natAbs_mul _ _
 have h2 : q.natAbs * b.natAbs ≤ Q * E := Nat.mul_le_mul hq hb
 omega

def Wi (k : Nat) (M : Nat → V) (d c E A : Nat) : Prop := ∀ i, d ≤ i → i < k → (∀ x, (M i x).natAbs ≤ E) ∧ (M i c).natAbs ≤ A
def Rd (k : Nat) (M M' : Nat → V) (d c : Nat) : Prop := M' d = M d ∧ ∀ i, d < i → i < k → M' i = fun x => M i x - (M i c).fdiv (M d c) * M d x

theorem Rd.aLW {k d c E A : Nat} {M M' : Nat → V} (h : Rd k M M' d c) (hw : Wi k M d c E A) (hk : d < k) (hm : M d c ≠ 0) (hA : (M d c).natAbs ≤ A) :
  ∃ E', Wi k M' d c E' (M d c).natAbs ∧ E' * (M d c).natAbs ≤ 3 * (E * A) := by
 have hmp : 0 < (M d c).natAbs := by omega
 refine ⟨E + (A / (M d c).natAbs + 1) * E, fun i h1 h2 => ?_, ?_⟩
 ·by_cases e : i = d
  ·subst e
   rw [h.1]
   refine ⟨fun x => ?_, Nat.le_refl _⟩
   have := (hw i h1 h2).1 x
   exact Nat.le_trans this (Nat.le_add_right _ _)
  ·have hr := h.2 i (by omega) h2
   have hq : ((M i c).fdiv (M d c)).natAbs ≤ A / (M d c).natAbs + 1 := by
    have h3 := aHF (M i c) (M d c) hm
    have h4 := (hw i h1 h2).2
    have h5 : ((M i c).fdiv (M d c)).natAbs ≤ (A + (M d c).natAbs) / (M d c).natAbs := by
     rw [Nat.le_div_iff_mul_le hmp]
     omega
    rwa [Nat.add_div_right _ hmp] at h5
   rw [hr]
   refine ⟨fun x => aVB ((hw i h1 h2).1 x) ((hw d (Nat.le_refl _) hk).1 x) hq, ?_⟩
   dsimp only
   rw [P2]
   exact Nat.le_of_lt (aHH _ _ hm)
 ·have h1 : A / (M d c).natAbs * (M d c).natAbs ≤ A := Nat.div_mul_le_self _ _
  generalize A / (M d c).natAbs = q at h1
  generalize (M d c).natAbs = m at *
  have h2 : (E + (q + 1) * E) * m = 2 * (E * m) + E * (q * m) := by grind
  have h3 : E * (q * m) ≤ E * A := Nat.mul_le_mul_left _ h1
  have h4 : E * m ≤ E * A := Nat.mul_le_mul_left _ hA
  omega

theorem aSD (a b c : Nat) (h : a + b ≤ c) : 4 * (a * b) ≤ c * c := by
 have h1 : (a + b) * (a + b) ≤ c * c := Nat.mul_le_mul h h
 have h2 : 4 * (a * b) ≤ (a + b) * (a + b) := by
  have : (a + b) * (a + b) = 4 * (a * b) + (a - b) * (a - b) + (b - a) * (b - a) := by
   rcases Nat.le_total a b with g | g
   ·obtain ⟨e, rfl⟩ := Nat.exists_eq_add_of_le g
    have e1 : a - (a + e) = 0 := by omega
    have e2 : a + e - a = e := by omega
    rw [e1, e2]
    grind
   ·obtain ⟨e, rfl⟩ := Nat.exists_eq_add_of_le g
    have e1 : b - (b + e) = 0 := by omega
    have e2 : b + e - b = e := by omega
    rw [e1, e2]
    grind
  omega
 omega

structure Bt (k : Nat) (M : Nat → V) (d c C : Nat) : Prop where
 dk : d < k
 ex : ∃ E, Wi k M d c E (M d c).natAbs ∧ ∃ i, d < i ∧ i < k ∧ M i c ≠ 0 ∧ E * (M d c).natAbs ^ 3 * (M i c).natAbs ≤ C
 piv : M d c ≠ 0
 sign : ∀ i, d < i → i < k → (M i c).natAbs < (M d c).natAbs ∧ (0 < M d c → 0 ≤ M i c) ∧ (M d c < 0 → M i c ≤ 0)

theorem Wi.swap {k d c E A a : Nat} {M : Nat → V} (h : Wi k M d c E A) (ha : d ≤ a) (hk : a < k) : Wi k (swp M d a) d c E A := by
 intro i h1 h2
 unfold swp
 split
 ·exact h a ha hk
 ·split
  ·exact h d (Nat.le_refl _) (by omega)
  ·exact h i h1 h2
theorem Rd.sign {k d c : Nat} {M M' : Nat → V} (h : Rd k M M' d c) (hm : M d c ≠ 0) : ∀ i, d < i → i < k → M' i c = (M i c).fmod (M d c) ∧ (M' i c).natAbs < (M' d c).natAbs ∧ (0 < M' d c → 0 ≤ M' i c) ∧ (M' d c < 0 → M' i c ≤ 0) := by
 intro i h1 h2
 have e : M' i c = (M i c).fmod (M d c) := by
  rw [h.2 i h1 h2]
  exact P2 _ _
 rw [e, h.1]
 exact ⟨rfl, aHH _ _ hm, fun hp => Int.fmod_nonneg_of_pos _ hp, fun hn => (KP _ hn).2⟩
theorem aU4 {p n : Int} (hs : (0 < p ∧ 0 < n) ∨ (p < 0 ∧ n < 0)) (hl : n.natAbs < p.natAbs) : (p.fmod n).natAbs + n.natAbs ≤ p.natAbs := by
 have key : ∀ p n : Int, 0 < n → n < p → (p.fmod n).natAbs + n.natAbs ≤ p.natAbs := by
  intro p n h1 h2
  have h3 := Int.fmod_def p n
  have h4 := Int.fmod_nonneg_of_pos p h1
  have h5 := Int.fmod_lt_of_pos p h1
  have h6 : 1 ≤ p.fdiv n := by
   rcases (by omega : p.fdiv n < 1 ∨ 1 ≤ p.fdiv n) with h | h
   ·have : n * p.fdiv n ≤ n * 0 := Int.mul_le_mul_of_nonneg_left (by omega) (by omega)
    omega
   ·exact h
  have h7 : n * 1 ≤ n * p.fdiv n := Int.mul_le_mul_of_nonneg_left h6 (by omega)
  omega
 rcases hs with ⟨h1, h2⟩ | ⟨h1, h2⟩
 ·exact key p n h2 (by omega)
 ·have := key (-p) (-n) (by omega) (by omega)
  rw [Int.neg_fmod_neg] at this
  omega
theorem Rd.first {k d c E A : Nat} {M M' : Nat → V} (h : Rd k M M' d c) (hw : Wi k M d c E A) (hk : d < k) (hm : M d c ≠ 0) :
  ((∀ i, d < i → i < k → M' i c = 0) ∧ Wi k M' d c (3 * (E * A)) A) ∨ Bt k M' d c (3 * (E * A) * A ^ 3) := by
 have hA := (hw d (Nat.le_refl _) hk).2
 have hmp : 0 < (M d c).natAbs := by omega
 obtain ⟨E', h1, h2⟩ := h.aLW hw hk hm hA
 have hs := h.sign hm
 by_cases hz : ∀ i, d < i → i < k → M' i c = 0
 ·refine .inl ⟨hz, fun i g1 g2 => ⟨fun x => ?_, ?_⟩⟩
  ·have a1 := (h1 i g1 g2).1 x
   have a2 : E' * 1 ≤ E' * (M d c).natAbs := Nat.mul_le_mul_left _ hmp
   omega
  ·exact Nat.le_trans (h1 i g1 g2).2 hA
 ·refine .inr ⟨hk, ⟨E', by rw [h.1]; exact h1, ?_⟩, by rw [h.1]; exact hm, fun i g1 g2 => (hs i g1 g2).2⟩
  obtain ⟨i, hi⟩ := Classical.not_forall.1 hz
  obtain ⟨g1, hi⟩ := Classical.not_forall.1 hi
  obtain ⟨g2, g3⟩ := Classical.not_forall.1 hi
  refine ⟨i, g1, g2, g3, ?_⟩
  have a1 := (hs i g1 g2).2.1
  rw [h.1] at a1 ⊢
  have a2 : (M d c).natAbs ^ 2 * (M' i c).natAbs ≤ A ^ 2 * A := Nat.mul_le_mul (Nat.pow_le_pow_left hA 2) (by omega)
  have a3 : E' * (M d c).natAbs * ((M d c).natAbs ^ 2 * (M' i c).natAbs) ≤ 3 * (E * A) * (A ^ 2 * A) := Nat.mul_le_mul h2 a2
  have e1 : E' * (M d c).natAbs ^ 3 * (M' i c).natAbs = E' * (M d c).natAbs * ((M d c).natAbs ^ 2 * (M' i c).natAbs) := by grind
  have e2 : 3 * (E * A) * A ^ 3 = 3 * (E * A) * (A ^ 2 * A) := by grind
  omega
theorem Bt.left {k d c C a : Nat} {M M' : Nat → V} (h : Bt k M d c C) (ha : d ≤ a) (hk : a < k) (hm : M a c ≠ 0) (hmin : ∀ i, d ≤ i → i < k → M i c ≠ 0 → (M a c).natAbs ≤ (M i c).natAbs) (hr : Rd k (swp M d a) M' d c) (hz : ¬ ∀ i, d < i → i < k → M' i c = 0) : M' d = M a ∧ (M a c).natAbs < (M d c).natAbs ∧ ∃ i, d < i ∧ i < k ∧ M' i c ≠ 0 ∧ (M' i c).natAbs + (M a c).natAbs ≤ (M d c).natAbs ∧ (M' i c).natAbs < (M a c).natAbs := by
 obtain ⟨E, h1, i0, g1, g2, g3, g4⟩ := h.ex
 have hda : d < a := by
  rcases Nat.lt_or_ge d a with h9 | h9
  ·exact h9
  ·have : a = d := by omega
   subst this
   have := hmin i0 (by omega) g2 g3
   have := (h.sign i0 g1 g2).1
   omega
 have e1 : swp M d a d = M a := by simp [swp]
 have e2 : swp M d a a = M d := by
  have : ¬ a = d := by omega
  simp [swp, this]
 have hsa := h.sign a hda hk
 have hs := hr.sign (by rw [e1]; exact hm)
 have hMd : M' d = M a := by rw [hr.1, e1]
 have main : ∃ i, d < i ∧ i < k ∧ M' i c ≠ 0 ∧ (M' i c).natAbs + (M a c).natAbs ≤ (M d c).natAbs := by
  have ea := (hs a hda hk).1
  rw [e1, e2] at ea
  by_cases hz2 : M' a c = 0
  ·obtain ⟨i, hi⟩ := Classical.not_forall.1 hz
   obtain ⟨z1, hi⟩ := Classical.not_forall.1 hi
   obtain ⟨z2, z3⟩ := Classical.not_forall.1 hi
   refine ⟨i, z1, z2, z3, ?_⟩
   have a1 := (hs i z1 z2).2.1
   rw [hMd] at a1
   have a2 : (M a c).natAbs ∣ (M d c).natAbs := by
    have : M a c ∣ M d c := by
     rw [hz2] at ea
     exact Int.dvd_of_fmod_eq_zero ea.symm
    exact Int.natAbs_dvd_natAbs.2 this
   obtain ⟨t, ht⟩ := a2
   have h2t : 2 ≤ t := by
    rcases Nat.lt_or_ge t 2 with h | h
    ·have : (M a c).natAbs * t ≤ (M a c).natAbs * 1 := Nat.mul_le_mul_left _ (by omega)
     omega
    ·exact h
   have : (M a c).natAbs * 2 ≤ (M a c).natAbs * t := Nat.mul_le_mul_left _ h2t
   omega
  ·refine ⟨a, hda, hk, hz2, ?_⟩
   rw [ea]
   refine aU4 ?_ hsa.1
   rcases Int.lt_or_gt_of_ne h.piv with z | z
   ·have := hsa.2.2 z
    exact .inr ⟨z, by omega⟩
   ·have := hsa.2.1 z
    exact .inl ⟨z, by omega⟩
 obtain ⟨i, z1, z2, z3, z4⟩ := main
 have z5 := (hs i z1 z2).2.1
 rw [hMd] at z5
 exact ⟨hMd, hsa.1, i, z1, z2, z3, z4, z5⟩
def Pt (k : Nat) (M : Nat → V) (d c P : Nat) : Prop := ∃ i, d < i ∧ i < k ∧ M i c ≠ 0 ∧ (M d c).natAbs * (M i c).natAbs ≤ P
theorem Bt.half {k d c C a : Nat} {M M' : Nat → V} (h : Bt k M d c C) (ha : d ≤ a) (hk : a < k) (hm : M a c ≠ 0) (hmin : ∀ i, d ≤ i → i < k → M i c ≠ 0 → (M a c).natAbs ≤ (M i c).natAbs) (hr : Rd k (swp M d a) M' d c) (hz : ¬ ∀ i, d < i → i < k → M' i c = 0) {P : Nat} (hP : Pt k M d c P) : Pt k M' d c (P / 2) := by
 obtain ⟨q1, q2, i, z1, z2, z3, z4, z5⟩ := h.left ha hk hm hmin hr hz
 obtain ⟨i0, w1, w2, w3, w4⟩ := hP
 have w5 := hmin i0 (by omega) w2 w3
 refine ⟨i, z1, z2, z3, ?_⟩
 rw [q1, Nat.le_div_iff_mul_le (by decide)]
 have a1 : (M a c).natAbs * (2 * (M' i c).natAbs) ≤ (M a c).natAbs * (M d c).natAbs := Nat.mul_le_mul_left _ (by omega)
 have a2 : (M d c).natAbs * (M a c).natAbs ≤ (M d c).natAbs * (M i0 c).natAbs := Nat.mul_le_mul_left _ w5
 have a3 : (M a c).natAbs * (M' i c).natAbs * 2 = (M a c).natAbs * (2 * (M' i c).natAbs) := by grind
 have a4 : (M d c).natAbs * (M a c).natAbs = (M a c).natAbs * (M d c).natAbs := Nat.mul_comm _ _
 omega
theorem Bt.round {k d c C a : Nat} {M M' : Nat → V} (h : Bt k M d c C) (ha : d ≤ a) (hk : a < k) (hm : M a c ≠ 0) (hmin : ∀ i, d ≤ i → i < k → M i c ≠ 0 → (M a c).natAbs ≤ (M i c).natAbs) (hr : Rd k (swp M d a) M' d c) :
  ((∀ i, d < i → i < k → M' i c = 0) ∧ ∃ A, Wi k M' d c (3 * C) A) ∨ (Bt k M' d c C ∧ (M' d c).natAbs < (M d c).natAbs) := by
 obtain ⟨E, h1, i0, g1, g2, g3, g4⟩ := h.ex
 have hda : d < a := by
  rcases Nat.lt_or_ge d a with h9 | h9
  ·exact h9
  ·have : a = d := by omega
   subst this
   have := hmin i0 (by omega) g2 g3
   have := (h.sign i0 g1 g2).1
   omega
 have e1 : swp M d a d = M a := by simp [swp]
 have e2 : swp M d a a = M d := by
  have : ¬ a = d := by omega
  simp [swp, this]
 have hsa := h.sign a hda hk
 have hA : (swp M d a d c).natAbs ≤ (M d c).natAbs := by rw [e1]; omega
 obtain ⟨E', q1, q2⟩ := hr.aLW (h1.swap ha hk) h.dk (by rw [e1]; exact hm) hA
 rw [e1] at q1 q2
 have hs := hr.sign (by rw [e1]; exact hm)
 have hC : E * (M d c).natAbs ^ 3 * (M a c).natAbs ≤ C := Nat.le_trans (Nat.mul_le_mul_left _ (hmin i0 (by omega) g2 g3)) g4
 have hmp : 0 < (M a c).natAbs := by omega
 have hMd : M' d = M a := by rw [hr.1, e1]
 by_cases hz : ∀ i, d < i → i < k → M' i c = 0
 ·refine .inl ⟨hz, (M a c).natAbs, fun i z1 z2 => ⟨fun x => ?_, (q1 i z1 z2).2⟩⟩
  have a1 := (q1 i z1 z2).1 x
  have a2 : E' * 1 ≤ E' * (M a c).natAbs := Nat.mul_le_mul_left _ hmp
  have a3 : E * (M d c).natAbs * 1 ≤ E * (M d c).natAbs * ((M d c).natAbs ^ 2 * (M a c).natAbs) := Nat.mul_le_mul_left _ (Nat.mul_pos (Nat.pow_pos (by omega)) hmp)
  have a4 : E * (M d c).natAbs * ((M d c).natAbs ^ 2 * (M a c).natAbs) = E * (M d c).natAbs ^ 3 * (M a c).natAbs := by grind
  omega
 ·refine .inr ⟨⟨h.dk, ⟨E', by rw [hMd]; exact q1, ?_⟩, by rw [hMd]; exact hm, fun i z1 z2 => (hs i z1 z2).2⟩, by rw [hMd]; exact hsa.1⟩
  obtain ⟨_, _, i, z1, z2, z3, z4, _⟩ := h.left ha hk hm hmin hr hz
  refine ⟨i, z1, z2, z3, ?_⟩
  rw [hMd]
  have a1 := aSD _ _ _ z4
  generalize (M' i c).natAbs = y at *
  generalize (M a c).natAbs = x at *
  generalize (M d c).natAbs = m at *
  have a2 : E' * x * (x ^ 2 * y) ≤ 3 * (E * m) * (x ^ 2 * y) := Nat.mul_le_mul_right _ q2
  have a3 : (E * m * x) * (4 * (y * x)) ≤ (E * m * x) * (m * m) := Nat.mul_le_mul_left _ a1
  have b1 : E' * x ^ 3 * y = E' * x * (x ^ 2 * y) := by grind
  have b2 : (E * m * x) * (m * m) = E * m ^ 3 * x := by grind
  have b3 : (E * m * x) * (4 * (y * x)) = 3 * (E * m) * (x ^ 2 * y) + (E * m * x) * (y * x) := by grind
  omega

theorem Hn.aYZ : ∀ {j k : Nat} {M : Nat → V} {p : Nat → Nat}, Hn k M p → j ≤ k → ∀ {v : V}, Sp k M v → (∀ i, i < j → v (p i) = 0) → Sp (k - j) (fun i => M (j + i)) v
 | 0, k, M, p, h, _, v, hv, _ => by
  have e : (fun i => M (0 + i)) = M := by funext i; rw [Nat.zero_add]
  rw [e]; exact hv
 | j + 1, 0, M, p, h, hj, v, hv, _ => by omega
 | j + 1, k + 1, M, p, h, hj, v, hv, hz => by
  obtain ⟨t, u, hu, rfl⟩ := hv.first
  have h0 := hz 0 (by omega)
  have h1 := h.TV hu (Nat.le_refl _)
  have h2 := h.pos 0 (by omega)
  simp only [h1, Int.zero_add] at h0
  have ht : t = 0 := by
   rcases Int.mul_eq_zero.1 h0 with h3 | h3
   ·exact h3
   ·omega
  subst ht
  have e : (fun i => u i + 0 * M 0 i) = u := by funext i; simp
  rw [e] at hz ⊢
  have := Hn.aYZ (j := j) h.tail (by omega) hu (fun i hi => hz (i + 1) (by omega))
  have e1 : k + 1 - (j + 1) = k - j := by omega
  rw [e1]
  refine cast (congrArg (fun f => Sp (k - j) f u) ?_) this
  funext i
  show M (j + i + 1) = M (j + 1 + i)
  congr 1
  omega
theorem Hn.aM0 {k : Nat} {M : Nat → V} {p : Nat → Nat} (h : Hn k M p) {v : V} (hv : Sp k M v) (hz : ∀ i, i < k → v (p i) = 0) : v = fun _ => 0 :=
 h.small hv fun i hi => by
  have := h.pos i hi
  have := hz i hi
  omega
theorem Hn.shift {k : Nat} {M : Nat → V} {p : Nat → Nat} (h : Hn k M p) (j : Nat) (hj : j ≤ k) : Hn (k - j) (fun i => M (j + i)) (fun i => p (j + i)) where
 inc := fun a b hab hb => h.inc _ _ (by omega) (by omega)
 low := fun i hi => h.low _ (by omega)
 pos := fun i hi => h.pos _ (by omega)
 red := fun a b hab hb => h.red _ _ (by omega) (by omega)
theorem Hn.dvd {k : Nat} {M : Nat → V} {p : Nat → Nat} (h : Hn k M p) {j : Nat} (hj : j < k) {v : V} (hv : Sp k M v) (hz : ∀ i, i < j → v (p i) = 0) : M j (p j) ∣ v (p j) := by
 have h1 := h.aYZ (Nat.le_of_lt hj) hv hz
 obtain ⟨k', hk'⟩ : ∃ k', k - j = k' + 1 := ⟨k - j - 1, by omega⟩
 have hs := h.shift j (Nat.le_of_lt hj)
 rw [hk'] at h1 hs
 obtain ⟨t, u, hu, rfl⟩ := h1.first
 have := hs.TV hu (Nat.le_refl _)
 simp only [Nat.add_zero] at this
 simp only [this, Nat.add_zero, Int.zero_add]
 exact ⟨t, Int.mul_comm _ _⟩

def TR : Nat → (Nat → Int) → Nat
 | 0, _ => 0
 | n + 1, f => TR n f + (f n).natAbs
def LM : Nat → (Nat → Int) → Int
 | 0, _ => 0
 | n + 1, f => LM n f + f n
theorem aBU : ∀ (n : Nat) (f : Nat → Int), (LM n f).natAbs ≤ TR n f
 | 0, _ => Nat.le_refl _
 | n + 1, f => by
  have := aBU n f
  rw [LM, TR]
  omega
theorem aNA : ∀ {n : Nat} {f g : Nat → Int} {P : Nat}, (∀ i, i < n → (f i).natAbs ≤ P * (g i).natAbs) → TR n f ≤ P * TR n g
 | 0, _, _, _, _ => by simp [TR]
 | n + 1, f, g, P, h => by
  have h1 := aNA (n := n) (fun i hi => h i (by omega))
  have h2 := h n (by omega)
  rw [TR, TR, Nat.mul_add]
  omega
theorem YQ {n : Nat} {f : Nat → Int} {B : Nat} (h : ∀ i, i < n → (f i).natAbs ≤ B) : TR n f ≤ n * B := by
 induction n with
 | zero => simp [TR]
 | succ n ih =>
  have h1 := ih (fun i hi => h i (by omega))
  have h2 := h n (by omega)
  rw [TR, Nat.succ_mul]
  omega
theorem Sp.LM {k : Nat} {M : Nat → V} {U : Nat → V} {t : Nat → Int} : ∀ n, (∀ j, j < n → Sp k M (U j)) → Sp k M (fun x => Lz.LM n fun j => t j * U j x)
 | 0, _ => .zero
 | n + 1, h => Sp.comb (t n) (Sp.LM n fun j hj => h j (by omega)) (h n (by omega))
theorem Hn.bound {k : Nat} {M : Nat → V} {p : Nat → Nat} (h : Hn k M p) {U : Nat → V} (hU : ∀ j, j < k → Sp k M (U j)) (h0 : ∀ i j, i < k → j < k → i ≠ j → U j (p i) = 0) (hD : ∀ j, j < k → U j (p j) ≠ 0)
  {i : Nat} (hi : i < k) (x : Nat) : (M i x).natAbs ≤ TR k fun j => U j x := by
 -- the product of the elements at the pivots
 have prod : ∀ n, n ≤ k → ∃ P : Int, P ≠ 0 ∧ ∀ j, j < n → U j (p j) ∣ P := by
  intro n
  induction n with
  | zero => exact fun _ => ⟨1, by decide, fun j hj => by omega⟩
  | succ n ih =>
   intro hn
   obtain ⟨P, q1, q2⟩ := ih (by omega)
   refine ⟨P * U n (p n), Int.mul_ne_zero q1 (hD n (by omega)), fun j hj => ?_⟩
   by_cases e : j = n
   ·subst e; exact ⟨P, Int.mul_comm _ _⟩
   ·exact Int.dvd_mul_of_dvd_left (q2 j (by omega))
 obtain ⟨P, hP, hdv⟩ := prod k (Nat.le_refl _)
 have hq : ∀ j, ∃ q, j < k → P = q * U j (p j) := fun j => by
  by_cases hj : j < k
  ·obtain ⟨q, hq⟩ := hdv j hj
   exact ⟨q, fun _ => by rw [hq, Int.mul_comm]⟩
  ·exact ⟨0, fun h => absurd h hj⟩
 have hq := Classical.axiomOfChoice hq
 obtain ⟨q, hq⟩ := hq
 have hz := h.aM0 (v := fun x => P * M i x - LM k fun j => (M i (p j) * q j) * U j x) (Sp.sub (Sp.smul P (Sp.mem hi)) (Sp.LM k hU)) (fun l hl => by
  have : ∀ n, n ≤ k → (LM n fun j => (M i (p j) * q j) * U j (p l)) = if l < n then P * M i (p l) else 0 := by
   intro n
   induction n with
   | zero => intro _; rfl
   | succ n ih =>
    intro hn
    rw [LM, ih (by omega)]
    by_cases e : l = n
    ·subst e
     have e1 : ¬ l < l := by omega
     have e2 : l < l + 1 := by omega
     rw [if_neg e1, if_pos e2]
     have := hq l hl
     rw [this]
     grind
    ·rw [h0 l n hl (by omega) e]
     by_cases e1 : l < n
     ·have e2 : l < n + 1 := by omega
      rw [if_pos e1, if_pos e2]; simp
     ·have e2 : ¬ l < n + 1 := by omega
      rw [if_neg e1, if_neg e2]; simp
  rw [this k (Nat.le_refl _), if_pos hl]
  omega)
 have hx := congrFun hz x
 have hx : P * M i x = LM k fun j => (M i (p j) * q j) * U j x := by
  omega
 have h1 : (P * M i x).natAbs ≤ P.natAbs * TR k fun j => U j x := by
  rw [hx]
  refine Nat.le_trans (aBU _ _) (aNA fun j hj => ?_)
  rw [Int.natAbs_mul, Int.natAbs_mul]
  refine Nat.mul_le_mul_right _ ?_
  have h2 : (M i (p j)).natAbs ≤ (U j (p j)).natAbs := by
   have h3 : (M j (p j)).natAbs ≤ (U j (p j)).natAbs := by
    have := h.dvd hj (hU j hj) (fun l hl => h0 l j (by omega) hj (by omega))
    exact Nat.le_of_dvd (Nat.pos_of_ne_zero (by have := hD j hj; omega)) (Int.natAbs_dvd_natAbs.2 this)
   rcases Nat.lt_trichotomy i j with g | g | g
   ·have := h.red i j g hj
    omega
   ·subst g; exact h3
   ·have := h.low i hi (p j) (h.inc j i g hi)
    omega
  have h4 := hq j hj
  have h5 : P.natAbs = (q j).natAbs * (U j (p j)).natAbs := by rw [h4, Int.natAbs_mul]
  rw [h5, Nat.mul_comm]
  exact Nat.mul_le_mul_left _ h2
 rw [Int.natAbs_mul] at h1
 exact Nat.le_of_mul_le_mul_left h1 (by omega)
end Go.Lz
set_option linter.unusedSimpArgs false
set_option linter.unusedVariables false
namespace Go.PM
open Go Go.RowKit Go.Proofs Go.Lz
set_option maxRecDepth 100000
abbrev mE : Nat := 18
def Zr (n : Nat) (v : V) : List ByteArray := (List.range n).map fun i => Zn (v i)
theorem iX (n : Nat) (v : V) : (Zr n v).length = n := by simp [Zr]
theorem CC {n i : Nat} (v : V) (h : i < n) (d : ByteArray) : (Zr n v).getD i d = Zn (v i) := by simp [Zr, List.getD, h]
theorem yA {n : Nat} {u v : V} (h : ∀ i, i < n → u i = v i) : Zr n u = Zr n v := by
 unfold Zr
 refine List.map_congr_left fun i hi => ?_
 rw [h i (List.mem_range.1 hi)]
theorem aKP {n : Nat} (u v : V) (t : Nat) (h : t < n) : (Zr n fun x => if x < t then v x else u x).set t (Zn (v t)) = Zr n fun x => if x < t + 1 then v x else u x := by
 refine List.ext_getElem? fun i => ?_
 simp only [Zr, List.getElem?_set, List.length_map, List.length_range, List.getElem?_map]
 by_cases e : t = i
 ·subst e
  simp [h]
 ·rw [if_neg e]
  by_cases hi : i < n
  ·simp only [List.getElem?_range hi, Option.map_some]
   congr 2
   by_cases h1 : i < t
   ·rw [if_pos h1, if_pos (by omega)]
   ·rw [if_neg h1, if_neg (by omega)]
  ·have h1 : (List.range n)[i]? = none := by simp; omega
   rw [h1]; rfl
theorem NU {α : Type} (A : List α) (j : Nat) (x d : α) (h : j < A.length) : (A.set j x).getD j d = x := by simp [List.getD, h]
theorem getD_set_ne {α : Type} (A : List α) {j k : Nat} (x d : α) (h : j ≠ k) : (A.set j x).getD k d = A.getD k d := by simp [List.getD, List.getElem?_set_ne h]
theorem RO {α : Type} {A : List α} {j : Nat} {x : α} (d : α) (h : A[j]? = some x) : A.getD j d = x := by simp [List.getD, h]

structure ZU (n : Nat) (u v : V) (q : Int) : Prop where
 mul : ∀ i, i < n → Lib.nDigits q.natAbs + Lib.nDigits (v i).natAbs ≤ mE
 sub : ∀ i, i < n → Lib.nDigits (u i).natAbs ≤ mE
theorem WA (a b : Nat) : Lib.nDigits (a * b) ≤ Lib.nDigits a + Lib.nDigits b := by
 have h1 := kE a
 have h2 := kE b
 have p1 := nDigits_pos a
 have p2 := nDigits_pos b
 have h4 : a * b < 10 ^ Lib.nDigits a * 10 ^ Lib.nDigits b := Nat.mul_lt_mul'' h1 h2
 rw [← Nat.pow_add] at h4
 obtain ⟨k, hk⟩ : ∃ k, Lib.nDigits a + Lib.nDigits b = k + 1 := ⟨Lib.nDigits a + Lib.nDigits b - 1, by omega⟩
 rw [hk] at h4 ⊢
 exact j3 h4
theorem J9 {α : Type} {pre l : List α} {o t : Nat} (h : pre.length = o) (d : α) : (pre ++ l).getD (o + t) d = l.getD t d := by
 subst h
 simp [List.getD, List.getElem?_append_right (Nat.le_add_right _ _)]
theorem aM9 {α : Type} {pre l : List α} {o t : Nat} (h : pre.length = o) (x : α) : (pre ++ l).set (o + t) x = pre ++ l.set t x := by
 subst h
 rw [List.set_append_right _ _ (Nat.le_add_right _ _)]
 congr 2
 omega
theorem aQN {A : List (List ByteArray)} {J K o n : Nat} {u v : V} {q : Int} {pre pre' : List ByteArray} (hn : n < 1048576) (hne : J ≠ K) (hp : pre.length = o) (hp' : pre'.length = o) (hJ : A[J]? = some (pre ++ Zr n u)) (hK : A[K]? = some (pre' ++ Zr n v)) (ok : ZU n u v q) :
  jO ((J, o, n), Zn q, (K, o, n), (n : Int), 0, A, ()) = some (A.set J (pre ++ Zr n fun x => u x - q * v x), ()) := by
 have hJl : J < A.length := (List.getElem?_eq_some_iff.1 hJ).1
 have key := dV (step := gM) (N := 2 ^ 64)
  (fun t => ((J, o, n), Zn q, (K, o, n), (n : Int), (t : Int), A.set J (pre ++ Zr n fun x => if x < t then u x - q * v x else u x), ())) n (A.set J (pre ++ Zr n fun x => u x - q * v x), ()) (by omega) (fun t ht => ?_) ?_
 ·have h0 : (A.set J (pre ++ Zr n fun x => if x < 0 then u x - q * v x else u x)) = A := by
   have : Zr n (fun x => if x < 0 then u x - q * v x else u x) = Zr n u := yA fun i _ => by simp
   rw [this]
   refine List.ext_getElem? fun i => ?_
   by_cases e : J = i
   ·subst e; rw [List.getElem?_set_self hJl, hJ]
   ·rw [List.getElem?_set_ne e]
  simp only [h0] at key
  exact key
 ·have hg : (A.set J (pre ++ Zr n fun x => if x < t then u x - q * v x else u x)).getD J [] = pre ++ Zr n fun x => if x < t then u x - q * v x else u x := NU _ _ _ _ hJl
  have hk : (A.set J (pre ++ Zr n fun x => if x < t then u x - q * v x else u x)).getD K [] = pre' ++ Zr n v := by rw [getD_set_ne _ _ _ hne]; exact RO _ hK
  have e1 : ltI (t : Int) (n : Int) = true := by rw [aL]; simp; omega
  have e2 : aP (t : Int) n = true := by rw [bB]; simp; omega
  have e3 : (o + ((t : Nat) : Int).toNat) * 1 = o + t := by simp
  have e4 : eS (A.set J (pre ++ Zr n fun x => if x < t then u x - q * v x else u x)) J = o + n := by rw [eS, hg, List.length_append, iX, hp]
  have e5 : eS (A.set J (pre ++ Zr n fun x => if x < t then u x - q * v x else u x)) K = o + n := by rw [eS, hk, List.length_append, iX, hp']
  have e6 : Nat.blt (o + t) (o + n) = true := by rw [c6]; simpa using ht
  have e7 : gA (A.set J (pre ++ Zr n fun x => if x < t then u x - q * v x else u x)) J (o + t) ByteArray.empty = Zn (u t) := by
   rw [gA, hg, J9 hp, CC _ ht]; simp
  have e8 : gA (A.set J (pre ++ Zr n fun x => if x < t then u x - q * v x else u x)) K (o + t) ByteArray.empty = Zn (v t) := by rw [gA, hk, J9 hp', CC _ ht]
  have e9 : vU (A.set J (pre ++ Zr n fun x => if x < t then u x - q * v x else u x)) J (o + t) (Zn (u t - q * v t)) = A.set J (pre ++ Zr n fun x => if x < t + 1 then u x - q * v x else u x) := by
   rw [vU, hg, List.set_set, aM9 hp]
   exact congrArg (fun l => A.set J (pre ++ l)) (aKP u (fun x => u x - q * v x) t ht)
  have m1 := aDY q (v t) (ok.mul t ht)
  have m2 := aEF (u t) (q * v t) (ok.sub t ht) (by rw [Int.natAbs_mul]; exact Nat.le_trans (WA _ _) (ok.mul t ht))
  have e10 := dO t (by omega)
  simp only [gM, e1, cond_true, e2, e3, e5, e6, e4, e7, e8, m1, aD, m2, e9, e10]
 ·have e1 : ltI (n : Int) (n : Int) = false := by rw [aL]; simp
  simp only [gM, e1, cond_false]
  have : Zr n (fun x => if x < n then u x - q * v x else u x) = Zr n fun x => u x - q * v x := yA fun i hi => by simp [hi]
  rw [this]
theorem aHB {α : Type} {A : List α} {J : Nat} {x : α} (h : A[J]? = some x) : A.set J x = A := by
 refine List.ext_getElem? fun i => ?_
 by_cases e : J = i
 ·subst e; rw [List.getElem?_set_self (List.getElem?_eq_some_iff.1 h).1, h]
 ·rw [List.getElem?_set_ne e]
theorem aX1 {A : List (List ByteArray)} {J K o n : Nat} {u v : V} {q : Int} {pre pre' : List ByteArray} (hn : n < 1048576) (hne : J ≠ K) (hp : pre.length = o) (hp' : pre'.length = o) (hJ : A[J]? = some (pre ++ Zr n u)) (hK : A[K]? = some (pre' ++ Zr n v)) (ok : ZU n u v q) :
  eT () ((J, o, n), Zn q, (K, o, n), ()) A = some ((), A.set J (pre ++ Zr n fun x => u x - q * v x)) := by
 unfold eT
 simp only [wQ]
 by_cases hq : q = 0
 ·subst hq
  simp only [decide_true, cond_true]
  have : Zr n (fun x => u x - 0 * v x) = Zr n u := yA fun i _ => by simp
  rw [this, aHB hJ]
 ·simp only [hq, decide_false, cond_false, aQN hn hne hp hp' hJ hK ok, aD]
theorem negate_eq {A : List (List ByteArray)} {J o n : Nat} {u : V} {pre : List ByteArray} (hn : n < 1048576) (hp : pre.length = o) (hJ : A[J]? = some (pre ++ Zr n u)) (ok : ∀ i, i < n → Lib.nDigits (u i).natAbs ≤ mE) :
  dQ () ((J, o, n), ()) A = some ((), A.set J (pre ++ Zr n fun x => -(u x))) := by
 have hJl : J < A.length := (List.getElem?_eq_some_iff.1 hJ).1
 have key := dV (step := fO) (N := 2 ^ 64)
  (fun t => ((J, o, n), (J, o, n), (n : Int), (t : Int), A.set J (pre ++ Zr n fun x => if x < t then -(u x) else u x), ())) n (A.set J (pre ++ Zr n fun x => -(u x)), ()) (by omega) (fun t ht => ?_) ?_
 ·have h0 : (A.set J (pre ++ Zr n fun x => if x < 0 then -(u x) else u x)) = A := by
   have : Zr n (fun x => if x < 0 then -(u x) else u x) = Zr n u := yA fun i _ => by simp
   rw [this, aHB hJ]
  simp only [h0] at key
  unfold dQ iI
  have e0 : ((0 : Nat) : Int) = 0 := rfl
  rw [e0] at key
  simp only [key, aD]
 ·have hg : (A.set J (pre ++ Zr n fun x => if x < t then -(u x) else u x)).getD J [] = pre ++ Zr n fun x => if x < t then -(u x) else u x := NU _ _ _ _ hJl
  have e1 : ltI (t : Int) (n : Int) = true := by rw [aL]; simp; omega
  have e2 : aP (t : Int) n = true := by rw [bB]; simp; omega
  have e3 : (o + ((t : Nat) : Int).toNat) * 1 = o + t := by simp
  have e4 : eS (A.set J (pre ++ Zr n fun x => if x < t then -(u x) else u x)) J = o + n := by rw [eS, hg, List.length_append, iX, hp]
  have e6 : Nat.blt (o + t) (o + n) = true := by rw [c6]; simpa using ht
  have e7 : gA (A.set J (pre ++ Zr n fun x => if x < t then -(u x) else u x)) J (o + t) ByteArray.empty = Zn (u t) := by
   rw [gA, hg, J9 hp, CC _ ht]; simp
  have e9 : vU (A.set J (pre ++ Zr n fun x => if x < t then -(u x) else u x)) J (o + t) (Zn (-(u t))) = A.set J (pre ++ Zr n fun x => if x < t + 1 then -(u x) else u x) := by
   rw [vU, hg, List.set_set, aM9 hp]
   exact congrArg (fun l => A.set J (pre ++ l)) (aKP u (fun x => -(u x)) t ht)
  have m1 := aDV (u t) (Nat.lt_of_le_of_lt (ok t ht) (by decide))
  have e10 := dO t (by omega)
  simp only [fO, e1, cond_true, e2, e3, e6, e4, e7, m1, aD, e9, e10]
 ·have e1 : ltI (n : Int) (n : Int) = false := by rw [aL]; simp
  simp only [fO, e1, cond_false]
  have : Zr n (fun x => if x < n then -(u x) else u x) = Zr n fun x => -(u x) := yA fun i hi => by simp [hi]
  rw [this]
end Go.PM
set_option linter.unusedSimpArgs false
set_option linter.unusedVariables false
namespace Go.PM
open Go Go.RowKit Go.Proofs Go.Lz
set_option maxRecDepth 100000
theorem S8 {σ τ : Type} {step : σ → Option (σ ⊕ τ)} {N : Nat} (m : Nat) (I : Nat → σ → Prop) (Q : τ → Prop) (hN : m < N) (x : σ) (h0 : I 0 x) (h : ∀ t x, t < m → I t x → ∃ y, step x = some (.inl y) ∧ I (t + 1) y) (he : ∀ x, I m x → ∃ z, step x = some (.inr z) ∧ Q z) :
  ∃ z, bS step N x = some z ∧ Q z := by
 have key : ∀ (j t : Nat) (x : σ) (N : Nat), t + j = m → j < N → I t x → ∃ z, bS step N x = some z ∧ Q z := by
  intro j
  induction j with
  | zero =>
   intro t x N ht hN hI
   have : t = m := by omega
   subst this
   obtain ⟨N, rfl⟩ : ∃ M, N = M + 1 := ⟨N - 1, by omega⟩
   obtain ⟨z, h1, h2⟩ := he x hI
   exact ⟨z, by rw [bR, h1], h2⟩
  | succ j ih =>
   intro t x N ht hN hI
   obtain ⟨N, rfl⟩ : ∃ M, N = M + 1 := ⟨N - 1, by omega⟩
   obtain ⟨y, h1, h2⟩ := h t x (by omega) hI
   obtain ⟨z, h3, h4⟩ := ih (t + 1) y N (by omega) (by omega) h2
   exact ⟨z, by rw [bR, h1]; exact h3, h4⟩
 exact key m 0 x N (by omega) hN h0

structure mN (o k n : Nat) (m : List (Nat × Nat × Nat)) (A : List (List ByteArray)) (J : Nat → Nat) (M : Nat → V) : Prop where
 ml : m = (List.range k).map fun i => (J i, o, n)
 at_ : ∀ i, i < k → ∃ pre : List ByteArray, pre.length = o ∧ A[J i]? = some (pre ++ Zr n (M i))
 inj : ∀ i j, i < k → j < k → J i = J j → i = j
section
variable {o k n : Nat} {m : List (Nat × Nat × Nat)} {A : List (List ByteArray)} {J : Nat → Nat} {M : Nat → V}
theorem mN.len (h : mN o k n m A J M) : m.length = k := by rw [h.ml]; simp
theorem mN.get (h : mN o k n m A J M) {i : Nat} (hi : i < k) : m.getD i (0, 0, 0) = (J i, o, n) := by rw [h.ml]; simp [List.getD, hi]
theorem mN.eS (h : mN o k n m A J M) {i : Nat} (hi : i < k) : eS A (J i) = o + n := by
 obtain ⟨pre, h1, h2⟩ := h.at_ i hi
 rw [PM.eS, RO _ h2, List.length_append, iX, h1]
theorem mN.gA (h : mN o k n m A J M) {i c : Nat} (hi : i < k) (hc : c < n) : gA A (J i) (o + c) ByteArray.empty = Zn (M i c) := by
 obtain ⟨pre, h1, h2⟩ := h.at_ i hi
 rw [PM.gA, RO _ h2, J9 h1, CC _ hc]
theorem mN.QK (h : mN o k n m A J M) {i : Nat} (hi : i < k) (r : V) {pre : List ByteArray} (hp : pre.length = o) : mN o k n m (A.set (J i) (pre ++ Zr n r)) J (up M i r) where
 ml := h.ml
 at_ := fun j hj => by
  by_cases e : j = i
  ·subst e
   obtain ⟨pre', h1, h2⟩ := h.at_ j hj
   exact ⟨pre, hp, by rw [List.getElem?_set_self (List.getElem?_eq_some_iff.1 h2).1, DB]⟩
  ·obtain ⟨pre', h1, h2⟩ := h.at_ j hj
   exact ⟨pre', h1, by rw [List.getElem?_set_ne (fun e' => e (h.inj i j hi hj e').symm), u6 _ _ e]; exact h2⟩
 inj := h.inj
theorem mN.less (h : mN o k n m A J M) (hn : n < 1048576) {i d : Nat} (hi : i < k) (hd : d < k) (hne : i ≠ d) (q : Int) (ok : ZU n (M i) (M d) q) :
  ∃ A', eT () ((J i, o, n), Zn q, (J d, o, n), ()) A = some ((), A') ∧ mN o k n m A' J (up M i fun x => M i x - q * M d x) := by
 obtain ⟨pre, h1, h2⟩ := h.at_ i hi
 obtain ⟨pre', h3, h4⟩ := h.at_ d hd
 exact ⟨_, aX1 hn (fun e => hne (h.inj i d hi hd e)) h1 h3 h2 h4 ok, h.QK hi _ h1⟩
theorem mN.neg (h : mN o k n m A J M) (hn : n < 1048576) {i : Nat} (hi : i < k) (ok : ∀ x, x < n → Lib.nDigits (M i x).natAbs ≤ mE) :
  ∃ A', dQ () ((J i, o, n), ()) A = some ((), A') ∧ mN o k n m A' J (up M i fun x => -(M i x)) := by
 obtain ⟨pre, h1, h2⟩ := h.at_ i hi
 exact ⟨_, negate_eq hn h1 h2 ok, h.QK hi _ h1⟩
theorem mN.swap (h : mN o k n m A J M) {a b : Nat} (ha : a < k) (hb : b < k) : mN o k n ((m.set a (J b, o, n)).set b (J a, o, n)) A (fun i => if i = a then J b else if i = b then J a else J i) (swp M a b) where
 ml := by
  refine List.ext_getElem? fun i => ?_
  have hl := h.len
  rw [List.getElem?_map]
  by_cases e1 : i = b
  ·subst e1
   rw [List.getElem?_set_self (by simp; omega), List.getElem?_range hb]
   by_cases e2 : i = a
   ·subst e2; simp
   ·simp [e2]
  ·rw [List.getElem?_set_ne (Ne.symm e1)]
   by_cases e2 : i = a
   ·subst e2
    rw [List.getElem?_set_self (by omega), List.getElem?_range ha]
    simp
   ·rw [List.getElem?_set_ne (Ne.symm e2), h.ml, List.getElem?_map]
    by_cases hi : i < k
    ·rw [List.getElem?_range hi]
     simp [e1, e2]
    ·have : (List.range k)[i]? = none := by simp; omega
     rw [this]; rfl
 at_ := fun i hi => by
  by_cases e1 : i = a
  ·subst e1
   simp only [if_true, swp]
   exact h.at_ b hb
  ·by_cases e2 : i = b
   ·subst e2
    simp only [e1, if_false, if_true, swp]
    exact h.at_ a ha
   ·simp only [e1, e2, if_false, swp]
    exact h.at_ i hi
 inj := fun i j hi hj e => by
  have key : ∀ i, i < k → (if i = a then J b else if i = b then J a else J i) = J (if i = a then b else if i = b then a else i) := fun i _ => by
   by_cases e1 : i = a
   ·simp [e1]
   ·by_cases e2 : i = b
    ·subst e2; simp [e1]
    ·simp [e1, e2]
  simp only [key i hi, key j hj] at e
  have lt : ∀ i, i < k → (if i = a then b else if i = b then a else i) < k := fun i hi => by
   split
   ·exact hb
   ·split
    ·exact ha
    ·exact hi
  have := h.inj _ _ (lt i hi) (lt j hj) e
  by_cases e1 : i = a <;> by_cases e2 : j = a <;> by_cases e3 : i = b <;> by_cases e4 : j = b <;> simp_all <;> omega
end
def atv : Option Nat → Int
 | none => -1
 | some a => a
structure aTU (M : Nat → V) (c d t : Nat) (r : Option Nat) : Prop where
 none : r = Option.none → ∀ i, d ≤ i → i < d + t → M i c = 0
 some : ∀ a, r = Option.some a → d ≤ a ∧ a < d + t ∧ M a c ≠ 0 ∧ ∀ i, d ≤ i → i < d + t → M i c ≠ 0 → (M a c).natAbs ≤ (M i c).natAbs
def Cm (k n : Nat) (M : Nat → V) : Prop := ∀ i, i < k → ∀ x, x < n → Lib.nDigits (M i x).natAbs ≤ mE
theorem aIL {o k n : Nat} {m : List (Nat × Nat × Nat)} {A : List (List ByteArray)} {J : Nat → Nat} {M : Nat → V} (h : mN o k n m A J M) (hk : k < 1048576) (hc : Cm k n M) {c d : Nat} (hcn : c < n) (hd : d ≤ k) (cols : Int) :
  ∃ r, fA (m, cols, (d : Int), (c : Int), -1, (d : Int), A, ()) = some (m, cols, (d : Int), (c : Int), atv r, A, ()) ∧ aTU M c d (k - d) r := by
 have := S8 (step := bX) (N := 2 ^ 64) (k - d)
  (fun t x => ∃ r, x = (m, cols, (d : Int), (c : Int), atv r, ((d + t : Nat) : Int), A, ()) ∧ aTU M c d t r)
  (fun z => ∃ r, z = (m, cols, (d : Int), (c : Int), atv r, A, ()) ∧ aTU M c d (k - d) r) (by omega) (m, cols, (d : Int), (c : Int), -1, (d : Int), A, ())
  ⟨none, rfl, ⟨fun _ i h1 h2 => by omega, fun a ha => by cases ha⟩⟩ ?_ ?_
 ·obtain ⟨z, h1, r, rfl, h2⟩ := this
  exact ⟨r, h1, h2⟩
 ·rintro t x ht ⟨r, rfl, hr⟩
  have hi : d + t < k := by omega
  have e1 : ltI ((d + t : Nat) : Int) (m.length : Int) = true := by rw [aL, h.len]; simp; omega
  have e2 : aP ((d + t : Nat) : Int) m.length = true := by rw [bB, h.len]; simp; omega
  have e3 : (((d + t : Nat) : Int)).toNat = d + t := Int.toNat_natCast _
  have e4 : Nat.blt (d + t) m.length = true := by rw [c6, h.len]; simpa using hi
  have e5 : aP (c : Int) n = true := by rw [bB]; simp; omega
  have e6 : (o + ((c : Nat) : Int).toNat) * 1 = o + c := by simp
  have e7 : Nat.blt (o + c) (o + n) = true := by rw [c6]; simpa using hcn
  have e8 := dO (d + t) (by omega)
  have e9 := h.get hi
  have e10 := h.eS hi
  have e11 := h.gA hi hcn
  by_cases hz : M (d + t) c = 0
  ·refine ⟨_, ?_, r, rfl, ⟨fun hr0 i h1 h2 => ?_, fun a ha => ?_⟩⟩
   ·have e12 : eqS (Zn (M (d + t) c)) (ByteArray.mk #[48]) = true := by rw [wQ]; simp [hz]
    simp only [bX, e1, e2, e3, e4, e9, e5, e6, e10, e7, e11, e12, e8, cond_true, Bool.not_true, cond_false]
    rfl
   ·by_cases e : i = d + t
    ·subst e; exact hz
    ·exact hr.none hr0 i h1 (by omega)
   ·obtain ⟨q1, q2, q3, q4⟩ := hr.some a ha
    refine ⟨q1, by omega, q3, fun i h1 h2 h3 => ?_⟩
    by_cases e : i = d + t
    ·subst e; exact absurd hz h3
    ·exact q4 i h1 (by omega) h3
  ·have e12 : eqS (Zn (M (d + t) c)) (ByteArray.mk #[48]) = false := by rw [wQ]; simp [hz]
   cases r with
   | none =>
    have e13 : ltI (atv none) 0 = true := by decide
    refine ⟨_, ?_, some (d + t), rfl, ⟨fun hr0 => by (cases hr0), fun a ha => ?_⟩⟩
    ·simp only [bX, e1, e2, e3, e4, e9, e5, e6, e10, e7, e11, e12, e8, cond_true, Bool.not_false, e13]
     rfl
    ·obtain rfl := Option.some.inj ha
     refine ⟨by omega, by omega, hz, fun i h1 h2 h3 => ?_⟩
     by_cases e : i = d + t
     ·subst e; exact Nat.le_refl _
     ·exact absurd (hr.none rfl i h1 (by omega)) h3
   | some a =>
    obtain ⟨q1, q2, q3, q4⟩ := hr.some a rfl
    have ha : a < k := by omega
    have e13 : ltI (atv (some a)) 0 = false := by rw [aL]; exact decide_eq_false (by unfold atv; dsimp only; omega)
    have f2 : aP (atv (some a)) m.length = true := by rw [bB, h.len]; simp [atv]; omega
    have f3 : (atv (some a)).toNat = a := by simp [atv]
    have f4 : Nat.blt a m.length = true := by rw [c6, h.len]; simpa using ha
    have f9 := h.get ha
    have f10 := h.eS ha
    have f11 := h.gA ha hcn
    have c1 := aDR (M (d + t) c)
    have c2 := aDR (M a c)
    have c3 := aB5 (M (d + t) c).natAbs (M a c).natAbs (Nat.lt_of_le_of_lt (hc _ hi c hcn) (by decide)) (Nat.lt_of_le_of_lt (hc _ ha c hcn) (by decide))
    by_cases hl : (M (d + t) c).natAbs < (M a c).natAbs
    ·have c4 : ltI (R5 (M (d + t) c).natAbs (M a c).natAbs) 0 = true := by rw [aL, R5, if_pos hl]; rfl
     refine ⟨_, ?_, some (d + t), rfl, ⟨fun hr0 => by (cases hr0), fun b hb => ?_⟩⟩
     ·simp only [bX, e1, e2, e3, e4, e9, e5, e6, e10, e7, e11, e12, e8, cond_true, Bool.not_false, e13, cond_false, f2, f3, f4, f9, f10, f11, c1, c2, c3, c4, aD]
      rfl
     ·obtain rfl := Option.some.inj hb
      refine ⟨by omega, by omega, hz, fun i h1 h2 h3 => ?_⟩
      by_cases e : i = d + t
      ·subst e; exact Nat.le_refl _
      ·have := q4 i h1 (by omega) h3; omega
    ·have c4 : ltI (R5 (M (d + t) c).natAbs (M a c).natAbs) 0 = false := by
      rw [aL, R5, if_neg hl]; split <;> rfl
     refine ⟨_, ?_, some a, rfl, ⟨fun hr0 => by (cases hr0), fun b hb => ?_⟩⟩
     ·simp only [bX, e1, e2, e3, e4, e9, e5, e6, e10, e7, e11, e12, e8, cond_true, Bool.not_false, e13, cond_false, f2, f3, f4, f9, f10, f11, c1, c2, c3, c4, aD]
      rfl
     ·obtain rfl := Option.some.inj hb
      refine ⟨q1, by omega, q3, fun i h1 h2 h3 => ?_⟩
      by_cases e : i = d + t
      ·subst e; omega
      ·exact q4 i h1 (by omega) h3
 ·rintro x ⟨r, rfl, hr⟩
  have e1 : ltI ((d + (k - d) : Nat) : Int) (m.length : Int) = false := by rw [aL, h.len]; simp; omega
  refine ⟨_, ?_, r, rfl, hr⟩
  simp only [bX, e1, cond_false]
end Go.PM
set_option linter.unusedSimpArgs false
set_option linter.unusedVariables false
namespace Go.PM
open Go Go.RowKit Go.Proofs Go.Lz
set_option maxRecDepth 100000
theorem DP {T : Nat} (hT : 2 * Lib.nDigits (T + 1) ≤ mE) {a : Nat} (h : a ≤ T + 1) : 2 * Lib.nDigits a ≤ mE := Nat.le_trans (Nat.mul_le_mul_left 2 (q9 h)) hT
theorem SC {a m : Int} {T : Nat} (h : a.natAbs ≤ T) (hm : m ≠ 0) : (a.fdiv m).natAbs ≤ T + 1 := by
 have h1 := aHF a m hm
 have h2 : 1 ≤ m.natAbs := by omega
 have h3 : (a.fdiv m).natAbs * m.natAbs ≤ (T + 1) * m.natAbs := by
  rw [Nat.succ_mul]
  have : T * 1 ≤ T * m.natAbs := Nat.mul_le_mul_left _ h2
  omega
 exact Nat.le_of_mul_le_mul_right h3 (by omega)
theorem aEG {T n : Nat} (hT : 2 * Lib.nDigits (T + 1) ≤ mE) {u v : V} {q : Int} (hu : ∀ x, x < n → (u x).natAbs ≤ T) (hv : ∀ x, x < n → (v x).natAbs ≤ T) (hq : q.natAbs ≤ T + 1) : ZU n u v q := by
 constructor
 ·intro i hi
  have h1 := DP hT hq
  have h2 := DP hT (Nat.le_succ_of_le (hv i hi))
  omega
 ·intro i hi
  have h2 := DP hT (Nat.le_succ_of_le (hu i hi))
  omega
def Big (k n : Nat) (M : Nat → V) (T : Nat) : Prop := ∀ i, i < k → ∀ x, x < n → (M i x).natAbs ≤ T
theorem Big.cm {k n T : Nat} {M : Nat → V} (h : Big k n M T) (hT : 2 * Lib.nDigits (T + 1) ≤ mE) : Cm k n M := fun i hi x hx => by
 have := DP hT (Nat.le_succ_of_le (h i hi x hx))
 omega

section
variable {o k n d c : Nat} {m : List (Nat × Nat × Nat)} {A : List (List ByteArray)} {J : Nat → Nat} {M M0 : Nat → V} {p : Nat → Nat} {T : Nat}
def rdT (M : Nat → V) (d c t : Nat) : Nat → V := fun i => if d < i ∧ i < d + 1 + t then (fun x => M i x - (M i c).fdiv (M d c) * M d x) else M i
theorem aKV (h : mN o k n m A J M) (hk : k < 1048576) (hn : n < 1048576) (f : Fo k M0 M d c p) (hd : d < k) (hcn : c < n) (hm : M d c ≠ 0) (hB : Big k n M T) (hT : 2 * Lib.nDigits (T + 1) ≤ mE) (cols : Int) :
  ∃ A' M' rest, gX (m, cols, (d : Int), (c : Int), false, aJ .i64 ((d : Int) + 1), A, ()) = some (m, cols, (d : Int), (c : Int), rest, A', ()) ∧ mN o k n m A' J M' ∧ Rd k M M' d c ∧ Fo k M0 M' d c p ∧ (∀ i, i < d → M' i = M i) ∧
   (rest = true → ∃ i, d < i ∧ i < k ∧ M' i c ≠ 0) ∧ (rest = false → ∀ i, d < i → i < k → M' i c = 0) := by
 have hat : ∀ t i, d < i → i < d + 1 + t → rdT M d c t i c = (M i c).fmod (M d c) := fun t i h1 h2 => by
  unfold rdT
  rw [if_pos ⟨h1, h2⟩]
  exact P2 _ _
 have hd0 : ∀ t, rdT M d c t d = M d := fun t => by unfold rdT; rw [if_neg (by omega)]
 have := S8 (step := cV) (N := 2 ^ 64) (k - (d + 1))
  (fun t x => ∃ A' rest, x = (m, cols, (d : Int), (c : Int), rest, ((d + 1 + t : Nat) : Int), A', ()) ∧ mN o k n m A' J (rdT M d c t) ∧ Fo k M0 (rdT M d c t) d c p ∧ (rest = true → ∃ i, d < i ∧ i < d + 1 + t ∧ (M i c).fmod (M d c) ≠ 0) ∧ (rest = false → ∀ i, d < i → i < d + 1 + t → (M i c).fmod (M d c) = 0))
  (fun z => ∃ A' rest, z = (m, cols, (d : Int), (c : Int), rest, A', ()) ∧ mN o k n m A' J (rdT M d c (k - (d + 1))) ∧ Fo k M0 (rdT M d c (k - (d + 1))) d c p ∧ (rest = true → ∃ i, d < i ∧ i < k ∧ (M i c).fmod (M d c) ≠ 0) ∧ (rest = false → ∀ i, d < i → i < k → (M i c).fmod (M d c) = 0))
  (by omega) (m, cols, (d : Int), (c : Int), false, aJ .i64 ((d : Int) + 1), A, ()) ?_ ?_ ?_
 ·obtain ⟨z, h1, A', rest, rfl, h2, h3, h4, h5⟩ := this
  refine ⟨A', _, rest, h1, h2, ⟨hd0 _, fun i g1 g2 => ?_⟩, h3, fun i hi => by unfold rdT; rw [if_neg (by omega)], fun hr => ?_, fun hr i g1 g2 => ?_⟩
  ·unfold rdT; rw [if_pos ⟨g1, by omega⟩]
  ·obtain ⟨i, g1, g2, g3⟩ := h4 hr
   exact ⟨i, g1, g2, by rw [hat _ i g1 (by omega)]; exact g3⟩
  ·rw [hat _ i g1 (by omega)]; exact h5 hr i g1 g2
 ·have e : rdT M d c 0 = M := by
   funext i; unfold rdT; rw [if_neg (by omega)]
  refine ⟨A, false, ?_, by rw [e]; exact h, by rw [e]; exact f, fun hr => (by cases hr), fun _ i g1 g2 => by omega⟩
  rw [dO d (by omega)]
 ·rintro t x ht ⟨A', rest, rfl, hL, hF, hr1, hr2⟩
  have hi : d + 1 + t < k := by omega
  have hMi : rdT M d c t (d + 1 + t) = M (d + 1 + t) := by unfold rdT; rw [if_neg (by omega)]
  have e1 : ltI ((d + 1 + t : Nat) : Int) (m.length : Int) = true := by rw [aL, h.len]; exact decide_eq_true (by omega)
  have e2 : aP ((d + 1 + t : Nat) : Int) m.length = true := by rw [bB, h.len]; exact decide_eq_true (by omega)
  have e3 : (((d + 1 + t : Nat) : Int)).toNat = d + 1 + t := Int.toNat_natCast _
  have e4 : Nat.blt (d + 1 + t) m.length = true := by rw [c6, h.len]; simpa using hi
  have e5 : aP (c : Int) n = true := by rw [bB]; exact decide_eq_true (by omega)
  have e6 : (o + ((c : Nat) : Int).toNat) * 1 = o + c := by simp
  have e7 : Nat.blt (o + c) (o + n) = true := by rw [c6]; simpa using hcn
  have e8 := dO (d + 1 + t) (by omega)
  have e9 := hL.get hi
  have e10 := hL.eS hi
  have e11 := hL.gA hi hcn
  rw [hMi] at e11
  have f2 : aP ((d : Nat) : Int) m.length = true := by rw [bB, h.len]; exact decide_eq_true (by omega)
  have f3 : ((d : Nat) : Int).toNat = d := Int.toNat_natCast _
  have f4 : Nat.blt d m.length = true := by rw [c6, h.len]; simpa using hd
  have f9 := hL.get hd
  have f10 := hL.eS hd
  have f11 := hL.gA hd hcn
  rw [hd0] at f11
  have b1 := hB _ hi c hcn
  have b2 := hB _ hd c hcn
  have k1 := DP hT (Nat.le_succ_of_le b1)
  have k2 := DP hT (Nat.le_succ_of_le b2)
  have c1 := G8 (M (d + 1 + t) c) (M d c) (by have : mE = 18 := rfl; omega) (by have : mE = 18 := rfl; omega) hm
  obtain ⟨A2, c2, c3⟩ := hL.less hn hi hd (by omega) ((M (d + 1 + t) c).fdiv (M d c)) (by
   rw [hMi, hd0]
   exact aEG hT (hB _ hi) (hB _ hd) (SC b1 hm))
  have hup : up (rdT M d c t) (d + 1 + t) (fun x => rdT M d c t (d + 1 + t) x - (M (d + 1 + t) c).fdiv (M d c) * rdT M d c t d x) = rdT M d c (t + 1) := by
   funext i
   by_cases e : i = d + 1 + t
   ·subst e
    rw [DB, hMi, hd0]
    unfold rdT
    rw [if_pos (by omega)]
   ·rw [u6 _ _ e]
    unfold rdT
    by_cases g : d < i ∧ i < d + 1 + t
    ·rw [if_pos g, if_pos (by omega)]
    ·rw [if_neg g, if_neg (by omega)]
  rw [hup] at c3
  have hF' : Fo k M0 (rdT M d c (t + 1)) d c p := by
   rw [← hup]
   exact hF.less _ (by omega) hi
  have c4 : eqS (Zn ((M (d + 1 + t) c).fmod (M d c))) (ByteArray.mk #[48]) = decide ((M (d + 1 + t) c).fmod (M d c) = 0) := wQ _
  have e8' : ((d + 1 + t + 1 : Nat) : Int) = ((d + 1 + (t + 1) : Nat) : Int) := by omega
  cases rest with
  | true =>
   refine ⟨_, ?_, A2, true, rfl, c3, hF', fun _ => ?_, fun hr => (by cases hr)⟩
   ·simp only [cV, e1, e2, e3, e4, e9, e5, e6, e10, e7, e11, f2, f3, f4, f9, f10, f11, c1, c2, aD, cond_true, e8, e8']
   ·obtain ⟨i, g1, g2, g3⟩ := hr1 rfl
    exact ⟨i, g1, by omega, g3⟩
  | false =>
   by_cases hz : (M (d + 1 + t) c).fmod (M d c) = 0
   ·have c5 : eqS (Zn ((M (d + 1 + t) c).fmod (M d c))) (ByteArray.mk #[48]) = true := by rw [c4]; exact decide_eq_true hz
    refine ⟨_, ?_, A2, false, rfl, c3, hF', fun hr => (by cases hr), fun _ i g1 g2 => ?_⟩
    ·simp only [cV, e1, e2, e3, e4, e9, e5, e6, e10, e7, e11, f2, f3, f4, f9, f10, f11, c1, c2, c5, aD, cond_true, cond_false, e8, e8', Bool.not_true]
    ·by_cases e : i = d + 1 + t
     ·subst e; exact hz
     ·exact hr2 rfl i g1 (by omega)
   ·have c5 : eqS (Zn ((M (d + 1 + t) c).fmod (M d c))) (ByteArray.mk #[48]) = false := by rw [c4]; exact decide_eq_false hz
    refine ⟨_, ?_, A2, true, rfl, c3, hF', fun _ => ⟨d + 1 + t, by omega, by omega, hz⟩, fun hr => (by cases hr)⟩
    simp only [cV, e1, e2, e3, e4, e9, e5, e6, e10, e7, e11, f2, f3, f4, f9, f10, f11, c1, c2, c5, aD, cond_true, cond_false, e8, e8', Bool.not_false]
 ·rintro x ⟨A', rest, rfl, hL, hF, hr1, hr2⟩
  have e1 : ltI ((d + 1 + (k - (d + 1)) : Nat) : Int) (m.length : Int) = false := by rw [aL, h.len]; exact decide_eq_false (by omega)
  refine ⟨_, ?_, A', rest, rfl, hL, hF, fun hr => ?_, fun hr i g1 g2 => hr2 hr i g1 (by omega)⟩
  ·simp only [cV, e1, cond_false]
  ·obtain ⟨i, g1, g2, g3⟩ := hr1 hr
   exact ⟨i, g1, by omega, g3⟩
theorem aMQ {E : Nat} (h : mN o k n m A J M) (hk : k < 1048576) (hn : n < 1048576) (f : Fp k M0 M d c p 0) (hcn : c < n) (hB : Big k n M T) (hE : ∀ i, i < d → ∀ x, x < n → (M i x).natAbs ≤ E) (hET : E ≤ T) (hT : 2 * Lib.nDigits (T + 1) ≤ mE) (cols : Int) :
  ∃ A' M', bV (m, cols, (d : Int), (c : Int), (d : Int), 0, A, ()) = some (m, cols, (d : Int), (c : Int), A', ()) ∧ mN o k n m A' J M' ∧ Fp k M0 M' d c p d ∧ (∀ i, d ≤ i → M' i = M i) ∧ ∀ i, i < d → ∀ x, x < n → (M' i x).natAbs ≤ E + (E + 1) * T := by
 have hd := f.dk
 have := S8 (step := fE) (N := 2 ^ 64) d
  (fun t x => ∃ A' M', x = (m, cols, (d : Int), (c : Int), (d : Int), (t : Int), A', ()) ∧ mN o k n m A' J M' ∧ Fp k M0 M' d c p t ∧ (∀ i, t ≤ i → M' i = M i) ∧ ∀ i, i < t → ∀ x, x < n → (M' i x).natAbs ≤ E + (E + 1) * T)
  (fun z => ∃ A' M', z = (m, cols, (d : Int), (c : Int), A', ()) ∧ mN o k n m A' J M' ∧ Fp k M0 M' d c p d ∧ (∀ i, d ≤ i → M' i = M i) ∧ ∀ i, i < d → ∀ x, x < n → (M' i x).natAbs ≤ E + (E + 1) * T)
  (by omega) (m, cols, (d : Int), (c : Int), (d : Int), 0, A, ()) ⟨A, M, rfl, h, f, fun _ _ => rfl, fun i hi => by omega⟩ ?_ ?_
 ·obtain ⟨z, h1, A', M', rfl, h2⟩ := this
  exact ⟨A', M', h1, h2⟩
 ·rintro t x ht ⟨A', M', rfl, hL, hF, hr1, hr2⟩
  have hi : t < k := by omega
  have hMi := hr1 t (Nat.le_refl _)
  have hMd := hr1 d (by omega)
  have e1 : ltI (t : Int) (d : Int) = true := by rw [aL]; exact decide_eq_true (by omega)
  have e2 : aP (t : Int) m.length = true := by rw [bB, h.len]; exact decide_eq_true (by omega)
  have e3 : ((t : Nat) : Int).toNat = t := Int.toNat_natCast _
  have e4 : Nat.blt t m.length = true := by rw [c6, h.len]; simpa using hi
  have e5 : aP (c : Int) n = true := by rw [bB]; exact decide_eq_true (by omega)
  have e6 : (o + ((c : Nat) : Int).toNat) * 1 = o + c := by simp
  have e7 : Nat.blt (o + c) (o + n) = true := by rw [c6]; simpa using hcn
  have e8 := dO t (by omega)
  have e9 := hL.get hi
  have e10 := hL.eS hi
  have e11 := hL.gA hi hcn
  rw [hMi] at e11
  have f2 : aP ((d : Nat) : Int) m.length = true := by rw [bB, h.len]; exact decide_eq_true (by omega)
  have f3 : ((d : Nat) : Int).toNat = d := Int.toNat_natCast _
  have f4 : Nat.blt d m.length = true := by rw [c6, h.len]; simpa using hd
  have f9 := hL.get hd
  have f10 := hL.eS hd
  have f11 := hL.gA hd hcn
  rw [hMd] at f11
  have hm : M d c ≠ 0 := by have := f.piv; omega
  have b0 := hE t ht c hcn
  have b1 := hB _ hi c hcn
  have b2 := hB _ hd c hcn
  have k1 := DP hT (Nat.le_succ_of_le b1)
  have k2 := DP hT (Nat.le_succ_of_le b2)
  have c1 := G8 (M t c) (M d c) (by have : mE = 18 := rfl; omega) (by have : mE = 18 := rfl; omega) hm
  obtain ⟨A2, c2, c3⟩ := hL.less hn hi hd (by omega) ((M t c).fdiv (M d c)) (by
   rw [hMi, hMd]
   exact aEG hT (hB _ hi) (hB _ hd) (SC b1 hm))
  have hF2 := hF.less ht
  rw [hMi, hMd] at hF2 c3
  refine ⟨_, ?_, A2, _, rfl, c3, hF2, fun i hi2 => ?_, fun i hi2 x hx => ?_⟩
  ·simp only [fE, e1, e2, e3, e4, e9, e5, e6, e10, e7, e11, f2, f3, f4, f9, f10, f11, c1, c2, aD, cond_true, e8]
  ·rw [u6 _ _ (by omega)]; exact hr1 i (by omega)
  ·by_cases e : i = t
   ·subst e
    rw [DB]
    have q1 := SC b0 hm
    have q2 : ((M i c).fdiv (M d c) * M d x).natAbs = ((M i c).fdiv (M d c)).natAbs * (M d x).natAbs := Int.natAbs_mul _ _
    have q3 : ((M i c).fdiv (M d c)).natAbs * (M d x).natAbs ≤ (E + 1) * T := Nat.mul_le_mul q1 (hB _ hd x hx)
    have q4 := hE i (by omega) x hx
    omega
   ·rw [u6 _ _ e]; exact hr2 i (by omega) x hx
 ·rintro x ⟨A', M', rfl, hL, hF, hr1, hr2⟩
  have e1 : ltI (d : Int) (d : Int) = false := by rw [aL]; exact decide_eq_false (by omega)
  refine ⟨_, ?_, A', M', rfl, hL, hF, hr1, hr2⟩
  simp only [fE, e1, cond_false]
end
end Go.PM
set_option linter.unusedSimpArgs false
set_option linter.unusedVariables false
namespace Go.PM
open Go Go.RowKit Go.Proofs Go.Lz
set_option maxRecDepth 100000
def Wd (k n : Nat) (M : Nat → V) : Prop := ∀ i, i < k → ∀ x, n ≤ x → M i x = 0
section
variable {o k n d c : Nat} {m : List (Nat × Nat × Nat)} {A : List (List ByteArray)} {J : Nat → Nat} {M M0 : Nat → V} {p : Nat → Nat} {T E : Nat}
theorem Big.all (h : Big k n M T) (hw : Wd k n M) : ∀ i, i < k → ∀ x, (M i x).natAbs ≤ T := fun i hi x => by
 rcases Nat.lt_or_ge x n with g | g
 ·exact h i hi x g
 ·rw [hw i hi x g]; exact Nat.zero_le _
theorem pass (h : mN o k n m A J M) (hk : k < 1048576) (hn : n < 1048576) (f : Fo k M0 M d c p) (hcn : c < n) (hB : Big k n M T) (hw : Wd k n M) (hE : ∀ i, i < d → ∀ x, x < n → (M i x).natAbs ≤ E) (hET : E ≤ T) (hT : 2 * Lib.nDigits (T + 1) ≤ mE) {a : Nat} (hd : d < k) (ha : d ≤ a) (hak : a < k) (hm : M a c ≠ 0)
  (cols : Int) (hfind : fA (m, cols, (d : Int), (c : Int), -1, (d : Int), A, ()) = some (m, cols, (d : Int), (c : Int), (a : Int), A, ())) :
  ∃ m1 A' J' M', mN o k n m1 A' J' M' ∧ Rd k (swp M d a) M' d c ∧ Fo k M0 M' d c p ∧ (∀ i, i < d → M' i = M i) ∧ Wd k n M' ∧
   ((∃ i, d < i ∧ i < k ∧ M' i c ≠ 0) → bY (m, cols, (d : Int), (c : Int), A, ()) = some (.inl (m1, cols, (d : Int), (c : Int), A', ()))) ∧
   ((∀ i, d < i → i < k → M' i c = 0) → Big k n M' T → ∃ A'' M'' p', bY (m, cols, (d : Int), (c : Int), A, ()) = some (.inr (m1, cols, ((d + 1 : Nat) : Int), (c : Int), A'', ())) ∧ mN o k n m1 A'' J' M'' ∧ Fo k M0 M'' (d + 1) (c + 1) p' ∧ Wd k n M'' ∧ Big k n M'' (E + (E + 1) * T)) := by
 obtain ⟨J', hs⟩ : ∃ J', mN o k n ((m.set d (J a, o, n)).set a (J d, o, n)) A J' (swp M d a) := ⟨_, h.swap hd hak⟩
 have hsw : ∀ i, i < k → ∃ j, j < k ∧ swp M d a i = M j := fun i hi => by
  unfold swp
  split
  ·exact ⟨a, hak, rfl⟩
  ·split
   ·exact ⟨d, hd, rfl⟩
   ·exact ⟨i, hi, rfl⟩
 have hBs : Big k n (swp M d a) T := fun i hi x hx => by
  obtain ⟨j, h1, h2⟩ := hsw i hi
  rw [h2]; exact hB j h1 x hx
 have hws : Wd k n (swp M d a) := fun i hi x hx => by
  obtain ⟨j, h1, h2⟩ := hsw i hi
  rw [h2]; exact hw j h1 x hx
 have hpd : swp M d a d = M a := by simp [swp]
 obtain ⟨A', M', rest, g1, g2, g3, g4, g5, g6, g7⟩ := aKV hs hk hn (f.swap ha hak) hd hcn (by rw [hpd]; exact hm) hBs hT cols
 have hw' : Wd k n M' := fun i hi x hx => by
  rcases Nat.lt_trichotomy i d with q | q | q
  ·rw [g5 i q]; exact hws i hi x hx
  ·subst q; rw [g3.1]; exact hws i hi x hx
  ·rw [g3.2 i q hi]
   simp only [hws i hi x hx, hws d hd x hx, Int.mul_zero, Int.sub_zero]
 have hlow : ∀ i, i < d → M' i = M i := fun i hi => by
  rw [g5 i hi]
  unfold swp
  rw [if_neg (by omega), if_neg (by omega)]
 -- what the pass begins with
 have e1 : ltI (a : Int) 0 = false := by rw [aL]; exact decide_eq_false (by omega)
 have e2 : aP (a : Int) m.length = true := by rw [bB, h.len]; exact decide_eq_true (by omega)
 have e3 : ((a : Nat) : Int).toNat = a := Int.toNat_natCast _
 have e4 : Nat.blt a m.length = true := by rw [c6, h.len]; simpa using hak
 have f2 : aP (d : Int) m.length = true := by rw [bB, h.len]; exact decide_eq_true (by omega)
 have f3 : ((d : Nat) : Int).toNat = d := Int.toNat_natCast _
 have f4 : Nat.blt d m.length = true := by rw [c6, h.len]; simpa using hd
 have e9 := h.get hak
 have f9 := h.get hd
 have s1 : (m.set d (J a, o, n)).length = m.length := by simp
 have first : bY (m, cols, (d : Int), (c : Int), A, ()) =
   (bif rest then some (.inl ((m.set d (J a, o, n)).set a (J d, o, n), cols, (d : Int), (c : Int), A', ()))
   else bif aP (d : Int) ((m.set d (J a, o, n)).set a (J d, o, n)).length then bif Nat.blt d ((m.set d (J a, o, n)).set a (J d, o, n)).length then bif aP (c : Int) (((m.set d (J a, o, n)).set a (J d, o, n)).getD d (0, 0, 0)).2.2 then
    bif Nat.blt (((((m.set d (J a, o, n)).set a (J d, o, n)).getD d (0, 0, 0)).2.1 + ((c : Nat) : Int).toNat) * 1) (eS A' (((m.set d (J a, o, n)).set a (J d, o, n)).getD d (0, 0, 0)).1) then
    aB (mQ ((gA A' (((m.set d (J a, o, n)).set a (J d, o, n)).getD d (0, 0, 0)).1 (((((m.set d (J a, o, n)).set a (J d, o, n)).getD d (0, 0, 0)).2.1 + ((c : Nat) : Int).toNat) * 1) ByteArray.empty), ())) fun y23 =>
    bif ltI y23.1 0 then
     bif aP (d : Int) ((m.set d (J a, o, n)).set a (J d, o, n)).length then bif Nat.blt d ((m.set d (J a, o, n)).set a (J d, o, n)).length then
     aB (dQ () (((((m.set d (J a, o, n)).set a (J d, o, n)).getD d (0, 0, 0)).1, (((m.set d (J a, o, n)).set a (J d, o, n)).getD d (0, 0, 0)).2.1, (((m.set d (J a, o, n)).set a (J d, o, n)).getD d (0, 0, 0)).2.2), ()) A') fun y24 =>
     aB (bV ((m.set d (J a, o, n)).set a (J d, o, n), cols, (d : Int), (c : Int), (d : Int), 0, y24.2, ())) fun z25 =>
     some (.inr ((z25.1, z25.2.1, (aJ .i64 (z25.2.2.1 + 1)), z25.2.2.2.1, z25.2.2.2.2.1, ()))) else none else none
    else aB (bV ((m.set d (J a, o, n)).set a (J d, o, n), cols, (d : Int), (c : Int), (d : Int), 0, A', ())) fun z26 =>
    some (.inr ((z26.1, z26.2.1, (aJ .i64 (z26.2.2.1 + 1)), z26.2.2.2.1, z26.2.2.2.2.1, ()))) else none else none else none else none) := by
  simp only [bY, hfind, aD, e1, cond_false, e2, e3, e4, f2, f3, f4, e9, f9, s1, cond_true, g1]
 refine ⟨_, A', J', M', g2, g3, g4, hlow, hw', fun hex => ?_, fun hz hB' => ?_⟩
 ·obtain ⟨i, q1, q2, q3⟩ := hex
  have hr : rest = true := by
   cases rest with
   | true => rfl
   | false => exact absurd (g7 rfl i q1 q2) q3
  rw [first, hr]; rfl
 ·have hr : rest = false := by
   cases rest with
   | false => rfl
   | true =>
    obtain ⟨i, q1, q2, q3⟩ := g6 rfl
    exact absurd (hz i q1 q2) q3
  have hmd : M' d c ≠ 0 := by rw [g3.1, hpd]; exact hm
  have t1 := g2.len
  have t2 : aP (d : Int) k = true := by rw [bB]; exact decide_eq_true (by omega)
  have t3 : Nat.blt d k = true := by rw [c6]; simpa using hd
  have t4 := g2.get hd
  have t5 : aP (c : Int) n = true := by rw [bB]; exact decide_eq_true (by omega)
  have t6 : (o + ((c : Nat) : Int).toNat) * 1 = o + c := by simp
  have t7 : Nat.blt (o + c) (o + n) = true := by rw [c6]; simpa using hcn
  have t8 := g2.eS hd
  have t9 := g2.gA hd hcn
  have t10 := O8 (M' d c)
  have t11 := dO d (by omega)
  have hE' : ∀ i, i < d → ∀ x, x < n → (M' i x).natAbs ≤ E := fun i hi x hx => by rw [hlow i hi]; exact hE i hi x hx
  have fin : ∀ (A1 : List (List ByteArray)) (M1 : Nat → V), mN o k n ((m.set d (J a, o, n)).set a (J d, o, n)) A1 J' M1 → Fo k M0 M1 d c p → 0 < M1 d c → (∀ i, d < i → i < k → M1 i c = 0) → Big k n M1 T → Wd k n M1 → (∀ i, i < d → M1 i = M' i) →
    ∃ A'' M'' p', bV ((m.set d (J a, o, n)).set a (J d, o, n), cols, (d : Int), (c : Int), (d : Int), 0, A1, ()) = some ((m.set d (J a, o, n)).set a (J d, o, n), cols, (d : Int), (c : Int), A'', ()) ∧ mN o k n ((m.set d (J a, o, n)).set a (J d, o, n)) A'' J' M'' ∧ Fo k M0 M'' (d + 1) (c + 1) p' ∧ Wd k n M'' ∧ Big k n M'' (E + (E + 1) * T) := by
   intro A1 M1 q1 q2 q3 q4 q5 q6 q7
   obtain ⟨A2, M2, r1, r2, r3, r4, r5⟩ := aMQ q1 hk hn { toFo := q2, dk := hd, piv := q3, below := q4, up := fun i hi => by omega } hcn q5 (fun i hi x hx => by rw [q7 i hi]; exact hE' i hi x hx) hET hT cols
   refine ⟨A2, M2, _, r1, r2, r3.done, fun i hi x hx => ?_, fun i hi x hx => ?_⟩
   ·rcases Nat.lt_or_ge i d with g | g
    ·have hs0 : Same k M0 k M2 := r3.same
     have h0 : ∀ j, j < k → M0 j x = 0 := fun j hj => Sp.SL (M := M1) (fun l hl => q6 l hl x hx) ((q2.same _).1 (Sp.mem hj))
     exact Sp.SL (M := M0) h0 ((hs0 _).2 (Sp.mem hi))
    ·rw [r4 i g]; exact q6 i hi x hx
   ·rcases Nat.lt_or_ge i d with g | g
    ·exact r5 i g x hx
    ·rw [r4 i g]
     have := q5 i hi x hx
     have : T * 1 ≤ T * (E + 1) := Nat.mul_le_mul_left _ (by omega)
     rw [Nat.mul_comm (E + 1) T]
     omega
  by_cases hn0 : M' d c < 0
  ·obtain ⟨A1, u1, u2⟩ := g2.neg hn hd (fun x hx => (hB'.cm hT) d hd x hx)
   have l1 : up M' d (fun x => -(M' d x)) d c = -(M' d c) := by rw [DB]
   obtain ⟨A2, M2, p2, r1, r2, r3, r4, r5⟩ := fin A1 _ u2 (g4.neg hd) (by rw [l1]; omega) (fun i q1 q2 => by rw [u6 _ _ (by omega)]; exact hz i q1 q2)
    (fun i hi x hx => by
     by_cases e : i = d
     ·subst e; rw [DB, Int.natAbs_neg]; exact hB' i hi x hx
     ·rw [u6 _ _ e]; exact hB' i hi x hx)
    (fun i hi x hx => by
     by_cases e : i = d
     ·subst e; rw [DB, hw' i hi x hx]; rfl
     ·rw [u6 _ _ e]; exact hw' i hi x hx)
    (fun i hi => u6 _ _ (by omega))
   refine ⟨A2, M2, p2, ?_, r2, r3, r4, r5⟩
   have s2 : ltI (M' d c).sign 0 = true := by rw [aL, Int.sign_eq_neg_one_of_neg hn0]; rfl
   rw [first, hr]
   simp only [cond_false, t1, t2, t3, t4, t5, t6, t7, t8, t9, t10, aD, cond_true, s2, u1, r1, t11]
  ·obtain ⟨A2, M2, p2, r1, r2, r3, r4, r5⟩ := fin A' _ g2 g4 (by omega) hz hB' hw' (fun _ _ => rfl)
   refine ⟨A2, M2, p2, ?_, r2, r3, r4, r5⟩
   have s2 : ltI (M' d c).sign 0 = false := by rw [aL, Int.sign_eq_one_of_pos (by omega)]; rfl
   rw [first, hr]
   simp only [cond_false, t1, t2, t3, t4, t5, t6, t7, t8, t9, t10, aD, cond_true, s2, r1, t11]
end
end Go.PM
set_option linter.unusedSimpArgs false
set_option linter.unusedVariables false
namespace Go.PM
open Go Go.RowKit Go.Proofs Go.Lz
set_option maxRecDepth 100000
structure St (k n d E T : Nat) : Prop where
 e1 : 1 ≤ E
 et : E ≤ T
 eu : d + 1 < k → 9 * E ^ 5 ≤ T
 fit : 2 * Lib.nDigits (T + 1) ≤ mE
def a4S (o k n d c : Nat) (M0 : Nat → V) (cols : Int) (E T : Nat) (z : List (Nat × Nat × Nat) × Int × Int × Int × List (List ByteArray) × Unit) : Prop :=
 ∃ m' A' J' M' d' p', z = (m', cols, ((d' : Nat) : Int), (c : Int), A', ()) ∧ mN o k n m' A' J' M' ∧ Fo k M0 M' d' (c + 1) p' ∧ Wd k n M' ∧ ((d' = d ∧ Big k n M' E) ∨ (d' = d + 1 ∧ Big k n M' (E + (E + 1) * T)))
section
variable {o k n d c : Nat} {m : List (Nat × Nat × Nat)} {A : List (List ByteArray)} {J : Nat → Nat} {M M0 : Nat → V} {p : Nat → Nat} {T E : Nat}
theorem aTH {a g : Nat} (h : a < 10 ^ g) : a < 2 ^ (4 * g) := by
 refine Nat.lt_of_lt_of_le h ?_
 rw [Nat.pow_mul]
 exact Nat.pow_le_pow_left (by decide) g
theorem rounds (hk : k < 1048576) (hn : n < 1048576) (hcn : c < n) (hT : 2 * Lib.nDigits (T + 1) ≤ mE) (hET : E ≤ T) {C : Nat} (hC : 3 * C ≤ T) (cols : Int) : ∀ (R N P : Nat) {m : List (Nat × Nat × Nat)} {A : List (List ByteArray)} {J : Nat → Nat} {M : Nat → V},
  mN o k n m A J M → Fo k M0 M d c p → Wd k n M → (∀ i, i < d → ∀ x, x < n → (M i x).natAbs ≤ E) → Bt k M d c C → Pt k M d c P → P < 2 ^ R → R < N → ∃ z, bS bY N (m, cols, (d : Int), (c : Int), A, ()) = some z ∧ a4S o k n d c M0 cols E T z
 | 0, N, P, m, A, J, M, h, f, hw, hE, hB, hP, hlt, _ => by
  obtain ⟨i, w1, w2, w3, w4⟩ := hP
  have := hB.piv
  have h1 : 1 * 1 ≤ (M d c).natAbs * (M i c).natAbs := Nat.mul_le_mul (by omega) (by omega)
  simp at hlt
  omega
 | R + 1, N + 1, P, m, A, J, M, h, f, hw, hE, hB, hP, hlt, hN => by
  obtain ⟨E1, b1, i0, b2, b3, b4, b5⟩ := hB.ex
  have hdk := hB.dk
  have hmp := hB.piv
  have hE1 : E1 ≤ C := by
   have h1 : E1 * 1 ≤ E1 * ((M d c).natAbs ^ 3 * (M i0 c).natAbs) := Nat.mul_le_mul_left _ (Nat.mul_pos (Nat.pow_pos (by omega)) (by omega))
   have h2 : E1 * ((M d c).natAbs ^ 3 * (M i0 c).natAbs) = E1 * (M d c).natAbs ^ 3 * (M i0 c).natAbs := by rw [Nat.mul_assoc]
   omega
  have hBig : Big k n M T := fun i hi x hx => by
   rcases Nat.lt_or_ge i d with g | g
   ·exact Nat.le_trans (hE i g x hx) hET
   ·have := (b1 i g hi).1 x
    omega
  obtain ⟨r, f1, f2⟩ := aIL h hk (hBig.cm hT) hcn (Nat.le_of_lt hdk) cols
  cases r with
  | none => exact absurd (f2.none rfl d (Nat.le_refl _) (by omega)) hmp
  | some a =>
   obtain ⟨q1, q2, q3, q4⟩ := f2.some a rfl
   have hak : a < k := by omega
   have hmin : ∀ i, d ≤ i → i < k → M i c ≠ 0 → (M a c).natAbs ≤ (M i c).natAbs := fun i g1 g2 g3 => q4 i g1 (by omega) g3
   obtain ⟨m1, A', J', M', s1, s2, s3, s4, s5, s6, s7⟩ := pass h hk hn f hcn hBig hw hE hET hT hdk q1 hak q3 cols f1
   have hE' : ∀ i, i < d → ∀ x, x < n → (M' i x).natAbs ≤ E := fun i hi x hx => by rw [s4 i hi]; exact hE i hi x hx
   by_cases hz : ∀ i, d < i → i < k → M' i c = 0
   ·rcases hB.round q1 hak q3 hmin s2 with ⟨_, A1, g1⟩ | ⟨g1, _⟩
    ·have hBig' : Big k n M' T := fun i hi x hx => by
      rcases Nat.lt_or_ge i d with g | g
      ·exact Nat.le_trans (hE' i g x hx) hET
      ·exact Nat.le_trans ((g1 i g hi).1 x) hC
     obtain ⟨A2, M2, p2, u1, u2, u3, u4, u5⟩ := s7 hz hBig'
     exact ⟨_, by rw [bR, u1], m1, A2, J', M2, d + 1, p2, rfl, u2, u3, u4, .inr ⟨rfl, u5⟩⟩
    ·obtain ⟨_, _, i, z1, z2, z3, _⟩ := g1.ex
     exact absurd (hz i z1 z2) z3
   ·have hex : ∃ i, d < i ∧ i < k ∧ M' i c ≠ 0 := by
     obtain ⟨i, hi⟩ := Classical.not_forall.1 hz
     obtain ⟨g1, hi⟩ := Classical.not_forall.1 hi
     obtain ⟨g2, g3⟩ := Classical.not_forall.1 hi
     exact ⟨i, g1, g2, g3⟩
    rcases hB.round q1 hak q3 hmin s2 with ⟨g0, _⟩ | ⟨g1, _⟩
    ·exact absurd g0 hz
    ·have hP' := hB.half q1 hak q3 hmin s2 hz hP
     obtain ⟨z, v1, v2⟩ := rounds hk hn hcn hT hET hC cols R N (P / 2) s1 s3 s5 hE' g1 hP' (by rw [Nat.pow_succ] at hlt; omega) (by omega)
     exact ⟨z, by rw [bR, s6 hex]; exact v1, v2⟩
theorem column (hk : k < 1048576) (hn : n < 1048576) (h : mN o k n m A J M) (f : Fo k M0 M d c p) (hw : Wd k n M) (hd : d < k) (hcn : c < n) (hE : Big k n M E) (st : St k n d E T) (cols : Int) :
  ∃ z, fF (m, cols, (d : Int), (c : Int), A, ()) = some z ∧ a4S o k n d c M0 cols E T z := by
 have hBig : Big k n M T := fun i hi x hx => Nat.le_trans (hE i hi x hx) st.et
 have hEl : ∀ i, i < d → ∀ x, x < n → (M i x).natAbs ≤ E := fun i hi x hx => hE i (by omega) x hx
 obtain ⟨r, f1, f2⟩ := aIL h hk (hBig.cm st.fit) hcn (Nat.le_of_lt hd) cols
 unfold fF
 obtain ⟨N, hN⟩ : ∃ N, 2 ^ 64 = N + 1 := ⟨2 ^ 64 - 1, by omega⟩
 rw [hN]
 cases r with
 | none =>
  have e1 : ltI (atv none) 0 = true := by decide
  refine ⟨_, ?_, m, A, J, M, d, p, rfl, h, f.skip fun i h1 h2 => f2.none rfl i h1 (by omega), hw, .inl ⟨rfl, hE⟩⟩
  rw [bR]
  simp only [bY, f1, aD, e1, cond_true]
 | some a =>
  obtain ⟨q1, q2, q3, q4⟩ := f2.some a rfl
  have hak : a < k := by omega
  obtain ⟨m1, A', J', M', s1, s2, s3, s4, s5, s6, s7⟩ := pass h hk hn f hcn hBig hw hEl st.et st.fit hd q1 hak q3 cols f1
  have hE' : ∀ i, i < d → ∀ x, x < n → (M' i x).natAbs ≤ E := fun i hi x hx => by rw [s4 i hi]; exact hEl i hi x hx
  have hWi : Wi k (swp M d a) d c E E := (show Wi k M d c E E from fun i g1 g2 => ⟨fun x => hE.all hw i g2 x, hE.all hw i g2 c⟩).swap q1 hak
  have hpd : swp M d a d = M a := by simp [swp]
  have hfirst := s2.first hWi hd (by rw [hpd]; exact q3)
  have hpow : 3 * (3 * (E * E) * E ^ 3) = 9 * E ^ 5 := by grind
  by_cases hdk : d + 1 < k
  ·have h9 := st.eu hdk
   rcases hfirst with ⟨hz, g1⟩ | g1
   ·have hBig' : Big k n M' T := fun i hi x hx => by
     rcases Nat.lt_or_ge i d with g | g
     ·exact Nat.le_trans (hE' i g x hx) st.et
     ·have := (g1 i g hi).1 x
      have h3 : 3 * (E * E) * 1 ≤ 3 * (E * E) * E ^ 3 := Nat.mul_le_mul_left _ (Nat.pow_pos st.e1)
      omega
    obtain ⟨A2, M2, p2, u1, u2, u3, u4, u5⟩ := s7 hz hBig'
    exact ⟨_, by rw [bR, u1], m1, A2, J', M2, d + 1, p2, rfl, u2, u3, u4, .inr ⟨rfl, u5⟩⟩
   ·obtain ⟨E1, b1, i0, b2, b3, b4, b5⟩ := g1.ex
    have hPt : Pt k M' d c (T * T) := by
     refine ⟨i0, b2, b3, b4, Nat.mul_le_mul ?_ ?_⟩
     ·rw [s2.1, hpd]; exact hBig a hak c hcn
     ·have h1 := (g1.sign i0 b2 b3).1
      rw [s2.1, hpd] at h1
      exact Nat.le_trans (Nat.le_of_lt h1) (hBig a hak c hcn)
    have hT2 : T * T < 2 ^ (8 * Lib.nDigits (T + 1)) := by
     have h1 := aTH (kE (T + 1))
     have h2 : (T + 1) * (T + 1) < 2 ^ (4 * Lib.nDigits (T + 1)) * 2 ^ (4 * Lib.nDigits (T + 1)) := Nat.mul_lt_mul'' h1 h1
     rw [← Nat.pow_add] at h2
     have h3 : 4 * Lib.nDigits (T + 1) + 4 * Lib.nDigits (T + 1) = 8 * Lib.nDigits (T + 1) := by omega
     rw [h3] at h2
     have h4 : T * T ≤ (T + 1) * (T + 1) := Nat.mul_le_mul (by omega) (by omega)
     omega
    have hex : ∃ i, d < i ∧ i < k ∧ M' i c ≠ 0 := ⟨i0, b2, b3, b4⟩
    obtain ⟨z, v1, v2⟩ := rounds hk hn hcn st.fit st.et (C := 3 * (E * E) * E ^ 3) (by omega) cols (8 * Lib.nDigits (T + 1)) N (T * T) s1 s3 s5 hE' g1 hPt hT2 (by have := st.fit; have : mE = 18 := rfl; omega)
    exact ⟨z, by rw [bR, s6 hex]; exact v1, v2⟩
  ·have hz : ∀ i, d < i → i < k → M' i c = 0 := fun i g1 g2 => by omega
   have hBig' : Big k n M' T := fun i hi x hx => by
    rcases Nat.lt_or_ge i d with g | g
    ·exact Nat.le_trans (hE' i g x hx) st.et
    ·have : i = d := by omega
     subst this
     rw [s2.1, hpd]
     exact hBig a hak x hx
   obtain ⟨A2, M2, p2, u1, u2, u3, u4, u5⟩ := s7 hz hBig'
   exact ⟨_, by rw [bR, u1], m1, A2, J', M2, d + 1, p2, rfl, u2, u3, u4, .inr ⟨rfl, u5⟩⟩

structure Bds (k n : Nat) (E T : Nat → Nat) : Prop where
 st : ∀ d, d < k → St k n d (E d) (T d)
 up : ∀ d, d < k → E d + (E d + 1) * T d ≤ E (d + 1)
theorem aVX {E T : Nat → Nat} (hk : k < 1048576) (hn : n < 1048576) (h : mN o k n m A J M) (hw : Wd k n M) (hE : Big k n M (E 0)) (hb : Bds k n E T) :
  ∃ m' A' J' M' d p, fR m ((n : Int), ()) A = some (m'.take d, A') ∧ d ≤ k ∧ mN o k n m' A' J' M' ∧ Hn d M' p ∧ Same k M d M' ∧ Wd k n M' ∧ Big k n M' (E d) := by
 have fin : ∀ (N : Nat) {m' : List (Nat × Nat × Nat)} {A' : List (List ByteArray)} {J' : Nat → Nat} {M' : Nat → V} {d t : Nat} {p : Nat → Nat}, t ≤ n → n - t < N → mN o k n m' A' J' M' → Fo k M M' d t p → Wd k n M' → Big k n M' (E d) →
   ∃ z, bS cW N (m', (n : Int), (d : Int), (t : Int), A', ()) = some z ∧ ∃ (m' : List (Nat × Nat × Nat)) (A' : List (List ByteArray)) (J' : Nat → Nat) (M' : Nat → V) (d : Nat) (p : Nat → Nat), z = (m', (d : Int), A', ()) ∧ mN o k n m' A' J' M' ∧ (d ≤ k ∧ Hn d M' p ∧ Same k M d M') ∧ Wd k n M' ∧ Big k n M' (E d) := by
  intro N
  induction N with
  | zero => intro m' A' J' M' d t p h1 h2; omega
  | succ N ih =>
   intro m' A' J' M' d t p h1 h2 hL hF hW hB
   rw [bR]
   rcases Nat.lt_or_ge t n with ht | ht
   ·have e1 : ltI (t : Int) (n : Int) = true := by rw [aL]; exact decide_eq_true (by omega)
    rcases Nat.lt_or_ge d k with hd | hd
    ·have e2 : ltI (d : Int) (m'.length : Int) = true := by rw [aL, hL.len]; exact decide_eq_true (by omega)
     obtain ⟨z, z1, m2, A2, J2, M2, d2, p2, rfl, y1, y2, y3, y4⟩ := column hk hn hL hF hW hd ht hB (hb.st d hd) (n : Int)
     have e3 := dO t (by omega)
     have hs : cW (m', (n : Int), (d : Int), (t : Int), A', ()) = some (.inl (m2, (n : Int), (d2 : Int), ((t + 1 : Nat) : Int), A2, ())) := by
      simp only [cW, e1, e2, cond_true, z1, aD, e3]
     rw [hs]
     refine ih (by omega) (by omega) y1 y2 y3 ?_
     rcases y4 with ⟨rfl, y4⟩ | ⟨rfl, y4⟩
     ·exact y4
     ·exact fun i hi x hx => Nat.le_trans (y4 i hi x hx) (hb.up d hd)
    ·have hdk : d = k := by have := hF.le; omega
     have e2 : ltI (d : Int) (m'.length : Int) = false := by rw [aL, hL.len]; exact decide_eq_false (by omega)
     refine ⟨_, by simp only [cW, e1, e2, cond_true, cond_false], m', A', J', M', d, p, rfl, hL, ⟨hF.le, hF.hn (.inl hdk)⟩, hW, hB⟩
   ·have htn : t = n := by omega
    subst htn
    have e1 : ltI (t : Int) (t : Int) = false := by rw [aL]; exact decide_eq_false (by omega)
    refine ⟨_, by simp only [cW, e1, cond_false], m', A', J', M', d, p, rfl, hL, ⟨hF.le, hF.hn (.inr fun i hi x hx => hW i hi x hx)⟩, hW, hB⟩
 obtain ⟨z, z1, m', A', J', M', d, p, rfl, y1, ⟨y2, y3, y4⟩, y5, y6⟩ := fin (2 ^ 64) (Nat.zero_le n) (by omega) h (Fo.start k M) hw hE
 refine ⟨m', A', J', M', d, p, ?_, y2, y1, y3, y4, y5, y6⟩
 have z2 : gW (m, (n : Int), 0, 0, A, ()) = some (m', (d : Int), A', ()) := z1
 have e4 : ltI (d : Int) 0 = false := by rw [aL]; exact decide_eq_false (by omega)
 have e5 : ((d : Nat) : Int).toNat = d := Int.toNat_natCast _
 have hl := y1.len
 unfold fR
 simp only [z2, aD, hl, e4, e5, Bool.not_false, cond_true]
 by_cases hk0 : k = 0
 ·have hd0 : d = 0 := by omega
  subst hk0; subst hd0
  have : m' = [] := List.eq_nil_of_length_eq_zero hl
  subst this
  rfl
 ·have e6 : Nat.beq k 0 = false := by
   cases k with
   | zero => exact absurd rfl hk0
   | succ k => rfl
  have e7 : Nat.ble 0 d = true := rfl
  have e8 : Nat.ble d k = true := by rw [jL]; simpa using y2
  have e9 : Nat.blt 0 k = true := by rw [c6]; simp; omega
  simp only [e6, e7, e8, e9, cond_true, cond_false, Nat.sub_zero]
end
end Go.PM
set_option linter.unusedSimpArgs false
set_option linter.unusedVariables false
namespace Go.PM
open Go Go.RowKit Go.Proofs Go.Lz
set_option maxRecDepth 100000
def nE (r : List Int) : V := fun x => r.getD x 0
def B6 (m : List (List Int)) : Nat → V := fun i => nE (m.getD i [])
def Vr (n : Nat) (v : V) : List Int := (List.range n).map v
theorem aNU (r : List Int) : Zr r.length (nE r) = r.map Zn := by
 refine List.ext_getElem? fun i => ?_
 simp only [Zr, List.getElem?_map]
 by_cases h : i < r.length
 ·rw [List.getElem?_range h, List.getElem?_eq_getElem h]
  simp [nE, List.getD, h]
 ·have h1 : (List.range r.length)[i]? = none := by simp; omega
  rw [h1, List.getElem?_eq_none (by omega)]; rfl
theorem VB (n : Int) (h : Lib.nDigits n.natAbs ≤ 18) : pA (Zn n, ()) = some (n, true, ()) := by
 have hl := KG h
 have hs : (Zn n).size ≤ 1000000000 := by
  rcases (by omega : n < 0 ∨ 0 ≤ n) with g | g
  ·rw [wX g]; omega
  ·rw [GZ g, zJ]; omega
 have e1 : Nat.ble (Zn n).size 1000000000 = true := by rw [jL]; simpa using hs
 have e2 : eqI 10 10 = true := by decide
 have e3 : eqI 64 64 = true := by decide
 have e4 : Lib.parseIntB 64 (Zn n).data.toList = .ok n := by
  have hne : ∀ c r, Lib.decDigits n.natAbs = c :: r → c.toNat ≠ 43 ∧ c.toNat ≠ 45 := fun c r he => by
   have := wS n.natAbs c (by rw [he]; simp)
   omega
  have hmag := aDS n.natAbs
  rw [qD] at hmag
  have hlen : (Lib.decDigits n.natAbs).length ≤ 18 := by rw [Lib.decDigits_length]; exact h
  rw [Lib.parseIntB_64]
  rcases (by omega : n < 0 ∨ 0 ≤ n) with g | g
  ·have hn : -(n.natAbs : Int) = n := by omega
   rw [HU g, Lib.atoiAll_minus, Lib.signed_short hlen, hmag]
   simp only [Option.map_some, hn]
   rfl
  ·have hn : (n.natAbs : Int) = n := by omega
   rw [GZ g, qD]
   cases he : Lib.decDigits n.natAbs with
   | nil => exact absurd he (vF _)
   | cons c r =>
    obtain ⟨h1, h2⟩ := hne c r he
    rw [Lib.atoiAll_plain c r h1 h2, ← he, Lib.signless_short hlen, hmag]
    simp only [Option.map_some, hn]
    rfl
 unfold pA mP
 simp only [e1, e2, e3, Bool.and_self, cond_true, e4, aD]

theorem VN (r : List Int) (hl : r.length ≤ 1048576) (hr : ∀ a ∈ r, -9223372036854775808 ≤ a ∧ a < 9223372036854775808) :
  l5 ([], r, (r.length : Int), 0, ()) = some (r.map Zn, ()) := by
 have key := dV (step := jU) (N := 2 ^ 64) (fun t => ((r.take t).map Zn, r, (r.length : Int), (t : Int), ())) r.length (r.map Zn, ()) (by omega) (fun t ht => ?_) ?_
 ·exact key
 ·have e1 : ltI (t : Int) (r.length : Int) = true := by rw [aL]; exact decide_eq_true (by omega)
  have e2 : aP (t : Int) r.length = true := by rw [bB]; exact decide_eq_true (by omega)
  have e3 : ((t : Nat) : Int).toNat = t := Int.toNat_natCast _
  have e4 : r.getD t 0 = r[t] := by simp [List.getD, ht]
  obtain ⟨b1, b2⟩ := hr r[t] (List.getElem_mem ht)
  have e5 := nX r[t] b1 b2
  have e6 : Nat.ble [Zn r[t]].length 1048576 = true := rfl
  have e7 : Nat.ble ((r.take t).map Zn).length 1048576 = true := by rw [jL, List.length_map, List.length_take]; exact decide_eq_true (by omega)
  have e8 := dO t (by omega)
  have e9 : (r.take t).map Zn ++ [Zn r[t]] = (r.take (t + 1)).map Zn := by
   rw [List.take_succ_eq_append_getElem ht, List.map_append]; rfl
  simp only [jU, e1, e2, e3, e4, e5, aD, e6, e7, cond_true, e8, e9]
 ·have e1 : ltI (r.length : Int) (r.length : Int) = false := by rw [aL]; exact decide_eq_false (by omega)
  simp only [jU, e1, cond_false, List.take_length]
theorem aC6 (r : List Int) (hl : r.length ≤ 1048576) (hr : ∀ a ∈ r, -9223372036854775808 ≤ a ∧ a < 9223372036854775808) : jW (r, ()) = some (r.map Zn) := by
 have e1 : ltI (r.length : Int) 0 = false := by rw [aL]; exact decide_eq_false (by omega)
 have e2 : ltI 1048576 (r.length : Int) = false := by rw [aL]; exact decide_eq_false (by omega)
 unfold jW
 simp only [e1, e2, Bool.not_false, cond_true, List.replicate_zero, VN r hl hr, aD]

theorem aK6 (rows : List (List Int)) {n : Nat} (hk : rows.length < 1048576) (hn : n < 1048576) (hlen : ∀ r ∈ rows, r.length = n) (hr : ∀ r ∈ rows, ∀ a ∈ r, -9223372036854775808 ≤ a ∧ a < 9223372036854775808) :
  ∃ m A, iZ () (rows, ()) [] = some (m, A) ∧ mN 0 rows.length n m A (fun i => i) (B6 rows) := by
 have key := dV (step := fH) (N := 2 ^ 64)
  (fun t => ((List.range t).map (fun i => (i, 0, n)), rows, (rows.length : Int), (t : Int), (rows.take t).map (·.map Zn), ())) rows.length ((List.range rows.length).map (fun i => (i, 0, n)), rows.map (·.map Zn), ()) (by omega) (fun t ht => ?_) ?_
 ·refine ⟨(List.range rows.length).map (fun i => (i, 0, n)), rows.map (·.map Zn), ?_, rfl, fun i hi => ⟨[], rfl, ?_⟩, fun i j _ _ h => h⟩
  ·unfold iZ kF
   have key : bS fH (2 ^ 64) ([], rows, (rows.length : Int), 0, [], ()) = _ := key
   simp only [key, aD]
  ·rw [List.getElem?_map, List.getElem?_eq_getElem hi]
   simp only [Option.map_some, List.nil_append]
   congr 1
   have h1 : B6 rows i = nE rows[i] := by unfold B6; simp [List.getD, hi]
   rw [h1, ← aNU, hlen rows[i] (List.getElem_mem hi)]
 ·have e1 : ltI (t : Int) (rows.length : Int) = true := by rw [aL]; exact decide_eq_true (by omega)
  have e2 : aP (t : Int) rows.length = true := by rw [bB]; exact decide_eq_true (by omega)
  have e3 : ((t : Nat) : Int).toNat = t := Int.toNat_natCast _
  have e4 : rows.getD t [] = rows[t] := by simp [List.getD, ht]
  have hm := List.getElem_mem ht
  have e5 := aC6 rows[t] (by rw [hlen _ hm]; omega) (hr _ hm)
  have e6 : ((rows.take t).map (·.map Zn)).length = t := by rw [List.length_map, List.length_take]; omega
  have e7 : Nat.ble [(t, 0, n)].length 1048576 = true := rfl
  have e8 : Nat.ble ((List.range t).map (fun i => (i, 0, n))).length 1048576 = true := by rw [jL, List.length_map, List.length_range]; exact decide_eq_true (by omega)
  have e9 := dO t (by omega)
  have e10 : (rows[t].map Zn).length = n := by rw [List.length_map, hlen _ hm]
  have e11 : (rows.take t).map (·.map Zn) ++ [rows[t].map Zn] = (rows.take (t + 1)).map (·.map Zn) := by
   rw [List.take_succ_eq_append_getElem ht, List.map_append]; rfl
  have e12 : (List.range t).map (fun i => (i, 0, n)) ++ [(t, 0, n)] = (List.range (t + 1)).map (fun i => (i, 0, n)) := by
   rw [List.range_succ, List.map_append]; rfl
  simp only [fH, e1, e2, e3, e4, e5, aD, e6, e7, e8, e9, e10, e11, e12, cond_true]
 ·have e1 : ltI (rows.length : Int) (rows.length : Int) = false := by rw [aL]; exact decide_eq_false (by omega)
  simp only [fH, e1, cond_false, List.take_length]

theorem aOE {A : List (List ByteArray)} {J o n : Nat} {v : V} {pre : List ByteArray} (hn : n < 1048576) (hp : pre.length = o) (hJ : A[J]? = some (pre ++ Zr n v)) (ok : ∀ x, x < n → (v x).natAbs ≤ 1000000000) :
  gS () ((J, o, n), ()) A = some ((Vr n v, 0, ()), A) := by
 have key := dV (step := eB) (N := 2 ^ 64) (fun t => (Vr t v, (J, o, n), (n : Int), (t : Int), A, ())) n (.inr (Vr n v, A, ())) (by omega) (fun t ht => ?_) ?_
 ·have e1 : ltI (n : Int) 0 = false := by rw [aL]; exact decide_eq_false (by omega)
  have e2 : ltI 1048576 (n : Int) = false := by rw [aL]; exact decide_eq_false (by omega)
  have key : bS eB (2 ^ 64) ([], (J, o, n), (n : Int), 0, A, ()) = _ := key
  unfold gS iV
  simp only [e1, e2, Bool.not_false, cond_true, List.replicate_zero, key, aD, iH]
 ·have b1 := ok t ht
  have e1 : ltI (t : Int) (n : Int) = true := by rw [aL]; exact decide_eq_true (by omega)
  have e2 : aP (t : Int) n = true := by rw [bB]; exact decide_eq_true (by omega)
  have e3 : (o + ((t : Nat) : Int).toNat) * 1 = o + t := by simp
  have e4 : eS A J = o + n := by rw [eS, RO _ hJ, List.length_append, iX, hp]
  have e6 : Nat.blt (o + t) (o + n) = true := by rw [c6]; simpa using ht
  have e7 : gA A J (o + t) ByteArray.empty = Zn (v t) := by rw [gA, RO _ hJ, J9 hp, CC _ ht]
  have e8 := VB (v t) (by have := j3 (u := (v t).natAbs) (k := 17) (by omega); omega)
  have e9 : ltI 1000000000 (v t) = false := by rw [aL]; exact decide_eq_false (by omega)
  have e10 : ltI (v t) (-1000000000) = false := by rw [aL]; exact decide_eq_false (by omega)
  have e11 : Nat.ble [v t].length 1048576 = true := rfl
  have e12 : Nat.ble (Vr t v).length 1048576 = true := by rw [jL]; unfold Vr; rw [List.length_map, List.length_range]; exact decide_eq_true (by omega)
  have e13 := dO t (by omega)
  have e14 : Vr t v ++ [v t] = Vr (t + 1) v := by unfold Vr; rw [List.range_succ, List.map_append]; rfl
  simp only [eB, e1, e2, e3, e4, e6, e7, e8, e9, e10, e11, e12, e13, e14, aD, cond_true, cond_false]
 ·have e1 : ltI (n : Int) (n : Int) = false := by rw [aL]; exact decide_eq_false (by omega)
  simp only [eB, e1, cond_false]
theorem aRP {o k d n : Nat} {m : List (Nat × Nat × Nat)} {A : List (List ByteArray)} {J : Nat → Nat} {M : Nat → V} (h : mN o k n m A J M) (hd : d ≤ k) (hk : k < 1048576) (hn : n < 1048576) (ok : ∀ i, i < d → ∀ x, x < n → (M i x).natAbs ≤ 1000000000) (cols : Int) :
  fQ (m.take d) (cols, ()) A = some (((cols, (List.range d).map fun i => Vr n (M i)), 0, ()), A) := by
 have hl : (m.take d).length = d := by rw [List.length_take, h.len]; omega
 have hg : ∀ t, t < d → (m.take d).getD t (0, 0, 0) = (J t, o, n) := fun t ht => by
  rw [← h.get (show t < k by omega)]
  simp [List.getD, List.getElem?_take, ht]
 have key := dV (step := dJ) (N := 2 ^ 64)
  (fun t => ((0, ([], ())), (cols, ((List.range t).map (fun i => Vr n (M i)), ())), m.take d, ((m.take d).length : Int), (t : Int), A, ())) d (.inr ((0, ([], ())), (cols, ((List.range d).map (fun i => Vr n (M i)), ())), A, ())) (by omega) (fun t ht => ?_) ?_
 ·have key : bS dJ (2 ^ 64) ((0, ([], ())), (cols, ([], ())), m.take d, ((m.take d).length : Int), 0, A, ()) = _ := key
  unfold fQ gY
  simp only [key, aD, iH]
 ·rw [hl]
  obtain ⟨pre, h1, h2⟩ := h.at_ t (by omega)
  have e1 : ltI (t : Int) (d : Int) = true := by rw [aL]; exact decide_eq_true (by omega)
  have e2 : aP (t : Int) d = true := by rw [bB]; exact decide_eq_true (by omega)
  have e3 : ((t : Nat) : Int).toNat = t := Int.toNat_natCast _
  have e4 : Nat.blt t d = true := by rw [c6]; simpa using ht
  have e5 := aOE hn h1 h2 (ok t ht)
  have e6 : eqI 0 0 = true := by decide
  have e7 : Nat.ble [Vr n (M t)].length 1048576 = true := rfl
  have e8 : Nat.ble ((List.range t).map (fun i => Vr n (M i))).length 1048576 = true := by rw [jL, List.length_map, List.length_range]; exact decide_eq_true (by omega)
  have e9 := dO t (by omega)
  have e10 : (List.range t).map (fun i => Vr n (M i)) ++ [Vr n (M t)] = (List.range (t + 1)).map (fun i => Vr n (M i)) := by rw [List.range_succ, List.map_append]; rfl
  simp only [dJ, hl, e1, e2, e3, e4, hg t ht, e5, e6, e7, e8, e9, e10, aD, cond_true, Bool.not_true, cond_false]
 ·rw [hl]
  have e1 : ltI (d : Int) (d : Int) = false := by rw [aL]; exact decide_eq_false (by omega)
  simp only [dJ, e1, cond_false]

theorem R7 (r : List Int) (hl : r.length ≤ 64) (hr : ∀ a ∈ r, a.natAbs ≤ 1000000000) : sV (r, ()) = some (0, ()) := by
 have key := dV (step := cB) (N := 2 ^ 64) (fun t => (r, (), (r.length : Int), (t : Int), ())) r.length (.inr ()) (by omega) (fun t ht => ?_) ?_
 ·have key : bS cB (2 ^ 64) (r, (), (r.length : Int), 0, ()) = some (.inr ()) := key
  have e1 : ltI 64 (r.length : Int) = false := by rw [aL]; exact decide_eq_false (by omega)
  have e2 : ltI (-1) 0 = true := by decide
  simp only [sV, e1, cond_false, dE, eO, eR, key, aD, iH, e2, Bool.not_true]
 ·have e1 : ltI (t : Int) (r.length : Int) = true := by rw [aL]; exact decide_eq_true (by omega)
  have e2 : aP (t : Int) r.length = true := by rw [bB]; exact decide_eq_true (by omega)
  have e3 : ((t : Nat) : Int).toNat = t := Int.toNat_natCast _
  have e4 : r.getD t 0 = r[t] := by simp [List.getD, ht]
  have b := hr r[t] (List.getElem_mem ht)
  have e5 : ltI r[t] (-1000000000) = false := by rw [aL]; exact decide_eq_false (by omega)
  have e6 : ltI 1000000000 r[t] = false := by rw [aL]; exact decide_eq_false (by omega)
  have e7 := dO t (by omega)
  simp only [cB, e1, e2, e3, e4, uK, FJ, e5, e6, aD, Bool.not_false, cond_true, cond_false, e7]
 ·have e1 : ltI (r.length : Int) (r.length : Int) = false := by rw [aL]; exact decide_eq_false (by omega)
  simp only [cB, e1, cond_false]
theorem aH6 (rows : List (List Int)) {n : Nat} (hk : rows.length < 1048576) (hn : n ≤ 64) (hlen : ∀ r ∈ rows, r.length = n) (hr : ∀ r ∈ rows, ∀ a ∈ r, a.natAbs ≤ 1000000000) : pV (rows, (n : Int), ()) = some (0, ()) := by
 have key := dV (step := j6) (N := 2 ^ 64) (fun t => ((n : Int), rows, (rows.length : Int), (t : Int), ())) rows.length (.inr ()) (by omega) (fun t ht => ?_) ?_
 ·have key : bS j6 (2 ^ 64) ((n : Int), rows, (rows.length : Int), 0, ()) = some (.inr ()) := key
  simp only [pV, pE, key, aD, iH]
 ·have e1 : ltI (t : Int) (rows.length : Int) = true := by rw [aL]; exact decide_eq_true (by omega)
  have e2 : aP (t : Int) rows.length = true := by rw [bB]; exact decide_eq_true (by omega)
  have e3 : ((t : Nat) : Int).toNat = t := Int.toNat_natCast _
  have e4 : rows.getD t [] = rows[t] := by simp [List.getD, ht]
  have hm := List.getElem_mem ht
  have e5 := R7 rows[t] (by rw [hlen _ hm]; exact hn) (hr _ hm)
  have e6 : eqI 0 0 = true := by decide
  have e7 : eqI (rows[t].length : Int) (n : Int) = true := by rw [dI, hlen _ hm]; exact decide_eq_true rfl
  have e8 := dO t (by omega)
  simp only [j6, e1, e2, e3, e4, e5, aD, e6, e7, e8, Bool.not_true, cond_true, cond_false]
 ·have e1 : ltI (rows.length : Int) (rows.length : Int) = false := by rw [aL]; exact decide_eq_false (by omega)
  simp only [j6, e1, cond_false]
theorem aIN (rows : List (List Int)) {n : Nat} (hk : rows.length ≤ 12) (hn : n ≤ 12) (hlen : ∀ r ∈ rows, r.length = n) (hr : ∀ r ∈ rows, ∀ a ∈ r, a.natAbs ≤ 1000000000) : lJ ((n : Int), rows, ()) = some (0, ()) := by
 have e1 : ltI (n : Int) 0 = false := by rw [aL]; exact decide_eq_false (by omega)
 have e2 : ltI 12 (n : Int) = false := by rw [aL]; exact decide_eq_false (by omega)
 have e3 : ltI 12 (rows.length : Int) = false := by rw [aL]; exact decide_eq_false (by omega)
 simp only [lJ, e1, e2, e3, cond_false, aH6 rows (by omega) (by omega) hlen hr, aD]
theorem of_eq (rows : List (List Int)) {n : Nat} (hk : rows.length ≤ 12) (hn : n ≤ 12) (hlen : ∀ r ∈ rows, r.length = n) {E T : Nat → Nat} (hr : ∀ r ∈ rows, ∀ a ∈ r, a.natAbs ≤ E 0) (hE : E 0 ≤ 1000000000) (hb : Bds rows.length n E T)
  (hfin : ∀ d M p, d ≤ rows.length → Hn d M p → Same rows.length (B6 rows) d M → (∀ i, i < d → ∀ x, n ≤ x → M i x = 0) → ∀ i, i < d → ∀ x, x < n → (M i x).natAbs ≤ 1000000000) :
  ∃ d M p, jE ((n : Int), rows, ()) = some (((n : Int), (List.range d).map fun i => Vr n (M i)), 0, ()) ∧ d ≤ rows.length ∧ Hn d M p ∧ Same rows.length (B6 rows) d M ∧ (∀ i, i < d → ∀ x, n ≤ x → M i x = 0) ∧ ∀ i, i < d → ∀ x, x < n → (M i x).natAbs ≤ 1000000000 := by
 obtain ⟨m, A, h1, h2⟩ := aK6 rows (n := n) (by omega) (by omega) hlen (fun r h a ha => by have := hr r h a ha; omega)
 have hrow : ∀ i, i < rows.length → ∃ r, r ∈ rows ∧ B6 rows i = nE r := fun i hi => ⟨rows[i], List.getElem_mem hi, by unfold B6; simp [List.getD, hi]⟩
 have hw : Wd rows.length n (B6 rows) := fun i hi x hx => by
  obtain ⟨r, hr1, hr2⟩ := hrow i hi
  rw [hr2]; unfold nE
  have := hlen r hr1
  simp [List.getD, List.getElem?_eq_none (show r.length ≤ x by omega)]
 have hB : Big rows.length n (B6 rows) (E 0) := fun i hi x hx => by
  obtain ⟨r, hr1, hr2⟩ := hrow i hi
  rw [hr2]; unfold nE
  have hl := hlen r hr1
  have : r.getD x 0 = r[x]'(by omega) := by simp [List.getD, show x < r.length by omega]
  rw [this]
  exact hr r hr1 _ (List.getElem_mem _)
 obtain ⟨m', A', J', M', d, p, g1, g2, g3, g4, g5, g6, g7⟩ := aVX (by omega) (by omega) h2 hw hB hb
 have hwd : ∀ i, i < d → ∀ x, n ≤ x → M' i x = 0 := fun i hi x hx => g6 i (by omega) x hx
 have hf := hfin d M' p g2 g4 g5 hwd
 refine ⟨d, M', p, ?_, g2, g4, g5, hwd, hf⟩
 have e0 : eqI 0 0 = true := by decide
 simp only [jE, aIN rows hk hn hlen (fun r h a ha => Nat.le_trans (hr r h a ha) hE), aD, e0, Bool.not_true, cond_false, h1, g1, aRP g3 g2 (by omega) (by omega) hf (n : Int)]
end Go.PM
set_option linter.unusedSimpArgs false
set_option linter.unusedVariables false
namespace Go.PM
open Go Go.RowKit Go.Proofs Go.Lz
set_option maxRecDepth 100000
theorem vS (n : Nat) (v : V) : (Vr n v).length = n := by simp [Vr]
theorem aF2 {n i : Nat} (v : V) (h : i < n) : (Vr n v).getD i 0 = v i := by simp [Vr, List.getD, h]
theorem aTJ {n : Nat} {v : V} {B : Nat} (h : ∀ x, x < n → (v x).natAbs ≤ B) : ∀ a ∈ Vr n v, a.natAbs ≤ B := by
 intro a ha
 obtain ⟨x, hx, rfl⟩ := List.mem_map.1 ha
 exact h x (List.mem_range.1 hx)
def Mr (d n : Nat) (M : Nat → V) : List (List Int) := (List.range d).map fun i => Vr n (M i)
theorem F8 (d n : Nat) (M : Nat → V) : (Mr d n M).length = d := by simp [Mr]
theorem aVM {d n i : Nat} (M : Nat → V) (h : i < d) (z : List Int) : (Mr d n M).getD i z = Vr n (M i) := by simp [Mr, List.getD, h]
theorem aTC {d n : Nat} {M : Nat → V} {r : List Int} (h : r ∈ Mr d n M) : ∃ i, i < d ∧ r = Vr n (M i) := by
 obtain ⟨i, hi, rfl⟩ := List.mem_map.1 h
 exact ⟨i, List.mem_range.1 hi, rfl⟩

theorem aU1 (r : List Int) (hl : r.length < 1048576) (hr : ∀ a ∈ r, a.natAbs ≤ 1000000000) : cJ (r, (), ()) = some (false, ()) := by
 have key := dV (step := bZ) (N := 2 ^ 64) (fun t => (r, (), (r.length : Int), (t : Int), ())) r.length (.inr ()) (by omega) (fun t ht => ?_) ?_
 ·have key : bS bZ (2 ^ 64) (r, (), (r.length : Int), 0, ()) = some (.inr ()) := key
  have e2 : ltI (-1) 0 = true := by decide
  simp only [cJ, eM, eQ, key, aD, iH, e2, Bool.not_true]
 ·have e1 : ltI (t : Int) (r.length : Int) = true := by rw [aL]; exact decide_eq_true (by omega)
  have e2 : aP (t : Int) r.length = true := by rw [bB]; exact decide_eq_true (by omega)
  have e3 : ((t : Nat) : Int).toNat = t := Int.toNat_natCast _
  have e4 : r.getD t 0 = r[t] := by simp [List.getD, ht]
  have b := hr r[t] (List.getElem_mem ht)
  have e5 : ltI r[t] (-1000000000) = false := by rw [aL]; exact decide_eq_false (by omega)
  have e6 : ltI 1000000000 r[t] = false := by rw [aL]; exact decide_eq_false (by omega)
  have e7 := dO t (by omega)
  simp only [bZ, e1, e2, e3, e4, uU, e5, e6, aD, cond_true, cond_false, e7]
 ·have e1 : ltI (r.length : Int) (r.length : Int) = false := by rw [aL]; exact decide_eq_false (by omega)
  simp only [bZ, e1, cond_false]
theorem ZF (rows : List (List Int)) {n : Nat} (hk : rows.length ≤ 12) (hn : n ≤ 12) (hlen : ∀ r ∈ rows, r.length = n) (hr : ∀ r ∈ rows, ∀ a ∈ r, a.natAbs ≤ 1000000000) : rM (rows, ()) = some (0, ()) := by
 have key := dV (step := kN) (N := 2 ^ 64) (fun t => (rows, rows, (rows.length : Int), (t : Int), ())) rows.length (.inr ()) (by omega) (fun t ht => ?_) ?_
 ·have key : bS kN (2 ^ 64) (rows, rows, (rows.length : Int), 0, ()) = some (.inr ()) := key
  have e1 : ltI 12 (rows.length : Int) = false := by rw [aL]; exact decide_eq_false (by omega)
  simp only [rM, qA, e1, cond_false, key, aD, iH]
 ·have e1 : ltI (t : Int) (rows.length : Int) = true := by rw [aL]; exact decide_eq_true (by omega)
  have e2 : aP (t : Int) rows.length = true := by rw [bB]; exact decide_eq_true (by omega)
  have e3 : ((t : Nat) : Int).toNat = t := Int.toNat_natCast _
  have e4 : rows.getD t [] = rows[t] := by simp [List.getD, ht]
  have e4' : rows.getD 0 [] = rows[0] := by simp [List.getD, show 0 < rows.length by omega]
  have hm := List.getElem_mem ht
  have hm0 := List.getElem_mem (show 0 < rows.length by omega)
  have e5 : ltI 12 (rows[t].length : Int) = false := by rw [aL, hlen _ hm]; exact decide_eq_false (by omega)
  have e6 : aP 0 rows.length = true := by rw [bB]; exact decide_eq_true (by omega)
  have e7 : eqI (rows[t].length : Int) (rows[0].length : Int) = true := by rw [dI, hlen _ hm, hlen _ hm0]; exact decide_eq_true rfl
  have e8 := aU1 rows[t] (by rw [hlen _ hm]; omega) (hr _ hm)
  have e9 := dO t (by omega)
  simp only [kN, e1, e2, e3, e4, e4', e5, e6, e7, e8, e9, aD, Bool.not_true, cond_true, cond_false]
 ·have e1 : ltI (rows.length : Int) (rows.length : Int) = false := by rw [aL]; exact decide_eq_false (by omega)
  simp only [kN, e1, cond_false]
theorem aU9 {n c : Nat} {v : V} (hn : n < 1048576) (hc : c < n) (hz : ∀ x, x < c → v x = 0) (hp : v c ≠ 0) : nQ (Vr n v, ()) = some ((c : Int), ()) := by
 have hl := vS n v
 have key := dV (step := cA) (N := 2 ^ 64) (fun t => (Vr n v, (), (n : Int), (t : Int), ())) c (.inl ((c : Int), ())) (by omega) (fun t ht => ?_) ?_
 ·have key : bS cA (2 ^ 64) (Vr n v, (), (n : Int), 0, ()) = some (.inl ((c : Int), ())) := key
  simp only [nQ, eI, eP, hl, key, aD, rF]
 ·have e1 : ltI (t : Int) (n : Int) = true := by rw [aL]; exact decide_eq_true (by omega)
  have e2 : aP (t : Int) n = true := by rw [bB]; exact decide_eq_true (by omega)
  have e3 : ((t : Nat) : Int).toNat = t := Int.toNat_natCast _
  have e4 : (Vr n v).getD t 0 = 0 := by rw [aF2 v (by omega)]; exact hz t ht
  have e5 : eqI 0 0 = true := by decide
  have e9 := dO t (by omega)
  simp only [cA, hl, e1, e2, e3, e4, lD, e5, e9, aD, Bool.not_true, cond_true, cond_false]
 ·have e1 : ltI (c : Int) (n : Int) = true := by rw [aL]; exact decide_eq_true (by omega)
  have e2 : aP (c : Int) n = true := by rw [bB]; exact decide_eq_true (by omega)
  have e3 : ((c : Nat) : Int).toNat = c := Int.toNat_natCast _
  have e4 : eqI ((Vr n v).getD c 0) 0 = false := by rw [aF2 v hc, dI]; exact decide_eq_false hp
  simp only [cA, hl, e1, e2, e3, lD, e4, aD, Bool.not_false, cond_true]
theorem aV3 {n c : Nat} {v : V} (hn : n < 1048576) (hc : c < n) (hz : ∀ x, x < c → v x = 0) (hp : v c ≠ 0) : hX (Zr n v, ()) = some ((c : Int), ()) := by
 have hl := iX n v
 have key := dV (step := bH) (N := 2 ^ 64) (fun t => (Zr n v, (), (n : Int), (t : Int), ())) c (.inl ((c : Int), ())) (by omega) (fun t ht => ?_) ?_
 ·have key : bS bH (2 ^ 64) (Zr n v, (), (n : Int), 0, ()) = some (.inl ((c : Int), ())) := key
  simp only [hX, cE, cU, hl, key, aD, rF]
 ·have e1 : ltI (t : Int) (n : Int) = true := by rw [aL]; exact decide_eq_true (by omega)
  have e2 : aP (t : Int) n = true := by rw [bB]; exact decide_eq_true (by omega)
  have e3 : ((t : Nat) : Int).toNat = t := Int.toNat_natCast _
  have e4 : eqS ((Zr n v).getD t ByteArray.empty) (ByteArray.mk #[48]) = true := by rw [CC v (by omega), wQ]; exact decide_eq_true (hz t ht)
  have e9 := dO t (by omega)
  simp only [bH, hl, e1, e2, e3, iD, e4, e9, aD, Bool.not_true, cond_true, cond_false]
 ·have e1 : ltI (c : Int) (n : Int) = true := by rw [aL]; exact decide_eq_true (by omega)
  have e2 : aP (c : Int) n = true := by rw [bB]; exact decide_eq_true (by omega)
  have e3 : ((c : Nat) : Int).toNat = c := Int.toNat_natCast _
  have e4 : eqS ((Zr n v).getD c ByteArray.empty) (ByteArray.mk #[48]) = false := by rw [CC v hc, wQ]; exact decide_eq_false hp
  simp only [bH, hl, e1, e2, e3, iD, e4, aD, Bool.not_false, cond_true]
theorem Hn.aBK {d n : Nat} {M : Nat → V} {p : Nat → Nat} (h : Hn d M p) (hw : ∀ i, i < d → ∀ x, n ≤ x → M i x = 0) {i : Nat} (hi : i < d) : p i < n := by
 rcases Nat.lt_or_ge (p i) n with g | g
 ·exact g
 ·have := hw i hi _ g
  have := h.pos i hi
  omega
theorem aUZ {d n t : Nat} {M : Nat → V} {p : Nat → Nat} (h : Hn d M p) (hw : ∀ i, i < d → ∀ x, n ≤ x → M i x = 0) (hd : d < 1048576) (hn : n < 1048576) (ht : t < d) :
  bN (Mr t n M, ((p t : Int), Vr n (M t), ()), ()) = some (false, ()) := by
 have hl := F8 t n M
 have hp := Hn.aBK h hw ht
 have key := dV (step := bJ) (N := 2 ^ 64) (fun s => (Mr t n M, ((p t : Int), Vr n (M t), ()), (t : Int), (s : Int), ())) t (.inr ()) (by omega) (fun s hs => ?_) ?_
 ·have key : bS bJ (2 ^ 64) (Mr t n M, ((p t : Int), Vr n (M t), ()), (t : Int), 0, ()) = some (.inr ()) := key
  have e2 : ltI (-1) 0 = true := by decide
  simp only [bN, cP, cY, hl, key, aD, iH, e2, Bool.not_true]
 ·have e1 : ltI (s : Int) (t : Int) = true := by rw [aL]; exact decide_eq_true (by omega)
  have e2 : aP (s : Int) t = true := by rw [bB]; exact decide_eq_true (by omega)
  have e3 : ∀ a : Nat, ((a : Nat) : Int).toNat = a := fun a => Int.toNat_natCast _
  have e4 := aVM (n := n) M hs []
  have e5 : aP (p t : Int) n = true := by rw [bB]; exact decide_eq_true (by omega)
  obtain ⟨r1, r2⟩ := h.red s t hs ht
  have e6 : ltI (M s (p t)) 0 = false := by rw [aL]; exact decide_eq_false (by omega)
  have e7 : ltI (M s (p t)) (M t (p t)) = true := by rw [aL]; exact decide_eq_true r2
  have e9 := dO s (by omega)
  simp only [bJ, hl, e1, e2, e3, e4, lW, vS, e5, aF2 _ hp, e6, e7, e9, aD, Bool.not_true, cond_true, cond_false]
 ·have e1 : ltI (t : Int) (t : Int) = false := by rw [aL]; exact decide_eq_false (by omega)
  simp only [bJ, e1, cond_false]
theorem aQI {d n : Nat} {M : Nat → V} {p : Nat → Nat} (h : Hn d M p) (hw : ∀ i, i < d → ∀ x, n ≤ x → M i x = 0) (hd : d < 1048576) (hn : n < 1048576) : mF (Mr d n M, ()) = some (true, ()) := by
 have hl := F8 d n M
 obtain ⟨q, hq⟩ : ∃ q : Nat → Int, q = fun t => if t = 0 then -1 else (p (t - 1) : Int) := ⟨_, rfl⟩
 have key := dV (step := hZ) (N := 2 ^ 64) (fun t => (Mr d n M, q t, Mr d n M, (d : Int), (t : Int), ())) d (.inr ()) (by omega) (fun t ht => ?_) ?_
 ·have q0 : q 0 = -1 := by rw [hq]; rfl
  rw [q0] at key
  have key : bS hZ (2 ^ 64) (Mr d n M, -1, Mr d n M, (d : Int), 0, ()) = some (.inr ()) := key
  simp only [mF, mV, hl, key, aD, iH]
 ·have hp := Hn.aBK h hw ht
  have e1 : ltI (t : Int) (d : Int) = true := by rw [aL]; exact decide_eq_true (by omega)
  have e2 : aP (t : Int) d = true := by rw [bB]; exact decide_eq_true (by omega)
  have e3 : ∀ a : Nat, ((a : Nat) : Int).toNat = a := fun a => Int.toNat_natCast _
  have e4 := aVM (n := n) M ht []
  have e5 := aU9 hn hp (h.low t ht) (by have := h.pos t ht; omega)
  have e6 : ltI (q t) (p t : Int) = true := by
   rw [aL, hq]
   dsimp only
   split
   ·exact decide_eq_true (by omega)
   ·have := h.inc (t - 1) t (by omega) ht
    exact decide_eq_true (by omega)
  have e7 : aP (p t : Int) n = true := by rw [bB]; exact decide_eq_true (by omega)
  have e8 : ltI (M t (p t)) 0 = false := by rw [aL]; exact decide_eq_false (by have := h.pos t ht; omega)
  have e9 : ltI (t : Int) 0 = false := by rw [aL]; exact decide_eq_false (by omega)
  have e10 : Nat.ble 0 t = true := rfl
  have e11 : Nat.ble t d = true := by rw [jL]; exact decide_eq_true (by omega)
  have e12 : ((Mr d n M).drop 0).take (t - 0) = Mr t n M := by
   rw [List.drop_zero, Nat.sub_zero]
   unfold Mr
   rw [← List.map_take, List.take_range, Nat.min_eq_left (by omega)]
  have e13 := aUZ h hw hd hn ht
  have e14 := dO t (by omega)
  have e15 : q (t + 1) = (p t : Int) := by rw [hq]; simp
  simp only [hZ, hl, e1, e2, e3, e4, e5, aD, e6, vS, e7, aF2 _ hp, e8, e9, e10, e11, e12, e13, e14, e15, Bool.not_true, Bool.not_false, cond_true, cond_false]
 ·have e1 : ltI (d : Int) (d : Int) = false := by rw [aL]; exact decide_eq_false (by omega)
  simp only [hZ, e1, cond_false]
theorem aUC {d n : Nat} {M : Nat → V} {p : Nat → Nat} (h : Hn d M p) (hw : ∀ i, i < d → ∀ x, n ≤ x → M i x = 0) (hd : d ≤ 12) (hn : n ≤ 12) (hM : ∀ i, i < d → ∀ x, x < n → (M i x).natAbs ≤ 1000000000) : n9 (((n : Int), Mr d n M), ()) = some (0, ()) := by
 have hlen : ∀ r ∈ Mr d n M, r.length = n := fun r hr => by
  obtain ⟨i, _, rfl⟩ := aTC hr
  exact vS _ _
 have hr : ∀ r ∈ Mr d n M, ∀ a ∈ r, a.natAbs ≤ 1000000000 := fun r hr => by
  obtain ⟨i, hi, rfl⟩ := aTC hr
  exact aTJ (hM i hi)
 have e0 : eqI 0 0 = true := by decide
 have c1 := aIN (Mr d n M) (n := n) (by rw [F8]; exact hd) hn hlen hr
 have c2 := ZF (Mr d n M) (n := n) (by rw [F8]; exact hd) hn hlen hr
 simp only [n9, c1, aD, e0, Bool.not_true, cond_false, pJ, c2, aQI h hw (by omega) (by omega), cond_true]
theorem aJL {d n : Nat} {M : Nat → V} {p : Nat → Nat} (h : Hn d M p) (hw : ∀ i, i < d → ∀ x, n ≤ x → M i x = 0) (hd : d ≤ 12) (hn : n ≤ 12) (hM : ∀ i, i < d → ∀ x, x < n → (M i x).natAbs ≤ 1000000000) (r : List Int) (hl : r.length = n) (hr : ∀ a ∈ r, a.natAbs ≤ 1000000000) :
  kK (((n : Int), Mr d n M), r, ()) = some (0, ()) := by
 have e0 : eqI 0 0 = true := by decide
 have e1 : eqI (r.length : Int) (n : Int) = true := by rw [dI, hl]; exact decide_eq_true rfl
 simp only [kK, aUC h hw hd hn hM, aD, e0, Bool.not_true, cond_false, R7 r (by omega) hr, e1]
end Go.PM
set_option linter.unusedSimpArgs false
set_option linter.unusedVariables false
namespace Go.PM
open Go Go.RowKit Go.Proofs Go.Lz
set_option maxRecDepth 100000
theorem aUQ {n : Nat} {u v : V} {q : Int} (hn : n < 1048576) (ok : ZU n u v q) : aMF (t := .str) eU (Zr n u) (Zn q, Zr n v, ()) = some (Zr n fun x => u x - q * v x) := by
 have hl := iX n u
 have main : eU () ((0, 0, n), Zn q, Zr n v, ()) [Zr n u] = some ((), [Zr n fun x => u x - q * v x]) := by
  unfold eU
  simp only [wQ]
  by_cases hq : q = 0
  ·subst hq
   simp only [decide_true, cond_true]
   have : Zr n (fun x => u x - 0 * v x) = Zr n u := yA fun i _ => by simp
   rw [this]
  ·have key := dV (step := eX) (N := 2 ^ 64)
    (fun t => ((0, 0, n), Zn q, Zr n v, (n : Int), (t : Int), [Zr n fun x => if x < t then u x - q * v x else u x], ())) n ([Zr n fun x => u x - q * v x], ()) (by omega) (fun t ht => ?_) ?_
   ·have h0 : Zr n (fun x => if x < 0 then u x - q * v x else u x) = Zr n u := yA fun i _ => by simp
    simp only [h0] at key
    have key : bS eX (2 ^ 64) ((0, 0, n), Zn q, Zr n v, (n : Int), 0, [Zr n u], ()) = _ := key
    simp only [hq, decide_false, cond_false, jN, iX, key, aD]
   ·have e1 : ltI (t : Int) (n : Int) = true := by rw [aL]; exact decide_eq_true (by omega)
    have e2 : aP (t : Int) n = true := by rw [bB]; exact decide_eq_true (by omega)
    have e3 : (0 + t) * 1 = t := by omega
    have e3' : ((t : Nat) : Int).toNat = t := Int.toNat_natCast _
    have e4 : eS [Zr n fun x => if x < t then u x - q * v x else u x] 0 = n := by
     show (Zr n _).length = n
     exact iX _ _
    have e6 : Nat.blt t n = true := by rw [c6]; simpa using ht
    have e7 : gA [Zr n fun x => if x < t then u x - q * v x else u x] 0 t ByteArray.empty = Zn (u t) := by
     show (Zr n _).getD t _ = _
     rw [CC _ ht]; simp
    have e9 : vU [Zr n fun x => if x < t then u x - q * v x else u x] 0 t (Zn (u t - q * v t)) = [Zr n fun x => if x < t + 1 then u x - q * v x else u x] := by
     show [(Zr n _).set t _] = _
     rw [aKP u (fun x => u x - q * v x) t ht]
    have m1 := aDY q (v t) (ok.mul t ht)
    have m2 := aEF (u t) (q * v t) (ok.sub t ht) (by rw [Int.natAbs_mul]; exact Nat.le_trans (WA _ _) (ok.mul t ht))
    have e10 := dO t (by omega)
    simp only [eX, e1, cond_true, e2, e3', e3, e6, e4, e7, iX, CC v ht, m1, aD, m2, e9, e10]
   ·have e1 : ltI (n : Int) (n : Int) = false := by rw [aL]; exact decide_eq_false (by omega)
    have : Zr n (fun x => if x < n then u x - q * v x else u x) = Zr n fun x => u x - q * v x := yA fun i hi => by simp [hi]
    simp only [eX, e1, cond_false, this]
 have e1 : Nat.beq (Zr n fun x => u x - q * v x).length (Zr n u).length = true := by
  have hbb : ∀ a : Nat, Nat.beq a a = true := fun a => by
   induction a with
   | zero => rfl
   | succ a ih => exact ih
  rw [iX, iX]
  exact hbb n
 unfold aMF
 rw [hl, main]
 simp only [hl, iX] at e1 ⊢
 rw [e1]; rfl

def red (M : Nat → V) (p : Nat → Nat) : Nat → V → V
 | 0, u => u
 | t + 1, u => fun x => red M p t u x - (red M p t u (p t)).fdiv (M t (p t)) * M t x
def quo (M : Nat → V) (p : Nat → Nat) (t : Nat) (u : V) : Int := (red M p t u (p t)).fdiv (M t (p t))
section
variable {d n : Nat} {M : Nat → V} {p : Nat → Nat}
theorem RP (h : Hn d M p) (u : V) : ∀ t, t ≤ d → Sp d M (fun x => u x - red M p t u x)
 | 0, _ => by
  refine cast (congrArg _ ?_) Sp.zero
  funext x; simp [red]
 | t + 1, ht => by
  have := Sp.comb (quo M p t u) (RP h u t (by omega)) (Sp.mem (M := M) (show t < d by omega))
  refine cast (congrArg _ ?_) this
  funext x
  simp only [red, quo]
  grind
theorem aGK (h : Hn d M p) (u : V) : ∀ t, t ≤ d → ∀ i, i < t → 0 ≤ red M p t u (p i) ∧ red M p t u (p i) < M i (p i)
 | 0, _, i, hi => by omega
 | t + 1, ht, i, hi => by
  by_cases e : i = t
  ·subst e
   simp only [red]
   rw [P2]
   have hp := h.pos i (by omega)
   exact ⟨Int.fmod_nonneg_of_pos _ hp, Int.fmod_lt_of_pos _ hp⟩
  ·have hlow := h.low t (by omega) (p i) (h.inc i t (by omega) (by omega))
   simp only [red, hlow, Int.mul_zero, Int.sub_zero]
   exact aGK h u t (by omega) i (by omega)
theorem aT1 (hw : ∀ i, i < d → ∀ x, n ≤ x → M i x = 0) {u : V} (hu : ∀ x, n ≤ x → u x = 0) : ∀ t, t ≤ d → ∀ x, n ≤ x → red M p t u x = 0
 | 0, _, x, hx => hu x hx
 | t + 1, ht, x, hx => by
  simp only [red, aT1 hw hu t (by omega) x hx, hw t (by omega) x hx, Int.mul_zero, Int.sub_zero]
structure Rds (d n : Nat) (M : Nat → V) (B : Nat) (U : Nat → Nat) : Prop where
 row : ∀ i, i < d → ∀ x, x < n → (M i x).natAbs ≤ B
 up : ∀ t, t < d → U t + (U t + 1) * B ≤ U (t + 1)
 fit : ∀ t, t < d → Lib.nDigits (U t + 1) + Lib.nDigits B ≤ mE
theorem aM7 {B : Nat} {U : Nat → Nat} (h : Hn d M p) (hw : ∀ i, i < d → ∀ x, n ≤ x → M i x = 0) (hb : Rds d n M B U) {u : V} (hu : ∀ x, x < n → (u x).natAbs ≤ U 0) : ∀ t, t ≤ d → ∀ x, x < n → (red M p t u x).natAbs ≤ U t
 | 0, _, x, hx => hu x hx
 | t + 1, ht, x, hx => by
  have h1 := aM7 h hw hb hu t (by omega)
  have hpos := h.pos t (by omega)
  have hp := Hn.aBK h hw (show t < d by omega)
  have h2 := SC (h1 (p t) hp) (show M t (p t) ≠ 0 by omega)
  have h3 : (red M p t u (p t)).fdiv (M t (p t)) * M t x = (red M p t u (p t)).fdiv (M t (p t)) * M t x := rfl
  have h4 : ((red M p t u (p t)).fdiv (M t (p t)) * M t x).natAbs = ((red M p t u (p t)).fdiv (M t (p t))).natAbs * (M t x).natAbs := Int.natAbs_mul _ _
  have h5 : ((red M p t u (p t)).fdiv (M t (p t))).natAbs * (M t x).natAbs ≤ (U t + 1) * B := Nat.mul_le_mul h2 (hb.row t (by omega) x hx)
  have h6 := hb.up t (by omega)
  have h7 := h1 x hx
  simp only [red]
  omega
end
theorem aKH (r : List Int) (hl : r.length ≤ 1048576) (hr : ∀ a ∈ r, -9223372036854775808 ≤ a ∧ a < 9223372036854775808) : j4 (r, ()) = some (r.map Zn, ()) := by
 have e1 : ltI (r.length : Int) 0 = false := by rw [aL]; exact decide_eq_false (by omega)
 have e2 : ltI 1048576 (r.length : Int) = false := by rw [aL]; exact decide_eq_false (by omega)
 have key : l4 ([], r, (r.length : Int), 0, ()) = some (r.map Zn, ()) := VN r hl hr
 unfold j4
 simp only [e1, e2, Bool.not_false, cond_true, List.replicate_zero, key, aD]
theorem aQ0 (n : Nat) (v : V) : (Vr n v).map Zn = Zr n v := by simp [Vr, Zr]
section
variable {d n : Nat} {M : Nat → V} {p : Nat → Nat}
theorem aDB (h : Hn d M p) (hw : ∀ i, i < d → ∀ x, n ≤ x → M i x = 0) (hn : n < 1048576) (hM : ∀ i, i < d → ∀ x, x < n → (M i x).natAbs ≤ 1000000000) : ∀ l : List Nat, (∀ i ∈ l, i < d) →
  aBH (l.map fun i => Vr n (M i)) = some (l.map fun i => ((p i : Int), Zr n (M i), ()))
 | [], _ => rfl
 | i :: l, hl => by
  have hi := hl i (by simp)
  have e1 := aKH (Vr n (M i)) (by rw [vS]; omega) (fun a ha => by have := aTJ (hM i hi) a ha; omega)
  rw [aQ0] at e1
  have e2 := aV3 hn (Hn.aBK h hw hi) (h.low i hi) (by have := h.pos i hi; omega)
  have e3 := aDB h hw hn hM l (fun j hj => hl j (by simp [hj]))
  simp only [List.map_cons, aBH, e1, aD, e2, e3]
theorem aL5 (h : Hn d M p) (hw : ∀ i, i < d → ∀ x, n ≤ x → M i x = 0) (hn : n < 1048576) (hd : d < 1048576) (hM : ∀ i, i < d → ∀ x, x < n → (M i x).natAbs ≤ 1000000000) :
  QM (((n : Int), Mr d n M), ()) = some ((List.range d).map fun i => ((p i : Int), Zr n (M i), ())) := by
 have e1 : Nat.ble (Mr d n M).length 1048576 = true := by rw [jL, F8]; exact decide_eq_true (by omega)
 simp only [QM, e1, cond_true]
 exact aDB h hw hn hM (List.range d) fun i hi => List.mem_range.1 hi
theorem VK {B : Nat} {U : Nat → Nat} (h : Hn d M p) (hw : ∀ i, i < d → ∀ x, n ≤ x → M i x = 0) (hn : n < 1048576) (hd : d < 1048576) (hb : Rds d n M B U) {u : V} (hu : ∀ x, x < n → (u x).natAbs ≤ U 0) (c : uJ [(.prod (.int .i64) (.list (.list (.int .i64))))]) : ∀ (j t : Nat), t + j = d → ∀ (q : List ByteArray), q.length = t →
  ∃ q', qK fD (aH1 bP dA) ((List.range' t j).map fun i => ((p i : Int), Zr n (M i), ())) (Zr n (red M p t u), q, c, ()) = some (Zr n (red M p d u), q', ())
 | 0, t, ht, q, _ => by
  have : t = d := by omega
  subst this
  exact ⟨q, rfl⟩
 | j + 1, t, ht, q, hq => by
  have htd : t < d := by omega
  have hpos := h.pos t htd
  have hp := Hn.aBK h hw htd
  have hR := aM7 h hw hb hu t (by omega)
  have f := hb.fit t htd
  have hdm : mE = 18 := rfl
  have g1 : Lib.nDigits (red M p t u (p t)).natAbs ≤ 17 := by
   have h1 := q9 (show (red M p t u (p t)).natAbs ≤ U t + 1 from Nat.le_succ_of_le (hR (p t) hp))
   have h2 := nDigits_pos B
   omega
  have g2 : Lib.nDigits (M t (p t)).natAbs ≤ 17 := by
   have h1 := q9 (hb.row t htd (p t) hp)
   have h2 := nDigits_pos (U t + 1)
   omega
  have e0 : ((p t : Nat) : Int).toNat = p t := Int.toNat_natCast _
  have e1 : aP (p t : Int) n = true := by rw [bB]; exact decide_eq_true (by omega)
  have e2 : Nat.blt (p t) n = true := by rw [c6]; simpa using hp
  have e3 := G8 (red M p t u (p t)) (M t (p t)) (by omega) (by omega) (show M t (p t) ≠ 0 by omega)
  have hq1 := SC (hR (p t) hp) (show M t (p t) ≠ 0 by omega)
  have e4 := aUQ (n := n) (u := red M p t u) (v := M t) (q := (red M p t u (p t)).fdiv (M t (p t))) hn ⟨fun i hi => by
    have h1 := q9 hq1
    have h2 := q9 (hb.row t htd i hi)
    omega, fun i hi => by
    have h1 := q9 (show (red M p t u i).natAbs ≤ U t + 1 from Nat.le_succ_of_le (hR i hi))
    omega⟩
  have e5 : Nat.ble [Zn ((red M p t u (p t)).fdiv (M t (p t)))].length 1048576 = true := rfl
  have e6 : Nat.ble q.length 1048576 = true := by rw [jL, hq]; exact decide_eq_true (by omega)
  obtain ⟨c1, ⟨⟩⟩ := c
  obtain ⟨q', hq'⟩ := VK h hw hn hd hb hu ((c1.1, c1.2), ()) j (t + 1) (by omega) (q ++ [Zn ((red M p t u (p t)).fdiv (M t (p t)))]) (by simp [hq])
  refine ⟨q', ?_⟩
  rw [List.range'_succ, List.map_cons, qK]
  have hs : fD (Zr n (red M p t u), q, (c1, ()), ()) ((p t : Int), Zr n (M t), ()) = some (.inl (Zr n (red M p (t + 1) u), q ++ [Zn ((red M p t u (p t)).fdiv (M t (p t)))], ((c1.1, c1.2), ()), ())) := by
   have e7 : (Zr n fun x => red M p t u x - (red M p t u (p t)).fdiv (M t (p t)) * M t x) = Zr n (red M p (t + 1) u) := rfl
   rw [e7] at e4
   simp only [fD, iX, e0, e1, e2, CC _ hp, e3, aD, e4, e5, e6, cond_true]
  rw [hs]
  exact hq'
theorem aPG {B : Nat} {U : Nat → Nat} (h : Hn d M p) (hw : ∀ i, i < d → ∀ x, n ≤ x → M i x = 0) (hn : n ≤ 12) (hd : d ≤ 12) (hM : ∀ i, i < d → ∀ x, x < n → (M i x).natAbs ≤ 1000000000) (hb : Rds d n M B U) (r : List Int) (hl : r.length = n) (hr : ∀ a ∈ r, a.natAbs ≤ U 0) (hU : U 0 ≤ 1000000000) :
  ∃ q, fU (((n : Int), Mr d n M), r, ()) = some (Zr n (red M p d (nE r)), q, ()) := by
 have hu : ∀ x, x < n → (nE r x).natAbs ≤ U 0 := fun x hx => by
  unfold nE
  have : r.getD x 0 = r[x]'(by omega) := by simp [List.getD, show x < r.length by omega]
  rw [this]
  exact hr _ (List.getElem_mem _)
 have e1 := aC6 r (by omega) (fun a ha => by have := hr a ha; omega)
 have e2 : r.map Zn = Zr n (nE r) := by rw [← hl, aNU]
 rw [e2] at e1
 obtain ⟨q, hq⟩ := VK h hw (by omega) (by omega) hb hu (((n : Int), Mr d n M), ()) d 0 (by omega) [] rfl
 rw [← List.range_eq_range'] at hq
 refine ⟨q, ?_⟩
 have e3 := aL5 h hw (by omega) (by omega) hM
 have e4 : fB (Zr n (nE r), [], (((n : Int), Mr d n M), ()), ()) = some (Zr n (red M p d (nE r)), q, ()) := by
  unfold fB TT
  simp only [k7, e3]
  exact hq
 simp only [fU, e1, aD, iG, e4]
theorem short_list {v : V} (hn : n < 1048576) (ok : ∀ x, x < n → (v x).natAbs ≤ 1000000000) : iW (Zr n v, ()) = some (Vr n v, 0, ()) := by
 have key := dV (step := fI) (N := 2 ^ 64) (fun t => (Vr t v, Zr n v, (n : Int), (t : Int), ())) n (.inr (Vr n v, ())) (by omega) (fun t ht => ?_) ?_
 ·have e1 : ltI (n : Int) 0 = false := by rw [aL]; exact decide_eq_false (by omega)
  have e2 : ltI 1048576 (n : Int) = false := by rw [aL]; exact decide_eq_false (by omega)
  have key : bS fI (2 ^ 64) ([], Zr n v, (n : Int), 0, ()) = _ := key
  unfold iW kG
  simp only [iX, e1, e2, Bool.not_false, cond_true, List.replicate_zero, key, aD, iH]
 ·have b1 := ok t ht
  have e1 : ltI (t : Int) (n : Int) = true := by rw [aL]; exact decide_eq_true (by omega)
  have e2 : aP (t : Int) n = true := by rw [bB]; exact decide_eq_true (by omega)
  have e3 : ((t : Nat) : Int).toNat = t := Int.toNat_natCast _
  have e8 := VB (v t) (by have := j3 (u := (v t).natAbs) (k := 17) (by omega); omega)
  have e9 : ltI 1000000000 (v t) = false := by rw [aL]; exact decide_eq_false (by omega)
  have e10 : ltI (v t) (-1000000000) = false := by rw [aL]; exact decide_eq_false (by omega)
  have e11 : Nat.ble [v t].length 1048576 = true := rfl
  have e12 : Nat.ble (Vr t v).length 1048576 = true := by rw [jL, vS]; exact decide_eq_true (by omega)
  have e13 := dO t (by omega)
  have e14 : Vr t v ++ [v t] = Vr (t + 1) v := by unfold Vr; rw [List.range_succ, List.map_append]; rfl
  simp only [fI, iX, e1, e2, e3, CC v ht, e8, e9, e10, e11, e12, e13, e14, aD, cond_true, cond_false]
 ·have e1 : ltI (n : Int) (n : Int) = false := by rw [aL]; exact decide_eq_false (by omega)
  simp only [fI, e1, cond_false]
theorem aFN {B : Nat} {U : Nat → Nat} (h : Hn d M p) (hw : ∀ i, i < d → ∀ x, n ≤ x → M i x = 0) (hn : n ≤ 12) (hd : d ≤ 12) (hM : ∀ i, i < d → ∀ x, x < n → (M i x).natAbs ≤ 1000000000) (hb : Rds d n M B U) (r : List Int) (hl : r.length = n) (hr : ∀ a ∈ r, a.natAbs ≤ U 0) (hU : U 0 ≤ 1000000000)
  (hfin : ∀ x, x < n → (red M p d (nE r) x).natAbs ≤ 1000000000) :
  c7 (((n : Int), Mr d n M), r, ()) = some (Vr n (red M p d (nE r)), 0, ()) := by
 obtain ⟨q, hq⟩ := aPG h hw hn hd hM hb r hl hr hU
 have e0 : eqI 0 0 = true := by decide
 simp only [c7, aJL h hw hd hn hM r hl (fun a ha => Nat.le_trans (hr a ha) hU), aD, e0, Bool.not_true, cond_false, hq, short_list (show n < 1048576 by omega) hfin]
end
end Go.PM
set_option linter.unusedSimpArgs false
set_option linter.unusedVariables false
namespace Go.Lz
theorem Sp.none {M : Nat → V} {v : V} (h : Sp 0 M v) : v = fun _ => 0 := by
 funext x
 exact Sp.SL (x := x) (fun j hj => by omega) h
theorem Sp.one {M : Nat → V} {v : V} (h : Sp 1 M v) : ∃ a : Int, v = fun x => a * M 0 x := by
 obtain ⟨t, u, hu, rfl⟩ := h.first
 have := hu.none
 subst this
 exact ⟨t, by funext x; simp⟩
theorem Sp.two {M : Nat → V} {v : V} (h : Sp 2 M v) : ∃ a b : Int, v = fun x => a * M 0 x + b * M 1 x := by
 obtain ⟨t, u, hu, rfl⟩ := h.first
 obtain ⟨s, rfl⟩ := hu.one
 exact ⟨t, s, by funext x; simp only [Nat.zero_add]; omega⟩
theorem Sp.X8 {M : Nat → V} (a b : Int) : Sp 2 M (fun x => a * M 0 x + b * M 1 x) :=
 Sp.comb b (Sp.smul a (Sp.mem (by decide))) (Sp.mem (by decide))

structure Piv (d : Nat) (M : Nat → V) (p : Nat → Nat) (U : Nat → V) (D : Int) (C : Nat) : Prop where
 sp : ∀ j, j < d → Sp d M (U j)
 off : ∀ i j, i < d → j < d → i ≠ j → U j (p i) = 0
 at_ : ∀ j, j < d → U j (p j) = D
 ne : D ≠ 0
 le : ∀ j, j < d → ∀ x, (U j x).natAbs ≤ C
theorem XL {a b : Int} {E : Nat} (h1 : a.natAbs ≤ E) (h2 : b.natAbs ≤ E) : (a * b).natAbs ≤ E * E := by
 rw [Int.natAbs_mul]; exact Nat.mul_le_mul h1 h2
theorem Piv.ex {d : Nat} {M N : Nat → V} {p : Nat → Nat} {E : Nat} (h : Hn d M p) (hs : Same 2 N d M) (hd : d ≤ 2) (hE : ∀ i, i < 2 → ∀ x, (N i x).natAbs ≤ E) (h1 : 1 ≤ E) : ∃ U D, Piv d M p U D (2 * (E * E)) := by
 have h0 := fun j (hj : j < 2) => (hs _).1 (Sp.mem (M := N) hj)
 have hEE : E ≤ E * E := Nat.le_mul_of_pos_left E (by omega)
 rcases (by omega : d = 0 ∨ d = 1 ∨ d = 2) with rfl | rfl | rfl
 ·exact ⟨fun _ _ => 0, 1, fun j hj => by omega, fun i j hi => by omega, fun j hj => by omega, by decide, fun j hj => by omega⟩
 ·obtain ⟨a, b, hab⟩ := ((hs _).2 (Sp.mem (M := M) (show 0 < 1 by decide))).two
  have hp := h.pos 0 (by decide)
  have : N 0 (p 0) ≠ 0 ∨ N 1 (p 0) ≠ 0 := by
   by_cases h2 : N 0 (p 0) = 0
   ·by_cases h3 : N 1 (p 0) = 0
    ·have := congrFun hab (p 0)
     simp only [h2, h3, Int.mul_zero] at this
     omega
    ·exact .inr h3
   ·exact .inl h2
  rcases this with h2 | h2
  ·refine ⟨fun _ => N 0, N 0 (p 0), fun j hj => h0 0 (by decide), fun i j hi hj hne => by omega, fun j hj => ?_, h2, fun j hj x => ?_⟩
   ·have : j = 0 := by omega
    subst this; rfl
   ·have := hE 0 (by decide) x; omega
  ·refine ⟨fun _ => N 1, N 1 (p 0), fun j hj => h0 1 (by decide), fun i j hi hj hne => by omega, fun j hj => ?_, h2, fun j hj x => ?_⟩
   ·have : j = 0 := by omega
    subst this; rfl
   ·have := hE 1 (by decide) x; omega
 ·obtain ⟨a, b, hab⟩ := ((hs _).2 (Sp.mem (M := M) (show 0 < 2 by decide))).two
  obtain ⟨c, e, hce⟩ := ((hs _).2 (Sp.mem (M := M) (show 1 < 2 by decide))).two
  have q0 := h.pos 0 (by decide)
  have q1 := h.pos 1 (by decide)
  have q2 := h.low 1 (by decide) (p 0) (h.inc 0 1 (by decide) (by decide))
  have w1 := congrFun hab (p 0)
  have w2 := congrFun hab (p 1)
  have w3 := congrFun hce (p 0)
  have w4 := congrFun hce (p 1)
  have hD : N 0 (p 0) * N 1 (p 1) - N 0 (p 1) * N 1 (p 0) ≠ 0 := by
   intro hz
   have : M 0 (p 0) * M 1 (p 1) - M 0 (p 1) * M 1 (p 0) = (a * e - b * c) * (N 0 (p 0) * N 1 (p 1) - N 0 (p 1) * N 1 (p 0)) := by
    rw [w1, w2, w3, w4]; grind
   rw [hz, q2] at this
   have := Int.mul_pos q0 q1
   omega
  refine ⟨fun j => if j = 0 then fun x => N 1 (p 1) * N 0 x + -(N 0 (p 1)) * N 1 x else fun x => -(N 1 (p 0)) * N 0 x + N 0 (p 0) * N 1 x, N 0 (p 0) * N 1 (p 1) - N 0 (p 1) * N 1 (p 0), fun j hj => ?_, fun i j hi hj hne => ?_, fun j hj => ?_, hD, fun j hj x => ?_⟩
  ·rcases (by omega : j = 0 ∨ j = 1) with rfl | rfl
   ·exact (hs _).1 (Sp.X8 _ _)
   ·exact (hs _).1 (Sp.X8 _ _)
  ·rcases (by omega : (i = 0 ∧ j = 1) ∨ (i = 1 ∧ j = 0)) with ⟨rfl, rfl⟩ | ⟨rfl, rfl⟩
   ·simp; grind
   ·simp; grind
  ·rcases (by omega : j = 0 ∨ j = 1) with rfl | rfl
   ·simp; grind
   ·simp; grind
  ·have b1 := XL (hE 1 (by decide) (p 1)) (hE 0 (by decide) x)
   have b2 := XL (hE 0 (by decide) (p 1)) (hE 1 (by decide) x)
   have b3 := XL (hE 1 (by decide) (p 0)) (hE 0 (by decide) x)
   have b4 := XL (hE 0 (by decide) (p 0)) (hE 1 (by decide) x)
   rcases (by omega : j = 0 ∨ j = 1) with rfl | rfl
   ·simp only [if_pos, Int.neg_mul]; omega
   ·simp only [if_neg (show ¬ 1 = 0 by decide), Int.neg_mul]; omega
theorem Piv.bound {d : Nat} {M : Nat → V} {p : Nat → Nat} {U : Nat → V} {D : Int} {C : Nat} (h : Hn d M p) (k : Piv d M p U D C) {i : Nat} (hi : i < d) (x : Nat) : (M i x).natAbs ≤ d * C :=
 Nat.le_trans (h.bound k.sp k.off (fun j hj => by rw [k.at_ j hj]; exact k.ne) hi x) (YQ fun j hj => k.le j hj x)
theorem Piv.row {d : Nat} {M : Nat → V} {p : Nat → Nat} {U : Nat → V} {D : Int} {C : Nat} (h : Hn d M p) (k : Piv d M p U D C) {s : V} (hs : Sp d M s) (x : Nat) : D * s x = LM d fun j => s (p j) * U j x := by
 have hz := h.aM0 (v := fun x => D * s x - LM d fun j => s (p j) * U j x) (Sp.sub (Sp.smul D hs) (Sp.LM d k.sp)) (fun l hl => by
  have : ∀ n, n ≤ d → (LM n fun j => s (p j) * U j (p l)) = if l < n then D * s (p l) else 0 := by
   intro n
   induction n with
   | zero => intro _; rfl
   | succ n ih =>
    intro hn
    rw [LM, ih (by omega)]
    by_cases e : l = n
    ·subst e
     rw [if_neg (Nat.lt_irrefl _), if_pos (Nat.lt_succ_self _), k.at_ l hl]
     grind
    ·rw [k.off l n hl (by omega) e]
     by_cases e1 : l < n
     ·have e2 : l < n + 1 := by omega
      rw [if_pos e1, if_pos e2]; simp
     ·have e2 : ¬ l < n + 1 := by omega
      rw [if_neg e1, if_neg e2]; simp
  rw [this d (Nat.le_refl _), if_pos hl]
  omega)
 have := congrFun hz x
 omega
theorem Piv.rest {d : Nat} {M : Nat → V} {p : Nat → Nat} {U : Nat → V} {D : Int} {C : Nat} (h : Hn d M p) (k : Piv d M p U D C) {u v : V} (hs : Sp d M fun x => u x - v x) {W B : Nat} (hu : ∀ x, (u x).natAbs ≤ W) (hv : ∀ i, i < d → (v (p i)).natAbs ≤ B) (x : Nat) :
  (v x).natAbs ≤ W + d * ((W + B) * C) := by
 have h1 := k.row h hs x
 have h2 : (LM d fun j => (u (p j) - v (p j)) * U j x).natAbs ≤ d * ((W + B) * C) := by
  refine Nat.le_trans (aBU _ _) (YQ fun j hj => ?_)
  rw [Int.natAbs_mul]
  refine Nat.mul_le_mul ?_ (k.le j hj x)
  have := hu (p j)
  have := hv j hj
  omega
 have h3 : (u x - v x).natAbs ≤ (D * (u x - v x)).natAbs := by
  rw [Int.natAbs_mul]
  exact Nat.le_mul_of_pos_left _ (by have := k.ne; omega)
 rw [h1] at h3
 have := hu x
 omega
end Go.Lz
set_option linter.unusedSimpArgs false
set_option linter.unusedVariables false
namespace Go.PM
open Go Go.RowKit Go.Proofs Go.Lz
set_option maxRecDepth 100000
def B18 : Nat → Nat
 | 0 => 18
 | 1 => 324900018
 | _ => 324900018 + (324900018 + 1) * 324900018
def T18 : Nat → Nat
 | 0 => 17100000
 | _ => 324900018
theorem a5P (n : Nat) : Bds 2 n B18 T18 where
 st := fun d hd => by
  rcases (by omega : d = 0 ∨ d = 1) with rfl | rfl
  ·exact ⟨by decide, by decide, fun _ => by decide, by
    show 2 * Lib.nDigits 17100001 ≤ 18
    have := j3 (u := 17100001) (k := 7) (by decide)
    omega⟩
  ·exact ⟨by decide, by decide, fun h => by omega, by
    show 2 * Lib.nDigits 324900019 ≤ 18
    have := j3 (u := 324900019) (k := 8) (by decide)
    omega⟩
 up := fun d hd => by
  rcases (by omega : d = 0 ∨ d = 1) with rfl | rfl
  ·decide
  ·decide
def U18 : Nat → Nat
 | 0 => 4700
 | 1 => 4700 + (4700 + 1) * 1296
 | _ => 6097196 + (6097196 + 1) * 1296
theorem aE1 {r : List Int} {B : Nat} (h : ∀ a ∈ r, a.natAbs ≤ B) (x : Nat) : (nE r x).natAbs ≤ B := by
 unfold nE
 rw [List.getD_eq_getElem?_getD]
 by_cases hx : x < r.length
 ·rw [List.getElem?_eq_getElem hx]; exact h _ (List.getElem_mem hx)
 ·rw [List.getElem?_eq_none (by omega)]; exact Nat.zero_le _
theorem BI {r : List Int} {n x : Nat} (h : r.length = n) (hx : n ≤ x) : nE r x = 0 := by
 unfold nE
 rw [List.getD_eq_getElem?_getD, List.getElem?_eq_none (by omega)]; rfl
theorem a2T {r u : List Int} {B : Nat} (hr : ∀ a ∈ r, a.natAbs ≤ B) (hu : ∀ a ∈ u, a.natAbs ≤ B) : ∀ i, i < 2 → ∀ x, (B6 [r, u] i x).natAbs ≤ B := fun i hi x => by
 rcases (by omega : i = 0 ∨ i = 1) with rfl | rfl
 ·exact aE1 hr x
 ·exact aE1 hu x
theorem aUB {n : Nat} {r u : List Int} (hn : n ≤ 12) (lr : r.length = n) (lu : u.length = n) (br : ∀ a ∈ r, a.natAbs ≤ 18) (bu : ∀ a ∈ u, a.natAbs ≤ 18) :
  ∃ d M p, jE ((n : Int), [r, u], ()) = some (((n : Int), Mr d n M), 0, ()) ∧ Hn d M p ∧ Same 2 (B6 [r, u]) d M ∧
   ∀ o : List Int, o.length = n → (∀ a ∈ o, a.natAbs ≤ 4700) → c7 (((n : Int), Mr d n M), o, ()) = some (Vr n (red M p d (nE o)), 0, ()) := by
 have hE := a2T br bu
 have small : ∀ d M p, d ≤ 2 → Hn d M p → Same 2 (B6 [r, u]) d M → ∀ i, i < d → ∀ x, (M i x).natAbs ≤ 1296 := fun d M p hd h hs i hi x => by
  obtain ⟨U, D, k⟩ := Piv.ex h hs hd hE (by decide)
  have h1 := k.bound h hi x
  have h2 : d * (2 * (18 * 18)) ≤ 2 * (2 * (18 * 18)) := Nat.mul_le_mul_right _ hd
  omega
 obtain ⟨d, M, p, h1, h2, h3, h4, h5, h6⟩ := of_eq [r, u] (n := n) (by show 2 ≤ 12; decide) hn (fun s hs => by
   rcases List.mem_cons.1 hs with rfl | hs
   ·exact lr
   ·rcases List.mem_cons.1 hs with rfl | hs
    ·exact lu
    ·cases hs) (E := B18) (T := T18) (fun s hs a ha => by
   rcases List.mem_cons.1 hs with rfl | hs
   ·exact br a ha
   ·rcases List.mem_cons.1 hs with rfl | hs
    ·exact bu a ha
    ·cases hs) (by decide) (a5P n) (fun d M p hd h hs _ i hi x _ => by have := small d M p hd h hs i hi x; omega)
 have h2 : d ≤ 2 := h2
 refine ⟨d, M, p, h1, h3, h4, fun o lo bo => ?_⟩
 have hb := small d M p h2 h3 h4
 have hR : Rds d n M 1296 U18 := ⟨fun i hi x _ => hb i hi x, fun t ht => by
   rcases (by omega : t = 0 ∨ t = 1) with rfl | rfl
   ·decide
   ·decide, fun t ht => by
   have h18 : mE = 18 := rfl
   have d1 := j3 (u := 1296) (k := 3) (by decide)
   rcases (by omega : t = 0 ∨ t = 1) with rfl | rfl
   ·have := j3 (u := U18 0 + 1) (k := 3) (by decide)
    omega
   ·have := j3 (u := U18 1 + 1) (k := 6) (by decide)
    omega⟩
 refine aFN h3 h5 hn (by omega) h6 hR o lo bo (by decide) fun x hx => ?_
 obtain ⟨U, D, k⟩ := Piv.ex h3 h4 h2 hE (by decide)
 have h7 := k.rest h3 (RP h3 (nE o) d (Nat.le_refl _)) (aE1 bo) (B := 1296) (fun i hi => by
  obtain ⟨q1, q2⟩ := aGK h3 (nE o) d (Nat.le_refl _) i hi
  have := hb i hi (p i)
  omega) x
 have h8 : d * ((4700 + 1296) * (2 * (18 * 18))) ≤ 2 * ((4700 + 1296) * (2 * (18 * 18))) := Nat.mul_le_mul_right _ h2
 omega
theorem aYG {n : Nat} {r u r' u' o o' : List Int} (hn : n ≤ 12) (lr : r.length = n) (lu : u.length = n) (br : ∀ a ∈ r, a.natAbs ≤ 18) (bu : ∀ a ∈ u, a.natAbs ≤ 18)
  (lr' : r'.length = n) (lu' : u'.length = n) (br' : ∀ a ∈ r', a.natAbs ≤ 18) (bu' : ∀ a ∈ u', a.natAbs ≤ 18)
  (lo : o.length = n) (bo : ∀ a ∈ o, a.natAbs ≤ 4700) (lo' : o'.length = n) (bo' : ∀ a ∈ o', a.natAbs ≤ 4700)
  (hs : Same 2 (B6 [r, u]) 2 (B6 [r', u'])) (ho : Sp 2 (B6 [r, u]) fun x => nE o x - nE o' x) :
  ∃ L w, jE ((n : Int), [r, u], ()) = some (L, 0, ()) ∧ jE ((n : Int), [r', u'], ()) = some (L, 0, ()) ∧
   c7 (L, o, ()) = some (w, 0, ()) ∧ c7 (L, o', ()) = some (w, 0, ()) ∧ w.length = n := by
 obtain ⟨d, M, p, h1, h2, h3, h4⟩ := aUB hn lr lu br bu
 obtain ⟨d', M', p', g1, g2, g3, g4⟩ := aUB hn lr' lu' br' bu'
 obtain ⟨e1, -, e2⟩ := Hn.unique h2 g2 ((h3.symm.trans hs).trans g3)
 subst e1
 have e3 : Mr d n M = Mr d n M' := by
  unfold Mr
  refine List.map_congr_left fun i hi => ?_
  rw [e2 i (List.mem_range.1 hi)]
 have e4 : red M p d (nE o) = red M p d (nE o') := by
  refine Hn.aHM h2 ?_ (aGK h2 _ d (Nat.le_refl _)) (aGK h2 _ d (Nat.le_refl _))
  have s1 := (h3 _).1 ho
  have s2 := RP h2 (nE o) d (Nat.le_refl _)
  have s3 := RP h2 (nE o') d (Nat.le_refl _)
  refine cast (congrArg _ ?_) (Sp.sum (Sp.sub s1 s2) s3)
  funext x
  omega
 refine ⟨_, _, h1, by rw [g1, e3], h4 o lo bo, by rw [h4 o' lo' bo', e4], vS _ _⟩
end Go.PM
set_option linter.unusedSimpArgs false
set_option linter.unusedVariables false
namespace Go.PM
def cmpL : List Int → List Int → Int
 | [], [] => 0
 | [], _ :: _ => -1
 | _ :: _, [] => 1
 | a :: l, b :: m => if a < b then -1 else if b < a then 1 else cmpL l m
theorem LY : ∀ l, cmpL l l = 0
 | [] => rfl
 | a :: l => by simp [cmpL, LY l]
theorem TB : ∀ {l m : List Int}, ¬ cmpL l m < 0 → ¬ cmpL m l < 0 → l = m
 | [], [], _, _ => rfl
 | [], _ :: _, h, _ => by simp [cmpL] at h
 | _ :: _, [], _, h => by simp [cmpL] at h
 | a :: l, b :: m, h, k => by
  simp only [cmpL] at h k
  by_cases h1 : a < b
  ·simp [h1] at h
  ·by_cases h2 : b < a
   ·simp [h2] at k
   ·rw [if_neg h1, if_neg h2] at h
    rw [if_neg h2, if_neg h1] at k
    have : a = b := by omega
    rw [this, TB h k]
theorem PD : ∀ {l m n : List Int}, cmpL l m < 0 → cmpL m n < 0 → cmpL l n < 0
 | [], [], _, h, _ => by simp [cmpL] at h
 | [], _ :: _, [], _, k => by simp [cmpL] at k
 | [], _ :: _, _ :: _, _, _ => by simp [cmpL]
 | _ :: _, [], _, h, _ => by simp [cmpL] at h
 | _ :: _, _ :: _, [], _, k => by simp [cmpL] at k
 | a :: l, b :: m, c :: n, h, k => by
  simp only [cmpL] at h k ⊢
  by_cases h1 : a < b
  ·by_cases h3 : b < c
   ·rw [if_pos (show a < c by omega)]; omega
   ·by_cases h4 : c < b
    ·rw [if_neg h3, if_pos h4] at k; omega
    ·rw [if_pos (show a < c by omega)]; omega
  ·by_cases h2 : b < a
   ·rw [if_neg h1, if_pos h2] at h; omega
   ·rw [if_neg h1, if_neg h2] at h
    by_cases h3 : b < c
    ·rw [if_pos (show a < c by omega)]; omega
    ·by_cases h4 : c < b
     ·rw [if_neg h3, if_pos h4] at k; omega
     ·rw [if_neg h3, if_neg h4] at k
      rw [if_neg (show ¬ a < c by omega), if_neg (show ¬ c < a by omega)]
      exact PD h k
theorem RX {α β : Type} (f : Nat → Option α) (g : α → β) : ∀ l : List Nat, (l.findSome? fun i => (f i).map g) = (l.findSome? f).map g
 | [] => rfl
 | i :: l => by
  rw [List.findSome?_cons, List.findSome?_cons]
  cases h : f i with
  | some y => rfl
  | none => exact RX f g l
def TQ (l m : List Int) (i : Nat) : Option Int :=
 if ¬ i < m.length then some 1 else if l.getD i 0 < m.getD i 0 then some (-1) else if m.getD i 0 < l.getD i 0 then some 1 else none
theorem aQ7 : ∀ (l m : List Int) (j : Nat), ((List.range' j (l.length - j)).findSome? (TQ l m)).getD (if l.length < m.length then -1 else 0) = cmpL (l.drop j) (m.drop j) ∨ l.length < j
 | l, m, j => by
  rcases Nat.lt_or_ge l.length j with h | h
  ·exact .inr h
  ·left
   generalize hn : l.length - j = n
   induction n generalizing j with
   | zero =>
    have h1 : l.drop j = [] := List.drop_eq_nil_of_le (by omega)
    rw [h1]
    simp only [List.range'_zero, List.findSome?_nil, Option.getD_none]
    by_cases h2 : l.length < m.length
    ·rw [if_pos h2, List.drop_eq_getElem_cons (show j < m.length by omega)]; rfl
    ·rw [if_neg h2, List.drop_eq_nil_of_le (show m.length ≤ j by omega)]; rfl
   | succ n ih =>
    have hj : j < l.length := by omega
    rw [List.range'_succ, List.findSome?_cons, List.drop_eq_getElem_cons hj]
    unfold TQ
    by_cases h2 : j < m.length
    ·rw [if_neg (fun h => h h2), List.drop_eq_getElem_cons h2]
     have g1 : l.getD j 0 = l[j] := by rw [List.getD_eq_getElem?_getD, List.getElem?_eq_getElem hj]; rfl
     have g2 : m.getD j 0 = m[j] := by rw [List.getD_eq_getElem?_getD, List.getElem?_eq_getElem h2]; rfl
     rw [g1, g2]
     simp only [cmpL]
     by_cases h3 : l[j] < m[j]
     ·rw [if_pos h3, if_pos h3]; rfl
     ·rw [if_neg h3, if_neg h3]
      by_cases h4 : m[j] < l[j]
      ·rw [if_pos h4, if_pos h4]; rfl
      ·rw [if_neg h4, if_neg h4]
       exact ih (j + 1) (by omega) (by omega)
    ·rw [if_pos h2, List.drop_eq_nil_of_le (show m.length ≤ j by omega)]; rfl

theorem FP : ∀ {l m : List Int}, cmpL l m = 0 → l = m
 | [], [], _ => rfl
 | [], _ :: _, h => by simp [cmpL] at h
 | _ :: _, [], h => by simp [cmpL] at h
 | a :: l, b :: m, h => by
  simp only [cmpL] at h
  by_cases h1 : a < b
  ·rw [if_pos h1] at h; omega
  ·rw [if_neg h1] at h
   by_cases h2 : b < a
   ·rw [if_pos h2] at h; omega
   ·rw [if_neg h2] at h
    rw [FP h, show a = b by omega]
theorem aPM {x y : List Int} (h0 : ¬ cmpL x y = 0) (h1 : ¬ cmpL x y < 0) : cmpL y x < 0 := by
 by_cases h : cmpL y x < 0
 ·exact h
 ·have e := TB h1 h
  subst e
  exact (h0 (LY _)).elim

def qZ (a b : List Int × List Int) : Int := if ¬ cmpL a.1 b.1 = 0 then cmpL a.1 b.1 else cmpL a.2 b.2
theorem AM (a : List Int × List Int) : qZ a a = 0 := by simp [qZ, LY]
theorem aD6 {a b : List Int × List Int} (h : ¬ qZ a b < 0) (k : ¬ qZ b a < 0) : a = b := by
 unfold qZ at h k
 by_cases h1 : cmpL a.1 b.1 = 0
 ·have e := FP h1
  rw [if_neg (by rw [e, LY]; decide)] at h k
  have e2 := TB h k
  exact Prod.ext e e2
 ·rw [if_pos h1] at h
  have h2 := aPM h1 h
  rw [if_pos (by omega)] at k
  exact absurd h2 k
theorem aI7 {a b : List Int × List Int} (h : qZ a b = 0) : a = b := by
 unfold qZ at h
 by_cases h1 : cmpL a.1 b.1 = 0
 ·rw [if_neg (not_not_intro h1)] at h
  exact Prod.ext (FP h1) (FP h)
 ·rw [if_pos h1] at h; exact absurd h h1
theorem Z5 {a b c : List Int × List Int} (h : qZ a b < 0) (k : qZ b c < 0) : qZ a c < 0 := by
 unfold qZ at h k ⊢
 by_cases h1 : cmpL a.1 b.1 = 0
 ·have e := FP h1
  rw [if_neg (not_not_intro h1)] at h
  rw [e]
  by_cases h2 : cmpL b.1 c.1 = 0
  ·rw [if_neg (not_not_intro h2)] at k ⊢
   exact PD h k
  ·rw [if_pos h2] at k ⊢
   exact k
 ·rw [if_pos h1] at h
  by_cases h2 : cmpL b.1 c.1 = 0
  ·have e := FP h2
   rw [← e, if_pos h1]; exact h
  ·rw [if_pos h2] at k
   have := PD h k
   rw [if_pos (by omega)]; exact this
theorem VY {a b c : List Int × List Int} (h : ¬ qZ b a < 0) (k : ¬ qZ c b < 0) : ¬ qZ c a < 0 := by
 intro hca
 by_cases hab : qZ a b < 0
 ·exact k (Z5 hca hab)
 ·have := aD6 h hab
  subst this; exact k hca
def least {α : Type} (f : α → List Int × List Int) : List α → α → α
 | [], b => b
 | x :: l, b => least f l (if qZ (f x) (f b) < 0 then x else b)
theorem LZ {α : Type} (f : α → List Int × List Int) : ∀ (l : List α) (b : α), least f l b = b ∨ least f l b ∈ l
 | [], b => .inl rfl
 | x :: l, b => by
  unfold least
  rcases LZ f l (if qZ (f x) (f b) < 0 then x else b) with h | h
  ·rw [h]
   split
   ·exact .inr (by simp)
   ·exact .inl rfl
  ·exact .inr (List.mem_cons_of_mem _ h)
theorem least_le {α : Type} (f : α → List Int × List Int) : ∀ (l : List α) (b : α), ¬ qZ (f b) (f (least f l b)) < 0 ∧ ∀ x ∈ l, ¬ qZ (f x) (f (least f l b)) < 0
 | [], b => ⟨by rw [least, AM]; decide, fun x hx => by cases hx⟩
 | x :: l, b => by
  obtain ⟨h1, h2⟩ := least_le f l (if qZ (f x) (f b) < 0 then x else b)
  have key : ¬ qZ (f b) (f (if qZ (f x) (f b) < 0 then x else b)) < 0 ∧ ¬ qZ (f x) (f (if qZ (f x) (f b) < 0 then x else b)) < 0 := by
   split
   ·rename_i h
    exact ⟨fun h' => by have := Z5 h h'; rw [AM] at this; exact absurd this (by decide), by rw [AM]; decide⟩
   ·rename_i h
    exact ⟨by rw [AM]; decide, h⟩
  unfold least
  refine ⟨VY h1 key.1, fun y hy => ?_⟩
  rcases List.mem_cons.1 hy with rfl | hy
  ·exact VY h1 key.2
  ·exact h2 y hy
theorem aRF {α β : Type} (f : α → List Int × List Int) (g : β → List Int × List Int) (x : α) (l : List α) (y : β) (m : List β) (h1 : ∀ a, a = x ∨ a ∈ l → ∃ b, (b = y ∨ b ∈ m) ∧ f a = g b) (h2 : ∀ b, b = y ∨ b ∈ m → ∃ a, (a = x ∨ a ∈ l) ∧ f a = g b) : f (least f l x) = g (least g m y) := by
 obtain ⟨b, hb, e1⟩ := h1 _ (LZ f l x)
 obtain ⟨a, ha, e2⟩ := h2 _ (LZ g m y)
 refine aD6 ?_ ?_
 ·rw [e1]
  rcases hb with rfl | hb
  ·exact (least_le g m _).1
  ·exact (least_le g m _).2 _ hb
 ·rw [← e2]
  rcases ha with rfl | ha
  ·exact (least_le f l _).1
  ·exact (least_le f l _).2 _ ha
end Go.PM
set_option linter.unusedSimpArgs false
set_option linter.unusedVariables false
namespace Go.PM
open Go Go.RowKit Go.Proofs Go.Lz
set_option maxRecDepth 100000
theorem aRN (a : Int) : f98 (a, ()) = some (false, ()) := by
 unfold f98; dsimp only
 simp [dI]
theorem aZQ (a b : Int) : f74 (a, b, ()) = some (if a < b then -1 else if b < a then 1 else 0, ()) := by
 unfold f74; dsimp only
 rw [aRN, aD, aRN, aD]
 simp only [cond_false, aL, bC]
 by_cases h1 : a < b
 ·rw [if_pos h1, if_pos h1]
 ·rw [if_neg h1, if_neg h1]
  by_cases h2 : b < a
  ·rw [if_pos h2, if_pos h2]
  ·rw [if_neg h2, if_neg h2]
theorem a09 (l m : List Int) (hl : l.length ≤ 9223372036854775806) (hm : m.length ≤ 9223372036854775806) : f57 (l, m, ()) = some (cmpL l m, ()) := by
 have hloop : RE (l, m, l, (l.length : Int), 0, ()) = some (((List.range l.length).findSome? fun i => (TQ l m i).map fun y => .inl (y, ())).getD (.inr (l, m, ()))) := by
  refine OG (N := 2 ^ 64) (step := KF) (fun i => (l, m, l, (l.length : Int), (i : Int), ())) (fun i => (TQ l m i).map fun y => .inl (y, ())) l.length (.inr (l, m, ())) (by omega) ?_ ?_
  ·intro i hi
   simp only [KF, aL, dI, bB, nN, bC, Int.toNat_natCast]
   rw [if_pos (by omega), if_pos (by omega), aZQ, aD, dO i (by omega)]
   by_cases h2 : i < m.length
   ·rw [if_neg (by omega), if_pos (by omega)]
    by_cases h3 : l.getD i 0 < m.getD i 0
    ·have hc : TQ l m i = some (-1) := by unfold TQ; rw [if_neg (fun h => h h2), if_pos h3]
     rw [hc, if_pos h3, if_pos (by decide)]; rfl
    ·by_cases h4 : m.getD i 0 < l.getD i 0
     ·have hc : TQ l m i = some 1 := by unfold TQ; rw [if_neg (fun h => h h2), if_neg h3, if_pos h4]
      rw [hc, if_neg h3, if_pos h4, if_pos (by decide)]; rfl
     ·have hc : TQ l m i = none := by unfold TQ; rw [if_neg (fun h => h h2), if_neg h3, if_neg h4]
      rw [hc, if_neg h3, if_neg h4, if_neg (by decide)]; rfl
   ·have hc : TQ l m i = some 1 := by unfold TQ; rw [if_pos h2]
    rw [hc, if_pos (by omega)]; rfl
  ·simp only [KF, aL, bC]
   rw [if_neg (by omega)]
 have hfind := (aQ7 l m 0).resolve_right (by omega)
 rw [Nat.sub_zero, ← List.range_eq_range'] at hfind
 simp only [List.drop_zero] at hfind
 unfold f57; dsimp only
 rw [hloop, aD, RX, ← hfind]
 cases (List.range l.length).findSome? (TQ l m) with
 | some y => rfl
 | none =>
  simp only [Option.map_none, Option.getD_none, iH, aL, bC]
  by_cases h : l.length < m.length
  ·rw [if_pos h, if_pos (by omega)]
  ·rw [if_neg h, if_neg (by omega)]
theorem aRK (l m : List Int) (hl : l.length ≤ 9223372036854775806) (hm : m.length ≤ 9223372036854775806) : f35 (l, m, ()) = some (cmpL l m, ()) := by
 unfold f35; dsimp only
 rw [a09 l m hl hm, aD]
abbrev key (l : Lay) : List Int × List Int := (l.2.2.1, l.2.2.2)
theorem aK0 {a b : Lay} (ha : ShL a) (hb : ShL b) : f48 (a, b, ()) = some (qZ (key a) (key b), ()) := by
 obtain ⟨k, o, r, u⟩ := a
 obtain ⟨k', o', r', u'⟩ := b
 obtain ⟨-, a1, a2⟩ := ha
 obtain ⟨-, b1, b2⟩ := hb
 dsimp only at a1 a2 b1 b2
 unfold f48 qZ key; dsimp only
 rw [aRK r r' (by omega) (by omega), aD, aRK u u' (by omega) (by omega)]
 simp only [dI, nN, bC, aD]
 by_cases h : cmpL r r' = 0
 ·rw [if_neg (not_not_intro h), if_neg (not_not_intro h)]
 ·rw [if_pos h, if_pos h]
theorem j9.sh {B : Int} {l : Lay} (h : j9 B l) : ShL l := ⟨by have := h.len; omega, by have := h.len; have := h.right; omega, by have := h.len; have := h.up; omega⟩
theorem aHY {B : Int} {l : Lay} (h : j9 B l) (hB : B ≤ 1000000000) : f39 (l, ()) = some (l, 0, ()) := by
 have h0 := h.len
 have h1 := h.right
 have h2 := h.up
 rw [aMH, if_pos ⟨mM h.o hB (by omega), mM h.r hB (by omega), mM h.u hB (by omega)⟩]
abbrev z4 : S4 := (0, (0, (0, 0)))
def bst (l : Lay) : S4 := match aS l.1 with
 | [] => z4
 | g :: r => least (fun g => key (trn l g)) r g
theorem aXM (l : Lay) : bst l ∈ aS l.1 := by
 unfold bst
 have := MF (k := l.1)
 cases h : aS l.1 with
 | nil => rw [h] at this; exact absurd this (by decide)
 | cons g r =>
  show least (fun g => key (trn l g)) r g ∈ _
  rcases LZ (fun g => key (trn l g)) r g with h1 | h1
  ·rw [h1]; simp
  ·exact List.mem_cons_of_mem _ h1
theorem QV {B : Int} {l : Lay} (g : S4) (h : j9 B l) : f40 (l, g, ()) = some (trn l g, ()) := by
 have h0 := h.len
 have h1 := h.right
 have h2 := h.up
 exact aU5 g (by omega) (by omega) (by omega)
theorem aFV {B : Int} {l : Lay} (hl : j9 B l) (hB0 : 0 ≤ B) (hB : B ≤ 500000000) (n : List (Int × Int)) : ∀ (L : List S4), (∀ g ∈ L, AS g) → ∀ h, AS h →
  qK FM (aH1 BA K2) (L.map fun e => (e, ())) (l, zL, z4, 0, trn l h, h, true, (n, ()), ()) = some (.inl (l, zL, z4, 0, trn l (least (fun g => key (trn l g)) L h), least (fun g => key (trn l g)) L h, ()))
 | [], _, h, _ => rfl
 | g :: L, hL, h, hh => by
  have hg := hL g (by simp)
  have gg := lL hl hg hB0 (by omega)
  have gh := lL hl hh hB0 (by omega)
  have hst : FM (l, zL, z4, 0, trn l h, h, true, (n, ()), ()) (g, ()) = if qZ (key (trn l g)) (key (trn l h)) < 0 then some (.inl (l, zL, z4, 0, trn l g, g, true, (n, ()), ())) else some (.inl (l, zL, z4, 0, trn l h, h, true, (n, ()), ())) := by
   show (aB (f40 (l, g, ())) _) = _
   rw [QV g hl, aD]
   show (aB (f39 (trn l g, ())) _) = _
   rw [aHY gg (by omega), aD]
   show (aB (f48 (trn l g, trn l h, ())) _) = _
   rw [aK0 gg.sh gh.sh, aD]
   show (bif ltI (qZ (key (trn l g)) (key (trn l h))) 0 then _ else _) = _
   rw [aL, bC]
  rw [List.map_cons, qK, hst, least]
  by_cases hc : qZ (key (trn l g)) (key (trn l h)) < 0
  ·rw [if_pos hc, if_pos hc]
   exact aFV hl hB0 hB n L (fun x hx => hL x (by simp [hx])) g hg
  ·rw [if_neg hc, if_neg hc]
   exact aFV hl hB0 hB n L (fun x hx => hL x (by simp [hx])) h hh
theorem aPK {B : Int} {l : Lay} (hl : j9 B l) (hB0 : 0 ≤ B) (hB : B ≤ 500000000) : FF (l, zL, z4, 0, zL, z4, false, (lR l.1, ()), ()) = some (.inl (l, zL, z4, 0, trn l (bst l), bst l, ())) := by
 have hu : ∀ g ∈ aS l.1, AS g := fun g hg => mU hg
 have hf := MD l.1
 unfold FF TT
 have hff : (fun x => AV (aE3 x)) (l, zL, z4, 0, zL, z4, false, (lR l.1, ()), ()) = _ := hf
 rw [hff]
 unfold bst
 have := MF (k := l.1)
 cases h : aS l.1 with
 | nil => rw [h] at this; exact absurd this (by decide)
 | cons g r =>
  rw [h] at hu
  have hg := hu g (by simp)
  have gg := lL hl hg hB0 (by omega)
  have hst : FM (l, zL, z4, 0, zL, z4, false, (lR l.1, ()), ()) (g, ()) = some (.inl (l, zL, z4, 0, trn l g, g, true, (lR l.1, ()), ())) := by
   show (aB (f40 (l, g, ())) _) = _
   rw [QV g hl, aD]
   show (aB (f39 (trn l g, ())) _) = _
   rw [aHY gg (by omega), aD]
   rfl
  show qK FM (aH1 BA K2) ((g, ()) :: r.map fun e => (e, ())) _ = _
  rw [qK, hst]
  exact aFV hl hB0 hB (lR l.1) r (fun x hx => hu x (by simp [hx])) g hg
def can (l : Lay) (w : List Int) : Lay := (l.1, w, (trn l (bst l)).2.2.1, (trn l (bst l)).2.2.2)
theorem aT9 {B : Int} {l : Lay} (hl : j9 B l) (hB0 : 0 ≤ B) (hB : B ≤ 500000000) {L : Int × List (List Int)} {w : List Int} (h1 : jE ((l.2.1.length : Int), [l.2.2.1, l.2.2.2], ()) = some (L, 0, ())) (h2 : c7 (L, l.2.1, ()) = some (w, 0, ())) :
  f47 (l, ()) = some (can l w, bst l, 0, ()) := by
 unfold f47
 show (aB (f38 (l.1, ())) _) = _
 rw [aFC, aD]
 show (aB (FF (l, zL, z4, 0, zL, z4, false, (lR l.1, ()), ())) _) = _
 rw [aPK hl hB0 hB, aD, rF]
 show aB (jE ((l.2.1.length : Int), [l.2.2.1, l.2.2.2], ())) _ = _
 rw [h1, aD]
 show aB (c7 (L, l.2.1, ())) _ = _
 rw [h2, aD]
 rfl
theorem XR {a b A B : Int} {r s : List Int} {i : Nat} (hA : 0 ≤ A ∧ A ≤ 1000) (hB : 0 ≤ B ∧ B ≤ 1000000000) (ha : -A ≤ a ∧ a ≤ A) (hb : -A ≤ b ∧ b ≤ A) (hr : -B ≤ r.getD i 0 ∧ r.getD i 0 ≤ B) (hs : -B ≤ s.getD i 0 ∧ s.getD i 0 ≤ B) :
  mxE a b r s i = a * r.getD i 0 + b * s.getD i 0 ∧ (mxE a b r s i).natAbs ≤ 2 * (A.toNat * B.toNat) := by
 have key : ∀ {x y : Int}, (-A ≤ x ∧ x ≤ A) → (-B ≤ y ∧ y ≤ B) → (x * y).natAbs ≤ A.toNat * B.toNat := fun h1 h2 => by
  rw [Int.natAbs_mul]
  exact Nat.mul_le_mul (by omega) (by omega)
 have h1 := key ha hr
 have h2 := key hb hs
 have h3 : A.toNat * B.toNat ≤ 1000 * 1000000000 := Nat.mul_le_mul (by omega) (by omega)
 have : mxE a b r s i = a * r.getD i 0 + b * s.getD i 0 := by
  unfold mxE
  rw [wrap64 (x := a * r.getD i 0) (by omega) (by omega), wrap64 (x := b * s.getD i 0) (by omega) (by omega), wrap64 (by omega) (by omega)]
 rw [this]
 refine ⟨rfl, ?_⟩
 omega
theorem aMT {a b A B : Int} {r s : List Int} (hA : 0 ≤ A ∧ A ≤ 1000) (hB : 0 ≤ B ∧ B ≤ 1000000000) (ha : -A ≤ a ∧ a ≤ A) (hb : -A ≤ b ∧ b ≤ A) (hr : Sm B r) (hs : Sm B s) (hl : s.length = r.length) : nE (mx a b r s) = fun x => a * nE r x + b * nE s x := by
 funext x
 by_cases hx : x < r.length
 ·have := (XR (i := x) hA hB ha hb (hr.get hx) (hs.get (by omega))).1
  unfold nE
  rw [CJ hx, this]
 ·rw [BI (j7 a b r s) (by omega), BI (n := r.length) rfl (by omega), BI hl (by omega)]
  simp
def aEJ (k : Int) (g : S4) : S4 := ((aS k).find? fun h => eq4 (KW g h) (1, 0, 0, 1)).getD z4
def aMI (L : List S4) (f : S4 → S4) : Bool := L.all fun g => (L.any fun x => eq4 x (f g)) && eq4 (KW g (f g)) (1, 0, 0, 1) && L.all fun h => eq4 (KW g (KW (f g) h)) h
theorem aVD : aMI KN (aEJ 1) = true := by kernel_rfl
theorem aT6 : aMI J1 (aEJ 2) = true := by kernel_rfl
theorem aFX {k : Int} (hk : k = 1 ∨ k = 2) {g : S4} (hg : g ∈ aS k) : aEJ k g ∈ aS k ∧ KW g (aEJ k g) = (1, 0, 0, 1) ∧ ∀ h ∈ aS k, KW g (KW (aEJ k g) h) = h := by
 have hc : aMI (aS k) (aEJ k) = true := by
  rcases hk with rfl | rfl
  ·exact aVD
  ·exact aT6
 have h1 := List.all_eq_true.1 hc g hg
 simp only [Bool.and_eq_true, List.any_eq_true, List.all_eq_true, ZI, decide_eq_true_eq] at h1
 obtain ⟨⟨⟨x, h2, h3⟩, h4⟩, h5⟩ := h1
 exact ⟨h3 ▸ h2, h4, h5⟩
theorem aKB {B : Int} {l : Lay} (hl : j9 B l) (hB0 : 0 ≤ B) (hB : B ≤ 500000000) : trn l (1, 0, 0, 1) = l := by
 have key : ∀ {r s : List Int}, Sm B r → Sm B s → s.length = r.length → mx 1 0 r s = r ∧ mx 0 1 r s = s := fun {r s} hr hs h => by
  constructor
  ·apply List.ext_getElem (by rw [j7])
   intro i h1 h2
   have := (uO (i := i) (B := B) (a := 1) (b := 0) (by decide) (by decide) (hr.get h2) (hs.get (by omega)) (by omega)).1
   have e := CJ (a := 1) (b := 0) (s := s) h2
   rw [this] at e
   simp only [List.getD_eq_getElem?_getD, List.getElem?_eq_getElem h1, List.getElem?_eq_getElem h2, Option.getD_some] at e
   omega
  ·apply List.ext_getElem (by rw [j7, h])
   intro i h1 h2
   have h3 : i < r.length := by omega
   have := (uO (i := i) (B := B) (a := 0) (b := 1) (by decide) (by decide) (hr.get h3) (hs.get (by omega)) (by omega)).1
   have e := CJ (a := 0) (b := 1) (s := s) h3
   rw [this] at e
   simp only [List.getD_eq_getElem?_getD, List.getElem?_eq_getElem h1, List.getElem?_eq_getElem h2, Option.getD_some] at e
   omega
 obtain ⟨e1, e2⟩ := key hl.r hl.u (by have := hl.right; have := hl.up; omega)
 unfold trn
 simp only [e1, e2]
theorem aIC {B : Int} {l : Lay} {g : S4} (hl : j9 B l) (hg : AS g) (hB : 0 ≤ B ∧ B ≤ 1000000000) : ∀ j, j < 2 → Sp 2 (B6 [l.2.2.1, l.2.2.2]) (B6 [(trn l g).2.2.1, (trn l g).2.2.2] j) := fun j hj => by
 obtain ⟨q1, q2, q3, q4⟩ := hg
 have h1 := hl.right
 have h2 := hl.up
 rcases (by omega : j = 0 ∨ j = 1) with rfl | rfl
 ·have := aMT (A := 1) (by decide) hB q1 q3 hl.r hl.u (by omega)
  show Sp 2 _ (nE (mx g.1 g.2.2.1 l.2.2.1 l.2.2.2))
  rw [this]
  exact Sp.X8 (M := B6 [l.2.2.1, l.2.2.2]) _ _
 ·have := aMT (A := 1) (by decide) hB q2 q4 hl.r hl.u (by omega)
  show Sp 2 _ (nE (mx g.2.1 g.2.2.2 l.2.2.1 l.2.2.2))
  rw [this]
  exact Sp.X8 (M := B6 [l.2.2.1, l.2.2.2]) _ _
theorem aVL {B : Int} {l : Lay} {g : S4} (hl : j9 B l) (hg : g ∈ aS l.1) (hB : 0 ≤ B ∧ B ≤ 100000000) : Same 2 (B6 [l.2.2.1, l.2.2.2]) 2 (B6 [(trn l g).2.2.1, (trn l g).2.2.2]) := by
 obtain ⟨i1, i2, i3⟩ := aFX hl.kind hg
 have ht := lL hl (mU hg) hB.1 (by omega)
 have hb := RH hl hg i1 hB.1 hB.2
 rw [i2, aKB hl hB.1 (by omega)] at hb
 refine Same.of (fun j hj => ?_) (aIC hl (mU hg) (by omega))
 have := aIC ht (mU i1) (by omega) j hj
 rwa [hb] at this
theorem Sm.abs {B : Int} {r : List Int} (h : Sm B r) {C : Nat} (hC : B ≤ C) : ∀ a ∈ r, a.natAbs ≤ C := fun a ha => by have := h a ha; omega
theorem aYA {B : Int} {l : Lay} {g : S4} (hl : j9 B l) (hg : g ∈ aS l.1) (hB : 0 ≤ B ∧ B ≤ 50000000) {y : Lay} (hk : y.1 = l.1) (hy : key y = key (trn l g)) : key (trn y (bst y)) = key (trn l (bst l)) := by
 have hkey : ∀ h, key (trn y h) = key (trn (trn l g) h) := fun h => by
  have e1 : y.2.2.1 = (trn l g).2.2.1 := congrArg Prod.fst hy
  have e2 : y.2.2.2 = (trn l g).2.2.2 := congrArg Prod.snd hy
  show (mx h.1 h.2.2.1 y.2.2.1 y.2.2.2, mx h.2.1 h.2.2.2 y.2.2.1 y.2.2.2) = _
  rw [e1, e2]; rfl
 obtain ⟨i1, i2, i3⟩ := aFX hl.kind hg
 have hn := MF (k := l.1)
 have hc : ∀ h ∈ aS l.1, key (trn y h) = key (trn l (KW g h)) := fun h hh => by
  rw [hkey, RH hl hg hh hB.1 (by omega)]
 unfold bst
 rw [hk]
 cases ht : aS l.1 with
 | nil => rw [ht] at hn; exact absurd hn (by decide)
 | cons a r =>
  have hm : ∀ x, x = a ∨ x ∈ r ↔ x ∈ aS l.1 := fun x => by rw [ht, List.mem_cons]
  show (fun g => key (trn y g)) (least (fun g => key (trn y g)) r a) = (fun g => key (trn l g)) (least (fun g => key (trn l g)) r a)
  refine aRF (fun g => key (trn y g)) (fun g => key (trn l g)) a r a r (fun x hx => ?_) (fun x hx => ?_)
  ·have hx := (hm x).1 hx
   exact ⟨KW g x, (hm _).2 (aMM hg hx).2, hc x hx⟩
  ·have hx := (hm x).1 hx
   have hi := (aMM i1 hx).2
   refine ⟨KW (aEJ l.1 g) x, (hm _).2 hi, ?_⟩
   rw [hc _ hi, i3 x hx]
end Go.PM
set_option linter.unusedSimpArgs false
set_option linter.unusedVariables false
namespace Go.PM
open Go Go.RowKit Go.Proofs Go.Lz
set_option maxRecDepth 100000
theorem aOD {B : Int} {l : Lay} {g : S4} (hl : j9 B l) (hg : AS g) (hB0 : 0 ≤ B) (hB : B ≤ 500000000) : aM8 l g = true := by
 have ht := lL hl hg hB0 (by omega)
 have h0 := hl.len
 have h1 := hl.right
 have e1 : rc (trn l g).2.2.1 = 0 := mM ht.r (by omega) (by have := ht.len; have := ht.right; omega)
 have e2 : rc (trn l g).2.2.2 = 0 := mM ht.u (by omega) (by have := ht.len; have := ht.up; omega)
 have q1 := aY6 (a := g.1) (b := g.2.2.1) (r := l.2.2.1) (s := l.2.2.2) (by omega)
 have q2 := aY6 (a := g.2.1) (b := g.2.2.2) (r := l.2.2.1) (s := l.2.2.2) (by omega)
 have e1 : rc (mx g.1 g.2.2.1 l.2.2.1 l.2.2.2) = 0 := e1
 have e2 : rc (mx g.2.1 g.2.2.2 l.2.2.1 l.2.2.2) = 0 := e2
 rw [e1] at q1
 rw [e2] at q2
 unfold aM8
 by_cases c1 : ftB g.1 g.2.2.1 l.2.2.1 l.2.2.2 l.2.2.1.length = true
 ·by_cases c2 : ftB g.2.1 g.2.2.2 l.2.2.1 l.2.2.2 l.2.2.1.length = true
  ·rw [c1, c2]; rfl
  ·rw [if_neg c2] at q2; exact absurd q2 (by decide)
 ·rw [if_neg c1] at q1; exact absurd q1 (by decide)
theorem aHU {B : Int} {l : Lay} {g : S4} (hl : j9 B l) (hg : AS g) (hB0 : 0 ≤ B) (hB : B ≤ 500000000) : f18 (l, g, ()) = some (trn l g, true, ()) := by
 have h0 := hl.len
 have h1 := hl.right
 have h2 := hl.up
 rw [a3R g (by omega) (by omega), aOD hl hg hB0 hB]
theorem j9.mono {B C : Int} {l : Lay} (h : j9 B l) (hC : B ≤ C) : j9 C l := by
 have key : ∀ {r : List Int}, Sm B r → Sm C r := fun h v hv => by have := h v hv; omega
 exact ⟨h.kind, h.len, h.right, h.up, key h.o, key h.r, key h.u⟩
theorem E7 {l : Lay} (hl : j9 18 l) {x y : Int} (hx : -128 ≤ x ∧ x ≤ 128) (hy : -128 ≤ y ∧ y ≤ 128) :
  j9 4626 (shL l x y) ∧ nE (shL l x y).2.1 = fun c => x * nE l.2.2.1 c + y * nE l.2.2.2 c + nE l.2.1 c := by
 have h1 := hl.right
 have h2 := hl.up
 have val : ∀ i, i < l.2.2.1.length → aAT x y l.2.1 l.2.2.1 l.2.2.2 l.2.2.1.length i = x * l.2.2.1.getD i 0 + y * l.2.2.2.getD i 0 + l.2.1.getD i 0 ∧ (-4626 ≤ aAT x y l.2.1 l.2.2.1 l.2.2.2 l.2.2.1.length i ∧ aAT x y l.2.1 l.2.2.1 l.2.2.2 l.2.2.1.length i ≤ 4626) := fun i hi => by
  obtain ⟨e1, e2⟩ := XR (A := 128) (B := 18) (by decide) (by decide) hx hy (hl.r.get hi) (hl.u.get (i := i) (by omega))
  have e3 := hl.o.get (i := i) (by omega)
  have e4 : 2 * (Int.toNat 128 * Int.toNat 18) = 4608 := rfl
  have : aAT x y l.2.1 l.2.2.1 l.2.2.2 l.2.2.1.length i = mxE x y l.2.2.1 l.2.2.2 i + l.2.1.getD i 0 := by
   unfold aAT
   rw [if_pos hi, wrap64 (by omega) (by omega)]
  rw [this, ← e1]
  omega
 have hlen : (shL l x y).2.1.length = l.2.2.1.length := pC _ _ _ _ _ _
 have hsm : ∀ {r : List Int}, Sm 18 r → Sm 4626 r := fun h v hv => by have := h v hv; omega
 refine ⟨⟨hl.kind, by rw [hlen]; have := hl.len; omega, by rw [hlen]; rfl, by rw [hlen]; show l.2.2.2.length = _; omega, fun v hv => ?_, hsm hl.r, hsm hl.u⟩, ?_⟩
 ·obtain ⟨i, hi, rfl⟩ := List.getElem_of_mem hv
  have hi' : i < l.2.2.1.length := by omega
  have e := aF9 x y l.2.1 l.2.2.1 l.2.2.2 l.2.2.1.length hi'
  rw [List.getD_eq_getElem?_getD, List.getElem?_eq_getElem (show i < (shf x y l.2.1 l.2.2.1 l.2.2.2 l.2.2.1.length).length from hi)] at e
  have e : (shL l x y).2.1[i] = _ := e
  rw [e]
  exact (val i hi').2
 ·funext c
  by_cases hc : c < l.2.2.1.length
  ·have e := aF9 x y l.2.1 l.2.2.1 l.2.2.2 l.2.2.1.length hc
   show (shf x y l.2.1 l.2.2.1 l.2.2.2 l.2.2.1.length).getD c 0 = _
   rw [e, (val c hc).1]; rfl
  ·rw [BI hlen (by omega), BI (n := l.2.2.1.length) rfl (by omega), BI (n := l.2.2.1.length) (by omega) (by omega), BI (n := l.2.2.1.length) (by omega) (by omega)]
   simp
theorem aVG {l : Lay} (hl : j9 18 l) {x y : Int} (hx : -128 ≤ x ∧ x ≤ 128) (hy : -128 ≤ y ∧ y ≤ 128) : Sp 2 (B6 [l.2.2.1, l.2.2.2]) (fun c => nE l.2.1 c - nE (shL l x y).2.1 c) := by
 have := (E7 hl hx hy).2
 rw [this]
 refine cast (congrArg _ ?_) (Sp.X8 (M := B6 [l.2.2.1, l.2.2.2]) (-x) (-y))
 funext c
 show -x * nE l.2.2.1 c + -y * nE l.2.2.2 c = _
 simp only [Int.neg_mul]
 omega
theorem aQV {l : Lay} (hl : j9 18 l) {x y : Int} (hx : -128 ≤ x ∧ x ≤ 128) (hy : -128 ≤ y ∧ y ≤ 128) : aI1 (l, x, y, ()) = some (shL l x y, 0, ()) := by
 have h0 := hl.len
 have h1 := hl.right
 have h2 := hl.up
 have hg := (E7 hl hx hy).1
 have g0 := hg.len
 have g1 := hg.right
 have g2 := hg.up
 rw [aV0 x y (by omega) (by omega) (by omega) (P9 hl (by decide)), if_neg (by omega), if_pos ⟨mM hg.o (by decide) (by omega), mM hg.r (by decide) (by omega), mM hg.u (by decide) (by omega)⟩]
theorem aQZ {y l : Lay} (w : List Int) (h1 : y.1 = l.1) (h2 : key (trn y (bst y)) = key (trn l (bst l))) : can y w = can l w := by
 unfold can
 rw [h1, show (trn y (bst y)).2.2.1 = _ from congrArg Prod.fst h2, show (trn y (bst y)).2.2.2 = _ from congrArg Prod.snd h2]
end Go.PM
set_option linter.unusedSimpArgs false
set_option linter.unusedVariables false
namespace Go.PM
def ded {α : Type} [DecidableEq α] : List α → List α → List α
 | acc, [] => acc
 | acc, x :: l => ded (if x ∈ acc then acc else acc ++ [x]) l
theorem aJ0 {α : Type} [DecidableEq α] (x : α) : ∀ (l acc : List α), ded acc (l ++ [x]) = if x ∈ ded acc l then ded acc l else ded acc l ++ [x]
 | [], acc => rfl
 | y :: l, acc => by
  rw [List.cons_append, ded, ded, aJ0 x l]
theorem XU {α : Type} [DecidableEq α] {z : α} : ∀ {l acc : List α}, z ∈ ded acc l ↔ z ∈ acc ∨ z ∈ l
 | [], acc => by simp [ded]
 | y :: l, acc => by
  rw [ded, XU]
  by_cases h : y ∈ acc
  ·rw [if_pos h, List.mem_cons]
   constructor
   ·rintro (h1 | h1)
    ·exact .inl h1
    ·exact .inr (.inr h1)
   ·rintro (h1 | rfl | h1)
    ·exact .inl h1
    ·exact .inl h
    ·exact .inr h1
  ·rw [if_neg h, List.mem_append, List.mem_singleton, List.mem_cons, or_assoc]
theorem aDP {α : Type} [DecidableEq α] : ∀ {l acc : List α}, acc.Nodup → (ded acc l).Nodup
 | [], acc, h => h
 | y :: l, acc, h => by
  rw [ded]
  refine aDP ?_
  by_cases hy : y ∈ acc
  ·rw [if_pos hy]; exact h
  ·rw [if_neg hy, List.nodup_append]
   refine ⟨h, by simp, fun a ha b hb => ?_⟩
   rw [List.mem_singleton.1 hb]
   exact fun e => hy (e ▸ ha)
theorem ZK {α : Type} [DecidableEq α] : ∀ {l acc : List α}, (ded acc l).length ≤ acc.length + l.length
 | [], acc => Nat.le_refl _
 | y :: l, acc => by
  rw [ded]
  refine Nat.le_trans ZK ?_
  rw [List.length_cons]
  split
  ·omega
  ·rw [List.length_append, List.length_singleton]; omega
theorem VI {α β : Type} [DecidableEq β] (f : α → β) (n : Nat) : ∀ (D : List β) (L : List α), D.Nodup → (∀ x ∈ L, f x ∈ D) → (∀ d ∈ D, L.countP (fun x => decide (f x = d)) = n) → L.length = n * D.length
 | [], L, _, h, _ => by
  cases L with
  | nil => simp
  | cons x l => exact absurd (h x (by simp)) (by simp)
 | d :: D, L, hn, h, hc => by
  have hnd := List.nodup_cons.1 hn
  have h1 := List.length_eq_countP_add_countP (fun x => decide (f x = d)) (l := L)
  have ih := VI f n D (L.filter fun x => decide (¬ f x = d)) hnd.2 (fun x hx => by
   obtain ⟨h2, h3⟩ := List.mem_filter.1 hx
   rcases List.mem_cons.1 (h x h2) with h4 | h4
   ·exact absurd h4 (of_decide_eq_true h3)
   ·exact h4) (fun d' hd' => by
   rw [List.countP_filter, ← hc d' (List.mem_cons_of_mem _ hd')]
   congr 1
   funext x
   by_cases hx : f x = d'
   ·have : ¬ d' = d := fun e => hnd.1 (e ▸ hd')
    simp [hx, this]
   ·simp [hx])
  have h2 : L.countP (fun x => !decide (f x = d)) = (L.filter fun x => decide (¬ f x = d)).length := by
   rw [List.countP_eq_length_filter]
   congr 2
   funext x
   simp
  have h3 := hc d (by simp)
  rw [List.length_cons, Nat.mul_succ]
  have h4 : L.length = L.countP (fun x => decide (f x = d)) + L.countP (fun x => !decide (f x = d)) := by
   rw [h1]
   congr 2
   funext x
   simp
  omega
end Go.PM
