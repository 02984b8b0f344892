/- Chapter 35, plain law: evenly spread sets by floors: moved, turned round, complemented they are so again, and they are maximally even. -/
import Derived.Test.YtdlckpedbmjnnaaEvO
set_option linter.unusedSimpArgs false
set_option linter.unusedVariables false
namespace Go.PM
open Go Go.RowKit Go.Proofs
set_option maxRecDepth 100000

theorem emod_uniq {y n q r : Int} (h : y = n * q + r) (hr : 0 ≤ r ∧ r < n) : y % n = r := by
  subst h; rw [Int.mul_add_emod_self_left]; exact Int.emod_eq_of_lt hr.1 hr.2
theorem emod_shift {y z n q : Int} (h : y = z + n * q) : y % n = z % n := by
  subst h; exact Int.add_mul_emod_self_left _ _ _
theorem mul_lt_cancel {k a b : Int} (hk : 0 < k) (h : k * a < k * b) : a < b := by
  rcases Int.lt_or_le a b with h1 | h1
  · exact h1
  · have := Int.mul_le_mul_of_nonneg_left h1 (Int.le_of_lt hk); omega
/-- Floors. -/
def flI (n k c i : Int) : Int := (n * i + c) / k
theorem flI_low {n k c i : Int} (hk : 0 < k) : k * flI n k c i ≤ n * i + c := Int.mul_ediv_self_le (by omega)
theorem flI_up {n k c i : Int} (hk : 0 < k) : n * i + c < k * flI n k c i + k := Int.lt_mul_ediv_self_add hk
theorem flI_uniq {n k c i x : Int} (hk : 0 < k) (h1 : k * x ≤ n * i + c) (h2 : n * i + c < k * x + k) : flI n k c i = x := by
  have a1 := flI_low (n := n) (c := c) (i := i) hk
  have a2 := flI_up (n := n) (c := c) (i := i) hk
  have b1 : flI n k c i < x + 1 := mul_lt_cancel hk (by rw [Int.mul_add, Int.mul_one]; omega)
  have b2 : x < flI n k c i + 1 := mul_lt_cancel hk (by rw [Int.mul_add, Int.mul_one]; omega)
  omega
def evl (n : Int) (k : Nat) (c : Int) : List Int := (List.range k).map fun i : Nat => flI n k c (i : Int)
theorem evl_length (n : Int) (k : Nat) (c : Int) : (evl n k c).length = k := by simp [evl]
theorem evl_get (n : Int) {k : Nat} (c : Int) {i : Nat} (hi : i < k) : (evl n k c).getD i 0 = flI n k c (i : Int) := by
  unfold evl
  rw [List.getD_eq_getElem?_getD, List.getElem?_map, List.getElem?_range hi]; rfl
/-- What is asked of the numbers. -/
structure Ev (n : Int) (k : Nat) (c : Int) : Prop where
  low : 1 ≤ n
  high : n ≤ 60
  one : 1 ≤ k
  le : (k : Int) ≤ n
  pos : 0 ≤ c
  lt : c < n
theorem Ev.inc {n c : Int} {k : Nat} (h : Ev n k c) {i j : Nat} (hij : i < j) : flI n k c (i : Int) < flI n k c (j : Int) := by
  have hk : (0 : Int) < k := by have := h.one; omega
  have a1 := flI_low (n := n) (c := c) (i := (i : Int)) hk
  have a2 := flI_up (n := n) (c := c) (i := (j : Int)) hk
  have h1 : n * ((i : Int) + 1) ≤ n * (j : Int) := Int.mul_le_mul_of_nonneg_left (by omega) (by have := h.low; omega)
  rw [Int.mul_add, Int.mul_one] at h1
  have := h.le
  exact mul_lt_cancel hk (by omega)
theorem Ev.rng {n c : Int} {k : Nat} (h : Ev n k c) {i : Nat} (hi : i < k) : 0 ≤ flI n k c (i : Int) ∧ flI n k c (i : Int) < n := by
  have hk : (0 : Int) < k := by have := h.one; omega
  have a1 := flI_low (n := n) (c := c) (i := (i : Int)) hk
  have a2 := flI_up (n := n) (c := c) (i := (i : Int)) hk
  have hn := h.low
  have hp := h.pos
  have hl := h.lt
  have p0 : 0 ≤ n * (i : Int) := Int.mul_nonneg (by omega) (by omega)
  have p1 : n * ((i : Int) + 1) ≤ n * (k : Int) := Int.mul_le_mul_of_nonneg_left (by omega) (by omega)
  rw [Int.mul_add, Int.mul_one] at p1
  have e : (k : Int) * n = n * (k : Int) := Int.mul_comm _ _
  constructor
  · have : -1 < flI n k c (i : Int) := mul_lt_cancel hk (by rw [Int.mul_neg, Int.mul_one]; omega)
    omega
  · exact mul_lt_cancel hk (by omega)
theorem Ev.good {n c : Int} {k : Nat} (h : Ev n k c) : Good n (evl n k c) where
  low := h.low
  high := h.high
  some := by
    intro e
    have h1 := evl_length n k c
    rw [e] at h1
    have h2 := h.one
    simp only [List.length_nil] at h1
    omega
  inc := List.pairwise_map.2 (List.pairwise_lt_range.imp fun hij => h.inc hij)
  rng := by
    intro x hx
    obtain ⟨i, hi, rfl⟩ := List.mem_map.1 hx
    exact h.rng (List.mem_range.1 hi)
theorem Ev.mem {n c : Int} {k : Nat} (h : Ev n k c) (x : Int) : x ∈ evl n k c ↔ (0 ≤ x ∧ x < n) ∧ (c - k * x) % n < k := by
  have hk : (0 : Int) < k := by have := h.one; omega
  have hn := h.low
  have hle := h.le
  have hp := h.pos
  have hl := h.lt
  constructor
  · intro hx
    refine ⟨h.good.rng x hx, ?_⟩
    obtain ⟨i, hi, rfl⟩ := List.mem_map.1 hx
    have a1 := flI_low (n := n) (c := c) (i := (i : Int)) hk
    have a2 := flI_up (n := n) (c := c) (i := (i : Int)) hk
    rw [emod_uniq (q := -(i : Int)) (r := n * (i : Int) + c - k * flI n k c (i : Int)) (by rw [Int.mul_neg]; omega) (by omega)]
    omega
  · rintro ⟨⟨h0, h1⟩, h2⟩
    have e := Int.mul_ediv_add_emod (c - k * x) n
    have r0 := (emod_rng (c - k * x) (n := n) (by omega)).1
    obtain ⟨q, hq⟩ : ∃ q, q = (c - k * x) / n := ⟨_, rfl⟩
    obtain ⟨r, hr⟩ : ∃ r, r = (c - k * x) % n := ⟨_, rfl⟩
    rw [← hq, ← hr] at e
    rw [← hr] at h2 r0
    have kx0 : 0 ≤ (k : Int) * x := Int.mul_nonneg (by omega) h0
    have kx1 : (k : Int) * (x + 1) ≤ k * n := Int.mul_le_mul_of_nonneg_left (by omega) (by omega)
    rw [Int.mul_add, Int.mul_one] at kx1
    have ekn : (k : Int) * n = n * k := Int.mul_comm _ _
    have q1 : q < 1 := mul_lt_cancel (k := n) (by omega) (by rw [Int.mul_one]; omega)
    have q2 : -(k : Int) < q := mul_lt_cancel (k := n) (by omega) (by rw [Int.mul_neg]; omega)
    refine List.mem_map.2 ⟨(-q).toNat, List.mem_range.2 (by omega), ?_⟩
    have ei : (((-q).toNat : Nat) : Int) = -q := by omega
    rw [ei]
    exact flI_uniq hk (by rw [Int.mul_neg]; omega) (by rw [Int.mul_neg]; omega)
theorem mnF_bnd {s : List Int} {m : Int} : ∀ j, j < s.length → (∀ i, i < s.length → m ≤ s.getD i 0 ∧ s.getD i 0 ≤ m + 1) → (m ≤ mnF s j ∧ mnF s j ≤ m + 1) ∧ m ≤ mxF s j ∧ mxF s j ≤ m + 1
  | 0, hj, h => ⟨h 0 hj, h 0 hj⟩
  | j + 1, hj, h => by
    have ih := mnF_bnd j (by omega) h
    have h1 := h (j + 1) hj
    unfold mnF mxF
    refine ⟨?_, ?_⟩
    · split <;> omega
    · split <;> omega
theorem Ev.sz {n c : Int} {k : Nat} (h : Ev n k c) {d i : Nat} (hi : i < k) : szI n (evl n k c) d i = flI n k c ((i + d : Nat) : Int) - flI n k c (i : Int) := by
  have hk : (0 : Int) < k := by have := h.one; omega
  unfold szI
  rw [evl_length, evl_get n c (Nat.mod_lt _ (by omega)), evl_get n c hi]
  have e := Nat.mod_add_div (i + d) k
  generalize (i + d) % k = r at e ⊢
  generalize (i + d) / k = q at e ⊢
  rw [← e]
  have : flI n k c ((r + k * q : Nat) : Int) = flI n k c (r : Int) + n * q := by
    unfold flI
    rw [← Int.add_mul_ediv_left _ _ (show (k : Int) ≠ 0 by omega)]
    congr 1
    push_cast
    rw [Int.mul_add]
    have : n * ((k : Int) * (q : Int)) = k * (n * q) := by rw [← Int.mul_assoc, Int.mul_comm n, Int.mul_assoc]
    omega
  rw [this, Int.mul_comm n]
theorem Ev.sz_bnd {n c : Int} {k : Nat} (h : Ev n k c) {d i : Nat} (hi : i < k) : (n * d) / k ≤ szI n (evl n k c) d i ∧ szI n (evl n k c) d i ≤ (n * d) / k + 1 := by
  have hk : (0 : Int) < k := by have := h.one; omega
  rw [h.sz hi]
  have a1 := flI_low (n := n) (c := c) (i := (i : Int)) hk
  have a2 := flI_up (n := n) (c := c) (i := (i : Int)) hk
  have b1 := flI_low (n := n) (c := c) (i := ((i + d : Nat) : Int)) hk
  have b2 := flI_up (n := n) (c := c) (i := ((i + d : Nat) : Int)) hk
  have m1 : (k : Int) * ((n * d) / k) ≤ n * d := Int.mul_ediv_self_le (by omega)
  have m2 : n * d < k * ((n * d) / k) + k := Int.lt_mul_ediv_self_add hk
  have en : n * ((i + d : Nat) : Int) = n * (i : Int) + n * d := by push_cast; rw [Int.mul_add]
  rw [en] at b1 b2
  generalize flI n k c ((i + d : Nat) : Int) = F1 at b1 b2 ⊢
  generalize flI n k c (i : Int) = F0 at a1 a2 ⊢
  generalize (n * d) / (k : Int) = m at m1 m2 ⊢
  have c1 : F0 + m < F1 + 1 := mul_lt_cancel hk (by rw [Int.mul_add, Int.mul_add, Int.mul_one]; omega)
  have c2 : F1 < F0 + m + 1 + 1 := mul_lt_cancel hk (by rw [Int.mul_add, Int.mul_add, Int.mul_add, Int.mul_one]; omega)
  omega
/-- Such a set is maximally even. -/
theorem Ev.even {n c : Int} {k : Nat} (h : Ev n k c) : evW n (evl n k c) = none := by
  unfold evW
  refine List.findSome?_eq_none_iff.2 fun j hj => ?_
  have hj := List.mem_range.1 hj
  rw [evl_length] at hj
  have hlen : (PM.sz n (evl n k c) (j + 1)).length = k := by rw [sz_length, evl_length]
  have hget : ∀ i, i < k → (PM.sz n (evl n k c) (j + 1)).getD i 0 = szI n (evl n k c) (j + 1) i := fun i hi => by
    unfold PM.sz
    rw [List.getD_eq_getElem?_getD, List.getElem?_map, evl_length, List.getElem?_range hi]; rfl
  obtain ⟨⟨b1, b2⟩, b3, b4⟩ := mnF_bnd (s := PM.sz n (evl n k c) (j + 1)) (m := (n * ((j + 1 : Nat) : Int)) / k) (k - 1) (by rw [hlen]; omega) (fun i hi => by
    rw [hlen] at hi
    rw [hget i hi]
    exact h.sz_bnd hi)
  have hm1 := mulb (a := n) (b := ((j + 1 : Nat) : Int)) (by have := h.low; have := h.high; omega) (by have := h.le; have := h.high; omega)
  have hd : 0 ≤ (n * ((j + 1 : Nat) : Int)) / k ∧ (n * ((j + 1 : Nat) : Int)) / k ≤ n * ((j + 1 : Nat) : Int) :=
    ⟨Int.ediv_nonneg hm1.1 (by omega), Int.ediv_le_self _ hm1.1⟩
  unfold evS
  rw [evl_length]
  generalize mxF (PM.sz n (evl n k c) (j + 1)) (k - 1) = mx at b3 b4 ⊢
  generalize mnF (PM.sz n (evl n k c) (j + 1)) (k - 1) = mn at b1 b2 ⊢
  rw [wrap64 (by omega) (by omega), ltI_eq, decide_eq_false (by omega), cond_false]

/-- Moved. -/
theorem Ev.of_mod {n c : Int} {k : Nat} (h : Ev n k c) (y : Int) : Ev n k (y % n) :=
  have := emod_rng y (n := n) (by have := h.low; omega)
  ⟨h.low, h.high, h.one, h.le, this.1, this.2⟩
theorem Ev.moved {n c : Int} {k : Nat} (h : Ev n k c) (t : Int) : mv n (evl n k c) t = evl n k ((c + k * t) % n) := by
  have hn := h.low
  have hg := h.good
  have h' := h.of_mod (c + k * t)
  unfold mv
  refine srt_unique ?_ (h'.good.inc.imp fun h => by omega)
  have nd1 : (evl n k ((c + k * t) % n)).Nodup := h'.good.inc.imp fun h => by omega
  have nd2 : ((List.range (evl n k c).length).map (mvI n (evl n k c) t)).Nodup := by
    refine List.pairwise_map.2 (List.Pairwise.imp_of_mem (R := fun i j => i < j) ?_ List.pairwise_lt_range)
    intro i j hi hj hij he
    have hi := List.mem_range.1 hi
    have hj := List.mem_range.1 hj
    unfold mvI at he
    rw [Int.emod_add_cancel_right, Int.emod_eq_of_lt (hg.get hi).1 (hg.get hi).2, Int.emod_eq_of_lt (hg.get hj).1 (hg.get hj).2] at he
    have := hg.lt hij hj
    omega
  refine (List.perm_ext_iff_of_nodup nd1 nd2).2 fun x => ?_
  rw [h'.mem, List.mem_map]
  -- the two forms of the condition
  have key : ∀ y, (0 ≤ y ∧ y < n) → (0 ≤ x ∧ x < n) → x = (y + t) % n → ((c + k * t) % n - k * x) % n = (c - k * y) % n := by
    intro y hy hx hxy
    have e1 := Int.mul_ediv_add_emod (c + k * t) n
    have e2 := Int.mul_ediv_add_emod (y + t) n
    rw [← hxy] at e2
    generalize (c + k * t) / n = q1 at e1
    generalize (y + t) / n = q2 at e2
    refine emod_shift (q := k * q2 - q1) ?_
    have e3 : (k : Int) * (y + t) = k * (n * q2 + x) := by rw [e2]
    rw [Int.mul_add, Int.mul_add] at e3
    have e4 : n * ((k : Int) * q2 - q1) = k * (n * q2) - n * q1 := by
      rw [Int.mul_sub, ← Int.mul_assoc, Int.mul_comm n, Int.mul_assoc]
    omega
  constructor
  · rintro ⟨hx, hc⟩
    have hy := emod_rng (x - t) (n := n) (by omega)
    have hxy : x = ((x - t) % n + t) % n := by
      have e := Int.mul_ediv_add_emod (x - t) n
      rw [emod_uniq (y := (x - t) % n + t) (q := -((x - t) / n)) (r := x) (by rw [Int.mul_neg]; omega) hx]
    rw [key _ hy hx hxy] at hc
    have hm := (h.mem ((x - t) % n)).2 ⟨hy, hc⟩
    obtain ⟨i, hi, he⟩ := List.getElem_of_mem hm
    refine ⟨i, List.mem_range.2 hi, ?_⟩
    unfold mvI
    rw [List.getD_eq_getElem?_getD, List.getElem?_eq_getElem hi]
    show ((evl n k c)[i] + t) % n = x
    rw [he, ← hxy]
  · rintro ⟨i, hi, rfl⟩
    have hi := List.mem_range.1 hi
    have hx := emod_rng ((evl n k c).getD i 0 + t) (n := n) (by omega)
    refine ⟨hx, ?_⟩
    rw [key _ (hg.get hi) hx rfl]
    exact ((h.mem _).1 (getD_mem hi)).2
/-- Turned round. -/
theorem reflect {n k y : Int} (hk : 1 ≤ k ∧ k ≤ n) : y % n < k ↔ (k - 1 - y) % n < k := by
  have r := emod_rng y (n := n) (by omega)
  have e := Int.mul_ediv_add_emod y n
  generalize y / n = q at e
  by_cases h : y % n < k
  · rw [emod_uniq (y := k - 1 - y) (q := -q) (r := k - 1 - y % n) (by rw [Int.mul_neg]; omega) (by omega)]
    omega
  · rw [emod_uniq (y := k - 1 - y) (q := -q - 1) (r := k - 1 - y % n + n) (by rw [Int.mul_sub, Int.mul_neg, Int.mul_one]; omega) (by omega)]
    omega
theorem Ev.turned {n c : Int} {k : Nat} (h : Ev n k c) : inv n (evl n k c) = evl n k ((k - 1 - c) % n) := by
  have h' := h.of_mod (k - 1 - c)
  have hn := h.low
  refine incr_unique (inv_incr n _) h'.good.inc fun x => ?_
  rw [inv_mem, h'.mem]
  refine and_congr_right fun hx => ?_
  rw [h.mem]
  have hi := ivI_rng hx
  have e1 : (c - k * ivI n x) % n = (c + k * x) % n := by
    unfold ivI
    by_cases h0 : x = 0
    · rw [if_pos h0, h0]; simp
    · rw [if_neg h0]
      refine emod_shift (q := -(k : Int)) ?_
      rw [Int.mul_sub, Int.mul_neg, Int.mul_comm n]; omega
  have e2 : ((k - 1 - c) % n - k * x) % n = (k - 1 - (c + k * x)) % n := by
    have e := Int.mul_ediv_add_emod (k - 1 - c) n
    generalize ((k : Int) - 1 - c) / n = q at e
    refine emod_shift (q := -q) ?_
    rw [Int.mul_neg]; omega
  rw [e1, e2]
  constructor
  · rintro ⟨-, h2⟩
    exact (reflect ⟨by have := h.one; omega, h.le⟩).1 h2
  · intro h2
    exact ⟨hi, (reflect ⟨by have := h.one; omega, h.le⟩).2 h2⟩
theorem rst_mem {n : Int} {s : List Int} (x : Int) : x ∈ rst n s ↔ (0 ≤ x ∧ x < n) ∧ x ∉ s := by
  unfold rst
  rw [List.mem_map]
  constructor
  · rintro ⟨i, hi, rfl⟩
    obtain ⟨h1, h2⟩ := List.mem_filter.1 hi
    have := List.mem_range.1 h1
    exact ⟨by omega, by simpa using h2⟩
  · rintro ⟨h1, h2⟩
    refine ⟨x.toNat, List.mem_filter.2 ⟨List.mem_range.2 (by omega), ?_⟩, by omega⟩
    rw [Int.toNat_of_nonneg h1.1]; simpa using h2
theorem rst_incr (n : Int) (s : List Int) : (rst n s).Pairwise (· < ·) := by
  unfold rst
  refine List.pairwise_map.2 ((List.Pairwise.filter _ List.pairwise_lt_range).imp fun h => ?_)
  omega
theorem Ev.full {n c : Int} {k : Nat} (h : Ev n k c) (hk : (k : Int) = n) : rst n (evl n k c) = [] := by
  refine List.eq_nil_iff_forall_not_mem.2 fun x hx => ?_
  obtain ⟨h1, h2⟩ := (rst_mem x).1 hx
  refine h2 ((h.mem x).2 ⟨h1, ?_⟩)
  have := (emod_rng (c - k * x) (n := n) (by have := h.low; omega)).2
  omega
theorem Ev.rest {n c : Int} {k k' : Nat} (h : Ev n k c) (hk : (k : Int) + k' = n) (h1 : 1 ≤ k') : rst n (evl n k c) = evl n k' (n - 1 - c) := by
  have hn := h.low
  have hp := h.pos
  have hl := h.lt
  have h' : Ev n k' (n - 1 - c) := ⟨h.low, h.high, h1, by omega, by omega, by omega⟩
  refine incr_unique (rst_incr n _) h'.good.inc fun x => ?_
  rw [rst_mem, h'.mem]
  refine and_congr_right fun hx => ?_
  rw [h.mem]
  have hk0 := h.one
  -- at least k, then less than the rest
  have r := emod_rng (c - k * x) (n := n) (by omega)
  have e := Int.mul_ediv_add_emod (c - k * x) n
  have e1 : (n - 1 - c - k' * x) % n = ((k' : Int) - 1 - (c - k * x - k)) % n := by
    refine emod_shift (q := -x) ?_
    have : (k : Int) * x + k' * x = n * x := by rw [← Int.add_mul, hk]
    rw [Int.mul_neg]; omega
  rw [e1, ← reflect (n := n) (k := k') (y := c - k * x - k) ⟨by omega, by omega⟩]
  generalize (c - k * x) / n = q at e
  generalize hy : c - k * x = y at e r ⊢
  by_cases h2 : y % n < k
  · rw [emod_uniq (y := y - k) (q := q - 1) (r := y % n - k + n) (by rw [Int.mul_sub, Int.mul_one]; omega) (by omega)]
    constructor
    · intro h3; exact (h3 ⟨hx, h2⟩).elim
    · intro h3; omega
  · rw [emod_uniq (y := y - k) (q := q) (r := y % n - k) (by omega) (by omega)]
    constructor
    · intro _; omega
    · rintro _ ⟨-, h3⟩; exact h2 h3
theorem mkS_evl {n : Int} {k : Nat} {c : Int} (h : Ev n k c) : mkS n k c = evl n k c := by
  unfold mkS evl
  rw [Int.toNat_natCast]
  refine List.map_congr_left fun i _ => ?_
  unfold mkI flI
  rw [Int.tdiv_eq_ediv_of_nonneg]
  have := Int.mul_nonneg (show 0 ≤ n by have := h.low; omega) (show 0 ≤ (i : Int) by omega)
  have := h.pos
  omega
end Go.PM
