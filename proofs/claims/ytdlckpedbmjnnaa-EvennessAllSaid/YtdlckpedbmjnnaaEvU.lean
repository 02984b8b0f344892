/- Chapter 35, plain law: EvennessKeeps answers true. -/
import Derived.Test.YtdlckpedbmjnnaaEvT
import Derived.Test.YtdlckpedbmjnnaaEvIa
set_option linter.unusedSimpArgs false
set_option linter.unusedVariables false
namespace Go.PM
open Go Go.RowKit Go.Proofs
set_option maxRecDepth 100000

theorem least {P : Nat → Prop} : ∀ n, P n → ∃ m, P m ∧ ∀ k, k < m → ¬ P k := by
  intro n
  induction n using Nat.strongRecOn with
  | ind n ih =>
    intro h
    by_cases hk : ∃ k, k < n ∧ P k
    · obtain ⟨k, h1, h2⟩ := hk
      exact ih k h1 h2
    · exact ⟨n, h, fun k hk1 hk2 => hk ⟨k, hk1, hk2⟩⟩
/-- What comes back after n steps comes back first after a divisor of n. -/
theorem period {α : Type} (f : Nat → α) (g : α → α) (hf : ∀ b, f (b + 1) = g (f b)) (n : Nat) (hn : 0 < n) (h0 : f n = f 0) : ∃ p, 0 < p ∧ p ∣ n ∧ (∀ b, f b = f (b % p)) ∧ ∀ b c, b < c → c < p → f b ≠ f c := by
  obtain ⟨p, ⟨hp, hp0⟩, hmin⟩ := least (P := fun m => 0 < m ∧ f m = f 0) n ⟨hn, h0⟩
  have shift : ∀ m b c, f b = f c → f (b + m) = f (c + m) := by
    intro m
    induction m with
    | zero => intro b c h; exact h
    | succ m ih => intro b c h; rw [← Nat.add_assoc, ← Nat.add_assoc, hf, hf, ih b c h]
  have hmod : ∀ b, f b = f (b % p) := by
    intro b
    induction b using Nat.strongRecOn with
    | ind b ih =>
      by_cases h : b < p
      · rw [Nat.mod_eq_of_lt h]
      · have h1 := shift (b - p) p 0 hp0
        rw [show p + (b - p) = b by omega, Nat.zero_add] at h1
        rw [h1, ih (b - p) (by omega)]
        congr 1
        exact (Nat.mod_eq_sub_mod (by omega)).symm
  refine ⟨p, hp, ?_, hmod, ?_⟩
  · refine Nat.dvd_of_mod_eq_zero ?_
    have hlt := Nat.mod_lt n hp
    by_cases h : n % p = 0
    · exact h
    · have := hmod n
      rw [h0] at this
      exact (hmin (n % p) hlt ⟨by omega, this.symm⟩).elim
  · intro b c hb hc he
    have h1 := shift (p - c) b c he
    rw [show c + (p - c) = p by omega, hp0] at h1
    exact hmin (b + (p - c)) (by omega) ⟨by omega, h1⟩
theorem arrL_get {l : List (List Int)} {i : Nat} (h : i < l.length) : l.toArray[i]! = l[i] := by
  rw [getElem!_pos l.toArray i (by simpa using h)]; simp
theorem cmp_mem (l : List (List Int)) (x : List Int) : x ∈ Lib.compact l ↔ x ∈ l := by
  constructor
  · intro h
    unfold Lib.compact Lib.compactUpTo at h
    obtain ⟨i, hi, rfl⟩ := List.mem_map.1 h
    have hl := List.mem_range.1 (List.mem_filter.1 hi).1
    rw [arrL_get hl]; exact List.getElem_mem hl
  · intro h
    obtain ⟨i, hi, rfl⟩ := List.getElem_of_mem h
    have key : ∀ i (hi : i < l.length), l[i] ∈ Lib.compact l := by
      intro i
      induction i with
      | zero =>
        intro hi
        unfold Lib.compact Lib.compactUpTo
        refine List.mem_map.2 ⟨0, List.mem_filter.2 ⟨List.mem_range.2 hi, by simp [Lib.keeps]⟩, arrL_get hi⟩
      | succ i ih =>
        intro hi
        by_cases he : l[i + 1] = l[i]'(by omega)
        · rw [he]; exact ih (by omega)
        · unfold Lib.compact Lib.compactUpTo
          refine List.mem_map.2 ⟨i + 1, List.mem_filter.2 ⟨List.mem_range.2 hi, ?_⟩, arrL_get hi⟩
          refine Lib.keeps_pos ?_
          rw [arrL_get hi, Nat.add_sub_cancel, arrL_get (by omega)]; exact he
    exact key i hi
theorem cmp_nodup {l : List (List Int)} (h : l.Pairwise (fun a b => decide (cmpL b a < 0) = false)) : (Lib.compact l).Nodup := by
  unfold Lib.compact Lib.compactUpTo
  refine List.pairwise_map.2 ?_
  have hp : ((List.range l.length).filter (Lib.keeps l.toArray)).Pairwise fun i j => i < j := List.Pairwise.filter _ List.pairwise_lt_range
  refine List.Pairwise.imp_of_mem ?_ hp
  intro i j hi hj hij he
  obtain ⟨hi1, hi2⟩ := List.mem_filter.1 hi
  obtain ⟨hj1, hj2⟩ := List.mem_filter.1 hj
  have hi1 := List.mem_range.1 hi1
  have hj1 := List.mem_range.1 hj1
  simp only [Lib.keeps, decide_eq_true_eq] at hj2
  have h2 : l.toArray[j]! ≠ l.toArray[j - 1]! := by
    rcases hj2 with h2 | h2
    · omega
    · exact h2
  rw [arrL_get hj1, arrL_get (i := j - 1) (by omega)] at h2
  rw [arrL_get hi1, arrL_get hj1] at he
  have ord : ∀ i j (hij : i < j) (hj : j < l.length), ¬ cmpL l[j] (l[i]'(by omega)) < 0 := fun i j hij hj => by
    have := List.pairwise_iff_getElem.1 h i j (by omega) hj hij
    simpa using this
  have a1 := ord (j - 1) j (by omega) hj1
  have a2 : cmpL (l[j - 1]'(by omega)) l[j] < 0 := by
    by_cases h3 : cmpL (l[j - 1]'(by omega)) l[j] < 0
    · exact h3
    · exact (h2 (cmpL_zero a1 h3)).elim
  rcases Nat.lt_or_ge i (j - 1) with h3 | h3
  · have a3 := ord i (j - 1) h3 (by omega)
    rw [he] at a3
    exact a3 a2
  · have : i = j - 1 := by omega
    subst this
    exact h2 he.symm
/-- How many rotations there are. -/
theorem Ev.rots {n c : Int} {k : Nat} (h : Ev n k c) : ∃ p : Nat, 0 < p ∧ p ∣ n.toNat ∧ (PM.rots n (evl n k c)).length = p := by
  have hn := h.low
  have hf : ∀ b, rotI n (evl n k c) (b + 1) = mv n (rotI n (evl n k c) b) 1 := by
    intro b
    unfold rotI
    rw [h.moved, h.moved, (h.of_mod _).moved]
    congr 1
    have e := Int.mul_ediv_add_emod (c + k * (b : Int)) n
    generalize (c + k * (b : Int)) / n = q at e
    refine emod_shift (q := q) ?_
    push_cast
    rw [Int.mul_add]; omega
  obtain ⟨m, hm⟩ : ∃ m : Nat, n = (m : Int) := ⟨n.toNat, by omega⟩
  have h0 : rotI n (evl n k c) m = rotI n (evl n k c) 0 := by
    unfold rotI
    rw [h.moved, h.moved]
    congr 1
    refine emod_shift (q := k) ?_
    rw [← hm, Int.mul_comm]; simp
  obtain ⟨p, hp, hdvd, hmod, hne⟩ := period (rotI n (evl n k c)) (fun l => mv n l 1) hf m (by omega) h0
  refine ⟨p, hp, by rw [hm, Int.toNat_natCast]; exact hdvd, ?_⟩
  have hle := Nat.le_of_dvd (by omega) hdvd
  have hsh := short_rot h.good m (by have := h.high; omega)
  have nd1 : (PM.rots n (evl n k c)).Nodup := by
    unfold PM.rots
    refine cmp_nodup (srtB_sorted lo46 _ fun x hx => ?_)
    obtain ⟨b, hb, rfl⟩ := List.mem_map.1 hx
    unfold rotI D64
    rw [mv_length, evl_length]
    exact Nat.ble_eq_true_of_le (by have := h.le; have := h.high; omega)
  have nd2 : ((List.range p).map (rotI n (evl n k c))).Nodup := by
    refine List.pairwise_map.2 (List.Pairwise.imp_of_mem (R := fun i j => i < j) ?_ List.pairwise_lt_range)
    intro i j hi hj hij
    exact hne i j hij (List.mem_range.1 hj)
  have hperm : List.Perm (PM.rots n (evl n k c)) ((List.range p).map (rotI n (evl n k c))) := by
    refine (List.perm_ext_iff_of_nodup nd1 nd2).2 fun x => ?_
    unfold PM.rots
    rw [cmp_mem, (srtB_perm _).mem_iff, List.mem_map, List.mem_map]
    constructor
    · rintro ⟨b, -, rfl⟩
      exact ⟨b % p, List.mem_range.2 (Nat.mod_lt _ hp), (hmod b).symm⟩
    · rintro ⟨b, hb, rfl⟩
      have := List.mem_range.1 hb
      exact ⟨b, List.mem_range.2 (by omega), rfl⟩
  rw [hperm.length_eq]; simp
theorem loop7_eq {n : Int} {l : List (List Int)} (hl : l.length ≤ 10) (h : ∀ x ∈ l, ∃ (k : Nat) (c : Int), Ev n k c ∧ x = evl n k c) : loop7_0 (n, l, (l.length : Int), 0, ()) = some (.inr ()) := by
  refine loopN_all (N := 2 ^ 64) (step := step7_0) (fun i => (n, l, (l.length : Int), (i : Int), ())) l.length (.inr ()) (by omega) ?_ ?_
  · intro i hi
    obtain ⟨k, c, hE, he⟩ := h _ (getDL_mem hi)
    have hf : f27 (n, l.getD i [], ()) = some (true, (0, (0, 0)), 0, ()) := by rw [he, f27_good hE.good, hE.even]
    simp only [step7_0]
    rw [ltI_eq, decide_eq_true (by omega), cond_true, idxOk_eq, decide_eq_true (by omega), cond_true, Int.toNat_natCast, hf, askO_s, wrap64s i (by omega)]; rfl
  · simp only [step7_0]
    rw [ltI_eq, decide_eq_false (by omega), cond_false]
theorem f7_true (x y z : Int) (hx : 0 ≤ x ∧ x ≤ 255) (hy : 0 ≤ y ∧ y ≤ 255) (hz : 0 ≤ z ∧ z ≤ 255) : f7 (x, y, z, ()) = some (true, ()) := by
  obtain ⟨n, hw1, hn⟩ : ∃ n : Int, wrapF .i64 (1 + (IntKind.wrap .i64 (x.tmod 30))) = n ∧ 1 ≤ n ∧ n ≤ 30 := by
    have h1 := tmodb (x := x) (k := 30) hx.1 (by omega)
    generalize x.tmod 30 = r at h1
    exact ⟨1 + r, by rw [wrap64' (by omega) (by omega), wrap64 (by omega) (by omega)], by omega, by omega⟩
  obtain ⟨k, hw2, hk⟩ : ∃ k : Nat, wrapF .i64 (1 + (y.tmod n)) = (k : Int) ∧ 1 ≤ k ∧ (k : Int) ≤ n := by
    have h1 := tmodb (x := y) (k := n) hy.1 (by omega)
    generalize y.tmod n = r at h1
    exact ⟨(1 + r).toNat, by rw [wrap64 (by omega) (by omega)]; omega, by omega, by omega⟩
  have hc := tmodb (x := z) (k := (k : Int)) hz.1 (by omega)
  obtain ⟨c, hcE⟩ : ∃ c, c = z.tmod (k : Int) := ⟨_, rfl⟩
  have hE : Ev n k c := ⟨by omega, by omega, by omega, by omega, by omega, by omega⟩
  obtain ⟨p, hp, hdvd, hrl⟩ := hE.rots
  have hE2 := hE.of_mod (c + k * (z.tmod n))
  have hE3 := hE.of_mod (k - 1 - c)
  unfold f7; dsimp only
  rw [f12_true, askO_s]
  simp only [cond_true]
  rw [hw1, wrap64' (x := y) (by omega) (by omega), hw2, wrap64' (x := z) (by omega) (by omega), ← hcE]
  have en : eqI n 0 = false := by rw [eqI_eq, decide_eq_false (by omega)]
  have ek : eqI (k : Int) 0 = false := by rw [eqI_eq, decide_eq_false (by omega)]
  have e00 : eqI 0 0 = true := rfl
  rw [en, ek, cond_false, cond_false, f13_good (by omega) (by omega) (by omega), askO_s, mkS_evl hE]
  dsimp only
  rw [e00]
  simp only [Bool.not_true, cond_false]
  rw [f23_good hE.good, askO_s, f24_good hE.good, askO_s, f25r_good hE.good, askO_s, hE.moved, hE.turned]
  dsimp only
  rw [e00, hrl]
  simp only [Bool.not_true, cond_false]
  have ep : eqI (p : Int) 0 = false := by rw [eqI_eq, decide_eq_false (by omega)]
  have ed : eqI (n.tmod (p : Int)) 0 = true := by
    rw [eqI_eq, decide_eq_true]
    obtain ⟨q, hq⟩ := hdvd
    have : n = (p : Int) * q := by have : n = ((n.toNat : Nat) : Int) := by omega
                                   rw [this, hq]; push_cast; rfl
    rw [this, Int.mul_tmod_right]
  rw [ep, ed]
  simp only [Bool.not_true, cond_false]
  rw [f26_good hE.good]
  by_cases hkn : (k : Int) = n
  · rw [if_pos (hE.full hkn), askO_s]
    dsimp only
    have e13 : eqI 13 0 = false := rfl
    have e14 : eqI 13 13 = true := rfl
    have ekn : eqI (k : Int) n = true := by rw [eqI_eq, decide_eq_true hkn]
    rw [e13, e14, ekn]
    simp only [Bool.not_true, cond_false]
    rw [loop7_eq (by simp) (by
      intro x hx
      simp only [List.mem_cons, List.not_mem_nil, or_false] at hx
      rcases hx with rfl | rfl | rfl
      · exact ⟨k, _, hE, rfl⟩
      · exact ⟨k, _, hE2, rfl⟩
      · exact ⟨k, _, hE3, rfl⟩)]
    rfl
  · obtain ⟨k', hk'⟩ : ∃ k' : Nat, (k : Int) + k' = n := ⟨(n - k).toNat, by omega⟩
    have hr := hE.rest hk' (by omega)
    have hE4 : Ev n k' (n - 1 - c) := ⟨by omega, by omega, by omega, by omega, by omega, by omega⟩
    rw [hr, if_neg hE4.good.some, askO_s]
    dsimp only
    rw [e00]
    simp only [cond_true]
    have b1 : Nat.ble [evl n k' (n - 1 - c)].length 1048576 = true := rfl
    have b2 : Nat.ble [evl n k c, evl n k ((c + k * z.tmod n) % n), evl n k ((k - 1 - c) % n)].length 1048576 = true := rfl
    have b3 : Nat.blt 3 ([evl n k c, evl n k ((c + k * z.tmod n) % n), evl n k ((k - 1 - c) % n)].length + [evl n k' (n - 1 - c)].length) = true := rfl
    rw [b1, b2, b3]
    simp only [cond_true]
    rw [loop7_eq (by simp) (by
      intro x hx
      simp only [List.mem_append, List.mem_cons, List.not_mem_nil, or_false] at hx
      rcases hx with (rfl | rfl | rfl) | rfl
      · exact ⟨k, _, hE, rfl⟩
      · exact ⟨k, _, hE2, rfl⟩
      · exact ⟨k, _, hE3, rfl⟩
      · exact ⟨k', _, hE4, rfl⟩)]
    rfl
end Go.PM
