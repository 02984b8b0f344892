/- Chapter 35, plain law: EvennessMoves answers true. -/
import Derived.Test.YtdlckpedbmjnnaaEvJ
set_option linter.unusedSimpArgs false
set_option linter.unusedVariables false
namespace Go.PM
open Go Go.RowKit Go.Proofs
set_option maxRecDepth 100000

theorem emod_tmod (y : Int) {n : Int} (hn : 0 < n) : y % n = if y.tmod n < 0 then y.tmod n + n else y.tmod n := by
  have h1 := Int.tmod_lt_of_pos y hn
  have h2 := Int.lt_tmod_of_pos y hn
  have h3 : y % n = (y.tmod n) % n := by
    conv => lhs; rw [← Int.mul_tdiv_add_tmod y n]
    rw [Int.mul_add_emod_self_left]
  rw [h3]
  by_cases h : y.tmod n < 0
  · rw [if_pos h, ← Int.add_emod_right, Int.emod_eq_of_lt (by omega) (by omega)]
  · rw [if_neg h, Int.emod_eq_of_lt (by omega) h1]
/-- A set moved. -/
def mvI (n : Int) (s : List Int) (c : Int) (i : Nat) : Int := (s.getD i 0 + c) % n
def mv (n : Int) (s : List Int) (c : Int) : List Int := srt ((List.range s.length).map (mvI n s c))
theorem mv_length (n : Int) (s : List Int) (c : Int) : (mv n s c).length = s.length := by simp [mv, srt_length]
theorem emod_rng (y : Int) {n : Int} (hn : 0 < n) : 0 ≤ y % n ∧ y % n < n := ⟨Int.emod_nonneg _ (by omega), Int.emod_lt_of_pos _ hn⟩
theorem loop49_eq {n : Int} {s : List Int} (h : Good n s) {c : Int} (hc : -60 ≤ c ∧ c ≤ 60) : loop49s2c50i_0 (n, (c, ()), [], s, (s.length : Int), 0, ()) = some ((List.range s.length).map (mvI n s c), ()) := by
  have hk := h.len60
  have h60 := h.high
  have h1 := h.low
  refine loopN_all (N := 2 ^ 64) (step := step49s2c50i_0) (fun i => (n, (c, ()), (List.range i).map (mvI n s c), s, (s.length : Int), (i : Int), ())) s.length ((List.range s.length).map (mvI n s c), ()) (by omega) ?_ ?_
  · intro i hi
    have hx := h.get hi
    have hf : f50s1pi (s.getD i 0, c, ()) = some (s.getD i 0 + c, ()) := by unfold f50s1pi; dsimp only; rw [wrap64 (by omega) (by omega)]
    have ht := emod_tmod (s.getD i 0 + c) (show 0 < n by omega)
    have t1 := Int.tmod_lt_of_pos (s.getD i 0 + c) (show 0 < n by omega)
    have t2 := Int.lt_tmod_of_pos (s.getD i 0 + c) (show 0 < n by omega)
    simp only [step49s2c50i_0, ltI_eq, eqI_eq, idxOk_eq, nble_eq, cond_dec, Int.toNat_natCast, List.length_cons, List.length_nil, List.length_map, List.length_range]
    rw [if_pos (by omega), if_pos (by omega), hf, askO_s]
    dsimp only
    rw [if_neg (by omega), wrap64s i (by omega), range_map_succ]
    unfold mvI
    rw [ht]
    by_cases h2 : (s.getD i 0 + c).tmod n < 0
    · rw [if_pos h2, if_pos h2, if_pos (by omega), if_pos (by omega), wrap64 (by omega) (by omega)]
    · rw [if_neg h2, if_neg h2, if_pos (by omega), if_pos (by omega)]
  · simp only [step49s2c50i_0, ltI_eq, cond_dec]
    rw [if_neg (by omega)]
theorem f49a_eq {n : Int} {s : List Int} (h : Good n s) {c : Int} (hc : -60 ≤ c ∧ c ≤ 60) : f49s2c50i (n, s, (c, ()), ()) = some (mv n s c, ()) := by
  have hk := h.len60
  unfold f49s2c50i; dsimp only
  rw [loop49_eq h hc, askO_s, sortO_eq (by simp; omega), askO_s]; rfl
theorem f49b_eq {n : Int} {s : List Int} (h : Good n s) {c : Int} (hc : -60 ≤ c ∧ c ≤ 60) : f49s2c52i (n, s, (c, ()), ()) = some (mv n s c, ()) := f49a_eq h hc
theorem f23_good {n : Int} {s : List Int} (h : Good n s) (by' : Int) : f23 (n, s, by', ()) = some (mv n s (by'.tmod n), 0, ()) := by
  have hk := h.len60
  have h60 := h.high
  have h1 := h.low
  have t1 := Int.tmod_lt_of_pos by' (show 0 < n by omega)
  have t2 := Int.lt_tmod_of_pos by' (show 0 < n by omega)
  unfold f23; dsimp only
  rw [f37_eq n s (by omega), h.chk, askO_s]
  simp only [eqI_eq, not_dec, cond_dec]
  rw [if_neg (by simp), if_neg (by omega), f49a_eq h (by omega), askO_s]
theorem f34_eq {n : Int} {s : List Int} (h : Good n s) (by' : Int) : f34 (n, s, by', ()) = some (mv n s (by'.tmod n), ()) := by
  have hk := h.len60
  have h60 := h.high
  have h1 := h.low
  have t1 := Int.tmod_lt_of_pos by' (show 0 < n by omega)
  have t2 := Int.lt_tmod_of_pos by' (show 0 < n by omega)
  obtain ⟨c, hc⟩ : ∃ c, c = by'.tmod n := ⟨_, rfl⟩
  rw [← hc] at t1 t2 ⊢
  have hl : loop34_0 (n, by', [], s, (s.length : Int), 0, ()) = some ((List.range s.length).map (mvI n s c), ()) := by
    refine loopN_all (N := 2 ^ 64) (step := step34_0) (fun i => (n, by', (List.range i).map (mvI n s c), s, (s.length : Int), (i : Int), ())) s.length ((List.range s.length).map (mvI n s c), ()) (by omega) ?_ ?_
    · intro i hi
      have hx := h.get hi
      have u1 := Int.tmod_lt_of_pos (s.getD i 0 + c) (show 0 < n by omega)
      have u2 := Int.lt_tmod_of_pos (s.getD i 0 + c) (show 0 < n by omega)
      have e1 : (wrapF .i64 (((wrapF .i64 (s.getD i 0 + c)).tmod n) + n)).tmod n = mvI n s c i := by
        rw [wrap64 (x := s.getD i 0 + c) (by omega) (by omega), wrap64 (by omega) (by omega), Int.tmod_eq_emod_of_nonneg (by omega), Int.add_emod_right]
        unfold mvI
        conv => rhs; rw [← Int.mul_tdiv_add_tmod (s.getD i 0 + c) n]
        rw [Int.mul_add_emod_self_left]
      simp only [step34_0, ltI_eq, eqI_eq, idxOk_eq, nble_eq, cond_dec, Int.toNat_natCast, List.length_cons, List.length_nil, List.length_map, List.length_range, ← hc, e1]
      rw [if_pos (by omega), if_pos (by omega), if_neg (by omega), if_neg (by omega), if_neg (by omega), if_pos (by omega), if_pos (by omega), wrap64s i (by omega), range_map_succ]
    · simp only [step34_0, ltI_eq, cond_dec]
      rw [if_neg (by omega)]
  unfold f34; dsimp only
  rw [hl, askO_s, sortO_eq (by simp; omega), askO_s]; rfl

/-- All rotations, sorted, each once. -/
def rotI (n : Int) (s : List Int) (i : Nat) : List Int := mv n s (i : Int)
def rots (n : Int) (s : List Int) : List (List Int) := Lib.compact (srtB (fun x y => decide (cmpL x y < 0)) ((List.range n.toNat).map (rotI n s)))
theorem sortFO_eq {lt : List Int → List Int → Bool} {l : List (List Int)} (h0 : 0 < l.length) (hs : Short l) (h1 : l.length < 4611686018427387904) : sortFO (t := .int .i64) D64 lt l = some (srtB lt l) := by
  unfold sortFO
  have : (Nat.blt 0 l.length && Nat.blt l.length 4611686018427387904 && l.all D64) = true := by
    rw [nblt_eq, nblt_eq, decide_eq_true h0, decide_eq_true h1, Bool.true_and, Bool.true_and, List.all_eq_true]
    exact fun x hx => Nat.ble_eq_true_of_le (hs.2 x hx)
  have h2 : (bif Nat.blt 0 l.length && Nat.blt l.length 4611686018427387904 && l.all D64 then some (srtB lt l) else none) = some (srtB lt l) := by rw [this]; rfl
  exact h2
theorem short_sorted {lt : List Int → List Int → Bool} {l : List (List Int)} (hs : Short l) : Short (srtB lt l) :=
  ⟨by rw [srtB_length]; exact hs.1, fun x hx => hs.2 x ((srtB_perm l).mem_iff.1 hx)⟩
theorem short_rot {n : Int} {s : List Int} (h : Good n s) (m : Nat) (hm : m ≤ 60) : Short ((List.range m).map (rotI n s)) := by
  refine ⟨by simp; omega, fun x hx => ?_⟩
  obtain ⟨i, -, rfl⟩ := List.mem_map.1 hx
  unfold rotI
  rw [mv_length]
  have := h.len60; omega
theorem f25r_good {n : Int} {s : List Int} (h : Good n s) : f25r (n, s, ()) = some (rots n s, 0, ()) := by
  have hk := h.len60
  have h60 := h.high
  have h1 := h.low
  obtain ⟨m, hm⟩ : ∃ m : Nat, n = (m : Int) := ⟨n.toNat, by omega⟩
  have hl : loop25r_0 (n, s, [], n, 0, ()) = some ((List.range m).map (rotI n s), ()) := by
    refine loopN_all (N := 2 ^ 64) (step := step25r_0) (fun i => (n, s, (List.range i).map (rotI n s), n, (i : Int), ())) m ((List.range m).map (rotI n s), ()) (by omega) ?_ ?_
    · intro i hi
      simp only [step25r_0]
      rw [ltI_eq, decide_eq_true (by omega), cond_true, f49b_eq h (by omega), askO_s]
      simp only [nble_eq, cond_dec, List.length_cons, List.length_nil, List.length_map, List.length_range]
      rw [if_pos (by omega), if_pos (by omega), wrap64s i (by omega), range_map_succ]; rfl
    · simp only [step25r_0]
      rw [ltI_eq, decide_eq_false (by omega), cond_false]
  have hsh := short_rot h m (by omega)
  unfold f25r; dsimp only
  rw [f37_eq n s (by omega), h.chk, askO_s]
  simp only [eqI_eq, not_dec, cond_dec]
  rw [if_neg (by simp), hl, askO_s, sortFO_eq (by simp; omega) hsh (by simp; omega), askO_s, f47_eq (short_sorted hsh), askO_s]
  unfold rots
  rw [hm, Int.toNat_natCast]
theorem f35_eq {n : Int} {s : List Int} (h : Good n s) : f35 (n, s, ()) = some (rots n s, ()) := by
  have hk := h.len60
  have h60 := h.high
  have h1 := h.low
  obtain ⟨m, hm⟩ : ∃ m : Nat, n = (m : Int) := ⟨n.toNat, by omega⟩
  have hl : loop35_0 (n, s, [], n, 0, ()) = some ((List.range m).map (rotI n s), ()) := by
    refine loopN_all (N := 2 ^ 64) (step := step35_0) (fun i => (n, s, (List.range i).map (rotI n s), n, (i : Int), ())) m ((List.range m).map (rotI n s), ()) (by omega) ?_ ?_
    · intro i hi
      simp only [step35_0]
      have : (i : Int).tmod n = (i : Int) := Int.tmod_eq_of_lt (by omega) (by omega)
      rw [ltI_eq, decide_eq_true (by omega), cond_true, f34_eq h, askO_s, this]
      simp only [nble_eq, cond_dec, List.length_cons, List.length_nil, List.length_map, List.length_range]
      rw [if_pos (by omega), if_pos (by omega), wrap64s i (by omega), range_map_succ]; rfl
    · simp only [step35_0]
      rw [ltI_eq, decide_eq_false (by omega), cond_false]
  have hsh := short_rot h m (by omega)
  unfold f35; dsimp only
  rw [hl, askO_s]
  unfold f22t; dsimp only
  rw [sortFO_eq (by simp; omega) hsh (by simp; omega), askO_s, f47_same, f47_eq (short_sorted hsh), askO_s, askO_s]
  unfold rots
  rw [hm, Int.toNat_natCast]
/-- same -/
theorem f21_refl (l : List (List Int)) (hs : Short l) : f21 (l, l, ()) = some (true, ()) := by
  have h1 := hs.1
  have hl : loop42s2f43_0 (l, (), l, (l.length : Int), 0, ()) = some (.inr ()) := by
    refine loopN_all (N := 2 ^ 64) (step := step42s2f43_0) (fun i => (l, (), l, (l.length : Int), (i : Int), ())) l.length (.inr ()) (by omega) ?_ ?_
    · intro i hi
      have : f43 (l.getD i [], l.getD i [], ()) = some (true, ()) := by
        unfold f43; dsimp only
        rw [f14_eq _ _ (hs.2 _ (getDL_mem hi)), askO_s, decide_eq_true rfl]
      simp only [step42s2f43_0]
      rw [ltI_eq, decide_eq_true (by omega), cond_true, idxOk_eq, decide_eq_true (by omega), cond_true, cond_true, Int.toNat_natCast, this, askO_s, wrap64s i (by omega)]; rfl
    · simp only [step42s2f43_0]
      rw [ltI_eq, decide_eq_false (by omega), cond_false]
  unfold f21; dsimp only
  have : f42s2f43 (l, l, (), ()) = some (true, ()) := by
    unfold f42s2f43; dsimp only
    rw [eqI_eq, decide_eq_true rfl]
    simp only [Bool.not_true, cond_false]
    rw [hl]; rfl
  rw [this, askO_s]
theorem short_compact {l : List (List Int)} (hs : Short l) : Short (Lib.compact l) := by
  refine ⟨Nat.le_trans (Lib.compact_length_le l) hs.1, fun x hx => ?_⟩
  unfold Lib.compact Lib.compactUpTo at hx
  obtain ⟨i, hi, rfl⟩ := List.mem_map.1 hx
  have hlt := List.mem_range.1 (List.mem_filter.1 hi).1
  rw [getDL_arr hlt]
  exact hs.2 _ (getDL_mem hlt)
theorem short_rots {n : Int} {s : List Int} (h : Good n s) : Short (rots n s) :=
  short_compact (short_sorted (short_rot h n.toNat (by have := h.high; omega)))

/-- The other notes, and the inverse. -/
def rst (n : Int) (s : List Int) : List Int := ((List.range n.toNat).filter fun i : Nat => !decide ((i : Int) ∈ s)).map fun i : Nat => (i : Int)
def rstTo (s : List Int) (i : Nat) : List Int := ((List.range i).filter fun i : Nat => !decide ((i : Int) ∈ s)).map fun i : Nat => (i : Int)
theorem rstTo_succ (s : List Int) (i : Nat) : rstTo s (i + 1) = if (i : Int) ∈ s then rstTo s i else rstTo s i ++ [(i : Int)] := by
  unfold rstTo
  rw [List.range_succ, List.filter_append, List.map_append]
  by_cases h : (i : Int) ∈ s <;> simp [h]
theorem rstTo_length (s : List Int) (i : Nat) : (rstTo s i).length ≤ i := by
  unfold rstTo; rw [List.length_map]; exact Nat.le_trans (List.length_filter_le _ _) (by simp)
theorem f26_good {n : Int} {s : List Int} (h : Good n s) : f26 (n, s, ()) = if rst n s = [] then some ([], 13, ()) else some (rst n s, (0 : Int), ()) := by
  have hk := h.len60
  have h60 := h.high
  have h1 := h.low
  obtain ⟨m, hm⟩ : ∃ m : Nat, n = (m : Int) := ⟨n.toNat, by omega⟩
  have hl : loop26_0 (s, [], n, 0, ()) = some (rstTo s m, ()) := by
    refine loopN_all (N := 2 ^ 64) (step := step26_0) (fun i => (s, rstTo s i, n, (i : Int), ())) m (rstTo s m, ()) (by omega) ?_ ?_
    · intro i hi
      have hr := rstTo_length s i
      simp only [step26_0]
      rw [ltI_eq, decide_eq_true (by omega), cond_true, f33_eq _ _ (by omega), askO_s, cond_dec, wrap64s i (by omega), rstTo_succ]
      by_cases hx : (i : Int) ∈ s
      · rw [if_pos hx, if_pos hx]
      · rw [if_neg hx, if_neg hx]
        simp only [nble_eq, cond_dec, List.length_cons, List.length_nil]
        rw [if_pos (by omega), if_pos (by omega)]
    · simp only [step26_0]
      rw [ltI_eq, decide_eq_false (by omega), cond_false]
  have e : rstTo s m = rst n s := by unfold rstTo rst; rw [hm, Int.toNat_natCast]
  unfold f26; dsimp only
  rw [f37_eq n s (by omega), h.chk, askO_s]
  simp only [eqI_eq, not_dec, cond_dec]
  rw [if_neg (by simp), hl, askO_s, e]
  dsimp only
  by_cases hx : rst n s = []
  · rw [if_pos hx, hx]; rfl
  · rw [if_neg hx, if_neg]
    intro h0
    exact hx (List.eq_nil_of_length_eq_zero (by omega))
def ivI (n : Int) (x : Int) : Int := if x = 0 then 0 else n - x
theorem ivI_emod {n x : Int} (hx : 0 ≤ x ∧ x < n) : (0 - x) % n = ivI n x := by
  unfold ivI
  by_cases h : x = 0
  · subst h; rw [if_pos rfl]; simp
  · rw [if_neg h, ← Int.add_emod_right, Int.emod_eq_of_lt (by omega) (by omega)]; omega
theorem ivI_tmod {n x : Int} (hx : 0 ≤ x ∧ x < n) : (n - x).tmod n = ivI n x := by
  unfold ivI
  by_cases h : x = 0
  · subst h; rw [if_pos rfl, Int.sub_zero, Int.tmod_self]
  · rw [if_neg h, Int.tmod_eq_of_lt (by omega) (by omega)]
theorem ivI_rng {n x : Int} (hx : 0 ≤ x ∧ x < n) : 0 ≤ ivI n x ∧ ivI n x < n := by unfold ivI; split <;> omega
theorem ivI_ivI {n x : Int} (hx : 0 ≤ x ∧ x < n) : ivI n (ivI n x) = x := by unfold ivI; split <;> split <;> omega
def inv (n : Int) (s : List Int) : List Int := ((List.range n.toNat).filter fun i : Nat => decide (ivI n (i : Int) ∈ s)).map fun i : Nat => (i : Int)
def invTo (n : Int) (s : List Int) (i : Nat) : List Int := ((List.range i).filter fun i : Nat => decide (ivI n (i : Int) ∈ s)).map fun i : Nat => (i : Int)
theorem invTo_succ (n : Int) (s : List Int) (i : Nat) : invTo n s (i + 1) = if ivI n (i : Int) ∈ s then invTo n s i ++ [(i : Int)] else invTo n s i := by
  unfold invTo
  rw [List.range_succ, List.filter_append, List.map_append]
  by_cases h : ivI n (i : Int) ∈ s <;> simp [h]
theorem invTo_length (n : Int) (s : List Int) (i : Nat) : (invTo n s i).length ≤ i := by
  unfold invTo; rw [List.length_map]; exact Nat.le_trans (List.length_filter_le _ _) (by simp)
theorem inv_incr (n : Int) (s : List Int) : (inv n s).Pairwise (· < ·) := by
  unfold inv
  refine List.pairwise_map.2 ((List.Pairwise.filter _ List.pairwise_lt_range).imp fun h => ?_)
  omega
theorem inv_mem {n : Int} {s : List Int} (x : Int) : x ∈ inv n s ↔ (0 ≤ x ∧ x < n) ∧ ivI n x ∈ s := by
  unfold inv
  rw [List.mem_map]
  constructor
  · rintro ⟨i, hi, rfl⟩
    obtain ⟨h1, h2⟩ := List.mem_filter.1 hi
    have := List.mem_range.1 h1
    exact ⟨by omega, by simpa using h2⟩
  · rintro ⟨h1, h2⟩
    refine ⟨x.toNat, List.mem_filter.2 ⟨List.mem_range.2 (by omega), ?_⟩, by omega⟩
    rw [Int.toNat_of_nonneg h1.1]; simpa using h2
/-- The inverse, as the program makes it. -/
def ngI (n : Int) (s : List Int) (i : Nat) : Int := (0 - s.getD i 0) % n
theorem srt_ng {n : Int} {s : List Int} (h : Good n s) : srt ((List.range s.length).map (ngI n s)) = inv n s := by
  refine srt_unique ?_ ((inv_incr n s).imp fun h => by omega)
  have nd1 : (inv n s).Nodup := (inv_incr n s).imp fun h => by omega
  have hng : ∀ i, i < s.length → ngI n s i = ivI n (s.getD i 0) := fun i hi => ivI_emod (h.get hi)
  have nd2 : ((List.range s.length).map (ngI n s)).Nodup := by
    refine List.pairwise_map.2 (List.Pairwise.imp_of_mem (R := fun i j => i < j) ?_ List.pairwise_lt_range)
    intro i j hi hj hij
    have hi := List.mem_range.1 hi
    have hj := List.mem_range.1 hj
    rw [hng i hi, hng j hj]
    intro he
    have := h.lt hij hj
    have e1 := ivI_ivI (h.get hi)
    rw [he, ivI_ivI (h.get hj)] at e1
    omega
  refine (List.perm_ext_iff_of_nodup nd1 nd2).2 fun x => ?_
  rw [inv_mem, List.mem_map]
  constructor
  · rintro ⟨h1, h2⟩
    obtain ⟨i, hi, he⟩ := List.getElem_of_mem h2
    refine ⟨i, List.mem_range.2 hi, ?_⟩
    rw [hng i hi, List.getD_eq_getElem?_getD, List.getElem?_eq_getElem hi]
    show ivI n s[i] = x
    rw [he, ivI_ivI h1]
  · rintro ⟨i, hi, rfl⟩
    have hi := List.mem_range.1 hi
    rw [hng i hi]
    exact ⟨ivI_rng (h.get hi), by rw [ivI_ivI (h.get hi)]; exact getD_mem hi⟩
theorem f24_good {n : Int} {s : List Int} (h : Good n s) : f24 (n, s, ()) = some (inv n s, 0, ()) := by
  have hk := h.len60
  have h60 := h.high
  have h1 := h.low
  have hl : loop49s2f51_0 (n, (), [], s, (s.length : Int), 0, ()) = some ((List.range s.length).map (ngI n s), ()) := by
    refine loopN_all (N := 2 ^ 64) (step := step49s2f51_0) (fun i => (n, (), (List.range i).map (ngI n s), s, (s.length : Int), (i : Int), ())) s.length ((List.range s.length).map (ngI n s), ()) (by omega) ?_ ?_
    · intro i hi
      have hx := h.get hi
      have hf : f51 (s.getD i 0, ()) = some (0 - s.getD i 0, ()) := by unfold f51; dsimp only; rw [wrap64' (by omega) (by omega)]
      have ht := emod_tmod (0 - s.getD i 0) (show 0 < n by omega)
      have t1 := Int.tmod_lt_of_pos (0 - s.getD i 0) (show 0 < n by omega)
      have t2 := Int.lt_tmod_of_pos (0 - s.getD i 0) (show 0 < n by omega)
      simp only [step49s2f51_0, ltI_eq, eqI_eq, idxOk_eq, nble_eq, cond_dec, Int.toNat_natCast, List.length_cons, List.length_nil, List.length_map, List.length_range]
      rw [if_pos (by omega), if_pos (by omega), hf, askO_s]
      dsimp only
      rw [if_neg (by omega), wrap64s i (by omega), range_map_succ]
      unfold ngI
      rw [ht]
      by_cases h2 : (0 - s.getD i 0).tmod n < 0
      · rw [if_pos h2, if_pos h2, if_pos (by omega), if_pos (by omega), wrap64 (by omega) (by omega)]
      · rw [if_neg h2, if_neg h2, if_pos (by omega), if_pos (by omega)]
    · simp only [step49s2f51_0, ltI_eq, cond_dec]
      rw [if_neg (by omega)]
  unfold f24; dsimp only
  rw [f37_eq n s (by omega), h.chk, askO_s]
  simp only [eqI_eq, not_dec, cond_dec]
  rw [if_neg (by simp)]
  unfold f49s2f51; dsimp only
  rw [hl, askO_s, sortO_eq (by simp; omega), askO_s, askO_s, srt_ng h]
theorem loop10_eq {n : Int} {s : List Int} (h : Good n s) (c : Int) (a3 : List Int) (e3 : Int) (a4 : List (List Int)) (e4 : Int) (a5 : List Int) (e5 : Int) (a6 : List Int) (e6 : Int) :
    loop10_0 (c, n, s, a3, e3, a4, e4, a5, e5, a6, e6, [], [], n, 0, ()) = some (c, n, s, a3, e3, a4, e4, a5, e5, a6, e6, rst n s, inv n s, ()) := by
  have hk := h.len60
  have h60 := h.high
  have h1 := h.low
  obtain ⟨m, hm⟩ : ∃ m : Nat, n = (m : Int) := ⟨n.toNat, by omega⟩
  have er : rstTo s m = rst n s := by unfold rstTo rst; rw [hm, Int.toNat_natCast]
  have ei : invTo n s m = inv n s := by unfold invTo inv; rw [hm, Int.toNat_natCast]
  rw [← er, ← ei]
  refine loopN_all (N := 2 ^ 64) (step := step10_0) (fun i => (c, n, s, a3, e3, a4, e4, a5, e5, a6, e6, rstTo s i, invTo n s i, n, (i : Int), ())) m (c, n, s, a3, e3, a4, e4, a5, e5, a6, e6, rstTo s m, invTo n s m, ()) (by omega) ?_ ?_
  · intro i hi
    have hr := rstTo_length s i
    have hv := invTo_length n s i
    have hw : (wrapF .i64 (n - (i : Int))).tmod n = ivI n (i : Int) := by rw [wrap64 (by omega) (by omega)]; exact ivI_tmod (by omega)
    simp only [step10_0, hw]
    rw [ltI_eq, decide_eq_true (by omega), cond_true, f33_eq _ _ (by omega), askO_s, f33_eq _ _ (by omega)]
    simp only [askO_s, cond_dec, nble_eq, eqI_eq, List.length_cons, List.length_nil]
    rw [wrap64s i (by omega), rstTo_succ, invTo_succ]
    have q1 : (0 + 1 ≤ 1048576) := by omega
    have q2 : (invTo n s i).length ≤ 1048576 := by omega
    have q3 : (rstTo s i).length ≤ 1048576 := by omega
    have q4 : ¬ n = 0 := by omega
    simp only [if_pos q1, if_pos q2, if_pos q3, if_neg q4]
    by_cases hx : (i : Int) ∈ s
    · simp only [if_pos hx]
      by_cases hy : ivI n (i : Int) ∈ s
      · simp only [if_pos hy]
      · simp only [if_neg hy]
    · simp only [if_neg hx]
      by_cases hy : ivI n (i : Int) ∈ s
      · simp only [if_pos hy]
      · simp only [if_neg hy]
  · simp only [step10_0]
    rw [ltI_eq, decide_eq_false (by omega), cond_false]
theorem f10_true (a b c : Int) (ha : 0 ≤ a) : f10 ((a, b), c, ()) = some (true, ()) := by
  obtain ⟨n, s, h1, h, hn⟩ := f17_eq a b ha
  have hk := h.len60
  have h60 := h.high
  unfold f10; dsimp only
  rw [f12_true, askO_s]
  simp only [cond_true]
  rw [h1, askO_s]
  dsimp only
  rw [f23_good h, askO_s, f25r_good h, askO_s, f26_good h, f24_good h]
  have hrl : (rst n s).length ≤ 60 := by
    unfold rst; rw [List.length_map]
    have := List.length_filter_le (fun i : Nat => !decide ((i : Int) ∈ s)) (List.range n.toNat)
    rw [List.length_range] at this; omega
  have hil : (inv n s).length ≤ 60 := by
    unfold inv; rw [List.length_map]
    have := List.length_filter_le (fun i : Nat => decide (ivI n (i : Int) ∈ s)) (List.range n.toNat)
    rw [List.length_range] at this; omega
  have he0 : (!(eqI 0 0)) = false := rfl
  have e00 : eqI 0 0 = true := rfl
  by_cases hr : rst n s = []
  · rw [if_pos hr, askO_s, askO_s]
    dsimp only
    rw [loop10_eq h, askO_s]
    dsimp only
    rw [he0]
    simp only [cond_false]
    rw [f34_eq h, askO_s, f14_eq _ _ (by rw [mv_length]; omega), askO_s, decide_eq_true rfl]
    simp only [cond_true]
    rw [f35_eq h, askO_s, f21_refl _ (short_rots h), askO_s]
    simp only [cond_true]
    rw [f14_eq _ _ (by omega), askO_s, decide_eq_true rfl]
    simp only [cond_true]
    rw [hr]; rfl
  · rw [if_neg hr, askO_s, askO_s]
    dsimp only
    rw [loop10_eq h, askO_s]
    dsimp only
    rw [he0]
    simp only [cond_false]
    rw [f34_eq h, askO_s, f14_eq _ _ (by rw [mv_length]; omega), askO_s, decide_eq_true rfl]
    simp only [cond_true]
    rw [f35_eq h, askO_s, f21_refl _ (short_rots h), askO_s]
    simp only [cond_true]
    rw [f14_eq _ _ (by omega), askO_s, decide_eq_true rfl]
    simp only [cond_true]
    have : ¬ ((rst n s).length : Int) = 0 := fun e => hr (List.eq_nil_of_length_eq_zero (by omega))
    rw [eqI_eq, decide_eq_false this, cond_false, e00, cond_true, f14_eq _ _ (by omega), askO_s, decide_eq_true rfl]
end Go.PM
