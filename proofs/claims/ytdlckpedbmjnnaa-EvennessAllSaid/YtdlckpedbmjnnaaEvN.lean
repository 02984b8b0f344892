/- Chapter 35, plain law: Make, Generated, sizes, the described sets. -/
import Derived.Test.YtdlckpedbmjnnaaEvM
set_option linter.unusedSimpArgs false
set_option linter.unusedVariables false
namespace Go.PM
open Go Go.RowKit Go.Proofs
set_option maxRecDepth 100000

theorem mulb {a b : Int} (ha : 0 ≤ a ∧ a ≤ 60) (hb : 0 ≤ b ∧ b ≤ 60) : 0 ≤ a * b ∧ a * b ≤ 3600 :=
  ⟨Int.mul_nonneg ha.1 hb.1, Int.mul_le_mul ha.2 hb.2 hb.1 (by omega)⟩
theorem tdivb {x k : Int} (hx : 0 ≤ x) (hk : 0 < k) : 0 ≤ x.tdiv k ∧ x.tdiv k ≤ x := by
  rw [Int.tdiv_eq_ediv_of_nonneg hx]
  exact ⟨Int.ediv_nonneg hx (by omega), Int.ediv_le_self _ hx⟩
theorem tmodb {x k : Int} (hx : 0 ≤ x) (hk : 0 < k) : 0 ≤ x.tmod k ∧ x.tmod k < k := by
  rw [Int.tmod_eq_emod_of_nonneg hx]
  exact ⟨Int.emod_nonneg _ (by omega), Int.emod_lt_of_pos _ hk⟩
theorem range_map_succ {α : Type} (f : Nat → α) (i : Nat) : (List.range (i + 1)).map f = (List.range i).map f ++ [f i] := by
  rw [List.range_succ, List.map_append]; rfl

/-- Make -/
def mkI (n k s : Int) (i : Nat) : Int := (n * i + s).tdiv k
def mkS (n k s : Int) : List Int := (List.range k.toNat).map (mkI n k s)
theorem mk_wrap {n k s : Int} (hn : 1 ≤ n ∧ n ≤ 60) (hk : 1 ≤ k ∧ k ≤ n) (hs : 0 ≤ s ∧ s < k) {i : Nat} (hi : (i : Int) < k) :
    wrapF .i64 ((wrapF .i64 ((wrapF .i64 (n * (i : Int))) + s)).tdiv k) = mkI n k s i := by
  have h1 := mulb (a := n) (b := (i : Int)) (by omega) (by omega)
  rw [wrap64 (x := n * (i : Int)) (by omega) (by omega), wrap64 (x := n * (i : Int) + s) (by omega) (by omega)]
  have h2 := tdivb (x := n * (i : Int) + s) (k := k) (by omega) (by omega)
  rw [wrap64 (by omega) (by omega)]; rfl
theorem loop13_eq {n k s : Int} (hn : 1 ≤ n ∧ n ≤ 60) (hk : 1 ≤ k ∧ k ≤ n) (hs : 0 ≤ s ∧ s < k) : loop13_0 (n, k, s, [], k, 0, ()) = some (mkS n k s, ()) := by
  refine loopN_all (N := 2 ^ 64) (step := step13_0) (fun i => (n, k, s, (List.range i).map (mkI n k s), k, (i : Int), ())) k.toNat (mkS n k s, ()) (by omega) ?_ ?_
  · intro i hi
    simp only [step13_0, ltI_eq, eqI_eq, nble_eq, cond_dec, List.length_map, List.length_range, List.length_cons, List.length_nil]
    rw [if_pos (by omega), if_neg (by omega), if_pos (by omega), if_pos (by omega), mk_wrap hn hk hs (by omega), wrap64s i (by omega), range_map_succ]
  · simp only [step13_0, ltI_eq, cond_dec]
    rw [if_neg (by omega)]; rfl
theorem loop3_eq {n k s : Int} (a : List Int) (e : Int) (hn : 1 ≤ n ∧ n ≤ 60) (hk : 1 ≤ k ∧ k ≤ n) (hs : 0 ≤ s ∧ s < k) : loop3_0 (n, k, s, a, e, [], k, 0, ()) = some (a, e, mkS n k s, ()) := by
  refine loopN_all (N := 2 ^ 64) (step := step3_0) (fun i => (n, k, s, a, e, (List.range i).map (mkI n k s), k, (i : Int), ())) k.toNat (a, e, mkS n k s, ()) (by omega) ?_ ?_
  · intro i hi
    simp only [step3_0, ltI_eq, eqI_eq, nble_eq, cond_dec, List.length_map, List.length_range, List.length_cons, List.length_nil]
    rw [if_pos (by omega), if_neg (by omega), if_pos (by omega), if_pos (by omega), mk_wrap hn hk hs (by omega), wrap64s i (by omega), range_map_succ]
  · simp only [step3_0, ltI_eq, cond_dec]
    rw [if_neg (by omega)]; rfl
def badMk (n k s : Int) : Prop := n < 1 ∨ 60 < n ∨ k < 1 ∨ n < k ∨ s < 0 ∨ ¬ s < k
theorem f13_bad {n k s : Int} (h : badMk n k s) : f13 (n, k, s, ()) = some ([], 3, ()) := by
  unfold f13; dsimp only
  rw [f38_eq, askO_s]
  simp only [eqI_eq, ltI_eq, not_dec, cond_dec]
  unfold badMk at h
  by_cases h1 : n < 1 ∨ 60 < n
  · rw [if_pos h1]; rfl
  · rw [if_neg h1, if_neg (by simp)]
    by_cases h2 : k < 1
    · rw [if_pos h2]
    rw [if_neg h2]
    by_cases h3 : n < k
    · rw [if_pos h3]
    rw [if_neg h3]
    by_cases h4 : s < 0
    · rw [if_pos h4]
    rw [if_neg h4, if_pos (by omega)]
theorem f13_good {n k s : Int} (hn : 1 ≤ n ∧ n ≤ 60) (hk : 1 ≤ k ∧ k ≤ n) (hs : 0 ≤ s ∧ s < k) : f13 (n, k, s, ()) = some (mkS n k s, 0, ()) := by
  unfold f13; dsimp only
  rw [f38_eq, askO_s]
  simp only [eqI_eq, ltI_eq, not_dec, cond_dec]
  rw [if_neg (c := n < 1 ∨ 60 < n) (by omega), if_neg (by simp), if_neg (by omega), if_neg (by omega), if_neg (by omega), if_neg (by omega), loop13_eq hn hk hs, askO_s]
theorem mkS_length (n k s : Int) : (mkS n k s).length = k.toNat := by simp [mkS]

/-- Generated -/
def gx (n g st : Int) (i : Nat) : Int := (st + i * g).tmod n
def gdup (n g st : Int) (i : Nat) : Prop := gx n g st i ∈ (List.range i).map (gx n g st)
instance (n g st : Int) : DecidablePred (gdup n g st) := fun i => inferInstanceAs (Decidable (_ ∈ _))
def gen (n g : Int) (k : Nat) (st : Int) : Option (List Int) := match (List.range k).find? (fun i => decide (gdup n g st i)) with
  | some _ => none
  | none => some (srt ((List.range k).map (gx n g st)))
theorem gx_wrap {n g st : Int} (hn : 1 ≤ n ∧ n ≤ 60) (hg : 0 ≤ g ∧ g < n) (hs : 0 ≤ st ∧ st < n) {i : Nat} (hi : i ≤ 60) :
    (wrapF .i64 (st + (wrapF .i64 ((i : Int) * g)))).tmod n = gx n g st i := by
  have h1 := mulb (a := (i : Int)) (b := g) (by omega) (by omega)
  rw [wrap64 (x := (i : Int) * g) (by omega) (by omega), wrap64 (by omega) (by omega)]; rfl
theorem loop15_eq {n g st : Int} {k : Nat} (hn : 1 ≤ n ∧ n ≤ 60) (hk : k ≤ 60) (hg : 0 ≤ g ∧ g < n) (hs : 0 ≤ st ∧ st < n) :
    loop15_0 (n, g, st, [], (k : Int), 0, ()) = some (match (List.range k).find? (fun i => decide (gdup n g st i)) with | some _ => .inl ([], 14, ()) | none => .inr ((List.range k).map (gx n g st), ())) := by
  have := loopN_find (N := 2 ^ 64) (step := step15_0) (fun i => (n, g, st, (List.range i).map (gx n g st), (k : Int), (i : Int), ())) (fun i => if gdup n g st i then some (.inl ([], 14, ())) else none) k (.inr ((List.range k).map (gx n g st), ())) (by omega) (by
    intro i hi
    simp only [step15_0, ltI_eq, eqI_eq, nble_eq, cond_dec, List.length_map, List.length_range, List.length_cons, List.length_nil]
    rw [if_pos (by omega), if_neg (by omega), gx_wrap hn hg hs (by omega), f33_eq _ _ (by simp; omega), askO_s, cond_dec]
    by_cases h : gdup n g st i
    · rw [if_pos h]
      unfold gdup at h
      rw [if_pos h]
    · rw [if_neg h]
      unfold gdup at h
      rw [if_neg h, if_pos (by omega), if_pos (by omega), wrap64s i (by omega), range_map_succ]) (by
    simp only [step15_0, ltI_eq, cond_dec]
    rw [if_neg (by omega)])
  rw [findSome_if (gdup n g st)] at this
  refine Eq.trans this ?_
  cases (List.range k).find? (fun i => decide (gdup n g st i)) <;> rfl
theorem loop16_eq {n g st : Int} {k : Nat} (hn : 1 ≤ n ∧ n ≤ 60) (hk : k ≤ 60) (hg : 0 ≤ g ∧ g < n) (hs : 0 ≤ st ∧ st < n) :
    loop16_0 (n, g, st, [], (k : Int), 0, ()) = some (match (List.range k).find? (fun i => decide (gdup n g st i)) with | some _ => .inl ([], false, ()) | none => .inr ((List.range k).map (gx n g st), ())) := by
  have := loopN_find (N := 2 ^ 64) (step := step16_0) (fun i => (n, g, st, (List.range i).map (gx n g st), (k : Int), (i : Int), ())) (fun i => if gdup n g st i then some (.inl ([], false, ())) else none) k (.inr ((List.range k).map (gx n g st), ())) (by omega) (by
    intro i hi
    simp only [step16_0, ltI_eq, eqI_eq, nble_eq, cond_dec, List.length_map, List.length_range, List.length_cons, List.length_nil]
    rw [if_pos (by omega), if_neg (by omega), gx_wrap hn hg hs (by omega), f33_eq _ _ (by simp; omega), askO_s, cond_dec]
    by_cases h : gdup n g st i
    · rw [if_pos h]
      unfold gdup at h
      rw [if_pos h]
    · rw [if_neg h]
      unfold gdup at h
      rw [if_neg h, if_pos (by omega), if_pos (by omega), wrap64s i (by omega), range_map_succ]) (by
    simp only [step16_0, ltI_eq, cond_dec]
    rw [if_neg (by omega)])
  rw [findSome_if (gdup n g st)] at this
  refine Eq.trans this ?_
  cases (List.range k).find? (fun i => decide (gdup n g st i)) <;> rfl
theorem sortO_eq {l : List Int} (h : l.length < 4611686018427387904) : sortO l = some (srt l) := by
  unfold sortO; rw [nblt_eq, decide_eq_true h]; rfl
def badGen (n g k st : Int) : Prop := n < 1 ∨ 60 < n ∨ k < 1 ∨ n < k ∨ g < 0 ∨ ¬ g < n ∨ st < 0 ∨ ¬ st < n
theorem f15_bad {n g k st : Int} (h : badGen n g k st) : f15 (n, g, k, st, ()) = some ([], 3, ()) := by
  unfold f15; dsimp only
  rw [f38_eq, askO_s]
  simp only [eqI_eq, ltI_eq, not_dec, cond_dec]
  unfold badGen at h
  by_cases h1 : n < 1 ∨ 60 < n
  · rw [if_pos h1]; rfl
  rw [if_neg h1, if_neg (by simp)]
  by_cases h2 : k < 1
  · rw [if_pos h2]
  rw [if_neg h2]
  by_cases h3 : n < k
  · rw [if_pos h3]
  rw [if_neg h3]
  by_cases h4 : g < 0
  · rw [if_pos h4]
  rw [if_neg h4]
  by_cases h5 : ¬ g < n
  · rw [if_pos h5]
  rw [if_neg h5]
  by_cases h6 : st < 0
  · rw [if_pos h6]
  rw [if_neg h6, if_pos (by omega)]
theorem f15_good {n g st : Int} {k : Nat} (hn : 1 ≤ n ∧ n ≤ 60) (hk : 1 ≤ k ∧ (k : Int) ≤ n) (hg : 0 ≤ g ∧ g < n) (hs : 0 ≤ st ∧ st < n) :
    f15 (n, g, (k : Int), st, ()) = some (match gen n g k st with | some l => (l, 0, ()) | none => ([], 14, ())) := by
  unfold f15; dsimp only
  rw [f38_eq, askO_s]
  simp only [eqI_eq, ltI_eq, not_dec, cond_dec]
  rw [if_neg (c := n < 1 ∨ 60 < n) (by omega), if_neg (by simp), if_neg (by omega), if_neg (by omega), if_neg (by omega), if_neg (by omega), if_neg (by omega), if_neg (by omega), loop15_eq hn (by omega) hg hs, askO_s]
  unfold gen
  cases (List.range k).find? (fun i => decide (gdup n g st i)) with
  | some i => rfl
  | none =>
    simp only [onSum_inr]
    rw [sortO_eq (by simp; omega)]; rfl
theorem f16_good {n g st : Int} {k : Nat} (hn : 1 ≤ n ∧ n ≤ 60) (hk : 1 ≤ k ∧ (k : Int) ≤ n) (hg : 0 ≤ g ∧ g < n) (hs : 0 ≤ st ∧ st < n) :
    f16 (n, g, (k : Int), st, ()) = some (match gen n g k st with | some l => (l, true, ()) | none => ([], false, ())) := by
  unfold f16; dsimp only
  rw [loop16_eq hn (by omega) hg hs, askO_s]
  unfold gen
  cases (List.range k).find? (fun i => decide (gdup n g st i)) with
  | some i => rfl
  | none =>
    simp only [onSum_inr]
    rw [sortO_eq (by simp; omega)]; rfl
theorem gen_length {n g st : Int} {k : Nat} {l : List Int} (h : gen n g k st = some l) : l.length = k := by
  unfold gen at h
  split at h
  · cases h
  · cases h; simp [srt_length]

/-- A described set. -/
def bitB (b : Int) (i : Nat) : Bool := eqI (IntKind.wrap .u16 (((BitVec.ofInt (IntKind.bits .u16) (Int.fdiv b (2 ^ (min i (IntKind.bits .u16))))) &&& (BitVec.ofInt (IntKind.bits .u16) 1)).toNat : Int)) 1
def bits (b : Int) (i : Nat) : List Int := ((List.range i).filter (bitB b)).map fun j : Nat => (j : Int)
theorem bits_succ (b : Int) (i : Nat) : bits b (i + 1) = bif bitB b i then bits b i ++ [(i : Int)] else bits b i := by
  unfold bits
  rw [List.range_succ, List.filter_append, List.map_append]
  cases h : bitB b i <;> simp [h]
theorem bits_length (b : Int) (i : Nat) : (bits b i).length ≤ i := by
  unfold bits
  rw [List.length_map]
  exact Nat.le_trans (List.length_filter_le _ _) (by simp)
theorem f17_eq (a b : Int) (ha : 0 ≤ a) : ∃ n s, f17 ((a, b), ()) = some (n, s, ()) ∧ Good n s ∧ n ≤ 14 := by
  have h1 := tmodb (x := a) (k := 14) ha (by omega)
  obtain ⟨m, hw, hm1, hm2⟩ : ∃ m : Nat, wrapF .i64 (1 + (IntKind.wrap .i64 (a.tmod 14))) = (m : Int) ∧ 1 ≤ m ∧ m ≤ 14 := by
    generalize a.tmod 14 = r at h1
    refine ⟨(1 + r).toNat, ?_, by omega, by omega⟩
    rw [wrap64' (by omega) (by omega), wrap64 (by omega) (by omega)]; omega
  clear h1
  have hl : loop17_0 ((a, b), (m : Int), [], (m : Int), 0, ()) = some ((m : Int), bits b m, ()) := by
    refine loopN_all (N := 2 ^ 64) (step := step17_0) (fun i => ((a, b), (m : Int), bits b i, (m : Int), (i : Int), ())) m ((m : Int), bits b m, ()) (by omega) ?_ ?_
    · intro i hi
      have := bits_length b i
      simp only [step17_0, ltI_eq, nble_eq, cond_dec, List.length_cons, List.length_nil, Int.toNat_natCast]
      rw [if_pos (by omega), if_neg (by omega), wrap64s i (by omega), bits_succ]
      show (bif bitB b i then _ else _) = _
      cases bitB b i with
      | true =>
        simp only [cond_true]
        rw [if_pos (by omega), if_pos (by omega)]
      | false => rfl
    · simp only [step17_0, ltI_eq, cond_dec]
      rw [if_neg (by omega)]
  have hb : Good (m : Int) (bits b m) ∨ bits b m = [] := by
    by_cases h0 : bits b m = []
    · exact .inr h0
    · refine .inl ⟨by omega, by omega, h0, ?_, ?_⟩
      · unfold bits
        refine List.pairwise_map.2 ((List.Pairwise.filter _ List.pairwise_lt_range).imp fun h => ?_)
        omega
      · intro x hx
        unfold bits at hx
        obtain ⟨j, hj, rfl⟩ := List.mem_map.1 hx
        have := List.mem_range.1 (List.mem_filter.1 hj).1
        omega
  unfold f17; dsimp only
  rw [hw, hl, askO_s]
  simp only [eqI_eq, cond_dec]
  rcases hb with hb | hb
  · have hne : ¬ ((bits b m).length : Int) = 0 := by have := hb.pos; omega
    rw [if_neg hne]
    exact ⟨(m : Int), bits b m, rfl, hb, (by omega : (m : Int) ≤ 14)⟩
  · rw [hb, if_pos (by simp)]
    refine ⟨(m : Int), [0], rfl, ⟨by omega, by omega, by simp, by simp, ?_⟩, (by omega : (m : Int) ≤ 14)⟩
    intro x hx
    simp at hx; omega

/-- sizes -/
def szI (n : Int) (s : List Int) (d : Nat) (i : Nat) : Int := s.getD ((i + d) % s.length) 0 + ((i + d) / s.length : Nat) * n - s.getD i 0
def sz (n : Int) (s : List Int) (d : Nat) : List Int := (List.range s.length).map (szI n s d)
theorem sz_wrap {n : Int} {s : List Int} (h : Good n s) {d i : Nat} (hd : d ≤ s.length) (hi : i < s.length) :
    (wrapF .i64 ((i : Int) + (d : Int))).tmod (s.length : Int) = ((i + d) % s.length : Nat) ∧ wrapF .i64 ((wrapF .i64 ((s.getD ((i + d) % s.length) 0) + (wrapF .i64 ((wrapF .i64 ((wrapF .i64 ((i : Int) + (d : Int))).tdiv (s.length : Int))) * n)))) - (s.getD i 0)) = szI n s d i := by
  have hk := h.len60
  have hp := h.pos
  have e0 : wrapF .i64 ((i : Int) + (d : Int)) = ((i + d : Nat) : Int) := by rw [wrap64 (by omega) (by omega)]; omega
  have e1 : (((i + d : Nat) : Int)).tmod (s.length : Int) = ((i + d) % s.length : Nat) := by rw [Int.tmod_eq_emod_of_nonneg (by omega)]; rfl
  have e2 : (((i + d : Nat) : Int)).tdiv (s.length : Int) = ((i + d) / s.length : Nat) := by rw [Int.tdiv_eq_ediv_of_nonneg (by omega)]; rfl
  have hq : (i + d) / s.length ≤ 1 := by
    have : (i + d) / s.length < 2 := Nat.div_lt_of_lt_mul (by omega)
    omega
  have hm := h.get (Nat.mod_lt (i + d) hp)
  have hi' := h.get hi
  have h60 := h.high
  have hmul : 0 ≤ (((i + d) / s.length : Nat) : Int) * n ∧ (((i + d) / s.length : Nat) : Int) * n ≤ 3600 := by
    generalize (i + d) / s.length = q at hq ⊢
    exact mulb (by omega) (by have := h.low; omega)
  refine ⟨by rw [e0, e1], ?_⟩
  rw [e0, e2]
  unfold szI
  generalize (i + d) / s.length = q at hq hmul ⊢
  generalize s.getD ((i + d) % s.length) 0 = u at hm ⊢
  generalize s.getD i 0 = v at hi' ⊢
  rw [wrap64 (x := (q : Int)) (by omega) (by omega), wrap64 (x := (q : Int) * n) (by omega) (by omega), wrap64 (x := u + (q : Int) * n) (by omega) (by omega), wrap64 (by omega) (by omega)]
theorem loop53_eq {n : Int} {s : List Int} (h : Good n s) {d : Nat} (hd : d ≤ s.length) : loop53_0 (n, s, (d : Int), [], s, (s.length : Int), 0, ()) = some (sz n s d, ()) := by
  have hk := h.len60
  have hp := h.pos
  refine loopN_all (N := 2 ^ 64) (step := step53_0) (fun i => (n, s, (d : Int), (List.range i).map (szI n s d), s, (s.length : Int), (i : Int), ())) s.length (sz n s d, ()) (by omega) ?_ ?_
  · intro i hi
    obtain ⟨w1, w2⟩ := sz_wrap h hd hi
    have hm := Nat.mod_lt (i + d) hp
    simp only [step53_0, ltI_eq, eqI_eq, nble_eq, idxOk_eq, cond_dec, List.length_map, List.length_range, List.length_cons, List.length_nil, w1, Int.toNat_natCast, w2]
    rw [if_pos (by omega), if_pos (by omega), if_neg (by omega), if_pos (by omega), if_neg (by omega), if_pos (by omega), if_pos (by omega), wrap64s i (by omega), range_map_succ]
  · simp only [step53_0, ltI_eq, cond_dec]
    rw [if_neg (by omega)]; rfl
theorem loop30_eq {n : Int} {s : List Int} (h : Good n s) {d : Nat} (hd : d ≤ s.length) : loop30_0 (n, s, (d : Int), [], (s.length : Int), (s.length : Int), 0, ()) = some (sz n s d, ()) := by
  have hk := h.len60
  have hp := h.pos
  refine loopN_all (N := 2 ^ 64) (step := step30_0) (fun i => (n, s, (d : Int), (List.range i).map (szI n s d), (s.length : Int), (s.length : Int), (i : Int), ())) s.length (sz n s d, ()) (by omega) ?_ ?_
  · intro i hi
    obtain ⟨w1, w2⟩ := sz_wrap h hd hi
    have hm := Nat.mod_lt (i + d) hp
    simp only [step30_0, ltI_eq, eqI_eq, nble_eq, idxOk_eq, cond_dec, List.length_map, List.length_range, List.length_cons, List.length_nil, w1, Int.toNat_natCast, w2]
    rw [if_pos (by omega), if_neg (by omega), if_pos (by omega), if_neg (by omega), if_pos (by omega), if_pos (by omega), if_pos (by omega), wrap64s i (by omega), range_map_succ]
  · simp only [step30_0, ltI_eq, cond_dec]
    rw [if_neg (by omega)]; rfl
theorem sz_length (n : Int) (s : List Int) (d : Nat) : (sz n s d).length = s.length := by simp [sz]
theorem f53_eq {n : Int} {s : List Int} (h : Good n s) {d : Nat} (hd : d ≤ s.length) : f53 (n, s, (d : Int), ()) = some (sz n s d, ()) := by
  unfold f53; dsimp only
  rw [loop53_eq h hd, askO_s]
theorem f53o_eq {n : Int} {s : List Int} (h : Good n s) {d : Nat} (hd : d ≤ s.length) : f53o (n, s, (d : Int), ()) = some (sz n s d) := by
  unfold f53o; dsimp only
  have : loop53o_0 (n, s, (d : Int), [], s, (s.length : Int), 0, ()) = some (sz n s d, ()) := loop53_eq h hd
  rw [this, askO_s]
theorem f30_eq {n : Int} {s : List Int} (h : Good n s) {d : Nat} (hd : d ≤ s.length) : f30 (n, s, (d : Int), ()) = some (sz n s d, ()) := by
  unfold f30; dsimp only
  rw [loop30_eq h hd, askO_s]
theorem f30o_eq {n : Int} {s : List Int} (h : Good n s) {d : Nat} (hd : d ≤ s.length) : f30o (n, s, (d : Int), ()) = some (sz n s d) := by
  unfold f30o; dsimp only
  have : loop30o_0 (n, s, (d : Int), [], (s.length : Int), (s.length : Int), 0, ()) = some (sz n s d, ()) := loop30_eq h hd
  rw [this, askO_s]
end Go.PM
