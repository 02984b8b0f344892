/- Chapter 35, plain law: each maximally even set is one of floors; EvennessAll answers true. -/
import Derived.Test.YtdlckpedbmjnnaaEvU
set_option linter.unusedSimpArgs false
set_option linter.unusedVariables false
namespace Go.PM
open Go Go.RowKit Go.Proofs
set_option maxRecDepth 100000

def sumTo (f : Nat → Int) : Nat → Int
  | 0 => 0
  | m + 1 => sumTo f m + f m
theorem sumTo_congr {f g : Nat → Int} : ∀ m, (∀ i, i < m → f i = g i) → sumTo f m = sumTo g m
  | 0, _ => rfl
  | m + 1, h => by rw [sumTo, sumTo, sumTo_congr m fun i hi => h i (by omega), h m (by omega)]
theorem sumTo_add (f g : Nat → Int) : ∀ m, sumTo (fun i => f i + g i) m = sumTo f m + sumTo g m
  | 0 => rfl
  | m + 1 => by rw [sumTo, sumTo, sumTo, sumTo_add f g m]; omega
theorem sumTo_tele (g : Nat → Int) : ∀ m, sumTo (fun i => g (i + 1) - g i) m = g m - g 0
  | 0 => by rw [sumTo]; omega
  | m + 1 => by rw [sumTo, sumTo_tele g m]; omega
theorem sumTo_ge {f : Nat → Int} {b : Int} : ∀ m, (∀ i, i < m → b ≤ f i) → (m : Int) * b ≤ sumTo f m ∧ ((∃ i, i < m ∧ b < f i) → (m : Int) * b < sumTo f m)
  | 0, _ => by rw [sumTo]; exact ⟨by omega, by rintro ⟨i, hi, _⟩; omega⟩
  | m + 1, h => by
    obtain ⟨h1, h2⟩ := sumTo_ge m fun i hi => h i (by omega)
    have h3 := h m (by omega)
    have e : ((m + 1 : Nat) : Int) * b = m * b + b := by push_cast; rw [Int.add_mul, Int.one_mul]
    rw [sumTo, e]
    refine ⟨by omega, ?_⟩
    rintro ⟨i, hi, hlt⟩
    by_cases hm : i = m
    · subst hm; omega
    · have := h2 ⟨i, by omega, hlt⟩; omega
theorem sumTo_neg (f : Nat → Int) : ∀ m, sumTo (fun i => -f i) m = -sumTo f m
  | 0 => rfl
  | m + 1 => by rw [sumTo, sumTo, sumTo_neg f m]; omega
theorem sumTo_le {f : Nat → Int} {b : Int} (m : Nat) (h : ∀ i, i < m → f i ≤ b) (hs : ∃ i, i < m ∧ f i < b) : sumTo f m < m * b := by
  obtain ⟨i, hi, hlt⟩ := hs
  have := (sumTo_ge (f := fun i => -f i) (b := -b) m (fun i hi => by have := h i hi; omega)).2 ⟨i, hi, by omega⟩
  rw [sumTo_neg, Int.mul_neg] at this
  omega
theorem exists_max (f : Nat → Int) : ∀ k, 0 < k → ∃ i, i < k ∧ ∀ j, j < k → f j ≤ f i
  | 0, h => by omega
  | 1, _ => ⟨0, by omega, fun j hj => by have : j = 0 := by omega
                                         subst this; exact Int.le_refl _⟩
  | k + 2, _ => by
    obtain ⟨i, hi, h⟩ := exists_max f (k + 1) (by omega)
    by_cases hc : f i ≤ f (k + 1)
    · refine ⟨k + 1, by omega, fun j hj => ?_⟩
      by_cases hj' : j = k + 1
      · subst hj'; exact Int.le_refl _
      · have := h j (by omega); omega
    · refine ⟨i, by omega, fun j hj => ?_⟩
      by_cases hj' : j = k + 1
      · subst hj'; omega
      · exact h j (by omega)
theorem mnF_in {s : List Int} {lo hi : Int} : ∀ j, j < s.length → (∀ i, i < s.length → lo ≤ s.getD i 0 ∧ s.getD i 0 ≤ hi) → ((lo ≤ mnF s j ∧ mnF s j ≤ hi) ∧ lo ≤ mxF s j ∧ mxF s j ≤ hi) ∧ ∀ i, i ≤ j → mnF s j ≤ s.getD i 0 ∧ s.getD i 0 ≤ mxF s j
  | 0, hj, h => ⟨⟨h 0 hj, h 0 hj⟩, fun i hi => by have : i = 0 := by omega
                                                  subst this; exact ⟨Int.le_refl _, Int.le_refl _⟩⟩
  | j + 1, hj, h => by
    obtain ⟨ih1, ih2⟩ := mnF_in j (by omega) h
    have h1 := h (j + 1) hj
    unfold mnF mxF
    refine ⟨⟨?_, ?_⟩, fun i hi => ?_⟩
    · split <;> omega
    · split <;> omega
    · by_cases hi' : i = j + 1
      · subst hi'
        constructor
        · split <;> omega
        · split <;> omega
      · have := ih2 i (by omega)
        constructor
        · split <;> omega
        · split <;> omega
/-- The notes, going on from octave to octave. -/
def ext (n : Int) (s : List Int) (i : Nat) : Int := s.getD (i % s.length) 0 + ((i / s.length : Nat) : Int) * n
theorem ext_lt {n : Int} {s : List Int} {i : Nat} (h : i < s.length) : ext n s i = s.getD i 0 := by
  unfold ext; rw [Nat.mod_eq_of_lt h, Nat.div_eq_of_lt h]; simp
theorem ext_add {n : Int} {s : List Int} (h : 0 < s.length) (i : Nat) : ext n s (i + s.length) = ext n s i + n := by
  unfold ext
  rw [Nat.add_mod_right, Nat.add_div_right _ h]
  push_cast
  rw [Int.add_mul, Int.one_mul]; omega
theorem szI_ext {n : Int} {s : List Int} {i d : Nat} (h : i < s.length) : szI n s d i = ext n s (i + d) - ext n s i := by
  rw [ext_lt h]; rfl
theorem sum_sz {n : Int} {s : List Int} (h : 0 < s.length) : ∀ d, sumTo (fun i => ext n s (i + d) - ext n s i) s.length = n * d
  | 0 => by
    have : sumTo (fun i => ext n s (i + 0) - ext n s i) s.length = sumTo (fun _ => 0) s.length := sumTo_congr _ fun i _ => by simp
    rw [this]
    have z : ∀ m, sumTo (fun _ => 0) m = 0 := by
      intro m
      induction m with
      | zero => rfl
      | succ m ih => rw [sumTo, ih]; rfl
    rw [z]; simp
  | d + 1 => by
    have e : sumTo (fun i => ext n s (i + (d + 1)) - ext n s i) s.length = sumTo (fun i => (ext n s (i + d) - ext n s i) + (ext n s (i + 1 + d) - ext n s (i + d))) s.length :=
      sumTo_congr _ fun i _ => by rw [show i + (d + 1) = i + 1 + d by omega]; omega
    rw [e, sumTo_add, sum_sz h d, sumTo_tele (fun i => ext n s (i + d)), Nat.zero_add, Nat.add_comm s.length d, ext_add h]
    push_cast
    rw [Int.mul_add, Int.mul_one]; omega
/-- In a maximally even set sizes of a class differ by one at most. -/
theorem even_near {n : Int} {s : List Int} (h : Good n s) (he : evW n s = none) {d i j : Nat} (hd0 : 0 < d) (hd : d < s.length) (hi : i < s.length) (hj : j < s.length) : szI n s d i ≤ szI n s d j + 1 := by
  have hk := h.len60
  unfold evW at he
  have h1 := List.findSome?_eq_none_iff.1 he (d - 1) (List.mem_range.2 (by omega))
  unfold evS at h1
  rw [show d - 1 + 1 = d by omega] at h1
  have hget : ∀ i, i < s.length → (sz n s d).getD i 0 = szI n s d i := fun i hi => by
    unfold sz
    rw [List.getD_eq_getElem?_getD, List.getElem?_map, List.getElem?_range hi]; rfl
  have hlen := sz_length n s d
  have hin : ∀ i, i < (sz n s d).length → -1000 ≤ (sz n s d).getD i 0 ∧ (sz n s d).getD i 0 ≤ 1000 := by
    intro i hi
    rw [hlen] at hi
    rw [hget i hi]
    unfold szI
    have hq : (i + d) / s.length ≤ 1 := by
      have : (i + d) / s.length < 2 := Nat.div_lt_of_lt_mul (by omega)
      omega
    have u1 := h.get (Nat.mod_lt (i + d) h.pos)
    have u2 := h.get hi
    have h60 := h.high
    have h1 := h.low
    generalize (i + d) / s.length = q at hq ⊢
    have : q = 0 ∨ q = 1 := by omega
    rcases this with rfl | rfl
    · simp only [Int.natCast_zero, Int.zero_mul]; omega
    · simp only [Int.natCast_one, Int.one_mul]; omega
  obtain ⟨⟨⟨m1, m2⟩, m3, m4⟩, m5⟩ := mnF_in (s := sz n s d) (s.length - 1) (by omega) hin
  have a1 := m5 i (by omega)
  have a2 := m5 j (by omega)
  rw [hget i hi] at a1
  rw [hget j hj] at a2
  rw [wrap64 (by omega) (by omega), ltI_eq] at h1
  by_cases hc : 1 < mxF (sz n s d) (s.length - 1) - mnF (sz n s d) (s.length - 1)
  · rw [decide_eq_true hc] at h1; cases h1
  · omega
theorem even_evl {n : Int} {s : List Int} (h : Good n s) (he : evW n s = none) : ∃ c, Ev n s.length c ∧ s = evl n s.length c := by
  have hp := h.pos
  have hk : (0 : Int) < s.length := by omega
  have hn := h.low
  -- k v - n d lies between -k and k
  have near : ∀ i d, i < s.length → 0 < d → d < s.length → n * d < s.length * szI n s d i + s.length ∧ s.length * szI n s d i < n * d + s.length := by
    intro i d hi hd0 hd
    have hs : sumTo (fun j => szI n s d j) s.length = n * d := by
      rw [← sum_sz (n := n) hp d]
      exact sumTo_congr _ fun j hj => szI_ext hj
    have a1 := (sumTo_ge (f := fun j => szI n s d j) (b := szI n s d i - 1) s.length (fun j hj => by have := even_near h he hd0 hd hi hj; omega)).2 ⟨i, hi, by omega⟩
    have a2 := sumTo_le (f := fun j => szI n s d j) (b := szI n s d i + 1) s.length (fun j hj => by have := even_near h he hd0 hd hj hi; omega) ⟨i, hi, by omega⟩
    rw [hs] at a1 a2
    rw [Int.mul_sub, Int.mul_one] at a1
    rw [Int.mul_add, Int.mul_one] at a2
    omega
  obtain ⟨i0, hi0, hmax⟩ := exists_max (fun i => s.length * s.getD i 0 - n * i) s.length hp
  obtain ⟨c, hc⟩ : ∃ c, c = s.length * s.getD i0 0 - n * i0 := ⟨_, rfl⟩
  have hfl : ∀ i, i < s.length → flI n s.length c (i : Int) = s.getD i 0 := by
    intro i hi
    have h1 := hmax i hi
    rw [← hc] at h1
    have h2 : c < s.length * s.getD i 0 - n * i + s.length := by
      rcases Nat.lt_trichotomy i i0 with hlt | heq | hgt
      · have hN := (near i (i0 - i) hi (by omega) (by omega)).2
        rw [szI_ext hi, show i + (i0 - i) = i0 by omega, ext_lt hi0, ext_lt hi, Int.mul_sub] at hN
        have : n * ((i0 - i : Nat) : Int) = n * i0 - n * i := by rw [← Int.mul_sub]; congr 1; omega
        omega
      · subst heq; omega
      · have hN := (near i0 (i - i0) hi0 (by omega) (by omega)).1
        rw [szI_ext hi0, show i0 + (i - i0) = i by omega, ext_lt hi0, ext_lt hi, Int.mul_sub] at hN
        have : n * ((i - i0 : Nat) : Int) = n * i - n * i0 := by rw [← Int.mul_sub]; congr 1; omega
        omega
    exact flI_uniq hk (by omega) (by omega)
  have hc0 : 0 ≤ c := by
    have h1 := hmax 0 hp
    rw [← hc] at h1
    have := Int.mul_nonneg (show (0 : Int) ≤ s.length by omega) (h.get hp).1
    simp only [Int.natCast_zero, Int.mul_zero] at h1
    omega
  have hcn : c < n := by
    have h1 := hfl (s.length - 1) (by omega)
    have h2 := h.get (show s.length - 1 < s.length by omega)
    have h3 := flI_up (n := n) (c := c) (i := ((s.length - 1 : Nat) : Int)) hk
    rw [h1] at h3
    have h4 : (s.length : Int) * (s.getD (s.length - 1) 0 + 1) ≤ s.length * n := Int.mul_le_mul_of_nonneg_left (by omega) (by omega)
    rw [Int.mul_add, Int.mul_one] at h4
    have h5 : n * ((s.length - 1 : Nat) : Int) = n * s.length - n := by
      rw [show ((s.length - 1 : Nat) : Int) = (s.length : Int) - 1 by omega, Int.mul_sub, Int.mul_one]
    have h6 : (s.length : Int) * n = n * s.length := Int.mul_comm _ _
    omega
  refine ⟨c, ⟨h.low, h.high, hp, h.len, hc0, hcn⟩, ?_⟩
  unfold evl
  apply List.ext_getElem
  · simp
  · intro i h1 h2
    have := hfl i h1
    rw [List.getD_eq_getElem?_getD, List.getElem?_eq_getElem h1] at this
    rw [List.getElem_map, List.getElem_range]
    exact this.symm
/-- The set of some bits. -/
def bitC (b : Int) (i : Nat) : Bool := eqI (IntKind.wrap .i64 (((BitVec.ofInt (IntKind.bits .i64) (Int.fdiv b (2 ^ (min i (IntKind.bits .i64))))) &&& (BitVec.ofInt (IntKind.bits .i64) 1)).toNat : Int)) 1
def bitS (b : Int) (i : Nat) : List Int := ((List.range i).filter (bitC b)).map fun j : Nat => (j : Int)
theorem bitS_succ (b : Int) (i : Nat) : bitS b (i + 1) = bif bitC b i then bitS b i ++ [(i : Int)] else bitS b i := by
  unfold bitS
  rw [List.range_succ, List.filter_append, List.map_append]
  cases h : bitC b i <;> simp [h]
theorem bitS_length (b : Int) (i : Nat) : (bitS b i).length ≤ i := by
  unfold bitS
  rw [List.length_map]
  exact Nat.le_trans (List.length_filter_le _ _) (by simp)
theorem bitS_good {n : Int} {b : Int} {m : Nat} (hm : n = (m : Int)) (h1 : 1 ≤ m) (h2 : m ≤ 60) (h0 : bitS b m ≠ []) : Good n (bitS b m) := by
  refine ⟨by omega, by omega, h0, ?_, ?_⟩
  · unfold bitS
    refine List.pairwise_map.2 ((List.Pairwise.filter _ List.pairwise_lt_range).imp fun h => ?_)
    omega
  · intro x hx
    unfold bitS at hx
    obtain ⟨j, hj, rfl⟩ := List.mem_map.1 hx
    have := List.mem_range.1 (List.mem_filter.1 hj).1
    omega
theorem loop6_in {n : Int} {m : Nat} (hm : n = (m : Int)) (h2 : m ≤ 60) (k : Int) (a : List (List Int)) (e : Int) (W : List (List Int)) (b y z : Int) :
    loop6_0 (n, k, a, e, W, b, [], y, z, n, 0, ()) = some (n, k, a, e, W, bitS b m, y, z, ()) := by
  refine loopN_all (N := 2 ^ 64) (step := step6_0) (fun i => (n, k, a, e, W, b, bitS b i, y, z, n, (i : Int), ())) m (n, k, a, e, W, bitS b m, y, z, ()) (by omega) ?_ ?_
  · intro i hi
    have := bitS_length b i
    simp only [step6_0]
    rw [ltI_eq, decide_eq_true (show (i : Int) < n by omega), cond_true, ltI_eq, decide_eq_false (show ¬ (i : Int) < 0 by omega), cond_false, wrap64s i (by omega), bitS_succ, Int.toNat_natCast]
    show (bif bitC b i then _ else _) = _
    cases bitC b i with
    | true =>
      simp only [cond_true, nble_eq, cond_dec, List.length_cons, List.length_nil]
      rw [if_pos (by omega), if_pos (by omega)]
    | false => rfl
  · simp only [step6_0]
    rw [ltI_eq, decide_eq_false (by omega), cond_false]
def wanted (n : Int) (m : Nat) (k : Int) (b : Nat) : Bool := decide (((bitS (b : Int) m).length : Int) = k) && (evW n (bitS (b : Int) m)).isNone
def wants (n : Int) (m : Nat) (k : Int) (i : Nat) : List (List Int) := ((List.range i).filter (wanted n m k)).map fun b : Nat => bitS (b : Int) m
theorem wants_succ (n : Int) (m : Nat) (k : Int) (i : Nat) : wants n m k (i + 1) = bif wanted n m k i then wants n m k i ++ [bitS (i : Int) m] else wants n m k i := by
  unfold wants
  rw [List.range_succ, List.filter_append, List.map_append]
  cases h : wanted n m k i <;> simp [h]
theorem wants_length (n : Int) (m : Nat) (k : Int) (i : Nat) : (wants n m k i).length ≤ i := by
  unfold wants
  rw [List.length_map]
  exact Nat.le_trans (List.length_filter_le _ _) (by simp)
theorem loop6_out {n : Int} {m : Nat} (hm : n = (m : Int)) (h1 : 1 ≤ m) (h2 : m ≤ 12) {k : Int} (hk : 1 ≤ k) (a : List (List Int)) (e : Int) :
    loop6_1 (n, k, a, e, [], ((2 ^ m : Nat) : Int), 0, ()) = some (a, e, wants n m k (2 ^ m), ()) := by
  have h4096 : 2 ^ m ≤ 4096 := Nat.pow_le_pow_right (n := 2) (by omega) (show m ≤ 12 from h2)
  generalize 2 ^ m = M at h4096 ⊢
  refine loopN_all (N := 2 ^ 64) (step := step6_1) (fun i => (n, k, a, e, wants n m k i, (M : Int), (i : Int), ())) M (a, e, wants n m k M, ()) (by omega) ?_ ?_
  · intro i hi
    have hW := wants_length n m k i
    simp only [step6_1]
    rw [ltI_eq, decide_eq_true (by omega), cond_true, loop6_in hm (by omega), askO_s]
    dsimp only
    rw [wrap64s i (by omega), wants_succ]
    unfold wanted
    by_cases hl : ((bitS (i : Int) m).length : Int) = k
    · have hne : bitS (i : Int) m ≠ [] := by
        intro h0
        rw [h0] at hl
        simp at hl; omega
      rw [eqI_eq, decide_eq_true hl, f20_good (bitS_good hm h1 (by omega) hne)]
      cases evW n (bitS (i : Int) m) with
      | some w => rfl
      | none =>
        simp only [Bool.not_true, cond_false, askO_s, cond_true, nble_eq, cond_dec, List.length_cons, List.length_nil, Option.isNone_none, Bool.and_self]
        rw [if_pos (by omega), if_pos (by omega)]
    · rw [eqI_eq, decide_eq_false hl]; rfl
  · simp only [step6_1]
    rw [ltI_eq, decide_eq_false (by omega), cond_false]

/-- What the kernel looks at: for at most 12 steps each set of floors is a rotation of the one that begins with 0, and is the set of some bits. -/
def eqLI : List Int → List Int → Bool
  | [], [] => true
  | a :: l, b :: m => eqI a b && eqLI l m
  | _, _ => false
theorem eqLI_eq : ∀ {l m : List Int}, eqLI l m = true → l = m
  | [], [], _ => rfl
  | [], _ :: _, h => by simp [eqLI] at h
  | _ :: _, [], h => by simp [eqLI] at h
  | a :: l, b :: m, h => by
    simp only [eqLI, Bool.and_eq_true, eqI_eq, decide_eq_true_eq] at h
    rw [h.1, eqLI_eq h.2]
def bitNo : List Int → Nat
  | [] => 0
  | x :: l => 2 ^ x.toNat + bitNo l
def okOne (n k c : Nat) : Bool := ((List.range n).any fun b => eqLI (evl (n : Int) k (((0 : Int) + k * (b : Int)) % (n : Int))) (evl n k c)) && (Nat.blt (bitNo (evl n k c)) (2 ^ n) && eqLI (bitS ((bitNo (evl n k c) : Nat) : Int) n) (evl n k c))
def okAll : Bool := (List.range 13).all fun n => (List.range (n + 1)).all fun k => Nat.beq k 0 || (List.range n).all fun c => okOne n k c
theorem okAll_true : okAll = true := by kernel_rfl
theorem okOne_true {n k c : Nat} (hn : n ≤ 12) (hk : 1 ≤ k ∧ k ≤ n) (hc : c < n) : okOne n k c = true := by
  have h := okAll_true
  unfold okAll at h
  have h1 := List.all_eq_true.1 h n (List.mem_range.2 (by omega))
  have h2 := List.all_eq_true.1 h1 k (List.mem_range.2 (by omega))
  rw [Bool.or_eq_true] at h2
  rcases h2 with h2 | h2
  · have := Nat.eq_of_beq_eq_true h2; omega
  · exact List.all_eq_true.1 h2 c (List.mem_range.2 hc)

/-- Lists in order, each once, are told apart by their members. -/
theorem cmp_unique {l l' : List (List Int)} (hl : ∀ x ∈ l, D64 x = true) (hl' : ∀ x ∈ l', D64 x = true) (hm : ∀ x, x ∈ l ↔ x ∈ l') :
    Lib.compact (srtB (fun x y => decide (cmpL x y < 0)) l) = Lib.compact (srtB (fun x y => decide (cmpL x y < 0)) l') := by
  have srt : ∀ {l : List (List Int)}, l.Pairwise (fun a b => decide (cmpL b a < 0) = false) → (Lib.compact l).Pairwise (fun a b => decide (cmpL b a < 0) = false) := by
    intro l h
    unfold Lib.compact Lib.compactUpTo
    refine List.pairwise_map.2 ?_
    have hp : ((List.range l.length).filter (Lib.keeps l.toArray)).Pairwise fun i j => i < j := List.Pairwise.filter _ List.pairwise_lt_range
    refine List.Pairwise.imp_of_mem ?_ hp
    intro i j hi hj hij
    have hi1 := List.mem_range.1 (List.mem_filter.1 hi).1
    have hj1 := List.mem_range.1 (List.mem_filter.1 hj).1
    rw [arrL_get hi1, arrL_get hj1]
    exact List.pairwise_iff_getElem.1 h i j hi1 hj1 hij
  have s1 := srtB_sorted lo46 l hl
  have s2 := srtB_sorted lo46 l' hl'
  refine List.Perm.eq_of_pairwise (le := fun a b => decide (cmpL b a < 0) = false) (fun a b _ _ h1 h2 => ?_) (srt s1) (srt s2) ((List.perm_ext_iff_of_nodup (cmp_nodup s1) (cmp_nodup s2)).2 fun x => ?_)
  · simp only [decide_eq_false_iff_not] at h1 h2
    exact cmpL_zero h2 h1
  · rw [cmp_mem, cmp_mem, (srtB_perm _).mem_iff, (srtB_perm _).mem_iff, hm]
theorem f19r_bad {n k : Int} (h : n < 1 ∨ 60 < n ∨ k < 1 ∨ n < k) : f19r (n, k, ()) = some ([], 3, ()) := by
  unfold f19r; dsimp only
  rw [f13_bad (by unfold badMk; omega), askO_s]; rfl
theorem f19r_good {n : Int} {k : Nat} (h : Ev n k 0) : f19r (n, (k : Int), ()) = some (rots n (evl n k 0), 0, ()) := by
  have h1 := h.low
  have h2 := h.high
  have h3 := h.one
  have h4 := h.le
  unfold f19r; dsimp only
  rw [f13_good (by omega) (by omega) (by omega), askO_s, mkS_evl h]
  dsimp only
  have e00 : (!(eqI 0 0)) = false := rfl
  rw [e00, cond_false, f25r_good h.good, askO_s]
/-- All sets that are maximally even are the rotations. -/
theorem all_rots {n : Int} {m k : Nat} (hm : n = (m : Int)) (h1 : 1 ≤ m) (h2 : m ≤ 12) (hk : 1 ≤ k ∧ k ≤ m) : Lib.compact (srtB (fun x y => decide (cmpL x y < 0)) (wants n m (k : Int) (2 ^ m))) = rots n (evl n k 0) := by
  have hE : ∀ c : Int, 0 ≤ c ∧ c < n → Ev n k c := fun c hc => ⟨by omega, by omega, hk.1, by omega, hc.1, hc.2⟩
  have h0 := hE 0 (by omega)
  have small : ∀ x : List Int, x.length ≤ 60 → D64 x = true := fun x hx => Nat.ble_eq_true_of_le (by omega)
  unfold rots
  refine cmp_unique ?_ ?_ ?_
  · intro x hx
    unfold wants at hx
    obtain ⟨b, -, rfl⟩ := List.mem_map.1 hx
    have := bitS_length (b : Int) m
    exact small _ (by omega)
  · intro x hx
    obtain ⟨b, -, rfl⟩ := List.mem_map.1 hx
    unfold rotI
    exact small _ (by rw [mv_length, evl_length]; omega)
  intro x
  have hmn : n.toNat = m := by omega
  rw [hmn, List.mem_map]
  unfold wants
  rw [List.mem_map]
  constructor
  · rintro ⟨b, hb, rfl⟩
    obtain ⟨-, hw⟩ := List.mem_filter.1 hb
    unfold wanted at hw
    rw [Bool.and_eq_true, decide_eq_true_eq] at hw
    have hlen : (bitS (b : Int) m).length = k := by omega
    have hne : bitS (b : Int) m ≠ [] := by
      intro h
      rw [h] at hlen
      simp at hlen; omega
    have hnone : evW n (bitS (b : Int) m) = none := by
      cases hq : evW n (bitS (b : Int) m) with
      | none => rfl
      | some w => rw [hq] at hw; simp at hw
    obtain ⟨c, hc, hs⟩ := even_evl (bitS_good hm h1 (by omega) hne) hnone
    rw [hlen] at hc hs
    have hc0 := hc.pos
    have hc1 := hc.lt
    have ok := okOne_true (n := m) (k := k) (c := c.toNat) h2 hk (by omega)
    unfold okOne at ok
    rw [Bool.and_eq_true] at ok
    obtain ⟨r, hr, he⟩ := List.any_eq_true.1 ok.1
    have he := eqLI_eq he
    have ec : ((c.toNat : Nat) : Int) = c := by omega
    rw [ec, ← hm] at he
    refine ⟨r, hr, ?_⟩
    unfold rotI
    rw [h0.moved, he, hs]
  · rintro ⟨b, hb, rfl⟩
    unfold rotI
    rw [h0.moved]
    have hcr := emod_rng (0 + k * (b : Int)) (n := n) (by omega)
    obtain ⟨c, hc⟩ : ∃ c : Nat, (0 + k * (b : Int)) % n = (c : Int) := ⟨((0 + k * (b : Int)) % n).toNat, by omega⟩
    rw [hc] at hcr ⊢
    have ok := okOne_true (n := m) (k := k) (c := c) h2 hk (by omega)
    unfold okOne at ok
    rw [Bool.and_eq_true, Bool.and_eq_true] at ok
    have hlt := nblt_iff ok.2.1
    have he := eqLI_eq ok.2.2
    rw [← hm] at hlt he
    refine ⟨bitNo (evl n k c), List.mem_filter.2 ⟨List.mem_range.2 hlt, ?_⟩, he⟩
    unfold wanted
    rw [he, evl_length, (hE c hcr).even]
    simp
theorem f6_small {n : Int} {m k : Nat} (hm : n = (m : Int)) (h1 : 1 ≤ m) (h2 : m ≤ 12) (hk : 1 ≤ k ∧ k ≤ m) : f6 (n, (k : Int), ()) = some (true, ()) := by
  have hE : Ev n k 0 := ⟨by omega, by omega, hk.1, by omega, by omega, by omega⟩
  have hpow : (IntKind.wrap .i64 (1 * (2 ^ (min n.toNat (IntKind.bits .i64))))) = ((2 ^ m : Nat) : Int) := by
    have hb : IntKind.bits .i64 = 64 := rfl
    have h4096 : 2 ^ m ≤ 4096 := Nat.pow_le_pow_right (n := 2) (by omega) (show m ≤ 12 from h2)
    rw [hb, show min n.toNat 64 = m by omega, Int.one_mul]
    have e : (2 : Int) ^ m = ((2 ^ m : Nat) : Int) := by push_cast; rfl
    rw [e]
    generalize 2 ^ m = M at h4096 ⊢
    exact wrap64' (by omega) (by omega)
  have hW := all_rots hm h1 h2 hk
  have hsh : Short (wants n m (k : Int) (2 ^ m)) := by
    have h4096 : 2 ^ m ≤ 4096 := Nat.pow_le_pow_right (n := 2) (by omega) (show m ≤ 12 from h2)
    have := wants_length n m (k : Int) (2 ^ m)
    refine ⟨by omega, fun x hx => ?_⟩
    unfold wants at hx
    obtain ⟨b, -, rfl⟩ := List.mem_map.1 hx
    have := bitS_length (b : Int) m
    omega
  have hpos : 0 < (wants n m (k : Int) (2 ^ m)).length := by
    rcases Nat.eq_zero_or_pos (wants n m (k : Int) (2 ^ m)).length with h0 | h0
    · exfalso
      obtain ⟨p, hp, -, hl⟩ := hE.rots
      rw [← hW, List.eq_nil_of_length_eq_zero h0] at hl
      have : (Lib.compact (srtB (fun x y => decide (cmpL x y < 0)) ([] : List (List Int)))).length = 0 := rfl
      omega
    · exact h0
  have hlt : (wants n m (k : Int) (2 ^ m)).length < 4611686018427387904 := by
    have h4096 : 2 ^ m ≤ 4096 := Nat.pow_le_pow_right (n := 2) (by omega) (show m ≤ 12 from h2)
    have := wants_length n m (k : Int) (2 ^ m)
    omega
  have h22 : f22t (wants n m (k : Int) (2 ^ m)) () = some (rots n (evl n k 0), ()) := by
    unfold f22t
    rw [sortFO_eq hpos hsh hlt, askO_s, f47_same, f47_eq (short_sorted hsh), askO_s, hW]
  unfold f6; dsimp only
  rw [f12_true, askO_s]
  simp only [cond_true, ltI_eq, not_dec, cond_dec]
  rw [if_neg (by omega), f19r_good hE, askO_s, if_neg (by omega), if_neg (by omega), if_neg (by omega), if_neg (by omega), if_neg (by omega), hpow, loop6_out hm h1 h2 (by omega), askO_s]
  have e00 : eqI 0 0 = true := rfl
  rw [e00, cond_true, h22, askO_s, f21_refl _ (short_rots hE.good), askO_s]
theorem f6_true (n k : Int) : f6 (n, k, ()) = some (true, ()) := by
  by_cases hs : (1 ≤ n ∧ n ≤ 12) ∧ 1 ≤ k ∧ k ≤ n
  · obtain ⟨kk, rfl⟩ : ∃ kk : Nat, k = (kk : Int) := ⟨k.toNat, by omega⟩
    exact f6_small (m := n.toNat) (by omega) (by omega) (by omega) (by omega)
  unfold f6; dsimp only
  rw [f12_true, askO_s]
  simp only [cond_true, ltI_eq, not_dec, cond_dec]
  by_cases h12 : 12 < n
  · rw [if_pos h12]
    by_cases h60 : ¬ 60 < n
    · rw [if_pos h60, askO_s]
    · rw [if_neg h60, f19r_bad (by omega), askO_s, if_neg (by omega), if_pos (by omega)]; rfl
  · rw [if_neg h12, f19r_bad (by omega), askO_s]
    by_cases h1 : n < 1
    · rw [if_pos h1]; rfl
    rw [if_neg h1, if_neg (by omega)]
    by_cases h2 : k < 1
    · rw [if_pos h2]; rfl
    rw [if_neg h2, if_pos (by omega)]; rfl
end Go.PM
