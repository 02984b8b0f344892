/- Chapter 35, plain law: EvennessSpectra and EvennessClasses answer true. -/
import Derived.Test.YtdlckpedbmjnnaaEvL
set_option linter.unusedSimpArgs false
set_option linter.unusedVariables false
namespace Go.PM
open Go Go.RowKit Go.Proofs
set_option maxRecDepth 100000

/-- Lists that increase are told apart by their members. -/
theorem incr_unique {l l' : List Int} (h : l.Pairwise (· < ·)) (h' : l'.Pairwise (· < ·)) (hm : ∀ x, x ∈ l ↔ x ∈ l') : l = l' := by
  have nd : ∀ {l : List Int}, l.Pairwise (· < ·) → l.Nodup := fun h => h.imp fun h => by omega
  exact List.Perm.eq_of_pairwise (le := fun a b : Int => a < b) (fun a b _ _ h1 h2 => by omega) h h' ((List.perm_ext_iff_of_nodup (nd h) (nd h')).2 hm)
theorem toArr_get {l : List Int} {i : Nat} (h : i < l.length) : l.toArray[i]! = l[i] := by
  rw [getElem!_pos l.toArray i (by simpa using h)]; simp
theorem compact_mem (l : List Int) (x : Int) : x ∈ Lib.compact l ↔ x ∈ l := by
  constructor
  · intro h
    unfold Lib.compact Lib.compactUpTo at h
    obtain ⟨i, hi, rfl⟩ := List.mem_map.1 h
    have hl := List.mem_range.1 (List.mem_filter.1 hi).1
    rw [toArr_get hl]; exact List.getElem_mem hl
  · intro h
    obtain ⟨i, hi, rfl⟩ := List.getElem_of_mem h
    have key : ∀ i (hi : i < l.length), l[i] ∈ Lib.compact l := by
      intro i
      induction i with
      | zero =>
        intro hi
        unfold Lib.compact Lib.compactUpTo
        refine List.mem_map.2 ⟨0, List.mem_filter.2 ⟨List.mem_range.2 hi, by simp [Lib.keeps]⟩, toArr_get hi⟩
      | succ i ih =>
        intro hi
        by_cases he : l[i + 1] = l[i]'(by omega)
        · rw [he]; exact ih (by omega)
        · unfold Lib.compact Lib.compactUpTo
          refine List.mem_map.2 ⟨i + 1, List.mem_filter.2 ⟨List.mem_range.2 hi, ?_⟩, toArr_get hi⟩
          refine Lib.keeps_pos ?_
          rw [toArr_get hi, Nat.add_sub_cancel, toArr_get (by omega)]; exact he
    exact key i hi
theorem compact_incr {l : List Int} (h : l.Pairwise (· ≤ ·)) : (Lib.compact l).Pairwise (· < ·) := by
  unfold Lib.compact Lib.compactUpTo
  refine List.pairwise_map.2 ?_
  have hle : ∀ i j (hi : i ≤ j) (hj : j < l.length), l[i]'(by omega) ≤ l[j] := by
    intro i j hi hj
    rcases Nat.lt_or_ge i j with h1 | h1
    · exact List.pairwise_iff_getElem.1 h i j _ _ h1
    · have : i = j := by omega
      subst this; exact Int.le_refl _
  have hp : ((List.range l.length).filter (Lib.keeps l.toArray)).Pairwise fun i j => i < j := List.Pairwise.filter _ List.pairwise_lt_range
  refine List.Pairwise.imp_of_mem ?_ hp
  intro i j hi hj hij
  obtain ⟨hi1, hi2⟩ := List.mem_filter.1 hi
  obtain ⟨hj1, hj2⟩ := List.mem_filter.1 hj
  have hi1 := List.mem_range.1 hi1
  have hj1 := List.mem_range.1 hj1
  simp only [Lib.keeps, decide_eq_true_eq] at hj2
  have h2 : l.toArray[j]! ≠ l.toArray[j - 1]! := by
    rcases hj2 with h2 | h2
    · omega
    · exact h2
  rw [toArr_get hj1, toArr_get (i := j - 1) (by omega)] at h2
  rw [toArr_get hi1, toArr_get hj1]
  have a1 := hle i (j - 1) (by omega) (by omega)
  have a2 := hle (j - 1) j (by omega) hj1
  omega
/-- The distinct elements in order. -/
def spc (l : List Int) : List Int := Lib.compact (srt l)
theorem spc_mem (l : List Int) (x : Int) : x ∈ spc l ↔ x ∈ l := by
  unfold spc; rw [compact_mem]; exact (srt_perm l).mem_iff
theorem spc_incr (l : List Int) : (spc l).Pairwise (· < ·) := compact_incr (srt_sorted l)
theorem spc_length (l : List Int) : (spc l).length ≤ l.length := by
  unfold spc
  have := Lib.compact_length_le (srt l)
  rw [srt_length] at this
  exact this
theorem compactO_eq {l : List Int} (h : l.length ≤ 9223372036854775807) : compactO l = some (Lib.compact l) := by
  unfold compactO; rw [nble_eq, decide_eq_true h]; rfl
/-- evenness.Spectrum -/
theorem f28_good {n : Int} {s : List Int} (h : Good n s) {d : Nat} (hd : d ≤ s.length) : f28 (n, s, (d : Int), ()) = some (spc (sz n s d), 0, ()) := by
  have hk := h.len60
  unfold f28; dsimp only
  rw [f37_eq n s (by omega), h.chk, askO_s]
  simp only [eqI_eq, ltI_eq, not_dec, cond_dec]
  rw [if_neg (by simp), if_neg (by omega), if_neg (by omega), f53o_eq h hd, askO_s, sortO_eq (by rw [sz_length]; omega), askO_s, compactO_eq (by rw [srt_length, sz_length]; omega), askO_s]
  rfl
theorem f28_bad {n : Int} {s : List Int} (h : Good n s) {c : Int} (hc : c < 0 ∨ (s.length : Int) < c) : f28 (n, s, c, ()) = some ([], 3, ()) := by
  have hk := h.len60
  unfold f28; dsimp only
  rw [f37_eq n s (by omega), h.chk, askO_s]
  simp only [eqI_eq, ltI_eq, not_dec, cond_dec]
  rw [if_neg (by simp)]
  by_cases h1 : c < 0
  · rw [if_pos h1]
  · rw [if_neg h1, if_pos (by omega)]
/-- The sizes of a class and of the rest. -/
theorem sz_rest {n : Int} {s : List Int} (h : Good n s) {d : Nat} (hd : d ≤ s.length) {x : Int} (hx : x ∈ sz n s d) : n - x ∈ sz n s (s.length - d) := by
  have hp := h.pos
  unfold sz at hx
  obtain ⟨i, hi, rfl⟩ := List.mem_map.1 hx
  have hi := List.mem_range.1 hi
  refine List.mem_map.2 ⟨(i + d) % s.length, List.mem_range.2 (Nat.mod_lt _ hp), ?_⟩
  unfold szI
  by_cases hc : i + d < s.length
  · have e1 : (i + d) % s.length = i + d := Nat.mod_eq_of_lt hc
    have e2 : (i + d) / s.length = 0 := Nat.div_eq_of_lt hc
    have e3 : i + d + (s.length - d) = i + s.length := by omega
    have e4 : (i + s.length) % s.length = i := by rw [Nat.add_mod_right, Nat.mod_eq_of_lt hi]
    have e5 : (i + s.length) / s.length = 1 := by rw [Nat.add_div_right _ hp, Nat.div_eq_of_lt hi]
    rw [e1, e2, e3, e4, e5]
    simp only [Int.natCast_zero, Int.zero_mul, Int.natCast_one, Int.one_mul]
    generalize s.getD i 0 = u
    generalize s.getD (i + d) 0 = v
    omega
  · have hlt : i + d - s.length < s.length := by omega
    have e0 : i + d = (i + d - s.length) + s.length := by omega
    have e1 : (i + d) % s.length = i + d - s.length := by rw [e0, Nat.add_mod_right, Nat.mod_eq_of_lt hlt]; omega
    have e2 : (i + d) / s.length = 1 := by rw [e0, Nat.add_div_right _ hp, Nat.div_eq_of_lt hlt]
    have e3 : i + d - s.length + (s.length - d) = i := by omega
    have e4 : i % s.length = i := Nat.mod_eq_of_lt hi
    have e5 : i / s.length = 0 := Nat.div_eq_of_lt hi
    rw [e1, e2, e3, e4, e5]
    simp only [Int.natCast_zero, Int.zero_mul, Int.natCast_one, Int.one_mul]
    generalize s.getD i 0 = u
    generalize s.getD (i + d - s.length) 0 = v
    omega
theorem spc_rest {n : Int} {s : List Int} (h : Good n s) {d : Nat} (hd : d ≤ s.length) : spc (sz n s (s.length - d)) = ((spc (sz n s d)).map fun x => n - x).reverse := by
  refine incr_unique (spc_incr _) ?_ ?_
  · rw [List.pairwise_reverse]
    refine List.pairwise_map.2 ((spc_incr _).imp fun h => ?_)
    omega
  · intro x
    rw [spc_mem, List.mem_reverse, List.mem_map]
    constructor
    · intro hx
      have := sz_rest h (Nat.sub_le s.length d) hx
      rw [show s.length - (s.length - d) = d by omega] at this
      exact ⟨n - x, (spc_mem _ _).2 this, by omega⟩
    · rintro ⟨y, hy, rfl⟩
      exact sz_rest h hd ((spc_mem _ _).1 hy)
theorem f8_true (a b c : Int) (ha : 0 ≤ a) (hc : 0 ≤ c ∧ c ≤ 255) : f8 ((a, b), c, ()) = some (true, ()) := by
  obtain ⟨n, s, h1, h, hn⟩ := f17_eq a b ha
  have hk := h.len60
  unfold f8; dsimp only
  rw [f12_true, askO_s]
  simp only [cond_true]
  rw [h1, askO_s]
  dsimp only
  have hw : wrapF .i64 ((s.length : Int) + 1) = ((s.length + 1 : Nat) : Int) := wrap64s s.length (by omega)
  rw [hw, wrap64' (x := c) (by omega) (by omega)]
  have hm := tmodb (x := c) (k := ((s.length + 1 : Nat) : Int)) hc.1 (by omega)
  obtain ⟨d, hd⟩ : ∃ d : Nat, c.tmod ((s.length + 1 : Nat) : Int) = (d : Int) := ⟨(c.tmod ((s.length + 1 : Nat) : Int)).toNat, by omega⟩
  rw [hd] at hm ⊢
  have hdl : d ≤ s.length := by omega
  have he : wrapF .i64 ((s.length : Int) - (d : Int)) = ((s.length - d : Nat) : Int) := by rw [wrap64 (by omega) (by omega)]; omega
  simp only [eqI_eq, not_dec, cond_dec]
  rw [if_neg (by omega), f28_good h hdl, askO_s, he, f28_good h (Nat.sub_le _ _), askO_s, spc_rest h hdl]
  dsimp only
  obtain ⟨A, hA⟩ : ∃ A, A = spc (sz n s d) := ⟨_, rfl⟩
  rw [← hA]
  have hAl : A.length ≤ 60 := by
    rw [hA]
    have := spc_length (sz n s d)
    rw [sz_length] at this; omega
  have hAr : ∀ i, i < A.length → 0 ≤ A.getD i 0 + 1000 ∧ A.getD i 0 ≤ 1000 := by
    intro i hi
    have := (spc_mem (sz n s d) _).1 (by rw [← hA]; exact getD_mem hi)
    unfold sz at this
    obtain ⟨j, hj, hj'⟩ := List.mem_map.1 this
    have hj := List.mem_range.1 hj
    rw [← hj']
    unfold szI
    have hq : (j + d) / s.length ≤ 1 := by
      have : (j + d) / s.length < 2 := Nat.div_lt_of_lt_mul (by omega)
      omega
    have u1 := h.get (Nat.mod_lt (j + d) h.pos)
    have u2 := h.get hj
    have h60 := h.high
    have h1 := h.low
    generalize (j + d) / s.length = q at hq ⊢
    have : q = 0 ∨ q = 1 := by omega
    rcases this with rfl | rfl
    · simp only [Int.natCast_zero, Int.zero_mul]; omega
    · simp only [Int.natCast_one, Int.one_mul]; omega
  have hlen : ((A.map fun x => n - x).reverse).length = A.length := by simp
  rw [if_neg (by simp), if_neg (by simp), if_neg (by simp [hlen])]
  have hB : ∀ i, i < A.length → ((A.map fun x => n - x).reverse).getD (A.length - 1 - i) 0 = n - A.getD i 0 := by
    intro i hi
    rw [List.getD_eq_getElem?_getD, List.getElem?_reverse (by simp; omega), List.length_map, List.getElem?_map, show A.length - 1 - (A.length - 1 - i) = i by omega, List.getElem?_eq_getElem hi, List.getD_eq_getElem?_getD, List.getElem?_eq_getElem hi]
    rfl
  obtain ⟨B, hBe⟩ : ∃ B, B = (A.map fun x => n - x).reverse := ⟨_, rfl⟩
  rw [← hBe] at hB hlen ⊢
  have hl : loop8_0 (n, A, B, (A.length : Int), 0, ()) = some (.inr ()) := by
    refine loopN_all (N := 2 ^ 64) (step := step8_0) (fun i => (n, A, B, (A.length : Int), (i : Int), ())) A.length (.inr ()) (by omega) ?_ ?_
    · intro i hi
      have r1 := hAr i hi
      have h60 := h.high
      have hlow := h.low
      have e1 : wrapF .i64 ((wrapF .i64 ((B.length : Int) - 1)) - (i : Int)) = ((A.length - 1 - i : Nat) : Int) := by
        rw [hlen, wrap64 (x := (A.length : Int) - 1) (by omega) (by omega), wrap64 (by omega) (by omega)]; omega
      simp only [step8_0, ltI_eq, eqI_eq, idxOk_eq, not_dec, cond_dec, e1, Int.toNat_natCast, hB i hi]
      rw [if_pos (by omega), if_pos (by omega), if_pos (by omega), wrap64 (x := A.getD i 0 + (n - A.getD i 0)) (by omega) (by omega), if_neg (by omega), wrap64s i (by omega)]
    · simp only [step8_0, ltI_eq, cond_dec]
      rw [if_neg (by omega)]
  rw [hl]; rfl

/-- IsEven, and the law's even -/
def evS (n : Int) (s : List Int) (j : Nat) : Option (Int × Int × Int) :=
  bif ltI 1 (wrapF .i64 (mxF (sz n s (j + 1)) (s.length - 1) - mnF (sz n s (j + 1)) (s.length - 1))) then some (((j + 1 : Nat) : Int), idx (sz n s (j + 1)) (mnF (sz n s (j + 1)) (s.length - 1)), idx (sz n s (j + 1)) (mxF (sz n s (j + 1)) (s.length - 1))) else none
def evW (n : Int) (s : List Int) : Option (Int × Int × Int) := (List.range (s.length - 1)).findSome? (evS n s)
theorem loop27_eq {n : Int} {s : List Int} (h : Good n s) : loop27_0 (n, s, (0, (0, 0)), 1, ()) = some (match evW n s with | some w => .inl (false, w, 0, ()) | none => .inr ((0, (0, 0)), ())) := by
  have hk := h.len60
  have hp := h.pos
  have : loop27_0 (n, s, (0, (0, 0)), 1, ()) = _ := loopN_find (N := 2 ^ 64) (step := step27_0) (fun j => (n, s, (0, (0, 0)), ((j + 1 : Nat) : Int), ())) (fun j => (evS n s j).map fun w => .inl (false, w, 0, ())) (s.length - 1) (.inr ((0, (0, 0)), ())) (by omega) (by
    intro j hj
    have hf : f53 (n, s, ((j + 1 : Nat) : Int), ()) = some (sz n s (j + 1), ()) := f53_eq h (d := j + 1) (by omega)
    have hz := sz_length n s (j + 1)
    simp only [step27_0]
    have q9 : f39 (sz n s (j + 1), ()) = some (mnF (sz n s (j + 1)) (s.length - 1), ()) := by rw [← hz]; exact f39_eq _ (by omega) (by omega)
    have q0 : f40 (sz n s (j + 1), ()) = some (mxF (sz n s (j + 1)) (s.length - 1), ()) := by rw [← hz]; exact f40_eq _ (by omega) (by omega)
    have q1 : ∀ v, f41 (sz n s (j + 1), v, ()) = some (idx (sz n s (j + 1)) v, ()) := fun v => f41_eq _ _ (by omega)
    rw [ltI_eq, decide_eq_true (by omega), cond_true, hf, askO_s]
    dsimp only
    rw [q9, askO_s, q0, askO_s]
    dsimp only
    rw [q1, askO_s, q1, askO_s, wrap64s (j + 1) (by omega)]
    unfold evS
    cases ltI 1 (wrapF .i64 (mxF (sz n s (j + 1)) (s.length - 1) - mnF (sz n s (j + 1)) (s.length - 1))) <;> rfl) (by
    simp only [step27_0]
    rw [ltI_eq, decide_eq_false (by omega), cond_false])
  rw [findSome_map] at this
  refine Eq.trans this ?_
  show some (((evW n s).map _).getD _) = _
  cases evW n s <;> rfl
theorem loop20_eq {n : Int} {s : List Int} (h : Good n s) : loop20_0 (n, s, (0, (0, 0)), 1, ()) = some (match evW n s with | some w => .inl (false, w, ()) | none => .inr ((0, (0, 0)), ())) := by
  have hk := h.len60
  have hp := h.pos
  have : loop20_0 (n, s, (0, (0, 0)), 1, ()) = _ := loopN_find (N := 2 ^ 64) (step := step20_0) (fun j => (n, s, (0, (0, 0)), ((j + 1 : Nat) : Int), ())) (fun j => (evS n s j).map fun w => .inl (false, w, ())) (s.length - 1) (.inr ((0, (0, 0)), ())) (by omega) (by
    intro j hj
    have hf : f30 (n, s, ((j + 1 : Nat) : Int), ()) = some (sz n s (j + 1), ()) := f30_eq h (d := j + 1) (by omega)
    have hz := sz_length n s (j + 1)
    simp only [step20_0]
    have q9 : f39 (sz n s (j + 1), ()) = some (mnF (sz n s (j + 1)) (s.length - 1), ()) := by rw [← hz]; exact f39_eq _ (by omega) (by omega)
    have q0 : f40 (sz n s (j + 1), ()) = some (mxF (sz n s (j + 1)) (s.length - 1), ()) := by rw [← hz]; exact f40_eq _ (by omega) (by omega)
    have q1 : ∀ v, f41 (sz n s (j + 1), v, ()) = some (idx (sz n s (j + 1)) v, ()) := fun v => f41_eq _ _ (by omega)
    rw [ltI_eq, decide_eq_true (by omega), cond_true, hf, askO_s]
    dsimp only
    rw [q9, askO_s, q0, askO_s]
    dsimp only
    rw [q1, askO_s, q1, askO_s, wrap64s (j + 1) (by omega)]
    unfold evS
    cases ltI 1 (wrapF .i64 (mxF (sz n s (j + 1)) (s.length - 1) - mnF (sz n s (j + 1)) (s.length - 1))) <;> rfl) (by
    simp only [step20_0]
    rw [ltI_eq, decide_eq_false (by omega), cond_false])
  rw [findSome_map] at this
  refine Eq.trans this ?_
  show some (((evW n s).map _).getD _) = _
  cases evW n s <;> rfl
theorem f27_good {n : Int} {s : List Int} (h : Good n s) : f27 (n, s, ()) = some (match evW n s with | some w => (false, w, 0, ()) | none => (true, (0, (0, 0)), 0, ())) := by
  have hk := h.len60
  unfold f27; dsimp only
  rw [f37_eq n s (by omega), h.chk, askO_s]
  simp only [eqI_eq, not_dec, cond_dec]
  rw [if_neg (by simp), loop27_eq h, askO_s]
  cases evW n s <;> rfl
theorem f20_good {n : Int} {s : List Int} (h : Good n s) : f20 (n, s, ()) = some (match evW n s with | some w => (false, w, ()) | none => (true, (0, (0, 0)), ())) := by
  unfold f20; dsimp only
  rw [loop20_eq h, askO_s]
  cases evW n s <;> rfl
theorem f29_good {n : Int} {s : List Int} (h : Good n s) : f29 (n, s, ()) = some (sz n s 1, 0, ()) := by
  have hk := h.len60
  have hp := h.pos
  have hf : f53 (n, s, 1, ()) = some (sz n s 1, ()) := f53_eq h (d := 1) (by omega)
  unfold f29; dsimp only
  rw [f37_eq n s (by omega), h.chk, askO_s]
  simp only [eqI_eq, not_dec, cond_dec]
  rw [if_neg (by simp), hf, askO_s]
theorem f9_true (a b c : Int) (ha : 0 ≤ a) : f9 ((a, b), c, ()) = some (true, ()) := by
  obtain ⟨n, s, h1, h, hn⟩ := f17_eq a b ha
  have hk := h.len60
  have hp := h.pos
  have hf : f30o (n, s, 1, ()) = some (sz n s 1) := f30o_eq h (d := 1) (by omega)
  unfold f9; dsimp only
  rw [f12_true, askO_s]
  simp only [cond_true]
  rw [h1, askO_s]
  dsimp only
  rw [f29_good h, askO_s]
  obtain ⟨y4, hy4⟩ : ∃ y4, f28 (n, s, c, ()) = some y4 ∧ ((c < 0 ∨ (s.length : Int) < c) ∧ y4 = ([], 3, ()) ∨ ∃ d : Nat, c = (d : Int) ∧ d ≤ s.length ∧ y4 = (spc (sz n s d), 0, ())) := by
    by_cases hc : c < 0 ∨ (s.length : Int) < c
    · exact ⟨_, f28_bad h hc, .inl ⟨hc, rfl⟩⟩
    · obtain ⟨d, rfl⟩ : ∃ d : Nat, c = (d : Int) := ⟨c.toNat, by omega⟩
      exact ⟨_, f28_good h (d := d) (by omega), .inr ⟨d, rfl, by omega, rfl⟩⟩
  rw [hy4.1, askO_s, f27_good h, askO_s, f20_good h, askO_s]
  have tail : ∀ R : Option (denK [.bool]), R = (bif ltI c 0 then
              bif eqI y4.2.1 3 then
                some (eqI (y4.1.length : Int) 0, ())
              else some (false, ())
            else bif ltI (s.length : Int) c then
              bif eqI y4.2.1 3 then
                some (eqI (y4.1.length : Int) 0, ())
              else some (false, ())
            else askO (f30o (n, s, c, ())) fun y9 =>
            askO (sortO y9) fun y10 =>
            bif eqI y4.2.1 0 then
              askO (compactO y10) fun y11 =>
              askO (f14 (y4.1, y11, ())) fun y12 =>
              some (y12.1, ())
            else some (false, ())) → R = some (true, ()) := by
    rintro R rfl
    rcases hy4.2 with ⟨hc, rfl⟩ | ⟨d, rfl, hd, rfl⟩
    · simp only [ltI_eq, cond_dec]
      by_cases h2 : c < 0
      · rw [if_pos h2]; rfl
      · rw [if_neg h2, if_pos (by omega)]; rfl
    · simp only [ltI_eq, cond_dec]
      rw [if_neg (by omega), if_neg (by omega), f30o_eq h hd, askO_s, sortO_eq (by rw [sz_length]; omega), askO_s]
      simp only [eqI_eq, cond_dec, if_true]
      rw [compactO_eq (by rw [srt_length, sz_length]; omega), askO_s, f14_eq _ _ (by have := spc_length (sz n s d); rw [sz_length] at this; omega), askO_s]
      have : decide (spc (sz n s d) = Lib.compact (srt (sz n s d))) = true := decide_eq_true rfl
      rw [this]
  have he : (!(eqI 0 0)) = false := rfl
  cases hev : evW n s with
  | none =>
    dsimp only
    rw [he, cond_false, cond_false, hf, askO_s, f14_eq _ _ (by rw [sz_length]; omega), askO_s, decide_eq_true rfl]
    exact tail _ rfl
  | some w =>
    dsimp only
    rw [he, cond_false, cond_false, hf, askO_s, f14_eq _ _ (by rw [sz_length]; omega), askO_s, decide_eq_true rfl]
    have hww : (!(eqI w.1 w.1 && (eqI w.2.1 w.2.1 && (eqI w.2.2 w.2.2 && true)))) = false := by simp [eqI_eq]
    simp only [cond_true, cond_false, hww]
    exact tail _ rfl
end Go.PM
