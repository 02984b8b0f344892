/- Chapter 40, plain law: Maximal and its law. -/
import Derived.Test.YthbfchehcgnkpaaCoB
set_option linter.unusedSimpArgs false
set_option linter.unusedVariables false
namespace Go.PM
open Go Go.RowKit Go.Proofs
set_option maxRecDepth 100000

theorem gt_sum1 : ∀ {S : List (List Int)}, SI S → (S.map fun x => 2 ^ gtN S x).sum + 1 ≤ 2 ^ S.length
  | [], _ => by simp
  | x :: S, h => by
    unfold SI at h
    obtain ⟨hx, hS⟩ := List.pairwise_cons.1 h
    have e1 : gtN (x :: S) x = S.length := by
      unfold gtN
      rw [List.filter_cons, if_neg (by rw [cmpL_refl]; decide), List.filter_eq_self.2 fun y hy => decide_eq_true (cmpL_gt.2 (hx y hy))]
    have e2 : (S.map fun y => 2 ^ gtN (x :: S) y) = S.map fun y => 2 ^ gtN S y := by
      refine List.map_congr_left fun y hy => ?_
      have : gtN (x :: S) y = gtN S y := by
        unfold gtN
        rw [List.filter_cons, if_neg]
        rw [decide_eq_true_eq]
        intro h1
        exact cmpL_asym (hx y hy) (cmpL_gt.1 h1)
      rw [this]
    rw [List.map_cons, List.sum_cons, e1, e2, List.length_cons, Nat.pow_succ]
    have := gt_sum1 hS
    omega
/-- How many chords there are with fewer further notes than r. -/
def tot (cl : List (List Int)) : Nat → List (List (List Int)) → Nat
  | 0, _ => 0
  | r + 1, L => L.length + tot cl r (stepL cl L)
theorem tot_append (cl : List (List Int)) : ∀ (r : Nat) (A B : List (List (List Int))), tot cl r (A ++ B) = tot cl r A + tot cl r B
  | 0, A, B => rfl
  | r + 1, A, B => by
    have : stepL cl (A ++ B) = stepL cl A ++ stepL cl B := by unfold stepL; rw [List.flatMap_append]
    simp only [tot, List.length_append, this, tot_append cl r]; omega
theorem tot_nil (cl : List (List Int)) : ∀ r : Nat, tot cl r [] = 0
  | 0 => rfl
  | r + 1 => by show 0 + tot cl r (stepL cl []) = 0; rw [show stepL cl [] = [] from rfl, tot_nil cl r]
theorem tot_sum (cl : List (List Int)) (r : Nat) (f : List Int → List (List (List Int))) : ∀ l : List (List Int), tot cl r (l.flatMap f) = (l.map fun x => tot cl r (f x)).sum
  | [] => tot_nil cl r
  | x :: l => by rw [List.flatMap_cons, tot_append, tot_sum cl r f l]; rfl
theorem tot_le {cl : List (List Int)} (hs : SI cl) : ∀ (r : Nat) (c : List (List Int)), tot cl r [c] ≤ 2 ^ gtN cl (c.getD (c.length - 1) [])
  | 0, c => Nat.zero_le _
  | r + 1, c => by
    show 1 + tot cl r (stepL cl [c]) ≤ _
    rw [show stepL cl [c] = nxt cl c by simp [stepL], nxt, tot_sum]
    have hf : ∀ x ∈ cl, tot cl r (if 0 < cmpL x (c.getD (c.length - 1) []) ∧ fitB cl c x = true then [c ++ [x]] else []) ≤ (if 0 < cmpL x (c.getD (c.length - 1) []) then 2 ^ gtN cl x else 0) := by
      intro x hx
      split
      · rename_i h
        rw [if_pos h.1]
        have := tot_le hs r (c ++ [x])
        have hl : (c ++ [x]).getD ((c ++ [x]).length - 1) [] = x := by
          rw [List.length_append, List.length_cons, List.length_nil, Nat.add_sub_cancel]
          exact getD_app [] c x []
        rwa [hl] at this
      · rw [tot_nil]; exact Nat.zero_le _
    have hsum : ∀ (l : List (List Int)) (g g' : List Int → Nat), (∀ x ∈ l, g x ≤ g' x) → (l.map g).sum ≤ (l.map g').sum := by
      intro l g g' h
      induction l with
      | nil => simp
      | cons x l ih =>
        have a := h x (by simp)
        have b := ih fun y hy => h y (by simp [hy])
        simp only [List.map_cons, List.sum_cons]; omega
    have hle := hsum cl _ _ hf
    refine Nat.le_trans (Nat.add_le_add_left hle 1) ?_
    generalize c.getD (c.length - 1) [] = t
    have h1 : ∀ l : List (List Int), (l.map fun x => if 0 < cmpL x t then 2 ^ gtN cl x else 0).sum = ((l.filter fun y => decide (0 < cmpL y t)).map fun x => 2 ^ gtN cl x).sum := by
      intro l
      induction l with
      | nil => rfl
      | cons x l ih =>
        rw [List.map_cons, List.sum_cons, ih, List.filter_cons]
        by_cases h : 0 < cmpL x t
        · rw [if_pos h, if_pos (by simpa using h), List.map_cons, List.sum_cons]
        · rw [if_neg h, if_neg (by simpa using h), Nat.zero_add]
    rw [h1]
    have hS : SI (cl.filter fun y => decide (0 < cmpL y t)) := List.Pairwise.filter _ hs
    have h2 : ((cl.filter fun y => decide (0 < cmpL y t)).map fun x => 2 ^ gtN cl x) = (cl.filter fun y => decide (0 < cmpL y t)).map fun x => 2 ^ gtN (cl.filter fun y => decide (0 < cmpL y t)) x := by
      refine List.map_congr_left fun x hx => ?_
      have hxt := (List.mem_filter.1 hx).2
      rw [decide_eq_true_eq] at hxt
      congr 1
      unfold gtN
      rw [List.filter_filter]
      congr 1
      refine List.filter_congr fun y _ => ?_
      by_cases h : 0 < cmpL y x
      · have : 0 < cmpL y t := cmpL_gt.2 (cmpL_trans (cmpL_gt.1 hxt) (cmpL_gt.1 h))
        rw [decide_eq_true h, decide_eq_true this]; rfl
      · rw [decide_eq_false h]; rfl
    rw [h2]
    have := gt_sum1 hS
    unfold gtN at this ⊢
    omega
theorem Cl.total {n : Nat} {cl : List (List Int)} (h : Cl n cl) (r : Nat) : tot cl r (c0 n) ≤ 4096 := by
  have h1 := tot_le h.si r [List.replicate n 0]
  have h2 := gtN_le cl (([List.replicate n (0 : Int)]).getD (([List.replicate n (0 : Int)]).length - 1) [])
  have h3 : 2 ^ gtN cl (([List.replicate n (0 : Int)]).getD (([List.replicate n (0 : Int)]).length - 1) []) ≤ 2 ^ 12 := Nat.pow_le_pow_right (by omega) (Nat.le_trans h2 h.few)
  exact Nat.le_trans h1 h3
/-- A chord that a further note fits. -/
def mor (cl c : List (List Int)) : Bool := cl.any fun x => fitB cl c x
def sel (cl : List (List Int)) (L : List (List (List Int))) : List (List (List Int)) := L.filter fun c => !mor cl c
/-- The maximal chords of up to r notes. -/
def maxL (cl : List (List Int)) (n r : Nat) : List (List (List Int)) := (List.range r).flatMap fun i => sel cl (iterL cl i (c0 n))
theorem maxL_succ (cl : List (List Int)) (n r : Nat) : maxL cl n (r + 1) = maxL cl n r ++ sel cl (iterL cl r (c0 n)) := by
  unfold maxL
  rw [List.range_succ, List.flatMap_append]; simp
theorem tot_succ (cl : List (List Int)) : ∀ (r : Nat) (L : List (List (List Int))), tot cl (r + 1) L = tot cl r L + (iterL cl r L).length
  | 0, L => by simp [tot, iterL]
  | r + 1, L => by
    show L.length + tot cl (r + 1) (stepL cl L) = L.length + tot cl r (stepL cl L) + (iterL cl r (stepL cl L)).length
    rw [tot_succ cl r]; omega
theorem maxL_length (cl : List (List Int)) (n : Nat) : ∀ r : Nat, (maxL cl n r).length ≤ tot cl r (c0 n)
  | 0 => Nat.le_refl _
  | r + 1 => by
    rw [maxL_succ, List.length_append, tot_succ]
    have := maxL_length cl n r
    have h2 : (sel cl (iterL cl r (c0 n))).length ≤ (iterL cl r (c0 n)).length := List.length_filter_le _ _
    omega
end Go.PM

/- Chapter 40, plain law: Maximal computes the maximal chords; ConsonanceMaximal's function answers true. -/
set_option linter.unusedSimpArgs false
set_option linter.unusedVariables false
namespace Go.PM
open Go Go.RowKit Go.Proofs
set_option maxRecDepth 100000

theorem any_find (p : List Int → Bool) (l : List (List Int)) : l.any p = ((List.range l.length).find? fun i => decide (p (l.getD i []) = true)).isSome := by
  cases hf : (List.range l.length).find? fun i => decide (p (l.getD i []) = true) with
  | none =>
    rw [Option.isSome_none, List.any_eq_false]
    intro x hx
    obtain ⟨i, hi, rfl⟩ := List.getElem_of_mem hx
    have := List.find?_eq_none.1 hf i (List.mem_range.2 hi)
    rw [List.getD_eq_getElem?_getD, List.getElem?_eq_getElem hi] at this
    simpa using this
  | some j =>
    have h1 := List.find?_some hf
    have h2 := List.mem_range.1 (List.mem_of_find?_eq_some hf)
    simp only [decide_eq_true_eq] at h1
    rw [Option.isSome_some, List.any_eq_true]
    exact ⟨_, getDL_mem h2, h1⟩
section
variable {cl : List (List Int)} {n : Nat}
theorem f43c_eq (hc : Cl n cl) {c : List (List Int)} (hcl : c.length ≤ 1000) (hce : ∀ y ∈ c, y.length = n) : f43s1c44llilli (cl, (cl, c, ()), ()) = some (mor cl c, ()) := by
  have hlow := hc.low
  have hhigh := hc.high
  have hfew := hc.few
  have hloop : loop65s1c44llilli_0 (cl, (cl, c, ()), (cl.length : Int), 0, ()) = some ((((List.range cl.length).find? fun i => decide (fitB cl c (cl.getD i []) = true)).map fun i : Nat => .inl ((i : Int), ())).getD (.inr ())) := by
    rw [← findSome_if (fun i => fitB cl c (cl.getD i []) = true) (fun i : Nat => Sum.inl ((i : Int), ()))]
    refine loopN_find (N := 2 ^ 64) (step := step65s1c44llilli_0) (fun i => (cl, (cl, c, ()), (cl.length : Int), (i : Int), ())) (fun i => if fitB cl c (cl.getD i []) = true then some (.inl ((i : Int), ())) else none) cl.length (.inr ()) (by omega) ?_ ?_
    · intro i hi
      have hx := hc.len _ (getDL_mem hi)
      simp only [step65s1c44llilli_0, ltI_eq, idxOk_eq, cond_dec, Int.toNat_natCast]
      rw [if_pos (by omega), if_pos (by omega)]
      unfold f44s1plli2plli; dsimp only
      rw [f45_eq (by omega) (fun y hy => by rw [hc.len y hy]; omega) hc.si (by omega) hcl (fun y hy => by rw [hce y hy]; omega), askO_s, askO_s, wrap64s i (by omega)]
      cases fitB cl c (cl.getD i []) <;> rfl
    · simp only [step65s1c44llilli_0, ltI_eq, cond_dec]
      rw [if_neg (by omega)]
  have h65 : f65s1c44llilli (cl, (cl, c, ()), ()) = some ((((List.range cl.length).find? fun i => decide (fitB cl c (cl.getD i []) = true)).map fun i : Nat => (i : Int)).getD (-1), ()) := by
    unfold f65s1c44llilli; dsimp only
    rw [hloop, askO_s]
    cases (List.range cl.length).find? fun i => decide (fitB cl c (cl.getD i []) = true) <;> rfl
  unfold f43s1c44llilli mor; dsimp only
  rw [h65, askO_s, any_find]
  cases (List.range cl.length).find? fun i => decide (fitB cl c (cl.getD i []) = true) with
  | none => rfl
  | some i =>
    show some (!(ltI ((i : Nat) : Int) 0), ()) = _
    rw [not_ltI0]; rfl
theorem each_eq (hc : Cl n cl) {k : Nat} (hk : 1 ≤ k ∧ k ≤ 100) : fEach ((k : Int), cl, (n : Int), ()) = some (chE (iterL cl (k - 1) (c0 n))) := by
  have hlow := hc.low
  have hhigh := hc.high
  have hfew := hc.few
  unfold fEach
  dsimp only
  have hgr := grow_eq (cl := cl) (n := n) (by omega) hc.si (by omega) hc.len (k - 1) [List.replicate n 0] ((chs_c0 n _ (by simp [c0])).2) (by simp; omega) (by simp)
  rw [Int.toNat_natCast, Int.toNat_natCast, hgr]
  simp only [ltI_eq, nble_eq]
  rw [decide_eq_true (show 0 < (k : Int) by omega), decide_eq_false (show ¬ 1048576 < (k : Int) by omega), decide_eq_false (show ¬ (n : Int) < 0 by omega), decide_eq_false (show ¬ 1048576 < (n : Int) by omega), decide_eq_true (show cl.length ≤ 1048576 by omega)]
  rfl
theorem fin20_1 (v0 : Int) (v4 : List (List (List Int))) (v5 : Int) (v6 : List (List Int)) (v8 : List (List (List Int))) (v9 : Int) (v31 : denT [(.int .i64), (.list (.list (.int .i64))), (.int .i64)]) : finG sh20_1 ex20_1 (v0, v4, v5, v6, v8, v9, v31, ()) = some (.inl (v0, v4, v5, v6, v8, v9, ())) := by kernel_rfl
theorem fin20_0 (v0 : Int) (v4 : List (List (List Int))) (v5 : Int) (v6 : List (List Int)) (v31 : denT [(.int .i64), (.list (.list (.int .i64))), (.int .i64)]) : finG sh20_0 ex20_0 (v0, v4, v5, v6, v31, ()) = some (.inl (v0, v4, v5, v6, ())) := by kernel_rfl
theorem range20 (hc : Cl n cl) (v0 v9 a b : Int) (q : List (List Int)) {m : Nat} (hm : m ≤ 100) : ∀ (L out : List (List (List Int))), out.length + L.length ≤ 5000 → Chs n m L →
    rangeN step20_1 (finG sh20_1 ex20_1) (chE L) (v0, [], 0, cl, out, v9, (a, q, b, ()), ()) = some (.inl (v0, [], 0, cl, out ++ sel cl L, v9, ()))
  | [], out, _, _ => by
    show finG sh20_1 ex20_1 (v0, [], 0, cl, out, v9, (a, q, b, ()), ()) = _
    rw [fin20_1]; simp [sel]
  | c :: L, out, hl, hL => by
    have hlow := hc.low
    have hhigh := hc.high
    simp only [List.length_cons] at hl
    obtain ⟨e1, e2⟩ := hL c (by simp)
    have hst : step20_1 (v0, [], 0, cl, out, v9, (a, q, b, ()), ()) (c, ()) = some (.inl (v0, [], 0, cl, out ++ sel cl [c], v9, (a, q, b, ()), ())) := by
      simp only [step20_1, eqI_eq, nble_eq, cond_dec]
      rw [f43c_eq hc (by omega) e2, askO_s]
      cases hm : mor cl c with
      | true => simp [sel, hm]
      | false =>
        simp only [cond_false]
        rw [if_neg (by omega), f42_eq (by omega) (fun y hy => by rw [e2 y hy]; omega), askO_s]
        simp only [List.length_cons, List.length_nil]
        rw [if_pos (by omega), if_pos (by omega)]
        simp [sel, hm]
    rw [show chE (c :: L) = (c, ()) :: chE L from rfl]
    unfold rangeN
    rw [hst]
    have hs1 : (sel cl [c]).length ≤ 1 := List.length_filter_le _ _
    have := range20 hc v0 v9 a b q hm L (out ++ sel cl [c]) (by rw [List.length_append]; omega) (fun d hd => hL d (by simp [hd]))
    rw [show sel cl (c :: L) = sel cl [c] ++ sel cl L by unfold sel; rw [← List.filter_append]; rfl, ← List.append_assoc]
    exact this
theorem loop20_1_eq (hc : Cl n cl) {k : Nat} (hk : 1 ≤ k ∧ k ≤ 100) (v0 v9 : Int) {out : List (List (List Int))} (ho : out.length + (iterL cl (k - 1) (c0 n)).length ≤ 5000) :
    loop20_1 (v0, [], 0, cl, out, v9, ((k : Int), cl, (n : Int), ()), ()) = some (.inl (v0, [], 0, cl, out ++ sel cl (iterL cl (k - 1) (c0 n)), v9, ())) := by
  have hch := chs_iter hc.len (k - 1) 1 (chs_c0 n)
  have hr := range20 hc v0 v9 (k : Int) (n : Int) cl (m := 1 + (k - 1)) (by omega) (iterL cl (k - 1) (c0 n)) out ho hch
  unfold loop20_1 runG
  have hg' : (fun x => fEach (cap20_1 x)) (v0, [], 0, cl, out, v9, ((k : Int), cl, (n : Int), ()), ()) = some (chE (iterL cl (k - 1) (c0 n))) := each_eq hc hk
  rw [hg']
  exact hr
theorem loop20_0_eq (hc : Cl n cl) (v0 : Int) : loop20_0 (v0, [], 0, cl, (7, cl, (n : Int), ()), ()) = some (if iterL cl 6 (c0 n) = [] then .inl (v0, [], 0, cl, ()) else .inr ([], 4, ())) := by
  have hg' : (fun x => fEach (cap20_0 x)) (v0, [], 0, cl, (7, cl, (n : Int), ()), ()) = some (chE (iterL cl 6 (c0 n))) := each_eq (k := 7) hc (by omega)
  unfold loop20_0 runG
  rw [hg']
  generalize iterL cl 6 (c0 n) = L
  cases L with
  | nil =>
    rw [if_pos rfl]
    exact fin20_0 _ _ _ _ _
  | cons c L => rfl
theorem f20_eq {l : List (List Int)} (h1 : l.length ≤ 1000) (h2 : Rws 1000 l) (hD : errD (n : Int) l = 0) (hc : Cl n (closC [] l)) : f20 ((n : Int), l, ()) = some (if iterL (closC [] l) 6 (c0 n) = [] then (maxL (closC [] l) n 6, 0, ()) else ([], 4, ())) := by
  unfold f20; dsimp only
  rw [f12_errD h1 h2, if_pos hD, askO_s]
  simp only [eqI_eq, not_dec, cond_dec]
  rw [if_neg (by simp)]
  unfold f41; dsimp only
  rw [askO_s]
  dsimp only
  rw [loop20_0_eq hc, askO_s]
  by_cases h : iterL (closC [] l) 6 (c0 n) = []
  · rw [if_pos h, if_pos h, onSum_inl]
    dsimp only
    have hl : loop20_2 ((n : Int), [], 0, closC [] l, [], 1, ()) = some (.inr ([], 0, maxL (closC [] l) n 6, ())) := by
      refine loopN_all (N := 2 ^ 64) (step := step20_2) (fun i => ((n : Int), [], 0, closC [] l, maxL (closC [] l) n i, ((i + 1 : Nat) : Int), ())) 6 (.inr ([], 0, maxL (closC [] l) n 6, ())) (by omega) ?_ ?_
      · intro i hi
        have t1 := maxL_length (closC [] l) n i
        have t2 := hc.total (i + 1)
        rw [tot_succ] at t2
        simp only [step20_2, ltI_eq, not_dec, cond_dec]
        rw [if_pos (by omega)]
        unfold f41; dsimp only
        rw [askO_s]
        dsimp only
        rw [loop20_1_eq hc (k := i + 1) (by omega) _ _ (by rw [Nat.add_sub_cancel]; omega), askO_s, onSum_inl]
        dsimp only
        rw [wrap64s (i + 1) (by omega), Nat.add_sub_cancel, maxL_succ]
      · simp only [step20_2, ltI_eq, not_dec, cond_dec]
        rw [if_neg (by omega)]
    rw [hl, askO_s]; rfl
  · rw [if_neg h, if_neg h, onSum_inr]
end
end Go.PM

/- Chapter 40, plain law: ConsonanceMaximal's function answers true. -/
set_option linter.unusedSimpArgs false
set_option linter.unusedVariables false
namespace Go.PM
open Go Go.RowKit Go.Proofs
set_option maxRecDepth 100000

theorem any_take (p : List Int → Bool) {l : List (List Int)} {i : Nat} (h : i < l.length) : (l.take (i + 1)).any p = ((l.take i).any p || p (l.getD i [])) := by
  rw [List.take_add_one, List.any_append, List.getElem?_eq_getElem h, show l.getD i [] = l[i] by rw [List.getD_eq_getElem?_getD, List.getElem?_eq_getElem h]; rfl]
  simp
section
variable {cl : List (List Int)} {n : Nat}
theorem loop5_0_eq (hc : Cl n cl) {cc want L : List (List (List Int))} {e : Int} {v3 v10 : Int} {m i : Nat} (hm : m ≤ 100) (hi : i < L.length) (hch : Chs n m L) :
    loop5_0 (v3, cl, cc, e, want, v10, L, (i : Int), false, 0, ()) = some (v3, cl, cc, e, want, v10, L, (i : Int), mor cl (L.getD i []), ()) := by
  have hlow := hc.low
  have hhigh := hc.high
  have hfew := hc.few
  have hcm : L.getD i [] ∈ L := by
    rw [List.getD_eq_getElem?_getD, List.getElem?_eq_getElem hi]; exact List.getElem_mem hi
  obtain ⟨e1, e2⟩ := hch _ hcm
  refine loopN_all (N := 2 ^ 64) (step := step5_0) (fun j => (v3, cl, cc, e, want, v10, L, (i : Int), (cl.take j).any (fun x => fitB cl (L.getD i []) x), (j : Int), ())) cl.length (v3, cl, cc, e, want, v10, L, (i : Int), mor cl (L.getD i []), ()) (by omega) ?_ ?_
  · intro j hj
    have hx := hc.len _ (getDL_mem hj)
    rw [any_take _ hj]
    simp only [step5_0, ltI_eq, idxOk_eq, cond_dec, Int.toNat_natCast]
    rw [if_pos (by omega), wrap64s j (by omega)]
    cases ha : (cl.take j).any (fun x => fitB cl (L.getD i []) x) with
    | true => rfl
    | false =>
      rw [cond_false, if_pos (by omega), if_pos (by omega), f21_eq (by omega) (fun y hy => by rw [hc.len y hy]; omega) (by omega) (by omega) (fun y hy => by rw [e2 y hy]; omega), askO_s]
      rfl
  · simp only [step5_0, ltI_eq, cond_dec]
    rw [if_neg (by omega), List.take_length]; rfl
theorem sel_take {L : List (List (List Int))} {i : Nat} (h : i < L.length) : sel cl (L.take (i + 1)) = sel cl (L.take i) ++ (if mor cl (L.getD i []) = true then [] else [L.getD i []]) := by
  unfold sel
  rw [List.take_add_one, List.filter_append, List.getElem?_eq_getElem h, show L.getD i [] = L[i] by rw [List.getD_eq_getElem?_getD, List.getElem?_eq_getElem h]; rfl]
  cases hm : mor cl L[i] <;> simp [hm]
theorem loop5_1_eq (hc : Cl n cl) {cc want L : List (List (List Int))} {e : Int} {v3 v10 : Int} {m : Nat} (hm : m ≤ 100) (hL : want.length + L.length ≤ 5000) (hch : Chs n m L) :
    loop5_1 (v3, cl, cc, e, want, v10, L, 0, ()) = some (v3, cl, cc, e, want ++ sel cl L, v10, ()) := by
  suffices h0 : loop5_1 (v3, cl, cc, e, want ++ sel cl (L.take 0), v10, L, 0, ()) = some (v3, cl, cc, e, want ++ sel cl L, v10, ()) by
    rwa [List.take_zero, show sel cl [] = [] from rfl, List.append_nil] at h0
  refine loopN_all (N := 2 ^ 64) (step := step5_1) (fun i => (v3, cl, cc, e, want ++ sel cl (L.take i), v10, L, (i : Int), ())) L.length (v3, cl, cc, e, want ++ sel cl L, v10, ()) (by omega) ?_ ?_
  · intro i hi
    have hs1 : (sel cl (L.take i)).length ≤ (L.take i).length := List.length_filter_le _ _
    rw [List.length_take] at hs1
    rw [sel_take hi, ← List.append_assoc]
    generalize sel cl (L.take i) = acc at *
    simp only [step5_1, ltI_eq, cond_dec]
    rw [if_pos (by omega), loop5_0_eq hc hm hi hch, askO_s]
    dsimp only
    rw [wrap64s i (by omega)]
    cases hmo : mor cl (L.getD i []) with
    | true => rw [cond_true, if_pos rfl, List.append_nil]
    | false =>
      rw [cond_false, if_neg (by decide)]
      simp only [idxOk_eq, nble_eq, cond_dec, Int.toNat_natCast, List.length_cons, List.length_nil, List.length_append]
      rw [if_pos (by omega), if_pos (by omega), if_pos (by omega)]
  · simp only [step5_1, ltI_eq, cond_dec]
    rw [if_neg (by omega), List.take_length]
/-- A round of the law's loop over lengths. -/
theorem step5_2_eq (hc : Cl n cl) (cc : List (List (List Int))) (e : Int) {i : Nat} (hi : i < 7) (h6 : i = 6 → iterL cl 6 (c0 n) = []) :
    step5_2 ((n : Int), cl, cc, e, maxL cl n i, ((i + 1 : Nat) : Int), ()) = some (.inl ((n : Int), cl, cc, e, maxL cl n (i + 1), ((i + 1 + 1 : Nat) : Int), ())) := by
  have t1 := maxL_length cl n i
  have t2 := hc.total (i + 1)
  rw [tot_succ] at t2
  have hch := chs_iter hc.len i 1 (chs_c0 n)
  have hl := loop5_1_eq hc (cc := cc) (want := maxL cl n i) (L := iterL cl i (c0 n)) (e := e) (v3 := (n : Int)) (v10 := ((i + 1 : Nat) : Int)) (m := 1 + i) (by omega) (by omega) hch
  simp only [step5_2, ltI_eq, eqI_eq, not_dec, cond_dec]
  rw [if_pos (by omega), f19_eq hc (k := i + 1) (by omega), askO_s]
  rw [Nat.add_sub_cancel]
  dsimp only
  rw [maxL_succ]
  by_cases h : i = 6
  · have h6' := h6 h
    subst h
    rw [if_pos (by omega), h6', if_neg (by simp)]
    rw [h6'] at hl
    rw [hl, askO_s]
    dsimp only
    rw [wrap64s 7 (by omega)]
  · rw [if_neg (by omega), hl, askO_s]
    dsimp only
    rw [wrap64s (i + 1) (by omega)]
theorem f5_true {a : Int} {rs : List (Int × (Int × Int))} (ha : 0 ≤ a ∧ a ≤ 255) : f5 ((a, rs), ()) = some (true, ()) := by
  obtain ⟨n, hn, b, l, h16, hb⟩ := f16_eq (rs := rs) ha
  unfold f5; dsimp only
  rw [h16, askO_s, f10_eq, askO_s]
  cases b with
  | false => rfl
  | true =>
    obtain ⟨h6, rfl⟩ := hb rfl
    obtain ⟨g1, g2, g3, g4⟩ := plan_good (rs := rs) hn h6
    simp only [cond_true]
    rw [f15_eq g1 g2, askO_s, f20_eq g1 g2 g3 g4, askO_s]
    generalize closC [] (rs.map (rowE n)) = cl at *
    by_cases h : iterL cl 6 (c0 n) = []
    · rw [if_pos h]
      dsimp only
      have hl : loop5_2 ((n : Int), cl, maxL cl n 6, 0, [], 1, ()) = some (.inr (maxL cl n 6, 0, maxL cl n 7, ())) := by
        refine loopN_all (N := 2 ^ 64) (step := step5_2) (fun i => ((n : Int), cl, maxL cl n 6, 0, maxL cl n i, ((i + 1 : Nat) : Int), ())) 7 (.inr (maxL cl n 6, 0, maxL cl n 7, ())) (by omega) ?_ ?_
        · intro i hi
          exact step5_2_eq g4 _ _ hi (fun _ => h)
        · simp only [step5_2, ltI_eq, not_dec, cond_dec]
          rw [if_neg (by omega)]
      have h7 : maxL cl n 7 = maxL cl n 6 := by
        rw [maxL_succ, h]; simp [sel]
      rw [hl, askO_s, onSum_inr, h7]
      dsimp only
      have t1 := maxL_length cl n 6
      have t2 := g4.total 6
      have hin : ∀ c ∈ maxL cl n 6, c.length ≤ 100000 ∧ Rws 100000 c := by
        intro c hcm
        obtain ⟨i, hi, hcm⟩ := List.mem_flatMap.1 hcm
        have hi := List.mem_range.1 hi
        have hcm := (List.mem_filter.1 hcm).1
        obtain ⟨e1, e2⟩ := chs_iter g4.len i 1 (chs_c0 n) c hcm
        have := g4.high
        exact ⟨by omega, fun y hy => by rw [e2 y hy]; omega⟩
      rw [f18_eq _ _ (by omega) hin, askO_s]
      simp [eqI_eq]
    · rw [if_neg h]
      dsimp only
      have hl : loop5_2 ((n : Int), cl, [], 4, [], 1, ()) = some (.inl (true, ())) := by
        have := loopN_steps (step := step5_2) (fun i => ((n : Int), cl, [], 4, maxL cl n i, ((i + 1 : Nat) : Int), ())) (2 ^ 64 - 6) 6 0 (fun i _ hi => step5_2_eq g4 _ _ (by omega) (fun h => by omega))
        have e : 6 + (2 ^ 64 - 6) = 2 ^ 64 := by omega
        rw [e] at this
        refine Eq.trans this ?_
        obtain ⟨N, hN⟩ : ∃ N, 2 ^ 64 - 6 = N + 1 := ⟨2 ^ 64 - 7, by omega⟩
        rw [hN, loopN_succ]
        have hst : step5_2 ((n : Int), cl, [], 4, maxL cl n (0 + 6), ((0 + 6 + 1 : Nat) : Int), ()) = some (.inr (.inl (true, ()))) := by
          simp only [step5_2, ltI_eq, eqI_eq, not_dec, cond_dec]
          rw [if_pos (by omega), f19_eq g4 (k := 7) (by omega), askO_s]
          dsimp only
          have : 0 < (iterL cl (7 - 1) (c0 n)).length := List.length_pos_iff.2 h
          rw [if_pos (by omega), if_pos (by omega), if_pos (by simp)]
          simp
        rw [hst]
      rw [hl, askO_s, onSum_inl]
end
end Go.PM
