/- Plain laws on least choices: of all choices none has a smaller diameter; a greater window has no worse one, a hexagonal keyboard neither. -/
import Derived.Test.YtcnpanmkpfgdjaaLeastB
import Derived.Test.YtcnpanmkpfgdjaaNum
namespace Go.Proofs.Ytcnpanmkpfgdjaa
open Go.RowKit Go.Sch

theorem foldl_least {D : Int → Int → Int} : ∀ (l : List (List Key2)) (c : List Key2) (d : Int), d = diam D c →
    ∃ c' d', l.foldl (stepL D) (some (c, d)) = some (c', d') ∧ d' = diam D c' ∧ d' ≤ d ∧ (∀ x ∈ l, d' ≤ diam D x) ∧ (c' ∈ l ∨ c' = c)
  | [], c, d, h => ⟨c, d, rfl, h, Int.le_refl _, by simp, .inr rfl⟩
  | x :: l, c, d, h => by
    rw [List.foldl_cons, stepL]
    by_cases hx : diam D x < d
    · rw [if_pos hx]
      obtain ⟨c', d', h1, h2, h3, h4, h5⟩ := foldl_least l x (diam D x) rfl
      refine ⟨c', d', h1, h2, by omega, fun y hy => ?_, ?_⟩
      · rcases List.mem_cons.1 hy with rfl | hy
        · exact h3
        · exact h4 y hy
      · rcases h5 with h5 | rfl
        · exact .inl (by simp [h5])
        · exact .inl (by simp)
    · rw [if_neg hx]
      obtain ⟨c', d', h1, h2, h3, h4, h5⟩ := foldl_least l c d h
      refine ⟨c', d', h1, h2, h3, fun y hy => ?_, ?_⟩
      · rcases List.mem_cons.1 hy with rfl | hy
        · omega
        · exact h4 y hy
      · rcases h5 with h5 | h5
        · exact .inl (by simp [h5])
        · exact .inr h5
theorem leastOf_nil {D : Int → Int → Int} {all : List (List Key2)} (h : leastOf D all = none) : all = [] := by
  cases all with
  | nil => rfl
  | cons x l =>
    obtain ⟨c', d', h1, -⟩ := foldl_least (D := D) l x _ rfl
    rw [leastOf, List.foldl_cons, stepL, h1] at h
    cases h
theorem leastOf_min {D : Int → Int → Int} {all : List (List Key2)} {c : List Key2} {d : Int} (h : leastOf D all = some (c, d)) : c ∈ all ∧ d = diam D c ∧ ∀ x ∈ all, d ≤ diam D x := by
  cases all with
  | nil => cases h
  | cons x l =>
    obtain ⟨c', d', h1, h2, h3, h4, h5⟩ := foldl_least (D := D) l x _ rfl
    rw [leastOf, List.foldl_cons, stepL, h1] at h
    simp only [Option.some.injEq, Prod.mk.injEq] at h
    obtain ⟨rfl, rfl⟩ := h
    refine ⟨?_, h2, fun y hy => ?_⟩
    · rcases h5 with h5 | rfl
      · simp [h5]
      · simp
    · rcases List.mem_cons.1 hy with rfl | hy
      · exact h3
      · exact h4 y hy
theorem leastOf_some {D : Int → Int → Int} {all : List (List Key2)} {x : List Key2} (hx : x ∈ all) : ∃ c d, leastOf D all = some (c, d) := by
  cases h : leastOf D all with
  | none => rw [leastOf_nil h] at hx; cases hx
  | some p => exact ⟨p.1, p.2, rfl⟩

/-- A choice of one key of each list. -/
def sel : List Key2 → List (List Key2) → Prop
  | [], [] => True
  | k :: c, l :: ls => k ∈ l ∧ sel c ls
  | _, _ => False
theorem mem_chs : ∀ {ls : List (List Key2)} {c : List Key2}, c ∈ chs ls ↔ sel c ls
  | [], [] => by simp [chs, sel]
  | [], k :: c => by simp [chs, sel]
  | l :: ls, [] => by simp [chs, sel]
  | l :: ls, k :: c => by
    simp only [chs, List.mem_flatMap, List.mem_map, List.cons.injEq, sel]
    constructor
    · rintro ⟨k', hk, t, ht, rfl, rfl⟩
      exact ⟨hk, mem_chs.1 ht⟩
    · rintro ⟨hk, h⟩
      exact ⟨k, hk, c, mem_chs.2 h, rfl, rfl⟩
theorem sel_get : ∀ {c : List Key2} {rs : List (List Int)} {f : List Int → List Key2}, sel c (rs.map f) → c.length = rs.length ∧ ∀ i (h : i < c.length) (h' : i < rs.length), c[i] ∈ f rs[i]
  | [], [], f, _ => ⟨rfl, fun i h => absurd h (Nat.not_lt_zero _)⟩
  | [], r :: rs, f, h => by simp [sel] at h
  | k :: c, [], f, h => by simp [sel] at h
  | k :: c, r :: rs, f, h => by
    simp only [List.map_cons, sel] at h
    obtain ⟨h1, h2⟩ := sel_get h.2
    refine ⟨by simp [h1], fun i hi hi' => ?_⟩
    match i, hi, hi' with
    | 0, _, _ => exact h.1
    | i + 1, hi, hi' => exact h2 i (by simpa using hi) (by simpa using hi')
theorem sel_mono : ∀ {c : List Key2} {rs : List (List Int)} {f g : List Int → List Key2}, (∀ r k, k ∈ f r → k ∈ g r) → sel c (rs.map f) → sel c (rs.map g)
  | [], [], f, g, _, h => h
  | [], r :: rs, f, g, _, h => by simp [sel] at h
  | k :: c, [], f, g, _, h => by simp [sel] at h
  | k :: c, r :: rs, f, g, hm, h => by
    simp only [List.map_cons, sel] at h ⊢
    exact ⟨hm _ _ h.1, sel_mono hm h.2⟩

theorem mem_keysOf {l : Lay} {r : List Int} {m : Nat} {k : Key2} : k ∈ keysOf l r m ↔ (-(m : Int) ≤ k.1 ∧ k.1 ≤ m) ∧ (-(m : Int) ≤ k.2 ∧ k.2 ≤ m) ∧ atRow l k.1 k.2 = r := by
  unfold keysOf allN lineN
  simp only [List.mem_flatMap, List.mem_range]
  constructor
  · rintro ⟨j, hj, i, hi, hk⟩
    unfold keyAt at hk
    split at hk
    · rename_i he
      simp only [List.mem_singleton] at hk
      subst hk
      exact ⟨by dsimp only; omega, by dsimp only; omega, he⟩
    · cases hk
  · rintro ⟨⟨h1, h2⟩, ⟨h3, h4⟩, h5⟩
    refine ⟨(k.2 + m).toNat, by omega, (k.1 + m).toNat, by omega, ?_⟩
    have e1 : ((k.1 + m).toNat : Int) - m = k.1 := by omega
    have e2 : ((k.2 + m).toNat : Int) - m = k.2 := by omega
    rw [e2, keyAt, e1, if_pos h5]
    simp
theorem keysOf_succ {l : Lay} (m : Nat) (r : List Int) (k : Key2) (h : k ∈ keysOf l r m) : k ∈ keysOf l r (m + 1) := by
  rw [mem_keysOf] at h ⊢
  exact ⟨by omega, by omega, h.2.2⟩

theorem rowMax_le {D : Int → Int → Int} {a : Key2} {M : Int} : ∀ {l : List Key2} {n : Int}, n ≤ M → (∀ b ∈ l, pairD D a b ≤ M) → rowMax D a l n ≤ M
  | [], n, h, _ => h
  | b :: l, n, h, hb => by
    have := rowMax_le (l := l) (n := max n (pairD D a b)) (D := D) (a := a) (M := M) (by have := hb b (by simp); omega) (fun x hx => hb x (by simp [hx]))
    simpa [rowMax] using this
theorem rowMax_mono {D D' : Int → Int → Int} {a : Key2} : ∀ {l : List Key2} {n n' : Int}, n' ≤ n → (∀ b, pairD D' a b ≤ pairD D a b) → rowMax D' a l n' ≤ rowMax D a l n
  | [], n, n', h, _ => h
  | b :: l, n, n', h, hb => by
    have h1 := hb b
    have := rowMax_mono (l := l) (n := max n (pairD D a b)) (n' := max n' (pairD D' a b)) (D := D) (D' := D') (a := a) (by omega) hb
    simpa [rowMax] using this
theorem diam_le {D : Int → Int → Int} {l : List Key2} {M : Int} (h0 : 0 ≤ M) (h : ∀ a ∈ l, ∀ b ∈ l, pairD D a b ≤ M) : diam D l ≤ M := by
  have : ∀ i, i ≤ l.length → diamTo D l i ≤ M := by
    intro i
    induction i with
    | zero => intro _; exact h0
    | succ i ih =>
      intro hi
      rw [diamTo]
      refine rowMax_le (ih (by omega)) fun b hb => ?_
      rw [List.getElem?_eq_getElem (by omega)]
      exact h _ (List.getElem_mem _) _ (List.mem_of_mem_take hb)
  exact this _ (Nat.le_refl _)
theorem diam_mono {D D' : Int → Int → Int} (l : List Key2) (h : ∀ a b, pairD D' a b ≤ pairD D a b) : diam D' l ≤ diam D l := by
  have : ∀ i, diamTo D' l i ≤ diamTo D l i := by
    intro i
    induction i with
    | zero => exact Int.le_refl _
    | succ i ih => rw [diamTo, diamTo]; exact rowMax_mono ih (h _)
  exact this _
theorem hex_le (a b : Key2) : pairD (farD 2) a b ≤ pairD (farD 1) a b := by
  simp only [pairD, farD, if_true, if_neg (show ¬ (1 : Int) = 2 by decide)]
  omega

/-- The window one greater; the keyboard hexagonal. -/
def wider (q : Quest) : Quest := { q with most := q.most + 1 }
def hexed (q : Quest) : Quest := { q with l := { q.l with kind := 2 } }
theorem hexed_lists (q : Quest) : qLists (hexed q) = qLists q := rfl
theorem wider_sel {q : Quest} (h0 : 0 ≤ q.most) {c : List Key2} (h : c ∈ chs (qLists q)) : c ∈ chs (qLists (wider q)) := by
  rw [mem_chs] at h ⊢
  unfold qLists at h ⊢
  refine sel_mono (fun r k hk => ?_) h
  have e : (wider q).most.toNat = q.most.toNat + 1 := by show (q.most + 1).toNat = _; omega
  rw [e]
  exact keysOf_succ _ _ _ hk
/-- What the law asks of the least choice. -/
theorem least_keys {q : Quest} {D : Int → Int → Int} {c : List Key2} {d : Int} (h : leastOf D (chs (qLists q)) = some (c, d)) :
    c.length = q.chord.length ∧ ∀ i (h : i < c.length) (h' : i < q.chord.length), atRow q.l c[i].1 c[i].2 = q.chord[i] ∧ (-(q.most.toNat : Int) ≤ c[i].1 ∧ c[i].1 ≤ q.most.toNat) ∧ (-(q.most.toNat : Int) ≤ c[i].2 ∧ c[i].2 ≤ q.most.toNat) := by
  have h1 := (leastOf_min h).1
  rw [mem_chs] at h1
  obtain ⟨h2, h3⟩ := sel_get h1
  refine ⟨h2, fun i hi hi' => ?_⟩
  have := h3 i hi hi'
  rw [mem_keysOf] at this
  exact ⟨this.2.2, this.1, this.2.1⟩
theorem least_four {q : Quest} {c : List Key2} {d : Int} (h0 : 0 ≤ q.most) (h : leastOf (farD 1) (chs (qLists q)) = some (c, d)) : d ≤ 4 * q.most := by
  obtain ⟨h1, h2⟩ := least_keys h
  rw [(leastOf_min h).2.1]
  have key : ∀ a ∈ c, (-q.most ≤ a.1 ∧ a.1 ≤ q.most) ∧ (-q.most ≤ a.2 ∧ a.2 ≤ q.most) := by
    intro a ha
    obtain ⟨i, hi, rfl⟩ := List.getElem_of_mem ha
    have := (h2 i hi (by omega)).2
    omega
  refine diam_le (by omega) fun a ha b hb => ?_
  have p1 := key a ha
  have p2 := key b hb
  simp only [pairD, farD, if_neg (show ¬ (1 : Int) = 2 by decide)]
  omega
theorem least_wider {q : Quest} {D : Int → Int → Int} {c : List Key2} {d : Int} (h0 : 0 ≤ q.most) (h : leastOf D (chs (qLists q)) = some (c, d)) :
    ∃ c' d', leastOf D (chs (qLists (wider q))) = some (c', d') ∧ d' ≤ d := by
  obtain ⟨h1, h2, -⟩ := leastOf_min h
  have h3 := wider_sel h0 h1
  obtain ⟨c', d', h4⟩ := leastOf_some (D := D) h3
  have := (leastOf_min h4).2.2 _ h3
  exact ⟨c', d', h4, by omega⟩
theorem least_hex {q : Quest} {c : List Key2} {d : Int} (h : leastOf (farD 1) (chs (qLists q)) = some (c, d)) :
    ∃ c' d', leastOf (farD 2) (chs (qLists q)) = some (c', d') ∧ d' ≤ d := by
  obtain ⟨h1, h2, -⟩ := leastOf_min h
  obtain ⟨c', d', h4⟩ := leastOf_some (D := farD 2) h1
  have h5 := (leastOf_min h4).2.2 _ h1
  have h6 := diam_mono c hex_le
  exact ⟨c', d', h4, by omega⟩

/-- The rows of a plan. -/
def rowOfL (two : Bool) (x : Int × Int) : List Int := if two then [x.1.tmod 13, x.2.tmod 13] else [x.1.tmod 13]
def rowsL (two : Bool) (l : List (Int × Int)) : List (List Int) := if l = [] then [rowOfL two (0, 0)] else (l.take 4).map (rowOfL two)
structure Plan where
  hex : Bool
  two : Bool
  o : Int × Int
  r : Int × Int
  u : Int × Int
  chord : List (Int × Int)
  most : Int
def planQ (p : Plan) : Quest := ⟨⟨if p.hex then 2 else 1, rowOfL p.two p.o, rowOfL p.two p.r, rowOfL p.two p.u⟩, rowsL p.two p.chord, p.most.tmod 4⟩

theorem tmod_bd (a : Int) : -12 ≤ a.tmod 13 ∧ a.tmod 13 ≤ 12 := by have := tmod_in a (b := 13) (by decide); omega
def small (n : Nat) (r : List Int) : Prop := r.length = n ∧ ∀ x ∈ r, -12 ≤ x ∧ x ≤ 12
theorem rowOfL_small (two : Bool) (x : Int × Int) : small (if two then 2 else 1) (rowOfL two x) := by
  have h1 := tmod_bd x.1
  have h2 := tmod_bd x.2
  cases two
  · exact ⟨rfl, by simp [rowOfL]; omega⟩
  · exact ⟨rfl, by simp [rowOfL]; omega⟩
theorem rowCheck_small {n : Nat} {r : List Int} (h : small n r) (hn : n ≤ 64) : rowCheck r = 0 := by
  refine (rowCheck_ok (by rw [h.1]; omega) ?_).symm
  rw [List.any_eq_false]
  intro x hx
  have := h.2 x hx
  simp [fitsB]
  omega
theorem rowsCheck_small {n : Nat} (hn : n ≤ 64) : ∀ {l : List (List Int)}, (∀ r ∈ l, small n r) → rowsCheck l n = 0
  | [], _ => rfl
  | r :: l, h => by
    have h1 := h r (by simp)
    rw [rowsCheck, if_neg (by rw [rowCheck_small h1 hn]; decide), if_neg (by rw [h1.1]; simp)]
    exact rowsCheck_small hn fun x hx => h x (by simp [hx])
theorem reachCheck_small {q : Quest} {n : Nat} (hn : n ≤ 12) (hk : q.l.kind = 1 ∨ q.l.kind = 2) (h1 : small n q.l.o) (h2 : small n q.l.r) (h3 : small n q.l.u) (h4 : ∀ r ∈ q.chord, small n r) (h5 : 0 < q.chord.length ∧ q.chord.length ≤ 8) (h6 : 0 ≤ q.most ∧ q.most ≤ 20) :
    reachCheck q = 0 := by
  have e1 : layCheck q.l = 0 := by
    rw [layCheck, if_neg (by omega), if_neg (by rw [rowCheck_small h1 (by omega)]; decide), if_neg (by rw [h1.1]; omega), h1.1]
    refine rowsCheck_small (by omega) fun r hr => ?_
    simp only [List.mem_cons, List.not_mem_nil, or_false] at hr
    rcases hr with rfl | rfl
    · exact h2
    · exact h3
  rw [reachCheck, if_neg (by rw [e1]; decide), if_neg (by omega), if_neg (by omega), h1.1, if_neg (by rw [rowsCheck_small (by omega) h4]; decide), windowCheck, if_neg (by omega)]
theorem rowsL_len (two : Bool) (l : List (Int × Int)) : 0 < (rowsL two l).length ∧ (rowsL two l).length ≤ 4 := by
  unfold rowsL
  split
  · simp
  · rename_i h
    have := List.length_pos_iff.2 h
    simp only [List.length_map, List.length_take]
    omega
theorem rowsL_small (two : Bool) (l : List (Int × Int)) : ∀ r ∈ rowsL two l, small (if two then 2 else 1) r := by
  intro r hr
  unfold rowsL at hr
  split at hr
  · simp only [List.mem_singleton] at hr; subst hr; exact rowOfL_small _ _
  · obtain ⟨x, -, rfl⟩ := List.mem_map.1 hr; exact rowOfL_small _ _
theorem two_le (two : Bool) : (if two then 2 else 1 : Nat) ≤ 12 := by cases two <;> decide
theorem planQ_check {p : Plan} (hm : 0 ≤ p.most) : reachCheck (planQ p) = 0 :=
  reachCheck_small (two_le p.two) (by unfold planQ; cases p.hex <;> simp) (rowOfL_small _ _) (rowOfL_small _ _) (rowOfL_small _ _) (rowsL_small _ _) (by have := rowsL_len p.two p.chord; exact ⟨this.1, by show (rowsL p.two p.chord).length ≤ 8; omega⟩)
    (by show 0 ≤ p.most.tmod 4 ∧ p.most.tmod 4 ≤ 20; have := tmod_in p.most (b := 4) (by decide); omega)
theorem planQ_wider {p : Plan} (hm : 0 ≤ p.most) : reachCheck (wider (planQ p)) = 0 :=
  reachCheck_small (two_le p.two) (by unfold wider planQ; cases p.hex <;> simp) (rowOfL_small _ _) (rowOfL_small _ _) (rowOfL_small _ _) (rowsL_small _ _) (by have := rowsL_len p.two p.chord; exact ⟨this.1, by show (rowsL p.two p.chord).length ≤ 8; omega⟩)
    (by show 0 ≤ p.most.tmod 4 + 1 ∧ p.most.tmod 4 + 1 ≤ 20; have := tmod_in p.most (b := 4) (by decide); omega)
theorem planQ_hexed {p : Plan} (hm : 0 ≤ p.most) : reachCheck (hexed (planQ p)) = 0 :=
  reachCheck_small (two_le p.two) (.inr rfl) (rowOfL_small _ _) (rowOfL_small _ _) (rowOfL_small _ _) (rowsL_small _ _) (by have := rowsL_len p.two p.chord; exact ⟨this.1, by show (rowsL p.two p.chord).length ≤ 8; omega⟩)
    (by show 0 ≤ p.most.tmod 4 ∧ p.most.tmod 4 ≤ 20; have := tmod_in p.most (b := 4) (by decide); omega)
theorem qCount_err {q : Quest} (h : reachCheck q = 0) : (qCount q).2 = 0 ∨ (qCount q).2 = 4 := by
  unfold qCount
  rw [if_neg (by rw [h]; decide)]
  split
  · exact .inl rfl
  · split
    · exact .inr rfl
    · exact .inl rfl
theorem hexed_count {q : Quest} (h : reachCheck q = 0) (h' : reachCheck (hexed q) = 0) : qCount (hexed q) = qCount q := by
  have e : ∀ q, reachCheck q = 0 → qCount q = if anyEmpty (qLists q) = true then (0, 0) else if 50000 < prodN (qLists q) (qLists q).length then (0, 4) else ((prodN (qLists q) (qLists q).length : Int), 0) := by
    intro q h
    rw [qCount, if_neg (by rw [h]; decide)]
  rw [e _ h, e _ h', hexed_lists]
end Go.Proofs.Ytcnpanmkpfgdjaa
