/- Texts of one proof, joined (8). -/
import Derived.Lib.AtoiAllCases
import Derived.Test.YtjgapmocogjkmaaGreatDoorQF7
set_option linter.unusedSimpArgs false
set_option linter.unusedVariables false
namespace Go.PM
open Go Go.RowKit Go.Proofs Go.Lz
set_option maxRecDepth 100000
abbrev l7 : Nat := 18
def Zr (n : Nat) (v : V) : List ByteArray := (List.range n).map fun i => Zn (v i)
theorem iY (n : Nat) (v : V) : (Zr n v).length = n := by simp [Zr]
theorem A8 {n i : Nat} (v : V) (h : i < n) (d : ByteArray) : (Zr n v).getD i d = Zn (v i) := by simp [Zr, List.getD, h]
theorem wR {n : Nat} {u v : V} (h : ∀ i, i < n → u i = v i) : Zr n u = Zr n v := by
 unfold Zr
 refine List.map_congr_left fun i hi => ?_
 rw [h i (List.mem_range.1 hi)]
theorem aJM {n : Nat} (u v : V) (t : Nat) (h : t < n) : (Zr n fun x => if x < t then v x else u x).set t (Zn (v t)) = Zr n fun x => if x < t + 1 then v x else u x := by
 refine List.ext_getElem? fun i => ?_
 simp only [Zr, List.getElem?_set, List.length_map, List.length_range, List.getElem?_map]
 by_cases e : t = i
 ·subst e
  simp [h]
 ·rw [if_neg e]
  by_cases hi : i < n
  ·simp only [List.getElem?_range hi, Option.map_some]
   congr 2
   by_cases h1 : i < t
   ·rw [if_pos h1, if_pos (by omega)]
   ·rw [if_neg h1, if_neg (by omega)]
  ·have h1 : (List.range n)[i]? = none := by simp; omega
   rw [h1]; rfl
theorem MZ {α : Type} (A : List α) (j : Nat) (x d : α) (h : j < A.length) : (A.set j x).getD j d = x := by simp [List.getD, h]
theorem getD_set_ne {α : Type} (A : List α) {j k : Nat} (x d : α) (h : j ≠ k) : (A.set j x).getD k d = A.getD k d := by simp [List.getD, List.getElem?_set_ne h]
theorem P7 {α : Type} {A : List α} {j : Nat} {x : α} (d : α) (h : A[j]? = some x) : A.getD j d = x := by simp [List.getD, h]

structure aAB (n : Nat) (u v : V) (q : Int) : Prop where
 mul : ∀ i, i < n → Lib.nDigits q.natAbs + Lib.nDigits (v i).natAbs ≤ l7
 sub : ∀ i, i < n → Lib.nDigits (u i).natAbs ≤ l7
theorem UG (a b : Nat) : Lib.nDigits (a * b) ≤ Lib.nDigits a + Lib.nDigits b := by
 have h1 := j8 a
 have h2 := j8 b
 have p1 := nDigits_pos a
 have p2 := nDigits_pos b
 have h4 : a * b < 10 ^ Lib.nDigits a * 10 ^ Lib.nDigits b := Nat.mul_lt_mul'' h1 h2
 rw [← Nat.pow_add] at h4
 obtain ⟨k, hk⟩ : ∃ k, Lib.nDigits a + Lib.nDigits b = k + 1 := ⟨Lib.nDigits a + Lib.nDigits b - 1, by omega⟩
 rw [hk] at h4 ⊢
 exact jT h4
theorem JN {α : Type} {pre l : List α} {o t : Nat} (h : pre.length = o) (d : α) : (pre ++ l).getD (o + t) d = l.getD t d := by
 subst h
 simp [List.getD, List.getElem?_append_right (Nat.le_add_right _ _)]
theorem aMJ {α : Type} {pre l : List α} {o t : Nat} (h : pre.length = o) (x : α) : (pre ++ l).set (o + t) x = pre ++ l.set t x := by
 subst h
 rw [List.set_append_right _ _ (Nat.le_add_right _ _)]
 congr 2
 omega
theorem aM4 {A : List (List ByteArray)} {J K o n : Nat} {u v : V} {q : Int} {pre pre' : List ByteArray} (hn : n < 1048576) (hne : J ≠ K) (hp : pre.length = o) (hp' : pre'.length = o) (hJ : A[J]? = some (pre ++ Zr n u)) (hK : A[K]? = some (pre' ++ Zr n v)) (ok : aAB n u v q) :
  jI ((J, o, n), Zn q, (K, o, n), (n : Int), 0, A, ()) = some (A.set J (pre ++ Zr n fun x => u x - q * v x), ()) := by
 have hJl : J < A.length := (List.getElem?_eq_some_iff.1 hJ).1
 have key := fJ (step := gM) (N := 2 ^ 64)
  (fun t => ((J, o, n), Zn q, (K, o, n), (n : Int), (t : Int), A.set J (pre ++ Zr n fun x => if x < t then u x - q * v x else u x), ())) n (A.set J (pre ++ Zr n fun x => u x - q * v x), ()) (by omega) (fun t ht => ?_) ?_
 ·have h0 : (A.set J (pre ++ Zr n fun x => if x < 0 then u x - q * v x else u x)) = A := by
   have : Zr n (fun x => if x < 0 then u x - q * v x else u x) = Zr n u := wR fun i _ => by simp
   rw [this]
   refine List.ext_getElem? fun i => ?_
   by_cases e : J = i
   ·subst e; rw [List.getElem?_set_self hJl, hJ]
   ·rw [List.getElem?_set_ne e]
  simp only [h0] at key
  exact key
 ·have hg : (A.set J (pre ++ Zr n fun x => if x < t then u x - q * v x else u x)).getD J [] = pre ++ Zr n fun x => if x < t then u x - q * v x else u x := MZ _ _ _ _ hJl
  have hk : (A.set J (pre ++ Zr n fun x => if x < t then u x - q * v x else u x)).getD K [] = pre' ++ Zr n v := by rw [getD_set_ne _ _ _ hne]; exact P7 _ hK
  have e1 : ltI (t : Int) (n : Int) = true := by rw [aO]; simp; omega
  have e2 : aQ (t : Int) n = true := by rw [bD]; simp; omega
  have e3 : (o + ((t : Nat) : Int).toNat) * 1 = o + t := by simp
  have e4 : eN (A.set J (pre ++ Zr n fun x => if x < t then u x - q * v x else u x)) J = o + n := by rw [eN, hg, List.length_append, iY, hp]
  have e5 : eN (A.set J (pre ++ Zr n fun x => if x < t then u x - q * v x else u x)) K = o + n := by rw [eN, hk, List.length_append, iY, hp']
  have e6 : Nat.blt (o + t) (o + n) = true := by rw [c6]; simpa using ht
  have e7 : fX (A.set J (pre ++ Zr n fun x => if x < t then u x - q * v x else u x)) J (o + t) ByteArray.empty = Zn (u t) := by
   rw [fX, hg, JN hp, A8 _ ht]; simp
  have e8 : fX (A.set J (pre ++ Zr n fun x => if x < t then u x - q * v x else u x)) K (o + t) ByteArray.empty = Zn (v t) := by rw [fX, hk, JN hp', A8 _ ht]
  have e9 : vU (A.set J (pre ++ Zr n fun x => if x < t then u x - q * v x else u x)) J (o + t) (Zn (u t - q * v t)) = A.set J (pre ++ Zr n fun x => if x < t + 1 then u x - q * v x else u x) := by
   rw [vU, hg, List.set_set, aMJ hp]
   exact congrArg (fun l => A.set J (pre ++ l)) (aJM u (fun x => u x - q * v x) t ht)
  have m1 := aCD q (v t) (ok.mul t ht)
  have m2 := aDH (u t) (q * v t) (ok.sub t ht) (by rw [Int.natAbs_mul]; exact Nat.le_trans (UG _ _) (ok.mul t ht))
  have e10 := fF t (by omega)
  simp only [gM, e1, cond_true, e2, e3, e5, e6, e4, e7, e8, m1, aD, m2, e9, e10]
 ·have e1 : ltI (n : Int) (n : Int) = false := by rw [aO]; simp
  simp only [gM, e1, cond_false]
  have : Zr n (fun x => if x < n then u x - q * v x else u x) = Zr n fun x => u x - q * v x := wR fun i hi => by simp [hi]
  rw [this]
theorem aGD {α : Type} {A : List α} {J : Nat} {x : α} (h : A[J]? = some x) : A.set J x = A := by
 refine List.ext_getElem? fun i => ?_
 by_cases e : J = i
 ·subst e; rw [List.getElem?_set_self (List.getElem?_eq_some_iff.1 h).1, h]
 ·rw [List.getElem?_set_ne e]
theorem aVU {A : List (List ByteArray)} {J K o n : Nat} {u v : V} {q : Int} {pre pre' : List ByteArray} (hn : n < 1048576) (hne : J ≠ K) (hp : pre.length = o) (hp' : pre'.length = o) (hJ : A[J]? = some (pre ++ Zr n u)) (hK : A[K]? = some (pre' ++ Zr n v)) (ok : aAB n u v q) :
  eQ () ((J, o, n), Zn q, (K, o, n), ()) A = some ((), A.set J (pre ++ Zr n fun x => u x - q * v x)) := by
 unfold eQ
 simp only [wM]
 by_cases hq : q = 0
 ·subst hq
  simp only [decide_true, cond_true]
  have : Zr n (fun x => u x - 0 * v x) = Zr n u := wR fun i _ => by simp
  rw [this, aGD hJ]
 ·simp only [hq, decide_false, cond_false, aM4 hn hne hp hp' hJ hK ok, aD]
theorem negate_eq {A : List (List ByteArray)} {J o n : Nat} {u : V} {pre : List ByteArray} (hn : n < 1048576) (hp : pre.length = o) (hJ : A[J]? = some (pre ++ Zr n u)) (ok : ∀ i, i < n → Lib.nDigits (u i).natAbs ≤ l7) :
  dJ () ((J, o, n), ()) A = some ((), A.set J (pre ++ Zr n fun x => -(u x))) := by
 have hJl : J < A.length := (List.getElem?_eq_some_iff.1 hJ).1
 have key := fJ (step := fO) (N := 2 ^ 64)
  (fun t => ((J, o, n), (J, o, n), (n : Int), (t : Int), A.set J (pre ++ Zr n fun x => if x < t then -(u x) else u x), ())) n (A.set J (pre ++ Zr n fun x => -(u x)), ()) (by omega) (fun t ht => ?_) ?_
 ·have h0 : (A.set J (pre ++ Zr n fun x => if x < 0 then -(u x) else u x)) = A := by
   have : Zr n (fun x => if x < 0 then -(u x) else u x) = Zr n u := wR fun i _ => by simp
   rw [this, aGD hJ]
  simp only [h0] at key
  unfold dJ iG
  have e0 : ((0 : Nat) : Int) = 0 := rfl
  rw [e0] at key
  simp only [key, aD]
 ·have hg : (A.set J (pre ++ Zr n fun x => if x < t then -(u x) else u x)).getD J [] = pre ++ Zr n fun x => if x < t then -(u x) else u x := MZ _ _ _ _ hJl
  have e1 : ltI (t : Int) (n : Int) = true := by rw [aO]; simp; omega
  have e2 : aQ (t : Int) n = true := by rw [bD]; simp; omega
  have e3 : (o + ((t : Nat) : Int).toNat) * 1 = o + t := by simp
  have e4 : eN (A.set J (pre ++ Zr n fun x => if x < t then -(u x) else u x)) J = o + n := by rw [eN, hg, List.length_append, iY, hp]
  have e6 : Nat.blt (o + t) (o + n) = true := by rw [c6]; simpa using ht
  have e7 : fX (A.set J (pre ++ Zr n fun x => if x < t then -(u x) else u x)) J (o + t) ByteArray.empty = Zn (u t) := by
   rw [fX, hg, JN hp, A8 _ ht]; simp
  have e9 : vU (A.set J (pre ++ Zr n fun x => if x < t then -(u x) else u x)) J (o + t) (Zn (-(u t))) = A.set J (pre ++ Zr n fun x => if x < t + 1 then -(u x) else u x) := by
   rw [vU, hg, List.set_set, aMJ hp]
   exact congrArg (fun l => A.set J (pre ++ l)) (aJM u (fun x => -(u x)) t ht)
  have m1 := aC3 (u t) (Nat.lt_of_le_of_lt (ok t ht) (by decide))
  have e10 := fF t (by omega)
  simp only [fO, e1, cond_true, e2, e3, e6, e4, e7, m1, aD, e9, e10]
 ·have e1 : ltI (n : Int) (n : Int) = false := by rw [aO]; simp
  simp only [fO, e1, cond_false]
  have : Zr n (fun x => if x < n then -(u x) else u x) = Zr n fun x => -(u x) := wR fun i hi => by simp [hi]
  rw [this]
end Go.PM
set_option linter.unusedSimpArgs false
set_option linter.unusedVariables false
namespace Go.PM
open Go Go.RowKit Go.Proofs Go.Lz
set_option maxRecDepth 100000
theorem R0 {σ τ : Type} {step : σ → Option (σ ⊕ τ)} {N : Nat} (m : Nat) (I : Nat → σ → Prop) (Q : τ → Prop) (hN : m < N) (x : σ) (h0 : I 0 x) (h : ∀ t x, t < m → I t x → ∃ y, step x = some (.inl y) ∧ I (t + 1) y) (he : ∀ x, I m x → ∃ z, step x = some (.inr z) ∧ Q z) :
  ∃ z, bU step N x = some z ∧ Q z := by
 have key : ∀ (j t : Nat) (x : σ) (N : Nat), t + j = m → j < N → I t x → ∃ z, bU step N x = some z ∧ Q z := by
  intro j
  induction j with
  | zero =>
   intro t x N ht hN hI
   have : t = m := by omega
   subst this
   obtain ⟨N, rfl⟩ : ∃ M, N = M + 1 := ⟨N - 1, by omega⟩
   obtain ⟨z, h1, h2⟩ := he x hI
   exact ⟨z, by rw [dP, h1], h2⟩
  | succ j ih =>
   intro t x N ht hN hI
   obtain ⟨N, rfl⟩ : ∃ M, N = M + 1 := ⟨N - 1, by omega⟩
   obtain ⟨y, h1, h2⟩ := h t x (by omega) hI
   obtain ⟨z, h3, h4⟩ := ih (t + 1) y N (by omega) (by omega) h2
   exact ⟨z, by rw [dP, h1]; exact h3, h4⟩
 exact key m 0 x N (by omega) hN h0

structure mD (o k n : Nat) (m : List (Nat × Nat × Nat)) (A : List (List ByteArray)) (J : Nat → Nat) (M : Nat → V) : Prop where
 ml : m = (List.range k).map fun i => (J i, o, n)
 at_ : ∀ i, i < k → ∃ pre : List ByteArray, pre.length = o ∧ A[J i]? = some (pre ++ Zr n (M i))
 inj : ∀ i j, i < k → j < k → J i = J j → i = j
section
variable {o k n : Nat} {m : List (Nat × Nat × Nat)} {A : List (List ByteArray)} {J : Nat → Nat} {M : Nat → V}
theorem mD.len (h : mD o k n m A J M) : m.length = k := by rw [h.ml]; simp
theorem mD.get (h : mD o k n m A J M) {i : Nat} (hi : i < k) : m.getD i (0, 0, 0) = (J i, o, n) := by rw [h.ml]; simp [List.getD, hi]
theorem mD.eN (h : mD o k n m A J M) {i : Nat} (hi : i < k) : eN A (J i) = o + n := by
 obtain ⟨pre, h1, h2⟩ := h.at_ i hi
 rw [PM.eN, P7 _ h2, List.length_append, iY, h1]
theorem mD.fX (h : mD o k n m A J M) {i c : Nat} (hi : i < k) (hc : c < n) : fX A (J i) (o + c) ByteArray.empty = Zn (M i c) := by
 obtain ⟨pre, h1, h2⟩ := h.at_ i hi
 rw [PM.fX, P7 _ h2, JN h1, A8 _ hc]
theorem mD.QV (h : mD o k n m A J M) {i : Nat} (hi : i < k) (r : V) {pre : List ByteArray} (hp : pre.length = o) : mD o k n m (A.set (J i) (pre ++ Zr n r)) J (up M i r) where
 ml := h.ml
 at_ := fun j hj => by
  by_cases e : j = i
  ·subst e
   obtain ⟨pre', h1, h2⟩ := h.at_ j hj
   exact ⟨pre, hp, by rw [List.getElem?_set_self (List.getElem?_eq_some_iff.1 h2).1, C2]⟩
  ·obtain ⟨pre', h1, h2⟩ := h.at_ j hj
   exact ⟨pre', h1, by rw [List.getElem?_set_ne (fun e' => e (h.inj i j hi hj e').symm), u9 _ _ e]; exact h2⟩
 inj := h.inj
theorem mD.less (h : mD o k n m A J M) (hn : n < 1048576) {i d : Nat} (hi : i < k) (hd : d < k) (hne : i ≠ d) (q : Int) (ok : aAB n (M i) (M d) q) :
  ∃ A', eQ () ((J i, o, n), Zn q, (J d, o, n), ()) A = some ((), A') ∧ mD o k n m A' J (up M i fun x => M i x - q * M d x) := by
 obtain ⟨pre, h1, h2⟩ := h.at_ i hi
 obtain ⟨pre', h3, h4⟩ := h.at_ d hd
 exact ⟨_, aVU hn (fun e => hne (h.inj i d hi hd e)) h1 h3 h2 h4 ok, h.QV hi _ h1⟩
theorem mD.neg (h : mD o k n m A J M) (hn : n < 1048576) {i : Nat} (hi : i < k) (ok : ∀ x, x < n → Lib.nDigits (M i x).natAbs ≤ l7) :
  ∃ A', dJ () ((J i, o, n), ()) A = some ((), A') ∧ mD o k n m A' J (up M i fun x => -(M i x)) := by
 obtain ⟨pre, h1, h2⟩ := h.at_ i hi
 exact ⟨_, negate_eq hn h1 h2 ok, h.QV hi _ h1⟩
theorem mD.swap (h : mD o k n m A J M) {a b : Nat} (ha : a < k) (hb : b < k) : mD o k n ((m.set a (J b, o, n)).set b (J a, o, n)) A (fun i => if i = a then J b else if i = b then J a else J i) (swp M a b) where
 ml := by
  refine List.ext_getElem? fun i => ?_
  have hl := h.len
  rw [List.getElem?_map]
  by_cases e1 : i = b
  ·subst e1
   rw [List.getElem?_set_self (by simp; omega), List.getElem?_range hb]
   by_cases e2 : i = a
   ·subst e2; simp
   ·simp [e2]
  ·rw [List.getElem?_set_ne (Ne.symm e1)]
   by_cases e2 : i = a
   ·subst e2
    rw [List.getElem?_set_self (by omega), List.getElem?_range ha]
    simp
   ·rw [List.getElem?_set_ne (Ne.symm e2), h.ml, List.getElem?_map]
    by_cases hi : i < k
    ·rw [List.getElem?_range hi]
     simp [e1, e2]
    ·have : (List.range k)[i]? = none := by simp; omega
     rw [this]; rfl
 at_ := fun i hi => by
  by_cases e1 : i = a
  ·subst e1
   simp only [if_true, swp]
   exact h.at_ b hb
  ·by_cases e2 : i = b
   ·subst e2
    simp only [e1, if_false, if_true, swp]
    exact h.at_ a ha
   ·simp only [e1, e2, if_false, swp]
    exact h.at_ i hi
 inj := fun i j hi hj e => by
  have key : ∀ i, i < k → (if i = a then J b else if i = b then J a else J i) = J (if i = a then b else if i = b then a else i) := fun i _ => by
   by_cases e1 : i = a
   ·simp [e1]
   ·by_cases e2 : i = b
    ·subst e2; simp [e1]
    ·simp [e1, e2]
  simp only [key i hi, key j hj] at e
  have lt : ∀ i, i < k → (if i = a then b else if i = b then a else i) < k := fun i hi => by
   split
   ·exact hb
   ·split
    ·exact ha
    ·exact hi
  have := h.inj _ _ (lt i hi) (lt j hj) e
  by_cases e1 : i = a <;> by_cases e2 : j = a <;> by_cases e3 : i = b <;> by_cases e4 : j = b <;> simp_all <;> omega
end
def atv : Option Nat → Int
 | none => -1
 | some a => a
structure aQP (M : Nat → V) (c d t : Nat) (r : Option Nat) : Prop where
 none : r = Option.none → ∀ i, d ≤ i → i < d + t → M i c = 0
 some : ∀ a, r = Option.some a → d ≤ a ∧ a < d + t ∧ M a c ≠ 0 ∧ ∀ i, d ≤ i → i < d + t → M i c ≠ 0 → (M a c).natAbs ≤ (M i c).natAbs
def Cm (k n : Nat) (M : Nat → V) : Prop := ∀ i, i < k → ∀ x, x < n → Lib.nDigits (M i x).natAbs ≤ l7
theorem aGA {o k n : Nat} {m : List (Nat × Nat × Nat)} {A : List (List ByteArray)} {J : Nat → Nat} {M : Nat → V} (h : mD o k n m A J M) (hk : k < 1048576) (hc : Cm k n M) {c d : Nat} (hcn : c < n) (hd : d ≤ k) (cols : Int) :
  ∃ r, eY (m, cols, (d : Int), (c : Int), -1, (d : Int), A, ()) = some (m, cols, (d : Int), (c : Int), atv r, A, ()) ∧ aQP M c d (k - d) r := by
 have := R0 (step := bW) (N := 2 ^ 64) (k - d)
  (fun t x => ∃ r, x = (m, cols, (d : Int), (c : Int), atv r, ((d + t : Nat) : Int), A, ()) ∧ aQP M c d t r)
  (fun z => ∃ r, z = (m, cols, (d : Int), (c : Int), atv r, A, ()) ∧ aQP M c d (k - d) r) (by omega) (m, cols, (d : Int), (c : Int), -1, (d : Int), A, ())
  ⟨none, rfl, ⟨fun _ i h1 h2 => by omega, fun a ha => by cases ha⟩⟩ ?_ ?_
 ·obtain ⟨z, h1, r, rfl, h2⟩ := this
  exact ⟨r, h1, h2⟩
 ·rintro t x ht ⟨r, rfl, hr⟩
  have hi : d + t < k := by omega
  have e1 : ltI ((d + t : Nat) : Int) (m.length : Int) = true := by rw [aO, h.len]; simp; omega
  have e2 : aQ ((d + t : Nat) : Int) m.length = true := by rw [bD, h.len]; simp; omega
  have e3 : (((d + t : Nat) : Int)).toNat = d + t := Int.toNat_natCast _
  have e4 : Nat.blt (d + t) m.length = true := by rw [c6, h.len]; simpa using hi
  have e5 : aQ (c : Int) n = true := by rw [bD]; simp; omega
  have e6 : (o + ((c : Nat) : Int).toNat) * 1 = o + c := by simp
  have e7 : Nat.blt (o + c) (o + n) = true := by rw [c6]; simpa using hcn
  have e8 := fF (d + t) (by omega)
  have e9 := h.get hi
  have e10 := h.eN hi
  have e11 := h.fX hi hcn
  by_cases hz : M (d + t) c = 0
  ·refine ⟨_, ?_, r, rfl, ⟨fun hr0 i h1 h2 => ?_, fun a ha => ?_⟩⟩
   ·have e12 : eqS (Zn (M (d + t) c)) (ByteArray.mk #[48]) = true := by rw [wM]; simp [hz]
    simp only [bW, e1, e2, e3, e4, e9, e5, e6, e10, e7, e11, e12, e8, cond_true, Bool.not_true, cond_false]
    rfl
   ·by_cases e : i = d + t
    ·subst e; exact hz
    ·exact hr.none hr0 i h1 (by omega)
   ·obtain ⟨q1, q2, q3, q4⟩ := hr.some a ha
    refine ⟨q1, by omega, q3, fun i h1 h2 h3 => ?_⟩
    by_cases e : i = d + t
    ·subst e; exact absurd hz h3
    ·exact q4 i h1 (by omega) h3
  ·have e12 : eqS (Zn (M (d + t) c)) (ByteArray.mk #[48]) = false := by rw [wM]; simp [hz]
   cases r with
   | none =>
    have e13 : ltI (atv none) 0 = true := by decide
    refine ⟨_, ?_, some (d + t), rfl, ⟨fun hr0 => by (cases hr0), fun a ha => ?_⟩⟩
    ·simp only [bW, e1, e2, e3, e4, e9, e5, e6, e10, e7, e11, e12, e8, cond_true, Bool.not_false, e13]
     rfl
    ·obtain rfl := Option.some.inj ha
     refine ⟨by omega, by omega, hz, fun i h1 h2 h3 => ?_⟩
     by_cases e : i = d + t
     ·subst e; exact Nat.le_refl _
     ·exact absurd (hr.none rfl i h1 (by omega)) h3
   | some a =>
    obtain ⟨q1, q2, q3, q4⟩ := hr.some a rfl
    have ha : a < k := by omega
    have e13 : ltI (atv (some a)) 0 = false := by rw [aO]; exact decide_eq_false (by unfold atv; dsimp only; omega)
    have f2 : aQ (atv (some a)) m.length = true := by rw [bD, h.len]; simp [atv]; omega
    have f3 : (atv (some a)).toNat = a := by simp [atv]
    have f4 : Nat.blt a m.length = true := by rw [c6, h.len]; simpa using ha
    have f9 := h.get ha
    have f10 := h.eN ha
    have f11 := h.fX ha hcn
    have c1 := aC8 (M (d + t) c)
    have c2 := aC8 (M a c)
    have c3 := aA6 (M (d + t) c).natAbs (M a c).natAbs (Nat.lt_of_le_of_lt (hc _ hi c hcn) (by decide)) (Nat.lt_of_le_of_lt (hc _ ha c hcn) (by decide))
    by_cases hl : (M (d + t) c).natAbs < (M a c).natAbs
    ·have c4 : ltI (O8 (M (d + t) c).natAbs (M a c).natAbs) 0 = true := by rw [aO, O8, if_pos hl]; rfl
     refine ⟨_, ?_, some (d + t), rfl, ⟨fun hr0 => by (cases hr0), fun b hb => ?_⟩⟩
     ·simp only [bW, e1, e2, e3, e4, e9, e5, e6, e10, e7, e11, e12, e8, cond_true, Bool.not_false, e13, cond_false, f2, f3, f4, f9, f10, f11, c1, c2, c3, c4, aD]
      rfl
     ·obtain rfl := Option.some.inj hb
      refine ⟨by omega, by omega, hz, fun i h1 h2 h3 => ?_⟩
      by_cases e : i = d + t
      ·subst e; exact Nat.le_refl _
      ·have := q4 i h1 (by omega) h3; omega
    ·have c4 : ltI (O8 (M (d + t) c).natAbs (M a c).natAbs) 0 = false := by
      rw [aO, O8, if_neg hl]; split <;> rfl
     refine ⟨_, ?_, some a, rfl, ⟨fun hr0 => by (cases hr0), fun b hb => ?_⟩⟩
     ·simp only [bW, e1, e2, e3, e4, e9, e5, e6, e10, e7, e11, e12, e8, cond_true, Bool.not_false, e13, cond_false, f2, f3, f4, f9, f10, f11, c1, c2, c3, c4, aD]
      rfl
     ·obtain rfl := Option.some.inj hb
      refine ⟨q1, by omega, q3, fun i h1 h2 h3 => ?_⟩
      by_cases e : i = d + t
      ·subst e; omega
      ·exact q4 i h1 (by omega) h3
 ·rintro x ⟨r, rfl, hr⟩
  have e1 : ltI ((d + (k - d) : Nat) : Int) (m.length : Int) = false := by rw [aO, h.len]; simp; omega
  refine ⟨_, ?_, r, rfl, hr⟩
  simp only [bW, e1, cond_false]
end Go.PM
set_option linter.unusedSimpArgs false
set_option linter.unusedVariables false
namespace Go.PM
open Go Go.RowKit Go.Proofs Go.Lz
set_option maxRecDepth 100000
theorem DH {T : Nat} (hT : 2 * Lib.nDigits (T + 1) ≤ l7) {a : Nat} (h : a ≤ T + 1) : 2 * Lib.nDigits a ≤ l7 := Nat.le_trans (Nat.mul_le_mul_left 2 (qD h)) hT
theorem RV {a m : Int} {T : Nat} (h : a.natAbs ≤ T) (hm : m ≠ 0) : (a.fdiv m).natAbs ≤ T + 1 := by
 have h1 := aIM a m hm
 have h2 : 1 ≤ m.natAbs := by omega
 have h3 : (a.fdiv m).natAbs * m.natAbs ≤ (T + 1) * m.natAbs := by
  rw [Nat.succ_mul]
  have : T * 1 ≤ T * m.natAbs := Nat.mul_le_mul_left _ h2
  omega
 exact Nat.le_of_mul_le_mul_right h3 (by omega)
theorem aCV {T n : Nat} (hT : 2 * Lib.nDigits (T + 1) ≤ l7) {u v : V} {q : Int} (hu : ∀ x, x < n → (u x).natAbs ≤ T) (hv : ∀ x, x < n → (v x).natAbs ≤ T) (hq : q.natAbs ≤ T + 1) : aAB n u v q := by
 constructor
 ·intro i hi
  have h1 := DH hT hq
  have h2 := DH hT (Nat.le_succ_of_le (hv i hi))
  omega
 ·intro i hi
  have h2 := DH hT (Nat.le_succ_of_le (hu i hi))
  omega
def Big (k n : Nat) (M : Nat → V) (T : Nat) : Prop := ∀ i, i < k → ∀ x, x < n → (M i x).natAbs ≤ T
theorem Big.cm {k n T : Nat} {M : Nat → V} (h : Big k n M T) (hT : 2 * Lib.nDigits (T + 1) ≤ l7) : Cm k n M := fun i hi x hx => by
 have := DH hT (Nat.le_succ_of_le (h i hi x hx))
 omega

section
variable {o k n d c : Nat} {m : List (Nat × Nat × Nat)} {A : List (List ByteArray)} {J : Nat → Nat} {M M0 : Nat → V} {p : Nat → Nat} {T : Nat}
def rdT (M : Nat → V) (d c t : Nat) : Nat → V := fun i => if d < i ∧ i < d + 1 + t then (fun x => M i x - (M i c).fdiv (M d c) * M d x) else M i
theorem aJV (h : mD o k n m A J M) (hk : k < 1048576) (hn : n < 1048576) (f : Fo k M0 M d c p) (hd : d < k) (hcn : c < n) (hm : M d c ≠ 0) (hB : Big k n M T) (hT : 2 * Lib.nDigits (T + 1) ≤ l7) (cols : Int) :
  ∃ A' M' rest, gY (m, cols, (d : Int), (c : Int), false, aL .i64 ((d : Int) + 1), A, ()) = some (m, cols, (d : Int), (c : Int), rest, A', ()) ∧ mD o k n m A' J M' ∧ Rd k M M' d c ∧ Fo k M0 M' d c p ∧ (∀ i, i < d → M' i = M i) ∧
   (rest = true → ∃ i, d < i ∧ i < k ∧ M' i c ≠ 0) ∧ (rest = false → ∀ i, d < i → i < k → M' i c = 0) := by
 have hat : ∀ t i, d < i → i < d + 1 + t → rdT M d c t i c = (M i c).fmod (M d c) := fun t i h1 h2 => by
  unfold rdT
  rw [if_pos ⟨h1, h2⟩]
  exact QU _ _
 have hd0 : ∀ t, rdT M d c t d = M d := fun t => by unfold rdT; rw [if_neg (by omega)]
 have := R0 (step := cR) (N := 2 ^ 64) (k - (d + 1))
  (fun t x => ∃ A' rest, x = (m, cols, (d : Int), (c : Int), rest, ((d + 1 + t : Nat) : Int), A', ()) ∧ mD o k n m A' J (rdT M d c t) ∧ Fo k M0 (rdT M d c t) d c p ∧ (rest = true → ∃ i, d < i ∧ i < d + 1 + t ∧ (M i c).fmod (M d c) ≠ 0) ∧ (rest = false → ∀ i, d < i → i < d + 1 + t → (M i c).fmod (M d c) = 0))
  (fun z => ∃ A' rest, z = (m, cols, (d : Int), (c : Int), rest, A', ()) ∧ mD o k n m A' J (rdT M d c (k - (d + 1))) ∧ Fo k M0 (rdT M d c (k - (d + 1))) d c p ∧ (rest = true → ∃ i, d < i ∧ i < k ∧ (M i c).fmod (M d c) ≠ 0) ∧ (rest = false → ∀ i, d < i → i < k → (M i c).fmod (M d c) = 0))
  (by omega) (m, cols, (d : Int), (c : Int), false, aL .i64 ((d : Int) + 1), A, ()) ?_ ?_ ?_
 ·obtain ⟨z, h1, A', rest, rfl, h2, h3, h4, h5⟩ := this
  refine ⟨A', _, rest, h1, h2, ⟨hd0 _, fun i g1 g2 => ?_⟩, h3, fun i hi => by unfold rdT; rw [if_neg (by omega)], fun hr => ?_, fun hr i g1 g2 => ?_⟩
  ·unfold rdT; rw [if_pos ⟨g1, by omega⟩]
  ·obtain ⟨i, g1, g2, g3⟩ := h4 hr
   exact ⟨i, g1, g2, by rw [hat _ i g1 (by omega)]; exact g3⟩
  ·rw [hat _ i g1 (by omega)]; exact h5 hr i g1 g2
 ·have e : rdT M d c 0 = M := by
   funext i; unfold rdT; rw [if_neg (by omega)]
  refine ⟨A, false, ?_, by rw [e]; exact h, by rw [e]; exact f, fun hr => (by cases hr), fun _ i g1 g2 => by omega⟩
  rw [fF d (by omega)]
 ·rintro t x ht ⟨A', rest, rfl, hL, hF, hr1, hr2⟩
  have hi : d + 1 + t < k := by omega
  have hMi : rdT M d c t (d + 1 + t) = M (d + 1 + t) := by unfold rdT; rw [if_neg (by omega)]
  have e1 : ltI ((d + 1 + t : Nat) : Int) (m.length : Int) = true := by rw [aO, h.len]; exact decide_eq_true (by omega)
  have e2 : aQ ((d + 1 + t : Nat) : Int) m.length = true := by rw [bD, h.len]; exact decide_eq_true (by omega)
  have e3 : (((d + 1 + t : Nat) : Int)).toNat = d + 1 + t := Int.toNat_natCast _
  have e4 : Nat.blt (d + 1 + t) m.length = true := by rw [c6, h.len]; simpa using hi
  have e5 : aQ (c : Int) n = true := by rw [bD]; exact decide_eq_true (by omega)
  have e6 : (o + ((c : Nat) : Int).toNat) * 1 = o + c := by simp
  have e7 : Nat.blt (o + c) (o + n) = true := by rw [c6]; simpa using hcn
  have e8 := fF (d + 1 + t) (by omega)
  have e9 := hL.get hi
  have e10 := hL.eN hi
  have e11 := hL.fX hi hcn
  rw [hMi] at e11
  have f2 : aQ ((d : Nat) : Int) m.length = true := by rw [bD, h.len]; exact decide_eq_true (by omega)
  have f3 : ((d : Nat) : Int).toNat = d := Int.toNat_natCast _
  have f4 : Nat.blt d m.length = true := by rw [c6, h.len]; simpa using hd
  have f9 := hL.get hd
  have f10 := hL.eN hd
  have f11 := hL.fX hd hcn
  rw [hd0] at f11
  have b1 := hB _ hi c hcn
  have b2 := hB _ hd c hcn
  have k1 := DH hT (Nat.le_succ_of_le b1)
  have k2 := DH hT (Nat.le_succ_of_le b2)
  have c1 := GO (M (d + 1 + t) c) (M d c) (by have : l7 = 18 := rfl; omega) (by have : l7 = 18 := rfl; omega) hm
  obtain ⟨A2, c2, c3⟩ := hL.less hn hi hd (by omega) ((M (d + 1 + t) c).fdiv (M d c)) (by
   rw [hMi, hd0]
   exact aCV hT (hB _ hi) (hB _ hd) (RV b1 hm))
  have hup : up (rdT M d c t) (d + 1 + t) (fun x => rdT M d c t (d + 1 + t) x - (M (d + 1 + t) c).fdiv (M d c) * rdT M d c t d x) = rdT M d c (t + 1) := by
   funext i
   by_cases e : i = d + 1 + t
   ·subst e
    rw [C2, hMi, hd0]
    unfold rdT
    rw [if_pos (by omega)]
   ·rw [u9 _ _ e]
    unfold rdT
    by_cases g : d < i ∧ i < d + 1 + t
    ·rw [if_pos g, if_pos (by omega)]
    ·rw [if_neg g, if_neg (by omega)]
  rw [hup] at c3
  have hF' : Fo k M0 (rdT M d c (t + 1)) d c p := by
   rw [← hup]
   exact hF.less _ (by omega) hi
  have c4 : eqS (Zn ((M (d + 1 + t) c).fmod (M d c))) (ByteArray.mk #[48]) = decide ((M (d + 1 + t) c).fmod (M d c) = 0) := wM _
  have e8' : ((d + 1 + t + 1 : Nat) : Int) = ((d + 1 + (t + 1) : Nat) : Int) := by omega
  cases rest with
  | true =>
   refine ⟨_, ?_, A2, true, rfl, c3, hF', fun _ => ?_, fun hr => (by cases hr)⟩
   ·simp only [cR, e1, e2, e3, e4, e9, e5, e6, e10, e7, e11, f2, f3, f4, f9, f10, f11, c1, c2, aD, cond_true, e8, e8']
   ·obtain ⟨i, g1, g2, g3⟩ := hr1 rfl
    exact ⟨i, g1, by omega, g3⟩
  | false =>
   by_cases hz : (M (d + 1 + t) c).fmod (M d c) = 0
   ·have c5 : eqS (Zn ((M (d + 1 + t) c).fmod (M d c))) (ByteArray.mk #[48]) = true := by rw [c4]; exact decide_eq_true hz
    refine ⟨_, ?_, A2, false, rfl, c3, hF', fun hr => (by cases hr), fun _ i g1 g2 => ?_⟩
    ·simp only [cR, e1, e2, e3, e4, e9, e5, e6, e10, e7, e11, f2, f3, f4, f9, f10, f11, c1, c2, c5, aD, cond_true, cond_false, e8, e8', Bool.not_true]
    ·by_cases e : i = d + 1 + t
     ·subst e; exact hz
     ·exact hr2 rfl i g1 (by omega)
   ·have c5 : eqS (Zn ((M (d + 1 + t) c).fmod (M d c))) (ByteArray.mk #[48]) = false := by rw [c4]; exact decide_eq_false hz
    refine ⟨_, ?_, A2, true, rfl, c3, hF', fun _ => ⟨d + 1 + t, by omega, by omega, hz⟩, fun hr => (by cases hr)⟩
    simp only [cR, e1, e2, e3, e4, e9, e5, e6, e10, e7, e11, f2, f3, f4, f9, f10, f11, c1, c2, c5, aD, cond_true, cond_false, e8, e8', Bool.not_false]
 ·rintro x ⟨A', rest, rfl, hL, hF, hr1, hr2⟩
  have e1 : ltI ((d + 1 + (k - (d + 1)) : Nat) : Int) (m.length : Int) = false := by rw [aO, h.len]; exact decide_eq_false (by omega)
  refine ⟨_, ?_, A', rest, rfl, hL, hF, fun hr => ?_, fun hr i g1 g2 => hr2 hr i g1 (by omega)⟩
  ·simp only [cR, e1, cond_false]
  ·obtain ⟨i, g1, g2, g3⟩ := hr1 hr
   exact ⟨i, g1, by omega, g3⟩
theorem aKZ {E : Nat} (h : mD o k n m A J M) (hk : k < 1048576) (hn : n < 1048576) (f : Fp k M0 M d c p 0) (hcn : c < n) (hB : Big k n M T) (hE : ∀ i, i < d → ∀ x, x < n → (M i x).natAbs ≤ E) (hET : E ≤ T) (hT : 2 * Lib.nDigits (T + 1) ≤ l7) (cols : Int) :
  ∃ A' M', bV (m, cols, (d : Int), (c : Int), (d : Int), 0, A, ()) = some (m, cols, (d : Int), (c : Int), A', ()) ∧ mD o k n m A' J M' ∧ Fp k M0 M' d c p d ∧ (∀ i, d ≤ i → M' i = M i) ∧ ∀ i, i < d → ∀ x, x < n → (M' i x).natAbs ≤ E + (E + 1) * T := by
 have hd := f.dk
 have := R0 (step := fD) (N := 2 ^ 64) d
  (fun t x => ∃ A' M', x = (m, cols, (d : Int), (c : Int), (d : Int), (t : Int), A', ()) ∧ mD o k n m A' J M' ∧ Fp k M0 M' d c p t ∧ (∀ i, t ≤ i → M' i = M i) ∧ ∀ i, i < t → ∀ x, x < n → (M' i x).natAbs ≤ E + (E + 1) * T)
  (fun z => ∃ A' M', z = (m, cols, (d : Int), (c : Int), A', ()) ∧ mD o k n m A' J M' ∧ Fp k M0 M' d c p d ∧ (∀ i, d ≤ i → M' i = M i) ∧ ∀ i, i < d → ∀ x, x < n → (M' i x).natAbs ≤ E + (E + 1) * T)
  (by omega) (m, cols, (d : Int), (c : Int), (d : Int), 0, A, ()) ⟨A, M, rfl, h, f, fun _ _ => rfl, fun i hi => by omega⟩ ?_ ?_
 ·obtain ⟨z, h1, A', M', rfl, h2⟩ := this
  exact ⟨A', M', h1, h2⟩
 ·rintro t x ht ⟨A', M', rfl, hL, hF, hr1, hr2⟩
  have hi : t < k := by omega
  have hMi := hr1 t (Nat.le_refl _)
  have hMd := hr1 d (by omega)
  have e1 : ltI (t : Int) (d : Int) = true := by rw [aO]; exact decide_eq_true (by omega)
  have e2 : aQ (t : Int) m.length = true := by rw [bD, h.len]; exact decide_eq_true (by omega)
  have e3 : ((t : Nat) : Int).toNat = t := Int.toNat_natCast _
  have e4 : Nat.blt t m.length = true := by rw [c6, h.len]; simpa using hi
  have e5 : aQ (c : Int) n = true := by rw [bD]; exact decide_eq_true (by omega)
  have e6 : (o + ((c : Nat) : Int).toNat) * 1 = o + c := by simp
  have e7 : Nat.blt (o + c) (o + n) = true := by rw [c6]; simpa using hcn
  have e8 := fF t (by omega)
  have e9 := hL.get hi
  have e10 := hL.eN hi
  have e11 := hL.fX hi hcn
  rw [hMi] at e11
  have f2 : aQ ((d : Nat) : Int) m.length = true := by rw [bD, h.len]; exact decide_eq_true (by omega)
  have f3 : ((d : Nat) : Int).toNat = d := Int.toNat_natCast _
  have f4 : Nat.blt d m.length = true := by rw [c6, h.len]; simpa using hd
  have f9 := hL.get hd
  have f10 := hL.eN hd
  have f11 := hL.fX hd hcn
  rw [hMd] at f11
  have hm : M d c ≠ 0 := by have := f.piv; omega
  have b0 := hE t ht c hcn
  have b1 := hB _ hi c hcn
  have b2 := hB _ hd c hcn
  have k1 := DH hT (Nat.le_succ_of_le b1)
  have k2 := DH hT (Nat.le_succ_of_le b2)
  have c1 := GO (M t c) (M d c) (by have : l7 = 18 := rfl; omega) (by have : l7 = 18 := rfl; omega) hm
  obtain ⟨A2, c2, c3⟩ := hL.less hn hi hd (by omega) ((M t c).fdiv (M d c)) (by
   rw [hMi, hMd]
   exact aCV hT (hB _ hi) (hB _ hd) (RV b1 hm))
  have hF2 := hF.less ht
  rw [hMi, hMd] at hF2 c3
  refine ⟨_, ?_, A2, _, rfl, c3, hF2, fun i hi2 => ?_, fun i hi2 x hx => ?_⟩
  ·simp only [fD, e1, e2, e3, e4, e9, e5, e6, e10, e7, e11, f2, f3, f4, f9, f10, f11, c1, c2, aD, cond_true, e8]
  ·rw [u9 _ _ (by omega)]; exact hr1 i (by omega)
  ·by_cases e : i = t
   ·subst e
    rw [C2]
    have q1 := RV b0 hm
    have q2 : ((M i c).fdiv (M d c) * M d x).natAbs = ((M i c).fdiv (M d c)).natAbs * (M d x).natAbs := Int.natAbs_mul _ _
    have q3 : ((M i c).fdiv (M d c)).natAbs * (M d x).natAbs ≤ (E + 1) * T := Nat.mul_le_mul q1 (hB _ hd x hx)
    have q4 := hE i (by omega) x hx
    omega
   ·rw [u9 _ _ e]; exact hr2 i (by omega) x hx
 ·rintro x ⟨A', M', rfl, hL, hF, hr1, hr2⟩
  have e1 : ltI (d : Int) (d : Int) = false := by rw [aO]; exact decide_eq_false (by omega)
  refine ⟨_, ?_, A', M', rfl, hL, hF, hr1, hr2⟩
  simp only [fD, e1, cond_false]
end
end Go.PM
set_option linter.unusedSimpArgs false
set_option linter.unusedVariables false
namespace Go.PM
open Go Go.RowKit Go.Proofs Go.Lz
set_option maxRecDepth 100000
def Wd (k n : Nat) (M : Nat → V) : Prop := ∀ i, i < k → ∀ x, n ≤ x → M i x = 0
section
variable {o k n d c : Nat} {m : List (Nat × Nat × Nat)} {A : List (List ByteArray)} {J : Nat → Nat} {M M0 : Nat → V} {p : Nat → Nat} {T E : Nat}
theorem Big.all (h : Big k n M T) (hw : Wd k n M) : ∀ i, i < k → ∀ x, (M i x).natAbs ≤ T := fun i hi x => by
 rcases Nat.lt_or_ge x n with g | g
 ·exact h i hi x g
 ·rw [hw i hi x g]; exact Nat.zero_le _
theorem pass (h : mD o k n m A J M) (hk : k < 1048576) (hn : n < 1048576) (f : Fo k M0 M d c p) (hcn : c < n) (hB : Big k n M T) (hw : Wd k n M) (hE : ∀ i, i < d → ∀ x, x < n → (M i x).natAbs ≤ E) (hET : E ≤ T) (hT : 2 * Lib.nDigits (T + 1) ≤ l7) {a : Nat} (hd : d < k) (ha : d ≤ a) (hak : a < k) (hm : M a c ≠ 0)
  (cols : Int) (hfind : eY (m, cols, (d : Int), (c : Int), -1, (d : Int), A, ()) = some (m, cols, (d : Int), (c : Int), (a : Int), A, ())) :
  ∃ m1 A' J' M', mD o k n m1 A' J' M' ∧ Rd k (swp M d a) M' d c ∧ Fo k M0 M' d c p ∧ (∀ i, i < d → M' i = M i) ∧ Wd k n M' ∧
   ((∃ i, d < i ∧ i < k ∧ M' i c ≠ 0) → bX (m, cols, (d : Int), (c : Int), A, ()) = some (.inl (m1, cols, (d : Int), (c : Int), A', ()))) ∧
   ((∀ i, d < i → i < k → M' i c = 0) → Big k n M' T → ∃ A'' M'' p', bX (m, cols, (d : Int), (c : Int), A, ()) = some (.inr (m1, cols, ((d + 1 : Nat) : Int), (c : Int), A'', ())) ∧ mD o k n m1 A'' J' M'' ∧ Fo k M0 M'' (d + 1) (c + 1) p' ∧ Wd k n M'' ∧ Big k n M'' (E + (E + 1) * T)) := by
 obtain ⟨J', hs⟩ : ∃ J', mD o k n ((m.set d (J a, o, n)).set a (J d, o, n)) A J' (swp M d a) := ⟨_, h.swap hd hak⟩
 have hsw : ∀ i, i < k → ∃ j, j < k ∧ swp M d a i = M j := fun i hi => by
  unfold swp
  split
  ·exact ⟨a, hak, rfl⟩
  ·split
   ·exact ⟨d, hd, rfl⟩
   ·exact ⟨i, hi, rfl⟩
 have hBs : Big k n (swp M d a) T := fun i hi x hx => by
  obtain ⟨j, h1, h2⟩ := hsw i hi
  rw [h2]; exact hB j h1 x hx
 have hws : Wd k n (swp M d a) := fun i hi x hx => by
  obtain ⟨j, h1, h2⟩ := hsw i hi
  rw [h2]; exact hw j h1 x hx
 have hpd : swp M d a d = M a := by simp [swp]
 obtain ⟨A', M', rest, g1, g2, g3, g4, g5, g6, g7⟩ := aJV hs hk hn (f.swap ha hak) hd hcn (by rw [hpd]; exact hm) hBs hT cols
 have hw' : Wd k n M' := fun i hi x hx => by
  rcases Nat.lt_trichotomy i d with q | q | q
  ·rw [g5 i q]; exact hws i hi x hx
  ·subst q; rw [g3.1]; exact hws i hi x hx
  ·rw [g3.2 i q hi]
   simp only [hws i hi x hx, hws d hd x hx, Int.mul_zero, Int.sub_zero]
 have hlow : ∀ i, i < d → M' i = M i := fun i hi => by
  rw [g5 i hi]
  unfold swp
  rw [if_neg (by omega), if_neg (by omega)]
 -- what the pass begins with
 have e1 : ltI (a : Int) 0 = false := by rw [aO]; exact decide_eq_false (by omega)
 have e2 : aQ (a : Int) m.length = true := by rw [bD, h.len]; exact decide_eq_true (by omega)
 have e3 : ((a : Nat) : Int).toNat = a := Int.toNat_natCast _
 have e4 : Nat.blt a m.length = true := by rw [c6, h.len]; simpa using hak
 have f2 : aQ (d : Int) m.length = true := by rw [bD, h.len]; exact decide_eq_true (by omega)
 have f3 : ((d : Nat) : Int).toNat = d := Int.toNat_natCast _
 have f4 : Nat.blt d m.length = true := by rw [c6, h.len]; simpa using hd
 have e9 := h.get hak
 have f9 := h.get hd
 have s1 : (m.set d (J a, o, n)).length = m.length := by simp
 have first : bX (m, cols, (d : Int), (c : Int), A, ()) =
   (bif rest then some (.inl ((m.set d (J a, o, n)).set a (J d, o, n), cols, (d : Int), (c : Int), A', ()))
   else bif aQ (d : Int) ((m.set d (J a, o, n)).set a (J d, o, n)).length then bif Nat.blt d ((m.set d (J a, o, n)).set a (J d, o, n)).length then bif aQ (c : Int) (((m.set d (J a, o, n)).set a (J d, o, n)).getD d (0, 0, 0)).2.2 then
    bif Nat.blt (((((m.set d (J a, o, n)).set a (J d, o, n)).getD d (0, 0, 0)).2.1 + ((c : Nat) : Int).toNat) * 1) (eN A' (((m.set d (J a, o, n)).set a (J d, o, n)).getD d (0, 0, 0)).1) then
    aB (mE ((fX A' (((m.set d (J a, o, n)).set a (J d, o, n)).getD d (0, 0, 0)).1 (((((m.set d (J a, o, n)).set a (J d, o, n)).getD d (0, 0, 0)).2.1 + ((c : Nat) : Int).toNat) * 1) ByteArray.empty), ())) fun y23 =>
    bif ltI y23.1 0 then
     bif aQ (d : Int) ((m.set d (J a, o, n)).set a (J d, o, n)).length then bif Nat.blt d ((m.set d (J a, o, n)).set a (J d, o, n)).length then
     aB (dJ () (((((m.set d (J a, o, n)).set a (J d, o, n)).getD d (0, 0, 0)).1, (((m.set d (J a, o, n)).set a (J d, o, n)).getD d (0, 0, 0)).2.1, (((m.set d (J a, o, n)).set a (J d, o, n)).getD d (0, 0, 0)).2.2), ()) A') fun y24 =>
     aB (bV ((m.set d (J a, o, n)).set a (J d, o, n), cols, (d : Int), (c : Int), (d : Int), 0, y24.2, ())) fun z25 =>
     some (.inr ((z25.1, z25.2.1, (aL .i64 (z25.2.2.1 + 1)), z25.2.2.2.1, z25.2.2.2.2.1, ()))) else none else none
    else aB (bV ((m.set d (J a, o, n)).set a (J d, o, n), cols, (d : Int), (c : Int), (d : Int), 0, A', ())) fun z26 =>
    some (.inr ((z26.1, z26.2.1, (aL .i64 (z26.2.2.1 + 1)), z26.2.2.2.1, z26.2.2.2.2.1, ()))) else none else none else none else none) := by
  simp only [bX, hfind, aD, e1, cond_false, e2, e3, e4, f2, f3, f4, e9, f9, s1, cond_true, g1]
 refine ⟨_, A', J', M', g2, g3, g4, hlow, hw', fun hex => ?_, fun hz hB' => ?_⟩
 ·obtain ⟨i, q1, q2, q3⟩ := hex
  have hr : rest = true := by
   cases rest with
   | true => rfl
   | false => exact absurd (g7 rfl i q1 q2) q3
  rw [first, hr]; rfl
 ·have hr : rest = false := by
   cases rest with
   | false => rfl
   | true =>
    obtain ⟨i, q1, q2, q3⟩ := g6 rfl
    exact absurd (hz i q1 q2) q3
  have hmd : M' d c ≠ 0 := by rw [g3.1, hpd]; exact hm
  have t1 := g2.len
  have t2 : aQ (d : Int) k = true := by rw [bD]; exact decide_eq_true (by omega)
  have t3 : Nat.blt d k = true := by rw [c6]; simpa using hd
  have t4 := g2.get hd
  have t5 : aQ (c : Int) n = true := by rw [bD]; exact decide_eq_true (by omega)
  have t6 : (o + ((c : Nat) : Int).toNat) * 1 = o + c := by simp
  have t7 : Nat.blt (o + c) (o + n) = true := by rw [c6]; simpa using hcn
  have t8 := g2.eN hd
  have t9 := g2.fX hd hcn
  have t10 := NS (M' d c)
  have t11 := fF d (by omega)
  have hE' : ∀ i, i < d → ∀ x, x < n → (M' i x).natAbs ≤ E := fun i hi x hx => by rw [hlow i hi]; exact hE i hi x hx
  have fin : ∀ (A1 : List (List ByteArray)) (M1 : Nat → V), mD o k n ((m.set d (J a, o, n)).set a (J d, o, n)) A1 J' M1 → Fo k M0 M1 d c p → 0 < M1 d c → (∀ i, d < i → i < k → M1 i c = 0) → Big k n M1 T → Wd k n M1 → (∀ i, i < d → M1 i = M' i) →
    ∃ A'' M'' p', bV ((m.set d (J a, o, n)).set a (J d, o, n), cols, (d : Int), (c : Int), (d : Int), 0, A1, ()) = some ((m.set d (J a, o, n)).set a (J d, o, n), cols, (d : Int), (c : Int), A'', ()) ∧ mD o k n ((m.set d (J a, o, n)).set a (J d, o, n)) A'' J' M'' ∧ Fo k M0 M'' (d + 1) (c + 1) p' ∧ Wd k n M'' ∧ Big k n M'' (E + (E + 1) * T) := by
   intro A1 M1 q1 q2 q3 q4 q5 q6 q7
   obtain ⟨A2, M2, r1, r2, r3, r4, r5⟩ := aKZ q1 hk hn { toFo := q2, dk := hd, piv := q3, below := q4, up := fun i hi => by omega } hcn q5 (fun i hi x hx => by rw [q7 i hi]; exact hE' i hi x hx) hET hT cols
   refine ⟨A2, M2, _, r1, r2, r3.done, fun i hi x hx => ?_, fun i hi x hx => ?_⟩
   ·rcases Nat.lt_or_ge i d with g | g
    ·have hs0 : Same k M0 k M2 := r3.same
     have h0 : ∀ j, j < k → M0 j x = 0 := fun j hj => Sp.PH (M := M1) (fun l hl => q6 l hl x hx) ((q2.same _).1 (Sp.mem hj))
     exact Sp.PH (M := M0) h0 ((hs0 _).2 (Sp.mem hi))
    ·rw [r4 i g]; exact q6 i hi x hx
   ·rcases Nat.lt_or_ge i d with g | g
    ·exact r5 i g x hx
    ·rw [r4 i g]
     have := q5 i hi x hx
     have : T * 1 ≤ T * (E + 1) := Nat.mul_le_mul_left _ (by omega)
     rw [Nat.mul_comm (E + 1) T]
     omega
  by_cases hn0 : M' d c < 0
  ·obtain ⟨A1, u1, u2⟩ := g2.neg hn hd (fun x hx => (hB'.cm hT) d hd x hx)
   have l1 : up M' d (fun x => -(M' d x)) d c = -(M' d c) := by rw [C2]
   obtain ⟨A2, M2, p2, r1, r2, r3, r4, r5⟩ := fin A1 _ u2 (g4.neg hd) (by rw [l1]; omega) (fun i q1 q2 => by rw [u9 _ _ (by omega)]; exact hz i q1 q2)
    (fun i hi x hx => by
     by_cases e : i = d
     ·subst e; rw [C2, Int.natAbs_neg]; exact hB' i hi x hx
     ·rw [u9 _ _ e]; exact hB' i hi x hx)
    (fun i hi x hx => by
     by_cases e : i = d
     ·subst e; rw [C2, hw' i hi x hx]; rfl
     ·rw [u9 _ _ e]; exact hw' i hi x hx)
    (fun i hi => u9 _ _ (by omega))
   refine ⟨A2, M2, p2, ?_, r2, r3, r4, r5⟩
   have s2 : ltI (M' d c).sign 0 = true := by rw [aO, Int.sign_eq_neg_one_of_neg hn0]; rfl
   rw [first, hr]
   simp only [cond_false, t1, t2, t3, t4, t5, t6, t7, t8, t9, t10, aD, cond_true, s2, u1, r1, t11]
  ·obtain ⟨A2, M2, p2, r1, r2, r3, r4, r5⟩ := fin A' _ g2 g4 (by omega) hz hB' hw' (fun _ _ => rfl)
   refine ⟨A2, M2, p2, ?_, r2, r3, r4, r5⟩
   have s2 : ltI (M' d c).sign 0 = false := by rw [aO, Int.sign_eq_one_of_pos (by omega)]; rfl
   rw [first, hr]
   simp only [cond_false, t1, t2, t3, t4, t5, t6, t7, t8, t9, t10, aD, cond_true, s2, r1, t11]
end
end Go.PM
set_option linter.unusedSimpArgs false
set_option linter.unusedVariables false
namespace Go.PM
open Go Go.RowKit Go.Proofs Go.Lz
set_option maxRecDepth 100000
structure St (k n d E T : Nat) : Prop where
 e1 : 1 ≤ E
 et : E ≤ T
 eu : d + 1 < k → 9 * E ^ 5 ≤ T
 fit : 2 * Lib.nDigits (T + 1) ≤ l7
def a3L (o k n d c : Nat) (M0 : Nat → V) (cols : Int) (E T : Nat) (z : List (Nat × Nat × Nat) × Int × Int × Int × List (List ByteArray) × Unit) : Prop :=
 ∃ m' A' J' M' d' p', z = (m', cols, ((d' : Nat) : Int), (c : Int), A', ()) ∧ mD o k n m' A' J' M' ∧ Fo k M0 M' d' (c + 1) p' ∧ Wd k n M' ∧ ((d' = d ∧ Big k n M' E) ∨ (d' = d + 1 ∧ Big k n M' (E + (E + 1) * T)))
section
variable {o k n d c : Nat} {m : List (Nat × Nat × Nat)} {A : List (List ByteArray)} {J : Nat → Nat} {M M0 : Nat → V} {p : Nat → Nat} {T E : Nat}
theorem aQF {a g : Nat} (h : a < 10 ^ g) : a < 2 ^ (4 * g) := by
 refine Nat.lt_of_lt_of_le h ?_
 rw [Nat.pow_mul]
 exact Nat.pow_le_pow_left (by decide) g
theorem rounds (hk : k < 1048576) (hn : n < 1048576) (hcn : c < n) (hT : 2 * Lib.nDigits (T + 1) ≤ l7) (hET : E ≤ T) {C : Nat} (hC : 3 * C ≤ T) (cols : Int) : ∀ (R N P : Nat) {m : List (Nat × Nat × Nat)} {A : List (List ByteArray)} {J : Nat → Nat} {M : Nat → V},
  mD o k n m A J M → Fo k M0 M d c p → Wd k n M → (∀ i, i < d → ∀ x, x < n → (M i x).natAbs ≤ E) → Bt k M d c C → Pt k M d c P → P < 2 ^ R → R < N → ∃ z, bU bX N (m, cols, (d : Int), (c : Int), A, ()) = some z ∧ a3L o k n d c M0 cols E T z
 | 0, N, P, m, A, J, M, h, f, hw, hE, hB, hP, hlt, _ => by
  obtain ⟨i, w1, w2, w3, w4⟩ := hP
  have := hB.piv
  have h1 : 1 * 1 ≤ (M d c).natAbs * (M i c).natAbs := Nat.mul_le_mul (by omega) (by omega)
  simp at hlt
  omega
 | R + 1, N + 1, P, m, A, J, M, h, f, hw, hE, hB, hP, hlt, hN => by
  obtain ⟨E1, b1, i0, b2, b3, b4, b5⟩ := hB.ex
  have hdk := hB.dk
  have hmp := hB.piv
  have hE1 : E1 ≤ C := by
   have h1 : E1 * 1 ≤ E1 * ((M d c).natAbs ^ 3 * (M i0 c).natAbs) := Nat.mul_le_mul_left _ (Nat.mul_pos (Nat.pow_pos (by omega)) (by omega))
   have h2 : E1 * ((M d c).natAbs ^ 3 * (M i0 c).natAbs) = E1 * (M d c).natAbs ^ 3 * (M i0 c).natAbs := by rw [Nat.mul_assoc]
   omega
  have hBig : Big k n M T := fun i hi x hx => by
   rcases Nat.lt_or_ge i d with g | g
   ·exact Nat.le_trans (hE i g x hx) hET
   ·have := (b1 i g hi).1 x
    omega
  obtain ⟨r, f1, f2⟩ := aGA h hk (hBig.cm hT) hcn (Nat.le_of_lt hdk) cols
  cases r with
  | none => exact absurd (f2.none rfl d (Nat.le_refl _) (by omega)) hmp
  | some a =>
   obtain ⟨q1, q2, q3, q4⟩ := f2.some a rfl
   have hak : a < k := by omega
   have hmin : ∀ i, d ≤ i → i < k → M i c ≠ 0 → (M a c).natAbs ≤ (M i c).natAbs := fun i g1 g2 g3 => q4 i g1 (by omega) g3
   obtain ⟨m1, A', J', M', s1, s2, s3, s4, s5, s6, s7⟩ := pass h hk hn f hcn hBig hw hE hET hT hdk q1 hak q3 cols f1
   have hE' : ∀ i, i < d → ∀ x, x < n → (M' i x).natAbs ≤ E := fun i hi x hx => by rw [s4 i hi]; exact hE i hi x hx
   by_cases hz : ∀ i, d < i → i < k → M' i c = 0
   ·rcases hB.round q1 hak q3 hmin s2 with ⟨_, A1, g1⟩ | ⟨g1, _⟩
    ·have hBig' : Big k n M' T := fun i hi x hx => by
      rcases Nat.lt_or_ge i d with g | g
      ·exact Nat.le_trans (hE' i g x hx) hET
      ·exact Nat.le_trans ((g1 i g hi).1 x) hC
     obtain ⟨A2, M2, p2, u1, u2, u3, u4, u5⟩ := s7 hz hBig'
     exact ⟨_, by rw [dP, u1], m1, A2, J', M2, d + 1, p2, rfl, u2, u3, u4, .inr ⟨rfl, u5⟩⟩
    ·obtain ⟨_, _, i, z1, z2, z3, _⟩ := g1.ex
     exact absurd (hz i z1 z2) z3
   ·have hex : ∃ i, d < i ∧ i < k ∧ M' i c ≠ 0 := by
     obtain ⟨i, hi⟩ := Classical.not_forall.1 hz
     obtain ⟨g1, hi⟩ := Classical.not_forall.1 hi
     obtain ⟨g2, g3⟩ := Classical.not_forall.1 hi
     exact ⟨i, g1, g2, g3⟩
    rcases hB.round q1 hak q3 hmin s2 with ⟨g0, _⟩ | ⟨g1, _⟩
    ·exact absurd g0 hz
    ·have hP' := hB.half q1 hak q3 hmin s2 hz hP
     obtain ⟨z, v1, v2⟩ := rounds hk hn hcn hT hET hC cols R N (P / 2) s1 s3 s5 hE' g1 hP' (by rw [Nat.pow_succ] at hlt; omega) (by omega)
     exact ⟨z, by rw [dP, s6 hex]; exact v1, v2⟩
theorem column (hk : k < 1048576) (hn : n < 1048576) (h : mD o k n m A J M) (f : Fo k M0 M d c p) (hw : Wd k n M) (hd : d < k) (hcn : c < n) (hE : Big k n M E) (st : St k n d E T) (cols : Int) :
  ∃ z, fE (m, cols, (d : Int), (c : Int), A, ()) = some z ∧ a3L o k n d c M0 cols E T z := by
 have hBig : Big k n M T := fun i hi x hx => Nat.le_trans (hE i hi x hx) st.et
 have hEl : ∀ i, i < d → ∀ x, x < n → (M i x).natAbs ≤ E := fun i hi x hx => hE i (by omega) x hx
 obtain ⟨r, f1, f2⟩ := aGA h hk (hBig.cm st.fit) hcn (Nat.le_of_lt hd) cols
 unfold fE
 obtain ⟨N, hN⟩ : ∃ N, 2 ^ 64 = N + 1 := ⟨2 ^ 64 - 1, by omega⟩
 rw [hN]
 cases r with
 | none =>
  have e1 : ltI (atv none) 0 = true := by decide
  refine ⟨_, ?_, m, A, J, M, d, p, rfl, h, f.skip fun i h1 h2 => f2.none rfl i h1 (by omega), hw, .inl ⟨rfl, hE⟩⟩
  rw [dP]
  simp only [bX, f1, aD, e1, cond_true]
 | some a =>
  obtain ⟨q1, q2, q3, q4⟩ := f2.some a rfl
  have hak : a < k := by omega
  obtain ⟨m1, A', J', M', s1, s2, s3, s4, s5, s6, s7⟩ := pass h hk hn f hcn hBig hw hEl st.et st.fit hd q1 hak q3 cols f1
  have hE' : ∀ i, i < d → ∀ x, x < n → (M' i x).natAbs ≤ E := fun i hi x hx => by rw [s4 i hi]; exact hEl i hi x hx
  have hWi : Wi k (swp M d a) d c E E := (show Wi k M d c E E from fun i g1 g2 => ⟨fun x => hE.all hw i g2 x, hE.all hw i g2 c⟩).swap q1 hak
  have hpd : swp M d a d = M a := by simp [swp]
  have hfirst := s2.first hWi hd (by rw [hpd]; exact q3)
  have hpow : 3 * (3 * (E * E) * E ^ 3) = 9 * E ^ 5 := by grind
  by_cases hdk : d + 1 < k
  ·have h9 := st.eu hdk
   rcases hfirst with ⟨hz, g1⟩ | g1
   ·have hBig' : Big k n M' T := fun i hi x hx => by
     rcases Nat.lt_or_ge i d with g | g
     ·exact Nat.le_trans (hE' i g x hx) st.et
     ·have := (g1 i g hi).1 x
      have h3 : 3 * (E * E) * 1 ≤ 3 * (E * E) * E ^ 3 := Nat.mul_le_mul_left _ (Nat.pow_pos st.e1)
      omega
    obtain ⟨A2, M2, p2, u1, u2, u3, u4, u5⟩ := s7 hz hBig'
    exact ⟨_, by rw [dP, u1], m1, A2, J', M2, d + 1, p2, rfl, u2, u3, u4, .inr ⟨rfl, u5⟩⟩
   ·obtain ⟨E1, b1, i0, b2, b3, b4, b5⟩ := g1.ex
    have hPt : Pt k M' d c (T * T) := by
     refine ⟨i0, b2, b3, b4, Nat.mul_le_mul ?_ ?_⟩
     ·rw [s2.1, hpd]; exact hBig a hak c hcn
     ·have h1 := (g1.sign i0 b2 b3).1
      rw [s2.1, hpd] at h1
      exact Nat.le_trans (Nat.le_of_lt h1) (hBig a hak c hcn)
    have hT2 : T * T < 2 ^ (8 * Lib.nDigits (T + 1)) := by
     have h1 := aQF (j8 (T + 1))
     have h2 : (T + 1) * (T + 1) < 2 ^ (4 * Lib.nDigits (T + 1)) * 2 ^ (4 * Lib.nDigits (T + 1)) := Nat.mul_lt_mul'' h1 h1
     rw [← Nat.pow_add] at h2
     have h3 : 4 * Lib.nDigits (T + 1) + 4 * Lib.nDigits (T + 1) = 8 * Lib.nDigits (T + 1) := by omega
     rw [h3] at h2
     have h4 : T * T ≤ (T + 1) * (T + 1) := Nat.mul_le_mul (by omega) (by omega)
     omega
    have hex : ∃ i, d < i ∧ i < k ∧ M' i c ≠ 0 := ⟨i0, b2, b3, b4⟩
    obtain ⟨z, v1, v2⟩ := rounds hk hn hcn st.fit st.et (C := 3 * (E * E) * E ^ 3) (by omega) cols (8 * Lib.nDigits (T + 1)) N (T * T) s1 s3 s5 hE' g1 hPt hT2 (by have := st.fit; have : l7 = 18 := rfl; omega)
    exact ⟨z, by rw [dP, s6 hex]; exact v1, v2⟩
  ·have hz : ∀ i, d < i → i < k → M' i c = 0 := fun i g1 g2 => by omega
   have hBig' : Big k n M' T := fun i hi x hx => by
    rcases Nat.lt_or_ge i d with g | g
    ·exact Nat.le_trans (hE' i g x hx) st.et
    ·have : i = d := by omega
     subst this
     rw [s2.1, hpd]
     exact hBig a hak x hx
   obtain ⟨A2, M2, p2, u1, u2, u3, u4, u5⟩ := s7 hz hBig'
   exact ⟨_, by rw [dP, u1], m1, A2, J', M2, d + 1, p2, rfl, u2, u3, u4, .inr ⟨rfl, u5⟩⟩

structure Bds (k n : Nat) (E T : Nat → Nat) : Prop where
 st : ∀ d, d < k → St k n d (E d) (T d)
 up : ∀ d, d < k → E d + (E d + 1) * T d ≤ E (d + 1)
theorem aUV {E T : Nat → Nat} (hk : k < 1048576) (hn : n < 1048576) (h : mD o k n m A J M) (hw : Wd k n M) (hE : Big k n M (E 0)) (hb : Bds k n E T) :
  ∃ m' A' J' M' d p, fU m ((n : Int), ()) A = some (m'.take d, A') ∧ d ≤ k ∧ mD o k n m' A' J' M' ∧ Hn d M' p ∧ Same k M d M' ∧ Wd k n M' ∧ Big k n M' (E d) := by
 have fin : ∀ (N : Nat) {m' : List (Nat × Nat × Nat)} {A' : List (List ByteArray)} {J' : Nat → Nat} {M' : Nat → V} {d t : Nat} {p : Nat → Nat}, t ≤ n → n - t < N → mD o k n m' A' J' M' → Fo k M M' d t p → Wd k n M' → Big k n M' (E d) →
   ∃ z, bU cS N (m', (n : Int), (d : Int), (t : Int), A', ()) = some z ∧ ∃ (m' : List (Nat × Nat × Nat)) (A' : List (List ByteArray)) (J' : Nat → Nat) (M' : Nat → V) (d : Nat) (p : Nat → Nat), z = (m', (d : Int), A', ()) ∧ mD o k n m' A' J' M' ∧ (d ≤ k ∧ Hn d M' p ∧ Same k M d M') ∧ Wd k n M' ∧ Big k n M' (E d) := by
  intro N
  induction N with
  | zero => intro m' A' J' M' d t p h1 h2; omega
  | succ N ih =>
   intro m' A' J' M' d t p h1 h2 hL hF hW hB
   rw [dP]
   rcases Nat.lt_or_ge t n with ht | ht
   ·have e1 : ltI (t : Int) (n : Int) = true := by rw [aO]; exact decide_eq_true (by omega)
    rcases Nat.lt_or_ge d k with hd | hd
    ·have e2 : ltI (d : Int) (m'.length : Int) = true := by rw [aO, hL.len]; exact decide_eq_true (by omega)
     obtain ⟨z, z1, m2, A2, J2, M2, d2, p2, rfl, y1, y2, y3, y4⟩ := column hk hn hL hF hW hd ht hB (hb.st d hd) (n : Int)
     have e3 := fF t (by omega)
     have hs : cS (m', (n : Int), (d : Int), (t : Int), A', ()) = some (.inl (m2, (n : Int), (d2 : Int), ((t + 1 : Nat) : Int), A2, ())) := by
      simp only [cS, e1, e2, cond_true, z1, aD, e3]
     rw [hs]
     refine ih (by omega) (by omega) y1 y2 y3 ?_
     rcases y4 with ⟨rfl, y4⟩ | ⟨rfl, y4⟩
     ·exact y4
     ·exact fun i hi x hx => Nat.le_trans (y4 i hi x hx) (hb.up d hd)
    ·have hdk : d = k := by have := hF.le; omega
     have e2 : ltI (d : Int) (m'.length : Int) = false := by rw [aO, hL.len]; exact decide_eq_false (by omega)
     refine ⟨_, by simp only [cS, e1, e2, cond_true, cond_false], m', A', J', M', d, p, rfl, hL, ⟨hF.le, hF.hn (.inl hdk)⟩, hW, hB⟩
   ·have htn : t = n := by omega
    subst htn
    have e1 : ltI (t : Int) (t : Int) = false := by rw [aO]; exact decide_eq_false (by omega)
    refine ⟨_, by simp only [cS, e1, cond_false], m', A', J', M', d, p, rfl, hL, ⟨hF.le, hF.hn (.inr fun i hi x hx => hW i hi x hx)⟩, hW, hB⟩
 obtain ⟨z, z1, m', A', J', M', d, p, rfl, y1, ⟨y2, y3, y4⟩, y5, y6⟩ := fin (2 ^ 64) (Nat.zero_le n) (by omega) h (Fo.start k M) hw hE
 refine ⟨m', A', J', M', d, p, ?_, y2, y1, y3, y4, y5, y6⟩
 have z2 : gW (m, (n : Int), 0, 0, A, ()) = some (m', (d : Int), A', ()) := z1
 have e4 : ltI (d : Int) 0 = false := by rw [aO]; exact decide_eq_false (by omega)
 have e5 : ((d : Nat) : Int).toNat = d := Int.toNat_natCast _
 have hl := y1.len
 unfold fU
 simp only [z2, aD, hl, e4, e5, Bool.not_false, cond_true]
 by_cases hk0 : k = 0
 ·have hd0 : d = 0 := by omega
  subst hk0; subst hd0
  have : m' = [] := List.eq_nil_of_length_eq_zero hl
  subst this
  rfl
 ·have e6 : Nat.beq k 0 = false := by
   cases k with
   | zero => exact absurd rfl hk0
   | succ k => rfl
  have e7 : Nat.ble 0 d = true := rfl
  have e8 : Nat.ble d k = true := by rw [kI]; simpa using y2
  have e9 : Nat.blt 0 k = true := by rw [c6]; simp; omega
  simp only [e6, e7, e8, e9, cond_true, cond_false, Nat.sub_zero]
end
end Go.PM
set_option linter.unusedSimpArgs false
set_option linter.unusedVariables false
namespace Go.PM
open Go Go.RowKit Go.Proofs Go.Lz
set_option maxRecDepth 100000
def nB (r : List Int) : V := fun x => r.getD x 0
def BJ (m : List (List Int)) : Nat → V := fun i => nB (m.getD i [])
def Vr (n : Nat) (v : V) : List Int := (List.range n).map v
theorem aL6 (r : List Int) : Zr r.length (nB r) = r.map Zn := by
 refine List.ext_getElem? fun i => ?_
 simp only [Zr, List.getElem?_map]
 by_cases h : i < r.length
 ·rw [List.getElem?_range h, List.getElem?_eq_getElem h]
  simp [nB, List.getD, h]
 ·have h1 : (List.range r.length)[i]? = none := by simp; omega
  rw [h1, List.getElem?_eq_none (by omega)]; rfl
theorem VG (n : Int) (h : Lib.nDigits n.natAbs ≤ 18) : oW (Zn n, ()) = some (n, true, ()) := by
 have hl := KL h
 have hs : (Zn n).size ≤ 1000000000 := by
  rcases (by omega : n < 0 ∨ 0 ≤ n) with g | g
  ·rw [xM g]; omega
  ·rw [GN g, zX]; omega
 have e1 : Nat.ble (Zn n).size 1000000000 = true := by rw [kI]; simpa using hs
 have e2 : eqI 10 10 = true := by decide
 have e3 : eqI 64 64 = true := by decide
 have e4 : Lib.parseIntB 64 (Zn n).data.toList = .ok n := by
  have hne : ∀ c r, Lib.decDigits n.natAbs = c :: r → c.toNat ≠ 43 ∧ c.toNat ≠ 45 := fun c r he => by
   have := wN n.natAbs c (by rw [he]; simp)
   omega
  have hmag := aCI n.natAbs
  rw [pZ] at hmag
  have hlen : (Lib.decDigits n.natAbs).length ≤ 18 := by rw [Lib.decDigits_length]; exact h
  rw [Lib.parseIntB_64]
  rcases (by omega : n < 0 ∨ 0 ≤ n) with g | g
  ·have hn : -(n.natAbs : Int) = n := by omega
   rw [G7 g, Lib.atoiAll_minus, Lib.signed_short hlen, hmag]
   simp only [Option.map_some, hn]
   rfl
  ·have hn : (n.natAbs : Int) = n := by omega
   rw [GN g, pZ]
   cases he : Lib.decDigits n.natAbs with
   | nil => exact absurd he (uJ _)
   | cons c r =>
    obtain ⟨h1, h2⟩ := hne c r he
    rw [Lib.atoiAll_plain c r h1 h2, ← he, Lib.signless_short hlen, hmag]
    simp only [Option.map_some, hn]
    rfl
 unfold oW mI
 simp only [e1, e2, e3, Bool.and_self, cond_true, e4, aD]

theorem U7 (r : List Int) (hl : r.length ≤ 1048576) (hr : ∀ a ∈ r, -9223372036854775808 ≤ a ∧ a < 9223372036854775808) :
  lV ([], r, (r.length : Int), 0, ()) = some (r.map Zn, ()) := by
 have key := fJ (step := jQ) (N := 2 ^ 64) (fun t => ((r.take t).map Zn, r, (r.length : Int), (t : Int), ())) r.length (r.map Zn, ()) (by omega) (fun t ht => ?_) ?_
 ·exact key
 ·have e1 : ltI (t : Int) (r.length : Int) = true := by rw [aO]; exact decide_eq_true (by omega)
  have e2 : aQ (t : Int) r.length = true := by rw [bD]; exact decide_eq_true (by omega)
  have e3 : ((t : Nat) : Int).toNat = t := Int.toNat_natCast _
  have e4 : r.getD t 0 = r[t] := by simp [List.getD, ht]
  obtain ⟨b1, b2⟩ := hr r[t] (List.getElem_mem ht)
  have e5 := nW r[t] b1 b2
  have e6 : Nat.ble [Zn r[t]].length 1048576 = true := rfl
  have e7 : Nat.ble ((r.take t).map Zn).length 1048576 = true := by rw [kI, List.length_map, List.length_take]; exact decide_eq_true (by omega)
  have e8 := fF t (by omega)
  have e9 : (r.take t).map Zn ++ [Zn r[t]] = (r.take (t + 1)).map Zn := by
   rw [List.take_succ_eq_append_getElem ht, List.map_append]; rfl
  simp only [jQ, e1, e2, e3, e4, e5, aD, e6, e7, cond_true, e8, e9]
 ·have e1 : ltI (r.length : Int) (r.length : Int) = false := by rw [aO]; exact decide_eq_false (by omega)
  simp only [jQ, e1, cond_false, List.take_length]
theorem aCA (r : List Int) (hl : r.length ≤ 1048576) (hr : ∀ a ∈ r, -9223372036854775808 ≤ a ∧ a < 9223372036854775808) : jW (r, ()) = some (r.map Zn) := by
 have e1 : ltI (r.length : Int) 0 = false := by rw [aO]; exact decide_eq_false (by omega)
 have e2 : ltI 1048576 (r.length : Int) = false := by rw [aO]; exact decide_eq_false (by omega)
 unfold jW
 simp only [e1, e2, Bool.not_false, cond_true, List.replicate_zero, U7 r hl hr, aD]

theorem aK1 (rows : List (List Int)) {n : Nat} (hk : rows.length < 1048576) (hn : n < 1048576) (hlen : ∀ r ∈ rows, r.length = n) (hr : ∀ r ∈ rows, ∀ a ∈ r, -9223372036854775808 ≤ a ∧ a < 9223372036854775808) :
  ∃ m A, iW () (rows, ()) [] = some (m, A) ∧ mD 0 rows.length n m A (fun i => i) (BJ rows) := by
 have key := fJ (step := fI) (N := 2 ^ 64)
  (fun t => ((List.range t).map (fun i => (i, 0, n)), rows, (rows.length : Int), (t : Int), (rows.take t).map (·.map Zn), ())) rows.length ((List.range rows.length).map (fun i => (i, 0, n)), rows.map (·.map Zn), ()) (by omega) (fun t ht => ?_) ?_
 ·refine ⟨(List.range rows.length).map (fun i => (i, 0, n)), rows.map (·.map Zn), ?_, rfl, fun i hi => ⟨[], rfl, ?_⟩, fun i j _ _ h => h⟩
  ·unfold iW j5
   have key : bU fI (2 ^ 64) ([], rows, (rows.length : Int), 0, [], ()) = _ := key
   simp only [key, aD]
  ·rw [List.getElem?_map, List.getElem?_eq_getElem hi]
   simp only [Option.map_some, List.nil_append]
   congr 1
   have h1 : BJ rows i = nB rows[i] := by unfold BJ; simp [List.getD, hi]
   rw [h1, ← aL6, hlen rows[i] (List.getElem_mem hi)]
 ·have e1 : ltI (t : Int) (rows.length : Int) = true := by rw [aO]; exact decide_eq_true (by omega)
  have e2 : aQ (t : Int) rows.length = true := by rw [bD]; exact decide_eq_true (by omega)
  have e3 : ((t : Nat) : Int).toNat = t := Int.toNat_natCast _
  have e4 : rows.getD t [] = rows[t] := by simp [List.getD, ht]
  have hm := List.getElem_mem ht
  have e5 := aCA rows[t] (by rw [hlen _ hm]; omega) (hr _ hm)
  have e6 : ((rows.take t).map (·.map Zn)).length = t := by rw [List.length_map, List.length_take]; omega
  have e7 : Nat.ble [(t, 0, n)].length 1048576 = true := rfl
  have e8 : Nat.ble ((List.range t).map (fun i => (i, 0, n))).length 1048576 = true := by rw [kI, List.length_map, List.length_range]; exact decide_eq_true (by omega)
  have e9 := fF t (by omega)
  have e10 : (rows[t].map Zn).length = n := by rw [List.length_map, hlen _ hm]
  have e11 : (rows.take t).map (·.map Zn) ++ [rows[t].map Zn] = (rows.take (t + 1)).map (·.map Zn) := by
   rw [List.take_succ_eq_append_getElem ht, List.map_append]; rfl
  have e12 : (List.range t).map (fun i => (i, 0, n)) ++ [(t, 0, n)] = (List.range (t + 1)).map (fun i => (i, 0, n)) := by
   rw [List.range_succ, List.map_append]; rfl
  simp only [fI, e1, e2, e3, e4, e5, aD, e6, e7, e8, e9, e10, e11, e12, cond_true]
 ·have e1 : ltI (rows.length : Int) (rows.length : Int) = false := by rw [aO]; exact decide_eq_false (by omega)
  simp only [fI, e1, cond_false, List.take_length]

theorem aM5 {A : List (List ByteArray)} {J o n : Nat} {v : V} {pre : List ByteArray} (hn : n < 1048576) (hp : pre.length = o) (hJ : A[J]? = some (pre ++ Zr n v)) (ok : ∀ x, x < n → (v x).natAbs ≤ 1000000000) :
  gS () ((J, o, n), ()) A = some ((Vr n v, 0, ()), A) := by
 have key := fJ (step := dZ) (N := 2 ^ 64) (fun t => (Vr t v, (J, o, n), (n : Int), (t : Int), A, ())) n (.inr (Vr n v, A, ())) (by omega) (fun t ht => ?_) ?_
 ·have e1 : ltI (n : Int) 0 = false := by rw [aO]; exact decide_eq_false (by omega)
  have e2 : ltI 1048576 (n : Int) = false := by rw [aO]; exact decide_eq_false (by omega)
  have key : bU dZ (2 ^ 64) ([], (J, o, n), (n : Int), 0, A, ()) = _ := key
  unfold gS iO
  simp only [e1, e2, Bool.not_false, cond_true, List.replicate_zero, key, aD, nZ]
 ·have b1 := ok t ht
  have e1 : ltI (t : Int) (n : Int) = true := by rw [aO]; exact decide_eq_true (by omega)
  have e2 : aQ (t : Int) n = true := by rw [bD]; exact decide_eq_true (by omega)
  have e3 : (o + ((t : Nat) : Int).toNat) * 1 = o + t := by simp
  have e4 : eN A J = o + n := by rw [eN, P7 _ hJ, List.length_append, iY, hp]
  have e6 : Nat.blt (o + t) (o + n) = true := by rw [c6]; simpa using ht
  have e7 : fX A J (o + t) ByteArray.empty = Zn (v t) := by rw [fX, P7 _ hJ, JN hp, A8 _ ht]
  have e8 := VG (v t) (by have := jT (u := (v t).natAbs) (k := 17) (by omega); omega)
  have e9 : ltI 1000000000 (v t) = false := by rw [aO]; exact decide_eq_false (by omega)
  have e10 : ltI (v t) (-1000000000) = false := by rw [aO]; exact decide_eq_false (by omega)
  have e11 : Nat.ble [v t].length 1048576 = true := rfl
  have e12 : Nat.ble (Vr t v).length 1048576 = true := by rw [kI]; unfold Vr; rw [List.length_map, List.length_range]; exact decide_eq_true (by omega)
  have e13 := fF t (by omega)
  have e14 : Vr t v ++ [v t] = Vr (t + 1) v := by unfold Vr; rw [List.range_succ, List.map_append]; rfl
  simp only [dZ, e1, e2, e3, e4, e6, e7, e8, e9, e10, e11, e12, e13, e14, aD, cond_true, cond_false]
 ·have e1 : ltI (n : Int) (n : Int) = false := by rw [aO]; exact decide_eq_false (by omega)
  simp only [dZ, e1, cond_false]
theorem aQQ {o k d n : Nat} {m : List (Nat × Nat × Nat)} {A : List (List ByteArray)} {J : Nat → Nat} {M : Nat → V} (h : mD o k n m A J M) (hd : d ≤ k) (hk : k < 1048576) (hn : n < 1048576) (ok : ∀ i, i < d → ∀ x, x < n → (M i x).natAbs ≤ 1000000000) (cols : Int) :
  fQ (m.take d) (cols, ()) A = some (((cols, (List.range d).map fun i => Vr n (M i)), 0, ()), A) := by
 have hl : (m.take d).length = d := by rw [List.length_take, h.len]; omega
 have hg : ∀ t, t < d → (m.take d).getD t (0, 0, 0) = (J t, o, n) := fun t ht => by
  rw [← h.get (show t < k by omega)]
  simp [List.getD, List.getElem?_take, ht]
 have key := fJ (step := dG) (N := 2 ^ 64)
  (fun t => ((0, ([], ())), (cols, ((List.range t).map (fun i => Vr n (M i)), ())), m.take d, ((m.take d).length : Int), (t : Int), A, ())) d (.inr ((0, ([], ())), (cols, ((List.range d).map (fun i => Vr n (M i)), ())), A, ())) (by omega) (fun t ht => ?_) ?_
 ·have key : bU dG (2 ^ 64) ((0, ([], ())), (cols, ([], ())), m.take d, ((m.take d).length : Int), 0, A, ()) = _ := key
  unfold fQ gX
  simp only [key, aD, nZ]
 ·rw [hl]
  obtain ⟨pre, h1, h2⟩ := h.at_ t (by omega)
  have e1 : ltI (t : Int) (d : Int) = true := by rw [aO]; exact decide_eq_true (by omega)
  have e2 : aQ (t : Int) d = true := by rw [bD]; exact decide_eq_true (by omega)
  have e3 : ((t : Nat) : Int).toNat = t := Int.toNat_natCast _
  have e4 : Nat.blt t d = true := by rw [c6]; simpa using ht
  have e5 := aM5 hn h1 h2 (ok t ht)
  have e6 : eqI 0 0 = true := by decide
  have e7 : Nat.ble [Vr n (M t)].length 1048576 = true := rfl
  have e8 : Nat.ble ((List.range t).map (fun i => Vr n (M i))).length 1048576 = true := by rw [kI, List.length_map, List.length_range]; exact decide_eq_true (by omega)
  have e9 := fF t (by omega)
  have e10 : (List.range t).map (fun i => Vr n (M i)) ++ [Vr n (M t)] = (List.range (t + 1)).map (fun i => Vr n (M i)) := by rw [List.range_succ, List.map_append]; rfl
  simp only [dG, hl, e1, e2, e3, e4, hg t ht, e5, e6, e7, e8, e9, e10, aD, cond_true, Bool.not_true, cond_false]
 ·rw [hl]
  have e1 : ltI (d : Int) (d : Int) = false := by rw [aO]; exact decide_eq_false (by omega)
  simp only [dG, e1, cond_false]

theorem PB (r : List Int) (hl : r.length ≤ 64) (hr : ∀ a ∈ r, a.natAbs ≤ 1000000000) : sM (r, ()) = some (0, ()) := by
 have key := fJ (step := b6) (N := 2 ^ 64) (fun t => (r, (), (r.length : Int), (t : Int), ())) r.length (.inr ()) (by omega) (fun t ht => ?_) ?_
 ·have key : bU b6 (2 ^ 64) (r, (), (r.length : Int), 0, ()) = some (.inr ()) := key
  have e1 : ltI 64 (r.length : Int) = false := by rw [aO]; exact decide_eq_false (by omega)
  have e2 : ltI (-1) 0 = true := by decide
  simp only [sM, e1, cond_false, dD, eC, eM, key, aD, nZ, e2, Bool.not_true]
 ·have e1 : ltI (t : Int) (r.length : Int) = true := by rw [aO]; exact decide_eq_true (by omega)
  have e2 : aQ (t : Int) r.length = true := by rw [bD]; exact decide_eq_true (by omega)
  have e3 : ((t : Nat) : Int).toNat = t := Int.toNat_natCast _
  have e4 : r.getD t 0 = r[t] := by simp [List.getD, ht]
  have b := hr r[t] (List.getElem_mem ht)
  have e5 : ltI r[t] (-1000000000) = false := by rw [aO]; exact decide_eq_false (by omega)
  have e6 : ltI 1000000000 r[t] = false := by rw [aO]; exact decide_eq_false (by omega)
  have e7 := fF t (by omega)
  simp only [b6, e1, e2, e3, e4, vB, FA, e5, e6, aD, Bool.not_false, cond_true, cond_false, e7]
 ·have e1 : ltI (r.length : Int) (r.length : Int) = false := by rw [aO]; exact decide_eq_false (by omega)
  simp only [b6, e1, cond_false]
theorem aF7 (rows : List (List Int)) {n : Nat} (hk : rows.length < 1048576) (hn : n ≤ 64) (hlen : ∀ r ∈ rows, r.length = n) (hr : ∀ r ∈ rows, ∀ a ∈ r, a.natAbs ≤ 1000000000) : pN (rows, (n : Int), ()) = some (0, ()) := by
 have key := fJ (step := jU) (N := 2 ^ 64) (fun t => ((n : Int), rows, (rows.length : Int), (t : Int), ())) rows.length (.inr ()) (by omega) (fun t ht => ?_) ?_
 ·have key : bU jU (2 ^ 64) ((n : Int), rows, (rows.length : Int), 0, ()) = some (.inr ()) := key
  simp only [pN, o8, key, aD, nZ]
 ·have e1 : ltI (t : Int) (rows.length : Int) = true := by rw [aO]; exact decide_eq_true (by omega)
  have e2 : aQ (t : Int) rows.length = true := by rw [bD]; exact decide_eq_true (by omega)
  have e3 : ((t : Nat) : Int).toNat = t := Int.toNat_natCast _
  have e4 : rows.getD t [] = rows[t] := by simp [List.getD, ht]
  have hm := List.getElem_mem ht
  have e5 := PB rows[t] (by rw [hlen _ hm]; exact hn) (hr _ hm)
  have e6 : eqI 0 0 = true := by decide
  have e7 : eqI (rows[t].length : Int) (n : Int) = true := by rw [eV, hlen _ hm]; exact decide_eq_true rfl
  have e8 := fF t (by omega)
  simp only [jU, e1, e2, e3, e4, e5, aD, e6, e7, e8, Bool.not_true, cond_true, cond_false]
 ·have e1 : ltI (rows.length : Int) (rows.length : Int) = false := by rw [aO]; exact decide_eq_false (by omega)
  simp only [jU, e1, cond_false]
theorem aHL (rows : List (List Int)) {n : Nat} (hk : rows.length ≤ 12) (hn : n ≤ 12) (hlen : ∀ r ∈ rows, r.length = n) (hr : ∀ r ∈ rows, ∀ a ∈ r, a.natAbs ≤ 1000000000) : lG ((n : Int), rows, ()) = some (0, ()) := by
 have e1 : ltI (n : Int) 0 = false := by rw [aO]; exact decide_eq_false (by omega)
 have e2 : ltI 12 (n : Int) = false := by rw [aO]; exact decide_eq_false (by omega)
 have e3 : ltI 12 (rows.length : Int) = false := by rw [aO]; exact decide_eq_false (by omega)
 simp only [lG, e1, e2, e3, cond_false, aF7 rows (by omega) (by omega) hlen hr, aD]
theorem of_eq (rows : List (List Int)) {n : Nat} (hk : rows.length ≤ 12) (hn : n ≤ 12) (hlen : ∀ r ∈ rows, r.length = n) {E T : Nat → Nat} (hr : ∀ r ∈ rows, ∀ a ∈ r, a.natAbs ≤ E 0) (hE : E 0 ≤ 1000000000) (hb : Bds rows.length n E T)
  (hfin : ∀ d M p, d ≤ rows.length → Hn d M p → Same rows.length (BJ rows) d M → (∀ i, i < d → ∀ x, n ≤ x → M i x = 0) → ∀ i, i < d → ∀ x, x < n → (M i x).natAbs ≤ 1000000000) :
  ∃ d M p, dV ((n : Int), rows, ()) = some (((n : Int), (List.range d).map fun i => Vr n (M i)), 0, ()) ∧ d ≤ rows.length ∧ Hn d M p ∧ Same rows.length (BJ rows) d M ∧ (∀ i, i < d → ∀ x, n ≤ x → M i x = 0) ∧ ∀ i, i < d → ∀ x, x < n → (M i x).natAbs ≤ 1000000000 := by
 obtain ⟨m, A, h1, h2⟩ := aK1 rows (n := n) (by omega) (by omega) hlen (fun r h a ha => by have := hr r h a ha; omega)
 have hrow : ∀ i, i < rows.length → ∃ r, r ∈ rows ∧ BJ rows i = nB r := fun i hi => ⟨rows[i], List.getElem_mem hi, by unfold BJ; simp [List.getD, hi]⟩
 have hw : Wd rows.length n (BJ rows) := fun i hi x hx => by
  obtain ⟨r, hr1, hr2⟩ := hrow i hi
  rw [hr2]; unfold nB
  have := hlen r hr1
  simp [List.getD, List.getElem?_eq_none (show r.length ≤ x by omega)]
 have hB : Big rows.length n (BJ rows) (E 0) := fun i hi x hx => by
  obtain ⟨r, hr1, hr2⟩ := hrow i hi
  rw [hr2]; unfold nB
  have hl := hlen r hr1
  have : r.getD x 0 = r[x]'(by omega) := by simp [List.getD, show x < r.length by omega]
  rw [this]
  exact hr r hr1 _ (List.getElem_mem _)
 obtain ⟨m', A', J', M', d, p, g1, g2, g3, g4, g5, g6, g7⟩ := aUV (by omega) (by omega) h2 hw hB hb
 have hwd : ∀ i, i < d → ∀ x, n ≤ x → M' i x = 0 := fun i hi x hx => g6 i (by omega) x hx
 have hf := hfin d M' p g2 g4 g5 hwd
 refine ⟨d, M', p, ?_, g2, g4, g5, hwd, hf⟩
 have e0 : eqI 0 0 = true := by decide
 simp only [dV, aHL rows hk hn hlen (fun r h a ha => Nat.le_trans (hr r h a ha) hE), aD, e0, Bool.not_true, cond_false, h1, g1, aQQ g3 g2 (by omega) (by omega) hf (n : Int)]
end Go.PM
set_option linter.unusedSimpArgs false
set_option linter.unusedVariables false
namespace Go.PM
open Go Go.RowKit Go.Proofs Go.Lz
set_option maxRecDepth 100000
theorem vN (n : Nat) (v : V) : (Vr n v).length = n := by simp [Vr]
theorem aFM {n i : Nat} (v : V) (h : i < n) : (Vr n v).getD i 0 = v i := by simp [Vr, List.getD, h]
theorem aRR {n : Nat} {v : V} {B : Nat} (h : ∀ x, x < n → (v x).natAbs ≤ B) : ∀ a ∈ Vr n v, a.natAbs ≤ B := by
 intro a ha
 obtain ⟨x, hx, rfl⟩ := List.mem_map.1 ha
 exact h x (List.mem_range.1 hx)
def Mr (d n : Nat) (M : Nat → V) : List (List Int) := (List.range d).map fun i => Vr n (M i)
theorem EY (d n : Nat) (M : Nat → V) : (Mr d n M).length = d := by simp [Mr]
theorem aSZ {d n i : Nat} (M : Nat → V) (h : i < d) (z : List Int) : (Mr d n M).getD i z = Vr n (M i) := by simp [Mr, List.getD, h]
theorem aTF {d n : Nat} {M : Nat → V} {r : List Int} (h : r ∈ Mr d n M) : ∃ i, i < d ∧ r = Vr n (M i) := by
 obtain ⟨i, hi, rfl⟩ := List.mem_map.1 h
 exact ⟨i, List.mem_range.1 hi, rfl⟩

theorem aTA (r : List Int) (hl : r.length < 1048576) (hr : ∀ a ∈ r, a.natAbs ≤ 1000000000) : cG (r, (), ()) = some (false, ()) := by
 have key := fJ (step := bZ) (N := 2 ^ 64) (fun t => (r, (), (r.length : Int), (t : Int), ())) r.length (.inr ()) (by omega) (fun t ht => ?_) ?_
 ·have key : bU bZ (2 ^ 64) (r, (), (r.length : Int), 0, ()) = some (.inr ()) := key
  have e2 : ltI (-1) 0 = true := by decide
  simp only [cG, dX, eK, key, aD, nZ, e2, Bool.not_true]
 ·have e1 : ltI (t : Int) (r.length : Int) = true := by rw [aO]; exact decide_eq_true (by omega)
  have e2 : aQ (t : Int) r.length = true := by rw [bD]; exact decide_eq_true (by omega)
  have e3 : ((t : Nat) : Int).toNat = t := Int.toNat_natCast _
  have e4 : r.getD t 0 = r[t] := by simp [List.getD, ht]
  have b := hr r[t] (List.getElem_mem ht)
  have e5 : ltI r[t] (-1000000000) = false := by rw [aO]; exact decide_eq_false (by omega)
  have e6 : ltI 1000000000 r[t] = false := by rw [aO]; exact decide_eq_false (by omega)
  have e7 := fF t (by omega)
  simp only [bZ, e1, e2, e3, e4, uM, e5, e6, aD, cond_true, cond_false, e7]
 ·have e1 : ltI (r.length : Int) (r.length : Int) = false := by rw [aO]; exact decide_eq_false (by omega)
  simp only [bZ, e1, cond_false]
theorem aAJ (rows : List (List Int)) {n : Nat} (hk : rows.length ≤ 12) (hn : n ≤ 12) (hlen : ∀ r ∈ rows, r.length = n) (hr : ∀ r ∈ rows, ∀ a ∈ r, a.natAbs ≤ 1000000000) : rD (rows, ()) = some (0, ()) := by
 have key := fJ (step := kJ) (N := 2 ^ 64) (fun t => (rows, rows, (rows.length : Int), (t : Int), ())) rows.length (.inr ()) (by omega) (fun t ht => ?_) ?_
 ·have key : bU kJ (2 ^ 64) (rows, rows, (rows.length : Int), 0, ()) = some (.inr ()) := key
  have e1 : ltI 12 (rows.length : Int) = false := by rw [aO]; exact decide_eq_false (by omega)
  simp only [rD, p6, e1, cond_false, key, aD, nZ]
 ·have e1 : ltI (t : Int) (rows.length : Int) = true := by rw [aO]; exact decide_eq_true (by omega)
  have e2 : aQ (t : Int) rows.length = true := by rw [bD]; exact decide_eq_true (by omega)
  have e3 : ((t : Nat) : Int).toNat = t := Int.toNat_natCast _
  have e4 : rows.getD t [] = rows[t] := by simp [List.getD, ht]
  have e4' : rows.getD 0 [] = rows[0] := by simp [List.getD, show 0 < rows.length by omega]
  have hm := List.getElem_mem ht
  have hm0 := List.getElem_mem (show 0 < rows.length by omega)
  have e5 : ltI 12 (rows[t].length : Int) = false := by rw [aO, hlen _ hm]; exact decide_eq_false (by omega)
  have e6 : aQ 0 rows.length = true := by rw [bD]; exact decide_eq_true (by omega)
  have e7 : eqI (rows[t].length : Int) (rows[0].length : Int) = true := by rw [eV, hlen _ hm, hlen _ hm0]; exact decide_eq_true rfl
  have e8 := aTA rows[t] (by rw [hlen _ hm]; omega) (hr _ hm)
  have e9 := fF t (by omega)
  simp only [kJ, e1, e2, e3, e4, e4', e5, e6, e7, e8, e9, aD, Bool.not_true, cond_true, cond_false]
 ·have e1 : ltI (rows.length : Int) (rows.length : Int) = false := by rw [aO]; exact decide_eq_false (by omega)
  simp only [kJ, e1, cond_false]
theorem aQ3 {n c : Nat} {v : V} (hn : n < 1048576) (hc : c < n) (hz : ∀ x, x < c → v x = 0) (hp : v c ≠ 0) : nU (Vr n v, ()) = some ((c : Int), ()) := by
 have hl := vN n v
 have key := fJ (step := cA) (N := 2 ^ 64) (fun t => (Vr n v, (), (n : Int), (t : Int), ())) c (.inl ((c : Int), ())) (by omega) (fun t ht => ?_) ?_
 ·have key : bU cA (2 ^ 64) (Vr n v, (), (n : Int), 0, ()) = some (.inl ((c : Int), ())) := key
  simp only [nU, eI, eL, hl, key, aD, LL]
 ·have e1 : ltI (t : Int) (n : Int) = true := by rw [aO]; exact decide_eq_true (by omega)
  have e2 : aQ (t : Int) n = true := by rw [bD]; exact decide_eq_true (by omega)
  have e3 : ((t : Nat) : Int).toNat = t := Int.toNat_natCast _
  have e4 : (Vr n v).getD t 0 = 0 := by rw [aFM v (by omega)]; exact hz t ht
  have e5 : eqI 0 0 = true := by decide
  have e9 := fF t (by omega)
  simp only [cA, hl, e1, e2, e3, e4, k9, e5, e9, aD, Bool.not_true, cond_true, cond_false]
 ·have e1 : ltI (c : Int) (n : Int) = true := by rw [aO]; exact decide_eq_true (by omega)
  have e2 : aQ (c : Int) n = true := by rw [bD]; exact decide_eq_true (by omega)
  have e3 : ((c : Nat) : Int).toNat = c := Int.toNat_natCast _
  have e4 : eqI ((Vr n v).getD c 0) 0 = false := by rw [aFM v hc, eV]; exact decide_eq_false hp
  simp only [cA, hl, e1, e2, e3, k9, e4, aD, Bool.not_false, cond_true]
theorem aWB {n c : Nat} {v : V} (hn : n < 1048576) (hc : c < n) (hz : ∀ x, x < c → v x = 0) (hp : v c ≠ 0) : hO (Zr n v, ()) = some ((c : Int), ()) := by
 have hl := iY n v
 have key := fJ (step := bH) (N := 2 ^ 64) (fun t => (Zr n v, (), (n : Int), (t : Int), ())) c (.inl ((c : Int), ())) (by omega) (fun t ht => ?_) ?_
 ·have key : bU bH (2 ^ 64) (Zr n v, (), (n : Int), 0, ()) = some (.inl ((c : Int), ())) := key
  simp only [hO, cD, cQ, hl, key, aD, LL]
 ·have e1 : ltI (t : Int) (n : Int) = true := by rw [aO]; exact decide_eq_true (by omega)
  have e2 : aQ (t : Int) n = true := by rw [bD]; exact decide_eq_true (by omega)
  have e3 : ((t : Nat) : Int).toNat = t := Int.toNat_natCast _
  have e4 : eqS ((Zr n v).getD t ByteArray.empty) (ByteArray.mk #[48]) = true := by rw [A8 v (by omega), wM]; exact decide_eq_true (hz t ht)
  have e9 := fF t (by omega)
  simp only [bH, hl, e1, e2, e3, iC, e4, e9, aD, Bool.not_true, cond_true, cond_false]
 ·have e1 : ltI (c : Int) (n : Int) = true := by rw [aO]; exact decide_eq_true (by omega)
  have e2 : aQ (c : Int) n = true := by rw [bD]; exact decide_eq_true (by omega)
  have e3 : ((c : Nat) : Int).toNat = c := Int.toNat_natCast _
  have e4 : eqS ((Zr n v).getD c ByteArray.empty) (ByteArray.mk #[48]) = false := by rw [A8 v hc, wM]; exact decide_eq_false hp
  simp only [bH, hl, e1, e2, e3, iC, e4, aD, Bool.not_false, cond_true]
theorem Hn.ZI {d n : Nat} {M : Nat → V} {p : Nat → Nat} (h : Hn d M p) (hw : ∀ i, i < d → ∀ x, n ≤ x → M i x = 0) {i : Nat} (hi : i < d) : p i < n := by
 rcases Nat.lt_or_ge (p i) n with g | g
 ·exact g
 ·have := hw i hi _ g
  have := h.pos i hi
  omega
theorem aQR {d n t : Nat} {M : Nat → V} {p : Nat → Nat} (h : Hn d M p) (hw : ∀ i, i < d → ∀ x, n ≤ x → M i x = 0) (hd : d < 1048576) (hn : n < 1048576) (ht : t < d) :
  bN (Mr t n M, ((p t : Int), Vr n (M t), ()), ()) = some (false, ()) := by
 have hl := EY t n M
 have hp := Hn.ZI h hw ht
 have key := fJ (step := bJ) (N := 2 ^ 64) (fun s => (Mr t n M, ((p t : Int), Vr n (M t), ()), (t : Int), (s : Int), ())) t (.inr ()) (by omega) (fun s hs => ?_) ?_
 ·have key : bU bJ (2 ^ 64) (Mr t n M, ((p t : Int), Vr n (M t), ()), (t : Int), 0, ()) = some (.inr ()) := key
  have e2 : ltI (-1) 0 = true := by decide
  simp only [bN, cO, cV, hl, key, aD, nZ, e2, Bool.not_true]
 ·have e1 : ltI (s : Int) (t : Int) = true := by rw [aO]; exact decide_eq_true (by omega)
  have e2 : aQ (s : Int) t = true := by rw [bD]; exact decide_eq_true (by omega)
  have e3 : ∀ a : Nat, ((a : Nat) : Int).toNat = a := fun a => Int.toNat_natCast _
  have e4 := aSZ (n := n) M hs []
  have e5 : aQ (p t : Int) n = true := by rw [bD]; exact decide_eq_true (by omega)
  obtain ⟨r1, r2⟩ := h.red s t hs ht
  have e6 : ltI (M s (p t)) 0 = false := by rw [aO]; exact decide_eq_false (by omega)
  have e7 : ltI (M s (p t)) (M t (p t)) = true := by rw [aO]; exact decide_eq_true r2
  have e9 := fF s (by omega)
  simp only [bJ, hl, e1, e2, e3, e4, lK, vN, e5, aFM _ hp, e6, e7, e9, aD, Bool.not_true, cond_true, cond_false]
 ·have e1 : ltI (t : Int) (t : Int) = false := by rw [aO]; exact decide_eq_false (by omega)
  simp only [bJ, e1, cond_false]
theorem aOX {d n : Nat} {M : Nat → V} {p : Nat → Nat} (h : Hn d M p) (hw : ∀ i, i < d → ∀ x, n ≤ x → M i x = 0) (hd : d < 1048576) (hn : n < 1048576) : l9 (Mr d n M, ()) = some (true, ()) := by
 have hl := EY d n M
 obtain ⟨q, hq⟩ : ∃ q : Nat → Int, q = fun t => if t = 0 then -1 else (p (t - 1) : Int) := ⟨_, rfl⟩
 have key := fJ (step := iF) (N := 2 ^ 64) (fun t => (Mr d n M, q t, Mr d n M, (d : Int), (t : Int), ())) d (.inr ()) (by omega) (fun t ht => ?_) ?_
 ·have q0 : q 0 = -1 := by rw [hq]; rfl
  rw [q0] at key
  have key : bU iF (2 ^ 64) (Mr d n M, -1, Mr d n M, (d : Int), 0, ()) = some (.inr ()) := key
  simp only [l9, mH, hl, key, aD, nZ]
 ·have hp := Hn.ZI h hw ht
  have e1 : ltI (t : Int) (d : Int) = true := by rw [aO]; exact decide_eq_true (by omega)
  have e2 : aQ (t : Int) d = true := by rw [bD]; exact decide_eq_true (by omega)
  have e3 : ∀ a : Nat, ((a : Nat) : Int).toNat = a := fun a => Int.toNat_natCast _
  have e4 := aSZ (n := n) M ht []
  have e5 := aQ3 hn hp (h.low t ht) (by have := h.pos t ht; omega)
  have e6 : ltI (q t) (p t : Int) = true := by
   rw [aO, hq]
   dsimp only
   split
   ·exact decide_eq_true (by omega)
   ·have := h.inc (t - 1) t (by omega) ht
    exact decide_eq_true (by omega)
  have e7 : aQ (p t : Int) n = true := by rw [bD]; exact decide_eq_true (by omega)
  have e8 : ltI (M t (p t)) 0 = false := by rw [aO]; exact decide_eq_false (by have := h.pos t ht; omega)
  have e9 : ltI (t : Int) 0 = false := by rw [aO]; exact decide_eq_false (by omega)
  have e10 : Nat.ble 0 t = true := rfl
  have e11 : Nat.ble t d = true := by rw [kI]; exact decide_eq_true (by omega)
  have e12 : ((Mr d n M).drop 0).take (t - 0) = Mr t n M := by
   rw [List.drop_zero, Nat.sub_zero]
   unfold Mr
   rw [← List.map_take, List.take_range, Nat.min_eq_left (by omega)]
  have e13 := aQR h hw hd hn ht
  have e14 := fF t (by omega)
  have e15 : q (t + 1) = (p t : Int) := by rw [hq]; simp
  simp only [iF, hl, e1, e2, e3, e4, e5, aD, e6, vN, e7, aFM _ hp, e8, e9, e10, e11, e12, e13, e14, e15, Bool.not_true, Bool.not_false, cond_true, cond_false]
 ·have e1 : ltI (d : Int) (d : Int) = false := by rw [aO]; exact decide_eq_false (by omega)
  simp only [iF, e1, cond_false]
theorem aSF {d n : Nat} {M : Nat → V} {p : Nat → Nat} (h : Hn d M p) (hw : ∀ i, i < d → ∀ x, n ≤ x → M i x = 0) (hd : d ≤ 12) (hn : n ≤ 12) (hM : ∀ i, i < d → ∀ x, x < n → (M i x).natAbs ≤ 1000000000) : nM (((n : Int), Mr d n M), ()) = some (0, ()) := by
 have hlen : ∀ r ∈ Mr d n M, r.length = n := fun r hr => by
  obtain ⟨i, _, rfl⟩ := aTF hr
  exact vN _ _
 have hr : ∀ r ∈ Mr d n M, ∀ a ∈ r, a.natAbs ≤ 1000000000 := fun r hr => by
  obtain ⟨i, hi, rfl⟩ := aTF hr
  exact aRR (hM i hi)
 have e0 : eqI 0 0 = true := by decide
 have c1 := aHL (Mr d n M) (n := n) (by rw [EY]; exact hd) hn hlen hr
 have c2 := aAJ (Mr d n M) (n := n) (by rw [EY]; exact hd) hn hlen hr
 simp only [nM, c1, aD, e0, Bool.not_true, cond_false, pH, c2, aOX h hw (by omega) (by omega), cond_true]
theorem aH2 {d n : Nat} {M : Nat → V} {p : Nat → Nat} (h : Hn d M p) (hw : ∀ i, i < d → ∀ x, n ≤ x → M i x = 0) (hd : d ≤ 12) (hn : n ≤ 12) (hM : ∀ i, i < d → ∀ x, x < n → (M i x).natAbs ≤ 1000000000) (r : List Int) (hl : r.length = n) (hr : ∀ a ∈ r, a.natAbs ≤ 1000000000) :
  kL (((n : Int), Mr d n M), r, ()) = some (0, ()) := by
 have e0 : eqI 0 0 = true := by decide
 have e1 : eqI (r.length : Int) (n : Int) = true := by rw [eV, hl]; exact decide_eq_true rfl
 simp only [kL, aSF h hw hd hn hM, aD, e0, Bool.not_true, cond_false, PB r (by omega) hr, e1]
end Go.PM
set_option linter.unusedSimpArgs false
set_option linter.unusedVariables false
namespace Go.PM
open Go Go.RowKit Go.Proofs Go.Lz
set_option maxRecDepth 100000
theorem aT4 {n : Nat} {u v : V} {q : Int} (hn : n < 1048576) (ok : aAB n u v q) : aJA (t := .str) eO (Zr n u) (Zn q, Zr n v, ()) = some (Zr n fun x => u x - q * v x) := by
 have hl := iY n u
 have main : eO () ((0, 0, n), Zn q, Zr n v, ()) [Zr n u] = some ((), [Zr n fun x => u x - q * v x]) := by
  unfold eO
  simp only [wM]
  by_cases hq : q = 0
  ·subst hq
   simp only [decide_true, cond_true]
   have : Zr n (fun x => u x - 0 * v x) = Zr n u := wR fun i _ => by simp
   rw [this]
  ·have key := fJ (step := eR) (N := 2 ^ 64)
    (fun t => ((0, 0, n), Zn q, Zr n v, (n : Int), (t : Int), [Zr n fun x => if x < t then u x - q * v x else u x], ())) n ([Zr n fun x => u x - q * v x], ()) (by omega) (fun t ht => ?_) ?_
   ·have h0 : Zr n (fun x => if x < 0 then u x - q * v x else u x) = Zr n u := wR fun i _ => by simp
    simp only [h0] at key
    have key : bU eR (2 ^ 64) ((0, 0, n), Zn q, Zr n v, (n : Int), 0, [Zr n u], ()) = _ := key
    simp only [hq, decide_false, cond_false, jJ, iY, key, aD]
   ·have e1 : ltI (t : Int) (n : Int) = true := by rw [aO]; exact decide_eq_true (by omega)
    have e2 : aQ (t : Int) n = true := by rw [bD]; exact decide_eq_true (by omega)
    have e3 : (0 + t) * 1 = t := by omega
    have e3' : ((t : Nat) : Int).toNat = t := Int.toNat_natCast _
    have e4 : eN [Zr n fun x => if x < t then u x - q * v x else u x] 0 = n := by
     show (Zr n _).length = n
     exact iY _ _
    have e6 : Nat.blt t n = true := by rw [c6]; simpa using ht
    have e7 : fX [Zr n fun x => if x < t then u x - q * v x else u x] 0 t ByteArray.empty = Zn (u t) := by
     show (Zr n _).getD t _ = _
     rw [A8 _ ht]; simp
    have e9 : vU [Zr n fun x => if x < t then u x - q * v x else u x] 0 t (Zn (u t - q * v t)) = [Zr n fun x => if x < t + 1 then u x - q * v x else u x] := by
     show [(Zr n _).set t _] = _
     rw [aJM u (fun x => u x - q * v x) t ht]
    have m1 := aCD q (v t) (ok.mul t ht)
    have m2 := aDH (u t) (q * v t) (ok.sub t ht) (by rw [Int.natAbs_mul]; exact Nat.le_trans (UG _ _) (ok.mul t ht))
    have e10 := fF t (by omega)
    simp only [eR, e1, cond_true, e2, e3', e3, e6, e4, e7, iY, A8 v ht, m1, aD, m2, e9, e10]
   ·have e1 : ltI (n : Int) (n : Int) = false := by rw [aO]; exact decide_eq_false (by omega)
    have : Zr n (fun x => if x < n then u x - q * v x else u x) = Zr n fun x => u x - q * v x := wR fun i hi => by simp [hi]
    simp only [eR, e1, cond_false, this]
 have e1 : Nat.beq (Zr n fun x => u x - q * v x).length (Zr n u).length = true := by
  have hbb : ∀ a : Nat, Nat.beq a a = true := fun a => by
   induction a with
   | zero => rfl
   | succ a ih => exact ih
  rw [iY, iY]
  exact hbb n
 unfold aJA
 rw [hl, main]
 simp only [hl, iY] at e1 ⊢
 rw [e1]; rfl

def red (M : Nat → V) (p : Nat → Nat) : Nat → V → V
 | 0, u => u
 | t + 1, u => fun x => red M p t u x - (red M p t u (p t)).fdiv (M t (p t)) * M t x
def quo (M : Nat → V) (p : Nat → Nat) (t : Nat) (u : V) : Int := (red M p t u (p t)).fdiv (M t (p t))
section
variable {d n : Nat} {M : Nat → V} {p : Nat → Nat}
theorem Q2 (h : Hn d M p) (u : V) : ∀ t, t ≤ d → Sp d M (fun x => u x - red M p t u x)
 | 0, _ => by
  refine cast (congrArg _ ?_) Sp.zero
  funext x; simp [red]
 | t + 1, ht => by
  have := Sp.comb (quo M p t u) (Q2 h u t (by omega)) (Sp.mem (M := M) (show t < d by omega))
  refine cast (congrArg _ ?_) this
  funext x
  simp only [red, quo]
  grind
theorem aEJ (h : Hn d M p) (u : V) : ∀ t, t ≤ d → ∀ i, i < t → 0 ≤ red M p t u (p i) ∧ red M p t u (p i) < M i (p i)
 | 0, _, i, hi => by omega
 | t + 1, ht, i, hi => by
  by_cases e : i = t
  ·subst e
   simp only [red]
   rw [QU]
   have hp := h.pos i (by omega)
   exact ⟨Int.fmod_nonneg_of_pos _ hp, Int.fmod_lt_of_pos _ hp⟩
  ·have hlow := h.low t (by omega) (p i) (h.inc i t (by omega) (by omega))
   simp only [red, hlow, Int.mul_zero, Int.sub_zero]
   exact aEJ h u t (by omega) i (by omega)
theorem aSR (hw : ∀ i, i < d → ∀ x, n ≤ x → M i x = 0) {u : V} (hu : ∀ x, n ≤ x → u x = 0) : ∀ t, t ≤ d → ∀ x, n ≤ x → red M p t u x = 0
 | 0, _, x, hx => hu x hx
 | t + 1, ht, x, hx => by
  simp only [red, aSR hw hu t (by omega) x hx, hw t (by omega) x hx, Int.mul_zero, Int.sub_zero]
structure Rds (d n : Nat) (M : Nat → V) (B : Nat) (U : Nat → Nat) : Prop where
 row : ∀ i, i < d → ∀ x, x < n → (M i x).natAbs ≤ B
 up : ∀ t, t < d → U t + (U t + 1) * B ≤ U (t + 1)
 fit : ∀ t, t < d → Lib.nDigits (U t + 1) + Lib.nDigits B ≤ l7
theorem aL8 {B : Nat} {U : Nat → Nat} (h : Hn d M p) (hw : ∀ i, i < d → ∀ x, n ≤ x → M i x = 0) (hb : Rds d n M B U) {u : V} (hu : ∀ x, x < n → (u x).natAbs ≤ U 0) : ∀ t, t ≤ d → ∀ x, x < n → (red M p t u x).natAbs ≤ U t
 | 0, _, x, hx => hu x hx
 | t + 1, ht, x, hx => by
  have h1 := aL8 h hw hb hu t (by omega)
  have hpos := h.pos t (by omega)
  have hp := Hn.ZI h hw (show t < d by omega)
  have h2 := RV (h1 (p t) hp) (show M t (p t) ≠ 0 by omega)
  have h3 : (red M p t u (p t)).fdiv (M t (p t)) * M t x = (red M p t u (p t)).fdiv (M t (p t)) * M t x := rfl
  have h4 : ((red M p t u (p t)).fdiv (M t (p t)) * M t x).natAbs = ((red M p t u (p t)).fdiv (M t (p t))).natAbs * (M t x).natAbs := Int.natAbs_mul _ _
  have h5 : ((red M p t u (p t)).fdiv (M t (p t))).natAbs * (M t x).natAbs ≤ (U t + 1) * B := Nat.mul_le_mul h2 (hb.row t (by omega) x hx)
  have h6 := hb.up t (by omega)
  have h7 := h1 x hx
  simp only [red]
  omega
end
theorem aKP (r : List Int) (hl : r.length ≤ 1048576) (hr : ∀ a ∈ r, -9223372036854775808 ≤ a ∧ a < 9223372036854775808) : jY (r, ()) = some (r.map Zn, ()) := by
 have e1 : ltI (r.length : Int) 0 = false := by rw [aO]; exact decide_eq_false (by omega)
 have e2 : ltI 1048576 (r.length : Int) = false := by rw [aO]; exact decide_eq_false (by omega)
 have key : lT ([], r, (r.length : Int), 0, ()) = some (r.map Zn, ()) := U7 r hl hr
 unfold jY
 simp only [e1, e2, Bool.not_false, cond_true, List.replicate_zero, key, aD]
theorem aM6 (n : Nat) (v : V) : (Vr n v).map Zn = Zr n v := by simp [Vr, Zr]
section
variable {d n : Nat} {M : Nat → V} {p : Nat → Nat}
theorem aCK (h : Hn d M p) (hw : ∀ i, i < d → ∀ x, n ≤ x → M i x = 0) (hn : n < 1048576) (hM : ∀ i, i < d → ∀ x, x < n → (M i x).natAbs ≤ 1000000000) : ∀ l : List Nat, (∀ i ∈ l, i < d) →
  ZN (l.map fun i => Vr n (M i)) = some (l.map fun i => ((p i : Int), Zr n (M i), ()))
 | [], _ => rfl
 | i :: l, hl => by
  have hi := hl i (by simp)
  have e1 := aKP (Vr n (M i)) (by rw [vN]; omega) (fun a ha => by have := aRR (hM i hi) a ha; omega)
  rw [aM6] at e1
  have e2 := aWB hn (Hn.ZI h hw hi) (h.low i hi) (by have := h.pos i hi; omega)
  have e3 := aCK h hw hn hM l (fun j hj => hl j (by simp [hj]))
  simp only [List.map_cons, ZN, e1, aD, e2, e3]
theorem aKC (h : Hn d M p) (hw : ∀ i, i < d → ∀ x, n ≤ x → M i x = 0) (hn : n < 1048576) (hd : d < 1048576) (hM : ∀ i, i < d → ∀ x, x < n → (M i x).natAbs ≤ 1000000000) :
  QZ (((n : Int), Mr d n M), ()) = some ((List.range d).map fun i => ((p i : Int), Zr n (M i), ())) := by
 have e1 : Nat.ble (Mr d n M).length 1048576 = true := by rw [kI, EY]; exact decide_eq_true (by omega)
 simp only [QZ, e1, cond_true]
 exact aCK h hw hn hM (List.range d) fun i hi => List.mem_range.1 hi
theorem UX {B : Nat} {U : Nat → Nat} (h : Hn d M p) (hw : ∀ i, i < d → ∀ x, n ≤ x → M i x = 0) (hn : n < 1048576) (hd : d < 1048576) (hb : Rds d n M B U) {u : V} (hu : ∀ x, x < n → (u x).natAbs ≤ U 0) (c : uC [(.prod (.int .i64) (.list (.list (.int .i64))))]) : ∀ (j t : Nat), t + j = d → ∀ (q : List ByteArray), q.length = t →
  ∃ q', vX fA (aM3 bP cZ) ((List.range' t j).map fun i => ((p i : Int), Zr n (M i), ())) (Zr n (red M p t u), q, c, ()) = some (Zr n (red M p d u), q', ())
 | 0, t, ht, q, _ => by
  have : t = d := by omega
  subst this
  exact ⟨q, rfl⟩
 | j + 1, t, ht, q, hq => by
  have htd : t < d := by omega
  have hpos := h.pos t htd
  have hp := Hn.ZI h hw htd
  have hR := aL8 h hw hb hu t (by omega)
  have f := hb.fit t htd
  have hdm : l7 = 18 := rfl
  have g1 : Lib.nDigits (red M p t u (p t)).natAbs ≤ 17 := by
   have h1 := qD (show (red M p t u (p t)).natAbs ≤ U t + 1 from Nat.le_succ_of_le (hR (p t) hp))
   have h2 := nDigits_pos B
   omega
  have g2 : Lib.nDigits (M t (p t)).natAbs ≤ 17 := by
   have h1 := qD (hb.row t htd (p t) hp)
   have h2 := nDigits_pos (U t + 1)
   omega
  have e0 : ((p t : Nat) : Int).toNat = p t := Int.toNat_natCast _
  have e1 : aQ (p t : Int) n = true := by rw [bD]; exact decide_eq_true (by omega)
  have e2 : Nat.blt (p t) n = true := by rw [c6]; simpa using hp
  have e3 := GO (red M p t u (p t)) (M t (p t)) (by omega) (by omega) (show M t (p t) ≠ 0 by omega)
  have hq1 := RV (hR (p t) hp) (show M t (p t) ≠ 0 by omega)
  have e4 := aT4 (n := n) (u := red M p t u) (v := M t) (q := (red M p t u (p t)).fdiv (M t (p t))) hn ⟨fun i hi => by
    have h1 := qD hq1
    have h2 := qD (hb.row t htd i hi)
    omega, fun i hi => by
    have h1 := qD (show (red M p t u i).natAbs ≤ U t + 1 from Nat.le_succ_of_le (hR i hi))
    omega⟩
  have e5 : Nat.ble [Zn ((red M p t u (p t)).fdiv (M t (p t)))].length 1048576 = true := rfl
  have e6 : Nat.ble q.length 1048576 = true := by rw [kI, hq]; exact decide_eq_true (by omega)
  obtain ⟨c1, ⟨⟩⟩ := c
  obtain ⟨q', hq'⟩ := UX h hw hn hd hb hu ((c1.1, c1.2), ()) j (t + 1) (by omega) (q ++ [Zn ((red M p t u (p t)).fdiv (M t (p t)))]) (by simp [hq])
  refine ⟨q', ?_⟩
  rw [List.range'_succ, List.map_cons, vX]
  have hs : fA (Zr n (red M p t u), q, (c1, ()), ()) ((p t : Int), Zr n (M t), ()) = some (.inl (Zr n (red M p (t + 1) u), q ++ [Zn ((red M p t u (p t)).fdiv (M t (p t)))], ((c1.1, c1.2), ()), ())) := by
   have e7 : (Zr n fun x => red M p t u x - (red M p t u (p t)).fdiv (M t (p t)) * M t x) = Zr n (red M p (t + 1) u) := rfl
   rw [e7] at e4
   simp only [fA, iY, e0, e1, e2, A8 _ hp, e3, aD, e4, e5, e6, cond_true]
  rw [hs]
  exact hq'
theorem aN5 {B : Nat} {U : Nat → Nat} (h : Hn d M p) (hw : ∀ i, i < d → ∀ x, n ≤ x → M i x = 0) (hn : n ≤ 12) (hd : d ≤ 12) (hM : ∀ i, i < d → ∀ x, x < n → (M i x).natAbs ≤ 1000000000) (hb : Rds d n M B U) (r : List Int) (hl : r.length = n) (hr : ∀ a ∈ r, a.natAbs ≤ U 0) (hU : U 0 ≤ 1000000000) :
  ∃ q, fT (((n : Int), Mr d n M), r, ()) = some (Zr n (red M p d (nB r)), q, ()) := by
 have hu : ∀ x, x < n → (nB r x).natAbs ≤ U 0 := fun x hx => by
  unfold nB
  have : r.getD x 0 = r[x]'(by omega) := by simp [List.getD, show x < r.length by omega]
  rw [this]
  exact hr _ (List.getElem_mem _)
 have e1 := aCA r (by omega) (fun a ha => by have := hr a ha; omega)
 have e2 : r.map Zn = Zr n (nB r) := by rw [← hl, aL6]
 rw [e2] at e1
 obtain ⟨q, hq⟩ := UX h hw (by omega) (by omega) hb hu (((n : Int), Mr d n M), ()) d 0 (by omega) [] rfl
 rw [← List.range_eq_range'] at hq
 refine ⟨q, ?_⟩
 have e3 := aKC h hw (by omega) (by omega) hM
 have e4 : eX (Zr n (nB r), [], (((n : Int), Mr d n M), ()), ()) = some (Zr n (red M p d (nB r)), q, ()) := by
  unfold eX ZF
  simp only [kT, e3]
  exact hq
 simp only [fT, e1, aD, iE, e4]
theorem short_list {v : V} (hn : n < 1048576) (ok : ∀ x, x < n → (v x).natAbs ≤ 1000000000) : iU (Zr n v, ()) = some (Vr n v, 0, ()) := by
 have key := fJ (step := fK) (N := 2 ^ 64) (fun t => (Vr t v, Zr n v, (n : Int), (t : Int), ())) n (.inr (Vr n v, ())) (by omega) (fun t ht => ?_) ?_
 ·have e1 : ltI (n : Int) 0 = false := by rw [aO]; exact decide_eq_false (by omega)
  have e2 : ltI 1048576 (n : Int) = false := by rw [aO]; exact decide_eq_false (by omega)
  have key : bU fK (2 ^ 64) ([], Zr n v, (n : Int), 0, ()) = _ := key
  unfold iU j9
  simp only [iY, e1, e2, Bool.not_false, cond_true, List.replicate_zero, key, aD, nZ]
 ·have b1 := ok t ht
  have e1 : ltI (t : Int) (n : Int) = true := by rw [aO]; exact decide_eq_true (by omega)
  have e2 : aQ (t : Int) n = true := by rw [bD]; exact decide_eq_true (by omega)
  have e3 : ((t : Nat) : Int).toNat = t := Int.toNat_natCast _
  have e8 := VG (v t) (by have := jT (u := (v t).natAbs) (k := 17) (by omega); omega)
  have e9 : ltI 1000000000 (v t) = false := by rw [aO]; exact decide_eq_false (by omega)
  have e10 : ltI (v t) (-1000000000) = false := by rw [aO]; exact decide_eq_false (by omega)
  have e11 : Nat.ble [v t].length 1048576 = true := rfl
  have e12 : Nat.ble (Vr t v).length 1048576 = true := by rw [kI, vN]; exact decide_eq_true (by omega)
  have e13 := fF t (by omega)
  have e14 : Vr t v ++ [v t] = Vr (t + 1) v := by unfold Vr; rw [List.range_succ, List.map_append]; rfl
  simp only [fK, iY, e1, e2, e3, A8 v ht, e8, e9, e10, e11, e12, e13, e14, aD, cond_true, cond_false]
 ·have e1 : ltI (n : Int) (n : Int) = false := by rw [aO]; exact decide_eq_false (by omega)
  simp only [fK, e1, cond_false]
theorem aEL {B : Nat} {U : Nat → Nat} (h : Hn d M p) (hw : ∀ i, i < d → ∀ x, n ≤ x → M i x = 0) (hn : n ≤ 12) (hd : d ≤ 12) (hM : ∀ i, i < d → ∀ x, x < n → (M i x).natAbs ≤ 1000000000) (hb : Rds d n M B U) (r : List Int) (hl : r.length = n) (hr : ∀ a ∈ r, a.natAbs ≤ U 0) (hU : U 0 ≤ 1000000000)
  (hfin : ∀ x, x < n → (red M p d (nB r) x).natAbs ≤ 1000000000) :
  bC (((n : Int), Mr d n M), r, ()) = some (Vr n (red M p d (nB r)), 0, ()) := by
 obtain ⟨q, hq⟩ := aN5 h hw hn hd hM hb r hl hr hU
 have e0 : eqI 0 0 = true := by decide
 simp only [bC, aH2 h hw hd hn hM r hl (fun a ha => Nat.le_trans (hr a ha) hU), aD, e0, Bool.not_true, cond_false, hq, short_list (show n < 1048576 by omega) hfin]
end
end Go.PM
set_option linter.unusedSimpArgs false
set_option linter.unusedVariables false
namespace Go.Lz
theorem Sp.none {M : Nat → V} {v : V} (h : Sp 0 M v) : v = fun _ => 0 := by
 funext x
 exact Sp.PH (x := x) (fun j hj => by omega) h
theorem Sp.one {M : Nat → V} {v : V} (h : Sp 1 M v) : ∃ a : Int, v = fun x => a * M 0 x := by
 obtain ⟨t, u, hu, rfl⟩ := h.first
 have := hu.none
 subst this
 exact ⟨t, by funext x; simp⟩
theorem Sp.two {M : Nat → V} {v : V} (h : Sp 2 M v) : ∃ a b : Int, v = fun x => a * M 0 x + b * M 1 x := by
 obtain ⟨t, u, hu, rfl⟩ := h.first
 obtain ⟨s, rfl⟩ := hu.one
 exact ⟨t, s, by funext x; simp only [Nat.zero_add]; omega⟩
theorem Sp.ZO {M : Nat → V} (a b : Int) : Sp 2 M (fun x => a * M 0 x + b * M 1 x) :=
 Sp.comb b (Sp.smul a (Sp.mem (by decide))) (Sp.mem (by decide))

structure Piv (d : Nat) (M : Nat → V) (p : Nat → Nat) (U : Nat → V) (D : Int) (C : Nat) : Prop where
 sp : ∀ j, j < d → Sp d M (U j)
 off : ∀ i j, i < d → j < d → i ≠ j → U j (p i) = 0
 at_ : ∀ j, j < d → U j (p j) = D
 ne : D ≠ 0
 le : ∀ j, j < d → ∀ x, (U j x).natAbs ≤ C
theorem WS {a b : Int} {E : Nat} (h1 : a.natAbs ≤ E) (h2 : b.natAbs ≤ E) : (a * b).natAbs ≤ E * E := by
 rw [Int.natAbs_mul]; exact Nat.mul_le_mul h1 h2
theorem Piv.ex {d : Nat} {M N : Nat → V} {p : Nat → Nat} {E : Nat} (h : Hn d M p) (hs : Same 2 N d M) (hd : d ≤ 2) (hE : ∀ i, i < 2 → ∀ x, (N i x).natAbs ≤ E) (h1 : 1 ≤ E) : ∃ U D, Piv d M p U D (2 * (E * E)) := by
 have h0 := fun j (hj : j < 2) => (hs _).1 (Sp.mem (M := N) hj)
 have hEE : E ≤ E * E := Nat.le_mul_of_pos_left E (by omega)
 rcases (by omega : d = 0 ∨ d = 1 ∨ d = 2) with rfl | rfl | rfl
 ·exact ⟨fun _ _ => 0, 1, fun j hj => by omega, fun i j hi => by omega, fun j hj => by omega, by decide, fun j hj => by omega⟩
 ·obtain ⟨a, b, hab⟩ := ((hs _).2 (Sp.mem (M := M) (show 0 < 1 by decide))).two
  have hp := h.pos 0 (by decide)
  have : N 0 (p 0) ≠ 0 ∨ N 1 (p 0) ≠ 0 := by
   by_cases h2 : N 0 (p 0) = 0
   ·by_cases h3 : N 1 (p 0) = 0
    ·have := congrFun hab (p 0)
     simp only [h2, h3, Int.mul_zero] at this
     omega
    ·exact .inr h3
   ·exact .inl h2
  rcases this with h2 | h2
  ·refine ⟨fun _ => N 0, N 0 (p 0), fun j hj => h0 0 (by decide), fun i j hi hj hne => by omega, fun j hj => ?_, h2, fun j hj x => ?_⟩
   ·have : j = 0 := by omega
    subst this; rfl
   ·have := hE 0 (by decide) x; omega
  ·refine ⟨fun _ => N 1, N 1 (p 0), fun j hj => h0 1 (by decide), fun i j hi hj hne => by omega, fun j hj => ?_, h2, fun j hj x => ?_⟩
   ·have : j = 0 := by omega
    subst this; rfl
   ·have := hE 1 (by decide) x; omega
 ·obtain ⟨a, b, hab⟩ := ((hs _).2 (Sp.mem (M := M) (show 0 < 2 by decide))).two
  obtain ⟨c, e, hce⟩ := ((hs _).2 (Sp.mem (M := M) (show 1 < 2 by decide))).two
  have q0 := h.pos 0 (by decide)
  have q1 := h.pos 1 (by decide)
  have q2 := h.low 1 (by decide) (p 0) (h.inc 0 1 (by decide) (by decide))
  have w1 := congrFun hab (p 0)
  have w2 := congrFun hab (p 1)
  have w3 := congrFun hce (p 0)
  have w4 := congrFun hce (p 1)
  have hD : N 0 (p 0) * N 1 (p 1) - N 0 (p 1) * N 1 (p 0) ≠ 0 := by
   intro hz
   have : M 0 (p 0) * M 1 (p 1) - M 0 (p 1) * M 1 (p 0) = (a * e - b * c) * (N 0 (p 0) * N 1 (p 1) - N 0 (p 1) * N 1 (p 0)) := by
    rw [w1, w2, w3, w4]; grind
   rw [hz, q2] at this
   have := Int.mul_pos q0 q1
   omega
  refine ⟨fun j => if j = 0 then fun x => N 1 (p 1) * N 0 x + -(N 0 (p 1)) * N 1 x else fun x => -(N 1 (p 0)) * N 0 x + N 0 (p 0) * N 1 x, N 0 (p 0) * N 1 (p 1) - N 0 (p 1) * N 1 (p 0), fun j hj => ?_, fun i j hi hj hne => ?_, fun j hj => ?_, hD, fun j hj x => ?_⟩
  ·rcases (by omega : j = 0 ∨ j = 1) with rfl | rfl
   ·exact (hs _).1 (Sp.ZO _ _)
   ·exact (hs _).1 (Sp.ZO _ _)
  ·rcases (by omega : (i = 0 ∧ j = 1) ∨ (i = 1 ∧ j = 0)) with ⟨rfl, rfl⟩ | ⟨rfl, rfl⟩
   ·simp; grind
   ·simp; grind
  ·rcases (by omega : j = 0 ∨ j = 1) with rfl | rfl
   ·simp; grind
   ·simp; grind
  ·have b1 := WS (hE 1 (by decide) (p 1)) (hE 0 (by decide) x)
   have b2 := WS (hE 0 (by decide) (p 1)) (hE 1 (by decide) x)
   have b3 := WS (hE 1 (by decide) (p 0)) (hE 0 (by decide) x)
   have b4 := WS (hE 0 (by decide) (p 0)) (hE 1 (by decide) x)
   rcases (by omega : j = 0 ∨ j = 1) with rfl | rfl
   ·simp only [if_pos, Int.neg_mul]; omega
   ·simp only [if_neg (show ¬ 1 = 0 by decide), Int.neg_mul]; omega
theorem Piv.bound {d : Nat} {M : Nat → V} {p : Nat → Nat} {U : Nat → V} {D : Int} {C : Nat} (h : Hn d M p) (k : Piv d M p U D C) {i : Nat} (hi : i < d) (x : Nat) : (M i x).natAbs ≤ d * C :=
 Nat.le_trans (h.bound k.sp k.off (fun j hj => by rw [k.at_ j hj]; exact k.ne) hi x) (W9 fun j hj => k.le j hj x)
theorem Piv.row {d : Nat} {M : Nat → V} {p : Nat → Nat} {U : Nat → V} {D : Int} {C : Nat} (h : Hn d M p) (k : Piv d M p U D C) {s : V} (hs : Sp d M s) (x : Nat) : D * s x = KH d fun j => s (p j) * U j x := by
 have hz := h.aMY (v := fun x => D * s x - KH d fun j => s (p j) * U j x) (Sp.sub (Sp.smul D hs) (Sp.KH d k.sp)) (fun l hl => by
  have : ∀ n, n ≤ d → (KH n fun j => s (p j) * U j (p l)) = if l < n then D * s (p l) else 0 := by
   intro n
   induction n with
   | zero => intro _; rfl
   | succ n ih =>
    intro hn
    rw [KH, ih (by omega)]
    by_cases e : l = n
    ·subst e
     rw [if_neg (Nat.lt_irrefl _), if_pos (Nat.lt_succ_self _), k.at_ l hl]
     grind
    ·rw [k.off l n hl (by omega) e]
     by_cases e1 : l < n
     ·have e2 : l < n + 1 := by omega
      rw [if_pos e1, if_pos e2]; simp
     ·have e2 : ¬ l < n + 1 := by omega
      rw [if_neg e1, if_neg e2]; simp
  rw [this d (Nat.le_refl _), if_pos hl]
  omega)
 have := congrFun hz x
 omega
theorem Piv.rest {d : Nat} {M : Nat → V} {p : Nat → Nat} {U : Nat → V} {D : Int} {C : Nat} (h : Hn d M p) (k : Piv d M p U D C) {u v : V} (hs : Sp d M fun x => u x - v x) {W B : Nat} (hu : ∀ x, (u x).natAbs ≤ W) (hv : ∀ i, i < d → (v (p i)).natAbs ≤ B) (x : Nat) :
  (v x).natAbs ≤ W + d * ((W + B) * C) := by
 have h1 := k.row h hs x
 have h2 : (KH d fun j => (u (p j) - v (p j)) * U j x).natAbs ≤ d * ((W + B) * C) := by
  refine Nat.le_trans (ZV _ _) (W9 fun j hj => ?_)
  rw [Int.natAbs_mul]
  refine Nat.mul_le_mul ?_ (k.le j hj x)
  have := hu (p j)
  have := hv j hj
  omega
 have h3 : (u x - v x).natAbs ≤ (D * (u x - v x)).natAbs := by
  rw [Int.natAbs_mul]
  exact Nat.le_mul_of_pos_left _ (by have := k.ne; omega)
 rw [h1] at h3
 have := hu x
 omega
end Go.Lz
set_option linter.unusedSimpArgs false
set_option linter.unusedVariables false
namespace Go.PM
open Go Go.RowKit Go.Proofs Go.Lz
set_option maxRecDepth 100000
def B18 : Nat → Nat
 | 0 => 18
 | 1 => 324900018
 | _ => 324900018 + (324900018 + 1) * 324900018
def T18 : Nat → Nat
 | 0 => 17100000
 | _ => 324900018
theorem a2K (n : Nat) : Bds 2 n B18 T18 where
 st := fun d hd => by
  rcases (by omega : d = 0 ∨ d = 1) with rfl | rfl
  ·exact ⟨by decide, by decide, fun _ => by decide, by
    show 2 * Lib.nDigits 17100001 ≤ 18
    have := jT (u := 17100001) (k := 7) (by decide)
    omega⟩
  ·exact ⟨by decide, by decide, fun h => by omega, by
    show 2 * Lib.nDigits 324900019 ≤ 18
    have := jT (u := 324900019) (k := 8) (by decide)
    omega⟩
 up := fun d hd => by
  rcases (by omega : d = 0 ∨ d = 1) with rfl | rfl
  ·decide
  ·decide
def U18 : Nat → Nat
 | 0 => 4700
 | 1 => 4700 + (4700 + 1) * 1296
 | _ => 6097196 + (6097196 + 1) * 1296
theorem aFC {r : List Int} {B : Nat} (h : ∀ a ∈ r, a.natAbs ≤ B) (x : Nat) : (nB r x).natAbs ≤ B := by
 unfold nB
 rw [List.getD_eq_getElem?_getD]
 by_cases hx : x < r.length
 ·rw [List.getElem?_eq_getElem hx]; exact h _ (List.getElem_mem hx)
 ·rw [List.getElem?_eq_none (by omega)]; exact Nat.zero_le _
theorem AK {r : List Int} {n x : Nat} (h : r.length = n) (hx : n ≤ x) : nB r x = 0 := by
 unfold nB
 rw [List.getD_eq_getElem?_getD, List.getElem?_eq_none (by omega)]; rfl
theorem a0B {r u : List Int} {B : Nat} (hr : ∀ a ∈ r, a.natAbs ≤ B) (hu : ∀ a ∈ u, a.natAbs ≤ B) : ∀ i, i < 2 → ∀ x, (BJ [r, u] i x).natAbs ≤ B := fun i hi x => by
 rcases (by omega : i = 0 ∨ i = 1) with rfl | rfl
 ·exact aFC hr x
 ·exact aFC hu x
theorem aT8 {n : Nat} {r u : List Int} (hn : n ≤ 12) (lr : r.length = n) (lu : u.length = n) (br : ∀ a ∈ r, a.natAbs ≤ 18) (bu : ∀ a ∈ u, a.natAbs ≤ 18) :
  ∃ d M p, dV ((n : Int), [r, u], ()) = some (((n : Int), Mr d n M), 0, ()) ∧ Hn d M p ∧ Same 2 (BJ [r, u]) d M ∧
   ∀ o : List Int, o.length = n → (∀ a ∈ o, a.natAbs ≤ 4700) → bC (((n : Int), Mr d n M), o, ()) = some (Vr n (red M p d (nB o)), 0, ()) := by
 have hE := a0B br bu
 have small : ∀ d M p, d ≤ 2 → Hn d M p → Same 2 (BJ [r, u]) d M → ∀ i, i < d → ∀ x, (M i x).natAbs ≤ 1296 := fun d M p hd h hs i hi x => by
  obtain ⟨U, D, k⟩ := Piv.ex h hs hd hE (by decide)
  have h1 := k.bound h hi x
  have h2 : d * (2 * (18 * 18)) ≤ 2 * (2 * (18 * 18)) := Nat.mul_le_mul_right _ hd
  omega
 obtain ⟨d, M, p, h1, h2, h3, h4, h5, h6⟩ := of_eq [r, u] (n := n) (by show 2 ≤ 12; decide) hn (fun s hs => by
   rcases List.mem_cons.1 hs with rfl | hs
   ·exact lr
   ·rcases List.mem_cons.1 hs with rfl | hs
    ·exact lu
    ·cases hs) (E := B18) (T := T18) (fun s hs a ha => by
   rcases List.mem_cons.1 hs with rfl | hs
   ·exact br a ha
   ·rcases List.mem_cons.1 hs with rfl | hs
    ·exact bu a ha
    ·cases hs) (by decide) (a2K n) (fun d M p hd h hs _ i hi x _ => by have := small d M p hd h hs i hi x; omega)
 have h2 : d ≤ 2 := h2
 refine ⟨d, M, p, h1, h3, h4, fun o lo bo => ?_⟩
 have hb := small d M p h2 h3 h4
 have hR : Rds d n M 1296 U18 := ⟨fun i hi x _ => hb i hi x, fun t ht => by
   rcases (by omega : t = 0 ∨ t = 1) with rfl | rfl
   ·decide
   ·decide, fun t ht => by
   have h18 : l7 = 18 := rfl
   have d1 := jT (u := 1296) (k := 3) (by decide)
   rcases (by omega : t = 0 ∨ t = 1) with rfl | rfl
   ·have := jT (u := U18 0 + 1) (k := 3) (by decide)
    omega
   ·have := jT (u := U18 1 + 1) (k := 6) (by decide)
    omega⟩
 refine aEL h3 h5 hn (by omega) h6 hR o lo bo (by decide) fun x hx => ?_
 obtain ⟨U, D, k⟩ := Piv.ex h3 h4 h2 hE (by decide)
 have h7 := k.rest h3 (Q2 h3 (nB o) d (Nat.le_refl _)) (aFC bo) (B := 1296) (fun i hi => by
  obtain ⟨q1, q2⟩ := aEJ h3 (nB o) d (Nat.le_refl _) i hi
  have := hb i hi (p i)
  omega) x
 have h8 : d * ((4700 + 1296) * (2 * (18 * 18))) ≤ 2 * ((4700 + 1296) * (2 * (18 * 18))) := Nat.mul_le_mul_right _ h2
 omega
theorem aWQ {n : Nat} {r u r' u' o o' : List Int} (hn : n ≤ 12) (lr : r.length = n) (lu : u.length = n) (br : ∀ a ∈ r, a.natAbs ≤ 18) (bu : ∀ a ∈ u, a.natAbs ≤ 18)
  (lr' : r'.length = n) (lu' : u'.length = n) (br' : ∀ a ∈ r', a.natAbs ≤ 18) (bu' : ∀ a ∈ u', a.natAbs ≤ 18)
  (lo : o.length = n) (bo : ∀ a ∈ o, a.natAbs ≤ 4700) (lo' : o'.length = n) (bo' : ∀ a ∈ o', a.natAbs ≤ 4700)
  (hs : Same 2 (BJ [r, u]) 2 (BJ [r', u'])) (ho : Sp 2 (BJ [r, u]) fun x => nB o x - nB o' x) :
  ∃ L w, dV ((n : Int), [r, u], ()) = some (L, 0, ()) ∧ dV ((n : Int), [r', u'], ()) = some (L, 0, ()) ∧
   bC (L, o, ()) = some (w, 0, ()) ∧ bC (L, o', ()) = some (w, 0, ()) ∧ w.length = n := by
 obtain ⟨d, M, p, h1, h2, h3, h4⟩ := aT8 hn lr lu br bu
 obtain ⟨d', M', p', g1, g2, g3, g4⟩ := aT8 hn lr' lu' br' bu'
 obtain ⟨e1, -, e2⟩ := Hn.unique h2 g2 ((h3.symm.trans hs).trans g3)
 subst e1
 have e3 : Mr d n M = Mr d n M' := by
  unfold Mr
  refine List.map_congr_left fun i hi => ?_
  rw [e2 i (List.mem_range.1 hi)]
 have e4 : red M p d (nB o) = red M p d (nB o') := by
  refine Hn.aGP h2 ?_ (aEJ h2 _ d (Nat.le_refl _)) (aEJ h2 _ d (Nat.le_refl _))
  have s1 := (h3 _).1 ho
  have s2 := Q2 h2 (nB o) d (Nat.le_refl _)
  have s3 := Q2 h2 (nB o') d (Nat.le_refl _)
  refine cast (congrArg _ ?_) (Sp.sum (Sp.sub s1 s2) s3)
  funext x
  omega
 refine ⟨_, _, h1, by rw [g1, e3], h4 o lo bo, by rw [h4 o' lo' bo', e4], vN _ _⟩
end Go.PM
set_option linter.unusedSimpArgs false
set_option linter.unusedVariables false
namespace Go.PM
def cmpL : List Int → List Int → Int
 | [], [] => 0
 | [], _ :: _ => -1
 | _ :: _, [] => 1
 | a :: l, b :: m => if a < b then -1 else if b < a then 1 else cmpL l m
theorem LK : ∀ l, cmpL l l = 0
 | [] => rfl
 | a :: l => by simp [cmpL, LK l]
theorem SM : ∀ {l m : List Int}, ¬ cmpL l m < 0 → ¬ cmpL m l < 0 → l = m
 | [], [], _, _ => rfl
 | [], _ :: _, h, _ => by simp [cmpL] at h
 | _ :: _, [], _, h => by simp [cmpL] at h
 | a :: l, b :: m, h, k => by
  simp only [cmpL] at h k
  by_cases h1 : a < b
  ·simp [h1] at h
  ·by_cases h2 : b < a
   ·simp [h2] at k
   ·rw [if_neg h1, if_neg h2] at h
    rw [if_neg h2, if_neg h1] at k
    have : a = b := by omega
    rw [this, SM h k]
theorem OC : ∀ {l m n : List Int}, cmpL l m < 0 → cmpL m n < 0 → cmpL l n < 0
 | [], [], _, h, _ => by simp [cmpL] at h
 | [], _ :: _, [], _, k => by simp [cmpL] at k
 | [], _ :: _, _ :: _, _, _ => by simp [cmpL]
 | _ :: _, [], _, h, _ => by simp [cmpL] at h
 | _ :: _, _ :: _, [], _, k => by simp [cmpL] at k
 | a :: l, b :: m, c :: n, h, k => by
  simp only [cmpL] at h k ⊢
  by_cases h1 : a < b
  ·by_cases h3 : b < c
   ·rw [if_pos (show a < c by omega)]; omega
   ·by_cases h4 : c < b
    ·rw [if_neg h3, if_pos h4] at k; omega
    ·rw [if_pos (show a < c by omega)]; omega
  ·by_cases h2 : b < a
   ·rw [if_neg h1, if_pos h2] at h; omega
   ·rw [if_neg h1, if_neg h2] at h
    by_cases h3 : b < c
    ·rw [if_pos (show a < c by omega)]; omega
    ·by_cases h4 : c < b
     ·rw [if_neg h3, if_pos h4] at k; omega
     ·rw [if_neg h3, if_neg h4] at k
      rw [if_neg (show ¬ a < c by omega), if_neg (show ¬ c < a by omega)]
      exact OC h k
theorem RF {α β : Type} (f : Nat → Option α) (g : α → β) : ∀ l : List Nat, (l.findSome? fun i => (f i).map g) = (l.findSome? f).map g
 | [] => rfl
 | i :: l => by
  rw [List.findSome?_cons, List.findSome?_cons]
  cases h : f i with
  | some y => rfl
  | none => exact RF f g l
def TT (l m : List Int) (i : Nat) : Option Int :=
 if ¬ i < m.length then some 1 else if l.getD i 0 < m.getD i 0 then some (-1) else if m.getD i 0 < l.getD i 0 then some 1 else none
theorem aOL : ∀ (l m : List Int) (j : Nat), ((List.range' j (l.length - j)).findSome? (TT l m)).getD (if l.length < m.length then -1 else 0) = cmpL (l.drop j) (m.drop j) ∨ l.length < j
 | l, m, j => by
  rcases Nat.lt_or_ge l.length j with h | h
  ·exact .inr h
  ·left
   generalize hn : l.length - j = n
   induction n generalizing j with
   | zero =>
    have h1 : l.drop j = [] := List.drop_eq_nil_of_le (by omega)
    rw [h1]
    simp only [List.range'_zero, List.findSome?_nil, Option.getD_none]
    by_cases h2 : l.length < m.length
    ·rw [if_pos h2, List.drop_eq_getElem_cons (show j < m.length by omega)]; rfl
    ·rw [if_neg h2, List.drop_eq_nil_of_le (show m.length ≤ j by omega)]; rfl
   | succ n ih =>
    have hj : j < l.length := by omega
    rw [List.range'_succ, List.findSome?_cons, List.drop_eq_getElem_cons hj]
    unfold TT
    by_cases h2 : j < m.length
    ·rw [if_neg (fun h => h h2), List.drop_eq_getElem_cons h2]
     have g1 : l.getD j 0 = l[j] := by rw [List.getD_eq_getElem?_getD, List.getElem?_eq_getElem hj]; rfl
     have g2 : m.getD j 0 = m[j] := by rw [List.getD_eq_getElem?_getD, List.getElem?_eq_getElem h2]; rfl
     rw [g1, g2]
     simp only [cmpL]
     by_cases h3 : l[j] < m[j]
     ·rw [if_pos h3, if_pos h3]; rfl
     ·rw [if_neg h3, if_neg h3]
      by_cases h4 : m[j] < l[j]
      ·rw [if_pos h4, if_pos h4]; rfl
      ·rw [if_neg h4, if_neg h4]
       exact ih (j + 1) (by omega) (by omega)
    ·rw [if_pos h2, List.drop_eq_nil_of_le (show m.length ≤ j by omega)]; rfl

theorem QN : ∀ {l m : List Int}, cmpL l m = 0 → l = m
 | [], [], _ => rfl
 | [], _ :: _, h => by simp [cmpL] at h
 | _ :: _, [], h => by simp [cmpL] at h
 | a :: l, b :: m, h => by
  simp only [cmpL] at h
  by_cases h1 : a < b
  ·rw [if_pos h1] at h; omega
  ·rw [if_neg h1] at h
   by_cases h2 : b < a
   ·rw [if_pos h2] at h; omega
   ·rw [if_neg h2] at h
    rw [QN h, show a = b by omega]
theorem aNS {x y : List Int} (h0 : ¬ cmpL x y = 0) (h1 : ¬ cmpL x y < 0) : cmpL y x < 0 := by
 by_cases h : cmpL y x < 0
 ·exact h
 ·have e := SM h1 h
  subst e
  exact (h0 (LK _)).elim

def tV (a b : List Int × List Int) : Int := if ¬ cmpL a.1 b.1 = 0 then cmpL a.1 b.1 else cmpL a.2 b.2
theorem LQ (a : List Int × List Int) : tV a a = 0 := by simp [tV, LK]
theorem aC6 {a b : List Int × List Int} (h : ¬ tV a b < 0) (k : ¬ tV b a < 0) : a = b := by
 unfold tV at h k
 by_cases h1 : cmpL a.1 b.1 = 0
 ·have e := QN h1
  rw [if_neg (by rw [e, LK]; decide)] at h k
  have e2 := SM h k
  exact Prod.ext e e2
 ·rw [if_pos h1] at h
  have h2 := aNS h1 h
  rw [if_pos (by omega)] at k
  exact absurd h2 k
theorem ZD {a b c : List Int × List Int} (h : tV a b < 0) (k : tV b c < 0) : tV a c < 0 := by
 unfold tV at h k ⊢
 by_cases h1 : cmpL a.1 b.1 = 0
 ·have e := QN h1
  rw [if_neg (not_not_intro h1)] at h
  rw [e]
  by_cases h2 : cmpL b.1 c.1 = 0
  ·rw [if_neg (not_not_intro h2)] at k ⊢
   exact OC h k
  ·rw [if_pos h2] at k ⊢
   exact k
 ·rw [if_pos h1] at h
  by_cases h2 : cmpL b.1 c.1 = 0
  ·have e := QN h2
   rw [← e, if_pos h1]; exact h
  ·rw [if_pos h2] at k
   have := OC h k
   rw [if_pos (by omega)]; exact this
theorem VD {a b c : List Int × List Int} (h : ¬ tV b a < 0) (k : ¬ tV c b < 0) : ¬ tV c a < 0 := by
 intro hca
 by_cases hab : tV a b < 0
 ·exact k (ZD hca hab)
 ·have := aC6 h hab
  subst this; exact k hca
def least {α : Type} (f : α → List Int × List Int) : List α → α → α
 | [], b => b
 | x :: l, b => least f l (if tV (f x) (f b) < 0 then x else b)
theorem EV {α : Type} (f : α → List Int × List Int) : ∀ (l : List α) (b : α), least f l b = b ∨ least f l b ∈ l
 | [], b => .inl rfl
 | x :: l, b => by
  unfold least
  rcases EV f l (if tV (f x) (f b) < 0 then x else b) with h | h
  ·rw [h]
   split
   ·exact .inr (by simp)
   ·exact .inl rfl
  ·exact .inr (List.mem_cons_of_mem _ h)
theorem least_le {α : Type} (f : α → List Int × List Int) : ∀ (l : List α) (b : α), ¬ tV (f b) (f (least f l b)) < 0 ∧ ∀ x ∈ l, ¬ tV (f x) (f (least f l b)) < 0
 | [], b => ⟨by rw [least, LQ]; decide, fun x hx => by cases hx⟩
 | x :: l, b => by
  obtain ⟨h1, h2⟩ := least_le f l (if tV (f x) (f b) < 0 then x else b)
  have key : ¬ tV (f b) (f (if tV (f x) (f b) < 0 then x else b)) < 0 ∧ ¬ tV (f x) (f (if tV (f x) (f b) < 0 then x else b)) < 0 := by
   split
   ·rename_i h
    exact ⟨fun h' => by have := ZD h h'; rw [LQ] at this; exact absurd this (by decide), by rw [LQ]; decide⟩
   ·rename_i h
    exact ⟨by rw [LQ]; decide, h⟩
  unfold least
  refine ⟨VD h1 key.1, fun y hy => ?_⟩
  rcases List.mem_cons.1 hy with rfl | hy
  ·exact VD h1 key.2
  ·exact h2 y hy
theorem aAW {α : Type} (f : α → List Int × List Int) (x : α) : ∀ (l : List α) (b : α), least f (l ++ [x]) b = if tV (f x) (f (least f l b)) < 0 then x else least f l b
 | [], b => rfl
 | y :: l, b => by
  rw [List.cons_append, least, least, aAW f x l]
theorem aQO {α β : Type} (f : α → List Int × List Int) (g : β → List Int × List Int) (x : α) (l : List α) (y : β) (m : List β) (h1 : ∀ a, a = x ∨ a ∈ l → ∃ b, (b = y ∨ b ∈ m) ∧ f a = g b) (h2 : ∀ b, b = y ∨ b ∈ m → ∃ a, (a = x ∨ a ∈ l) ∧ f a = g b) : f (least f l x) = g (least g m y) := by
 obtain ⟨b, hb, e1⟩ := h1 _ (EV f l x)
 obtain ⟨a, ha, e2⟩ := h2 _ (EV g m y)
 refine aC6 ?_ ?_
 ·rw [e1]
  rcases hb with rfl | hb
  ·exact (least_le g m _).1
  ·exact (least_le g m _).2 _ hb
 ·rw [← e2]
  rcases ha with rfl | ha
  ·exact (least_le f l _).1
  ·exact (least_le f l _).2 _ ha
end Go.PM
set_option linter.unusedSimpArgs false
set_option linter.unusedVariables false
namespace Go.PM
open Go Go.RowKit Go.Proofs Go.Lz
set_option maxRecDepth 100000
theorem aQ5 (a : Int) : f98 (a, ()) = some (false, ()) := by
 unfold f98; dsimp only
 simp [eV]
theorem a01 (a b : Int) : f74 (a, b, ()) = some (if a < b then -1 else if b < a then 1 else 0, ()) := by
 unfold f74; dsimp only
 rw [aQ5, aD, aQ5, aD]
 simp only [cond_false, aO, bT]
 by_cases h1 : a < b
 ·rw [if_pos h1, if_pos h1]
 ·rw [if_neg h1, if_neg h1]
  by_cases h2 : b < a
  ·rw [if_pos h2, if_pos h2]
  ·rw [if_neg h2, if_neg h2]
theorem a1B (l m : List Int) (hl : l.length ≤ 9223372036854775806) (hm : m.length ≤ 9223372036854775806) : f57 (l, m, ()) = some (cmpL l m, ()) := by
 have hloop : P6 (l, m, l, (l.length : Int), 0, ()) = some (((List.range l.length).findSome? fun i => (TT l m i).map fun y => .inl (y, ())).getD (.inr (l, m, ()))) := by
  refine NF (N := 2 ^ 64) (step := J5) (fun i => (l, m, l, (l.length : Int), (i : Int), ())) (fun i => (TT l m i).map fun y => .inl (y, ())) l.length (.inr (l, m, ())) (by omega) ?_ ?_
  ·intro i hi
   simp only [J5, aO, eV, bD, pY, bT, Int.toNat_natCast]
   rw [if_pos (by omega), if_pos (by omega), a01, aD, fF i (by omega)]
   by_cases h2 : i < m.length
   ·rw [if_neg (by omega), if_pos (by omega)]
    by_cases h3 : l.getD i 0 < m.getD i 0
    ·have hc : TT l m i = some (-1) := by unfold TT; rw [if_neg (fun h => h h2), if_pos h3]
     rw [hc, if_pos h3, if_pos (by decide)]; rfl
    ·by_cases h4 : m.getD i 0 < l.getD i 0
     ·have hc : TT l m i = some 1 := by unfold TT; rw [if_neg (fun h => h h2), if_neg h3, if_pos h4]
      rw [hc, if_neg h3, if_pos h4, if_pos (by decide)]; rfl
     ·have hc : TT l m i = none := by unfold TT; rw [if_neg (fun h => h h2), if_neg h3, if_neg h4]
      rw [hc, if_neg h3, if_neg h4, if_neg (by decide)]; rfl
   ·have hc : TT l m i = some 1 := by unfold TT; rw [if_pos h2]
    rw [hc, if_pos (by omega)]; rfl
  ·simp only [J5, aO, bT]
   rw [if_neg (by omega)]
 have hfind := (aOL l m 0).resolve_right (by omega)
 rw [Nat.sub_zero, ← List.range_eq_range'] at hfind
 simp only [List.drop_zero] at hfind
 unfold f57; dsimp only
 rw [hloop, aD, RF, ← hfind]
 cases (List.range l.length).findSome? (TT l m) with
 | some y => rfl
 | none =>
  simp only [Option.map_none, Option.getD_none, nZ, aO, bT]
  by_cases h : l.length < m.length
  ·rw [if_pos h, if_pos (by omega)]
  ·rw [if_neg h, if_neg (by omega)]
theorem X6 (l m : List Int) (hl : l.length ≤ 9223372036854775806) (hm : m.length ≤ 9223372036854775806) : f35 (l, m, ()) = some (cmpL l m, ()) := by
 unfold f35; dsimp only
 rw [a1B l m hl hm, aD]
abbrev key (l : Lay) : List Int × List Int := (l.2.2.1, l.2.2.2)
theorem a0X {a b : Lay} (ha : ShL a) (hb : ShL b) : f48 (a, b, ()) = some (tV (key a) (key b), ()) := by
 obtain ⟨k, o, r, u⟩ := a
 obtain ⟨k', o', r', u'⟩ := b
 obtain ⟨-, a1, a2⟩ := ha
 obtain ⟨-, b1, b2⟩ := hb
 dsimp only at a1 a2 b1 b2
 unfold f48 tV key; dsimp only
 rw [X6 r r' (by omega) (by omega), aD, X6 u u' (by omega) (by omega)]
 simp only [eV, pY, bT, aD]
 by_cases h : cmpL r r' = 0
 ·rw [if_neg (not_not_intro h), if_neg (not_not_intro h)]
 ·rw [if_pos h, if_pos h]
theorem lZ.sh {B : Int} {l : Lay} (h : lZ B l) : ShL l := ⟨by have := h.len; omega, by have := h.len; have := h.right; omega, by have := h.len; have := h.up; omega⟩
theorem aI8 {B : Int} {l : Lay} (h : lZ B l) (hB : B ≤ 1000000000) : f39 (l, ()) = some (l, 0, ()) := by
 have h0 := h.len
 have h1 := h.right
 have h2 := h.up
 rw [aK6, if_pos ⟨mK h.o hB (by omega), mK h.r hB (by omega), mK h.u hB (by omega)⟩]
abbrev z4 : S4 := (0, (0, (0, 0)))
def bst (l : Lay) : S4 := match bG l.1 with
 | [] => z4
 | g :: r => least (fun g => key (trn l g)) r g
theorem aWF (l : Lay) : bst l ∈ bG l.1 := by
 unfold bst
 have := FH (k := l.1)
 cases h : bG l.1 with
 | nil => rw [h] at this; exact absurd this (by decide)
 | cons g r =>
  show least (fun g => key (trn l g)) r g ∈ _
  rcases EV (fun g => key (trn l g)) r g with h1 | h1
  ·rw [h1]; simp
  ·exact List.mem_cons_of_mem _ h1
theorem aHQ {B : Int} {l : Lay} (g : S4) (h : lZ B l) : f40 (l, g, ()) = some (trn l g, ()) := by
 have h0 := h.len
 have h1 := h.right
 have h2 := h.up
 exact aTH g (by omega) (by omega) (by omega)
theorem aDS {B : Int} {l : Lay} (hl : lZ B l) (hB0 : 0 ≤ B) (hB : B ≤ 500000000) (n : List (Int × Int)) : ∀ (L : List S4), (∀ g ∈ L, AU g) → ∀ h, AU h →
  vX EU (aM3 BY K8) (L.map fun e => (e, ())) (l, zL, z4, 0, trn l h, h, true, (n, ()), ()) = some (.inl (l, zL, z4, 0, trn l (least (fun g => key (trn l g)) L h), least (fun g => key (trn l g)) L h, ()))
 | [], _, h, _ => rfl
 | g :: L, hL, h, hh => by
  have hg := hL g (by simp)
  have gg := pA hl hg hB0 (by omega)
  have gh := pA hl hh hB0 (by omega)
  have hst : EU (l, zL, z4, 0, trn l h, h, true, (n, ()), ()) (g, ()) = if tV (key (trn l g)) (key (trn l h)) < 0 then some (.inl (l, zL, z4, 0, trn l g, g, true, (n, ()), ())) else some (.inl (l, zL, z4, 0, trn l h, h, true, (n, ()), ())) := by
   show (aB (f40 (l, g, ())) _) = _
   rw [aHQ g hl, aD]
   show (aB (f39 (trn l g, ())) _) = _
   rw [aI8 gg (by omega), aD]
   show (aB (f48 (trn l g, trn l h, ())) _) = _
   rw [a0X gg.sh gh.sh, aD]
   show (bif ltI (tV (key (trn l g)) (key (trn l h))) 0 then _ else _) = _
   rw [aO, bT]
  rw [List.map_cons, vX, hst, least]
  by_cases hc : tV (key (trn l g)) (key (trn l h)) < 0
  ·rw [if_pos hc, if_pos hc]
   exact aDS hl hB0 hB n L (fun x hx => hL x (by simp [hx])) g hg
  ·rw [if_neg hc, if_neg hc]
   exact aDS hl hB0 hB n L (fun x hx => hL x (by simp [hx])) h hh
theorem aPN {B : Int} {l : Lay} (hl : lZ B l) (hB0 : 0 ≤ B) (hB : B ≤ 500000000) : E0 (l, zL, z4, 0, zL, z4, false, (sW l.1, ()), ()) = some (.inl (l, zL, z4, 0, trn l (bst l), bst l, ())) := by
 have hu : ∀ g ∈ bG l.1, AU g := fun g hg => sK hg
 have hf := aC4 l.1
 unfold E0 ZF
 have hff : (fun x => GD (aF1 x)) (l, zL, z4, 0, zL, z4, false, (sW l.1, ()), ()) = _ := hf
 rw [hff]
 unfold bst
 have := FH (k := l.1)
 cases h : bG l.1 with
 | nil => rw [h] at this; exact absurd this (by decide)
 | cons g r =>
  rw [h] at hu
  have hg := hu g (by simp)
  have gg := pA hl hg hB0 (by omega)
  have hst : EU (l, zL, z4, 0, zL, z4, false, (sW l.1, ()), ()) (g, ()) = some (.inl (l, zL, z4, 0, trn l g, g, true, (sW l.1, ()), ())) := by
   show (aB (f40 (l, g, ())) _) = _
   rw [aHQ g hl, aD]
   show (aB (f39 (trn l g, ())) _) = _
   rw [aI8 gg (by omega), aD]
   rfl
  show vX EU (aM3 BY K8) ((g, ()) :: r.map fun e => (e, ())) _ = _
  rw [vX, hst]
  exact aDS hl hB0 hB (sW l.1) r (fun x hx => hu x (by simp [hx])) g hg
def can (l : Lay) (w : List Int) : Lay := (l.1, w, (trn l (bst l)).2.2.1, (trn l (bst l)).2.2.2)
theorem a1N {B : Int} {l : Lay} (hl : lZ B l) (hB0 : 0 ≤ B) (hB : B ≤ 500000000) {L : Int × List (List Int)} {w : List Int} (h1 : dV ((l.2.1.length : Int), [l.2.2.1, l.2.2.2], ()) = some (L, 0, ())) (h2 : bC (L, l.2.1, ()) = some (w, 0, ())) :
  f47 (l, ()) = some (can l w, bst l, 0, ()) := by
 unfold f47
 show (aB (f38 (l.1, ())) _) = _
 rw [aSC, aD]
 show (aB (E0 (l, zL, z4, 0, zL, z4, false, (sW l.1, ()), ())) _) = _
 rw [aPN hl hB0 hB, aD, LL]
 show aB (dV ((l.2.1.length : Int), [l.2.2.1, l.2.2.2], ())) _ = _
 rw [h1, aD]
 show aB (bC (L, l.2.1, ())) _ = _
 rw [h2, aD]
 rfl
theorem aTE {B : Int} {l : Lay} (hl : lZ B l) (hB0 : 0 ≤ B) (hB : B ≤ 500000000) {L : Int × List (List Int)} {w : List Int} (h1 : dV ((l.2.1.length : Int), [l.2.2.1, l.2.2.2], ()) = some (L, 0, ())) (h2 : bC (L, l.2.1, ()) = some (w, 0, ())) :
  f26 (l, ()) = some (can l w, 0, ()) := by
 have h24 := aJW l
 rw [aDT hl (by omega)] at h24
 unfold f26
 show (aB (f24 (l, ())) _) = _
 rw [h24, aD]
 show (aB (f47 (l, ())) _) = _
 rw [a1N hl hB0 hB h1 h2, aD]
theorem aLV {a b A B : Int} {r s : List Int} {i : Nat} (hA : 0 ≤ A ∧ A ≤ 1000) (hB : 0 ≤ B ∧ B ≤ 1000000000) (ha : -A ≤ a ∧ a ≤ A) (hb : -A ≤ b ∧ b ≤ A) (hr : -B ≤ r.getD i 0 ∧ r.getD i 0 ≤ B) (hs : -B ≤ s.getD i 0 ∧ s.getD i 0 ≤ B) :
  mxE a b r s i = a * r.getD i 0 + b * s.getD i 0 ∧ (mxE a b r s i).natAbs ≤ 2 * (A.toNat * B.toNat) := by
 have key : ∀ {x y : Int}, (-A ≤ x ∧ x ≤ A) → (-B ≤ y ∧ y ≤ B) → (x * y).natAbs ≤ A.toNat * B.toNat := fun h1 h2 => by
  rw [Int.natAbs_mul]
  exact Nat.mul_le_mul (by omega) (by omega)
 have h1 := key ha hr
 have h2 := key hb hs
 have h3 : A.toNat * B.toNat ≤ 1000 * 1000000000 := Nat.mul_le_mul (by omega) (by omega)
 have : mxE a b r s i = a * r.getD i 0 + b * s.getD i 0 := by
  unfold mxE
  rw [wrap64 (x := a * r.getD i 0) (by omega) (by omega), wrap64 (x := b * s.getD i 0) (by omega) (by omega), wrap64 (by omega) (by omega)]
 rw [this]
 refine ⟨rfl, ?_⟩
 omega
theorem aLU {a b A B : Int} {r s : List Int} (hA : 0 ≤ A ∧ A ≤ 1000) (hB : 0 ≤ B ∧ B ≤ 1000000000) (ha : -A ≤ a ∧ a ≤ A) (hb : -A ≤ b ∧ b ≤ A) (hr : Sm B r) (hs : Sm B s) (hl : s.length = r.length) : nB (mx a b r s) = fun x => a * nB r x + b * nB s x := by
 funext x
 by_cases hx : x < r.length
 ·have := (aLV (i := x) hA hB ha hb (hr.get hx) (hs.get (by omega))).1
  unfold nB
  rw [OU hx, this]
 ·rw [AK (nI a b r s) (by omega), AK (n := r.length) rfl (by omega), AK hl (by omega)]
  simp
def aK3 (k : Int) (g : S4) : S4 := ((bG k).find? fun h => eq4 (QE g h) (1, 0, 0, 1)).getD z4
def aKD (L : List S4) (f : S4 → S4) : Bool := L.all fun g => (L.any fun x => eq4 x (f g)) && eq4 (QE g (f g)) (1, 0, 0, 1) && L.all fun h => eq4 (QE g (QE (f g) h)) h
theorem aQG : aKD OH (aK3 1) = true := by kernel_rfl
theorem aQ7 : aKD NV (aK3 2) = true := by kernel_rfl
theorem aLS {k : Int} (hk : k = 1 ∨ k = 2) {g : S4} (hg : g ∈ bG k) : aK3 k g ∈ bG k ∧ QE g (aK3 k g) = (1, 0, 0, 1) ∧ ∀ h ∈ bG k, QE g (QE (aK3 k g) h) = h := by
 have hc : aKD (bG k) (aK3 k) = true := by
  rcases hk with rfl | rfl
  ·exact aQG
  ·exact aQ7
 have h1 := List.all_eq_true.1 hc g hg
 simp only [Bool.and_eq_true, List.any_eq_true, List.all_eq_true, aJP, decide_eq_true_eq] at h1
 obtain ⟨⟨⟨x, h2, h3⟩, h4⟩, h5⟩ := h1
 exact ⟨h3 ▸ h2, h4, h5⟩
theorem aZ0 {B : Int} {l : Lay} (hl : lZ B l) (hB0 : 0 ≤ B) (hB : B ≤ 500000000) : trn l (1, 0, 0, 1) = l := by
 have key : ∀ {r s : List Int}, Sm B r → Sm B s → s.length = r.length → mx 1 0 r s = r ∧ mx 0 1 r s = s := fun {r s} hr hs h => by
  constructor
  ·apply List.ext_getElem (by rw [nI])
   intro i h1 h2
   have := (BI (i := i) (B := B) (a := 1) (b := 0) (by decide) (by decide) (hr.get h2) (hs.get (by omega)) (by omega)).1
   have e := OU (a := 1) (b := 0) (s := s) h2
   rw [this] at e
   simp only [List.getD_eq_getElem?_getD, List.getElem?_eq_getElem h1, List.getElem?_eq_getElem h2, Option.getD_some] at e
   omega
  ·apply List.ext_getElem (by rw [nI, h])
   intro i h1 h2
   have h3 : i < r.length := by omega
   have := (BI (i := i) (B := B) (a := 0) (b := 1) (by decide) (by decide) (hr.get h3) (hs.get (by omega)) (by omega)).1
   have e := OU (a := 0) (b := 1) (s := s) h3
   rw [this] at e
   simp only [List.getD_eq_getElem?_getD, List.getElem?_eq_getElem h1, List.getElem?_eq_getElem h2, Option.getD_some] at e
   omega
 obtain ⟨e1, e2⟩ := key hl.r hl.u (by have := hl.right; have := hl.up; omega)
 unfold trn
 simp only [e1, e2]
theorem aHB {B : Int} {l : Lay} {g : S4} (hl : lZ B l) (hg : AU g) (hB : 0 ≤ B ∧ B ≤ 1000000000) : ∀ j, j < 2 → Sp 2 (BJ [l.2.2.1, l.2.2.2]) (BJ [(trn l g).2.2.1, (trn l g).2.2.2] j) := fun j hj => by
 obtain ⟨q1, q2, q3, q4⟩ := hg
 have h1 := hl.right
 have h2 := hl.up
 rcases (by omega : j = 0 ∨ j = 1) with rfl | rfl
 ·have := aLU (A := 1) (by decide) hB q1 q3 hl.r hl.u (by omega)
  show Sp 2 _ (nB (mx g.1 g.2.2.1 l.2.2.1 l.2.2.2))
  rw [this]
  exact Sp.ZO (M := BJ [l.2.2.1, l.2.2.2]) _ _
 ·have := aLU (A := 1) (by decide) hB q2 q4 hl.r hl.u (by omega)
  show Sp 2 _ (nB (mx g.2.1 g.2.2.2 l.2.2.1 l.2.2.2))
  rw [this]
  exact Sp.ZO (M := BJ [l.2.2.1, l.2.2.2]) _ _
theorem aQ6 {B : Int} {l : Lay} {g : S4} (hl : lZ B l) (hg : g ∈ bG l.1) (hB : 0 ≤ B ∧ B ≤ 100000000) : Same 2 (BJ [l.2.2.1, l.2.2.2]) 2 (BJ [(trn l g).2.2.1, (trn l g).2.2.2]) := by
 obtain ⟨i1, i2, i3⟩ := aLS hl.kind hg
 have ht := pA hl (sK hg) hB.1 (by omega)
 have hb := aL5 hl hg i1 hB.1 hB.2
 rw [i2, aZ0 hl hB.1 (by omega)] at hb
 refine Same.of (fun j hj => ?_) (aHB hl (sK hg) (by omega))
 have := aHB ht (sK i1) (by omega) j hj
 rwa [hb] at this
theorem Sm.abs {B : Int} {r : List Int} (h : Sm B r) {C : Nat} (hC : B ≤ C) : ∀ a ∈ r, a.natAbs ≤ C := fun a ha => by have := h a ha; omega
theorem aUI {B : Int} {l : Lay} {g : S4} (hl : lZ B l) (hg : g ∈ bG l.1) (hB : 0 ≤ B ∧ B ≤ 50000000) {y : Lay} (hk : y.1 = l.1) (hy : key y = key (trn l g)) : key (trn y (bst y)) = key (trn l (bst l)) := by
 have hkey : ∀ h, key (trn y h) = key (trn (trn l g) h) := fun h => by
  have e1 : y.2.2.1 = (trn l g).2.2.1 := congrArg Prod.fst hy
  have e2 : y.2.2.2 = (trn l g).2.2.2 := congrArg Prod.snd hy
  show (mx h.1 h.2.2.1 y.2.2.1 y.2.2.2, mx h.2.1 h.2.2.2 y.2.2.1 y.2.2.2) = _
  rw [e1, e2]; rfl
 obtain ⟨i1, i2, i3⟩ := aLS hl.kind hg
 have hn := FH (k := l.1)
 have hc : ∀ h ∈ bG l.1, key (trn y h) = key (trn l (QE g h)) := fun h hh => by
  rw [hkey, aL5 hl hg hh hB.1 (by omega)]
 unfold bst
 rw [hk]
 cases ht : bG l.1 with
 | nil => rw [ht] at hn; exact absurd hn (by decide)
 | cons a r =>
  have hm : ∀ x, x = a ∨ x ∈ r ↔ x ∈ bG l.1 := fun x => by rw [ht, List.mem_cons]
  show (fun g => key (trn y g)) (least (fun g => key (trn y g)) r a) = (fun g => key (trn l g)) (least (fun g => key (trn l g)) r a)
  refine aQO (fun g => key (trn y g)) (fun g => key (trn l g)) a r a r (fun x hx => ?_) (fun x hx => ?_)
  ·have hx := (hm x).1 hx
   exact ⟨QE g x, (hm _).2 (aLA hg hx).2, hc x hx⟩
  ·have hx := (hm x).1 hx
   have hi := (aLA i1 hx).2
   refine ⟨QE (aK3 l.1 g) x, (hm _).2 hi, ?_⟩
   rw [hc _ hi, i3 x hx]
end Go.PM
set_option linter.unusedSimpArgs false
set_option linter.unusedVariables false
namespace Go.PM
open Go Go.RowKit Go.Proofs Go.Lz
set_option maxRecDepth 100000
theorem aNV {B : Int} {l : Lay} {g : S4} (hl : lZ B l) (hg : AU g) (hB0 : 0 ≤ B) (hB : B ≤ 500000000) : aMW l g = true := by
 have ht := pA hl hg hB0 (by omega)
 have h0 := hl.len
 have h1 := hl.right
 have e1 : rc (trn l g).2.2.1 = 0 := mK ht.r (by omega) (by have := ht.len; have := ht.right; omega)
 have e2 : rc (trn l g).2.2.2 = 0 := mK ht.u (by omega) (by have := ht.len; have := ht.up; omega)
 have q1 := aXK (a := g.1) (b := g.2.2.1) (r := l.2.2.1) (s := l.2.2.2) (by omega)
 have q2 := aXK (a := g.2.1) (b := g.2.2.2) (r := l.2.2.1) (s := l.2.2.2) (by omega)
 have e1 : rc (mx g.1 g.2.2.1 l.2.2.1 l.2.2.2) = 0 := e1
 have e2 : rc (mx g.2.1 g.2.2.2 l.2.2.1 l.2.2.2) = 0 := e2
 rw [e1] at q1
 rw [e2] at q2
 unfold aMW
 by_cases c1 : ftB g.1 g.2.2.1 l.2.2.1 l.2.2.2 l.2.2.1.length = true
 ·by_cases c2 : ftB g.2.1 g.2.2.2 l.2.2.1 l.2.2.2 l.2.2.1.length = true
  ·rw [c1, c2]; rfl
  ·rw [if_neg c2] at q2; exact absurd q2 (by decide)
 ·rw [if_neg c1] at q1; exact absurd q1 (by decide)
theorem aHX {B : Int} {l : Lay} {g : S4} (hl : lZ B l) (hg : AU g) (hB0 : 0 ≤ B) (hB : B ≤ 500000000) : f18 (l, g, ()) = some (trn l g, true, ()) := by
 have h0 := hl.len
 have h1 := hl.right
 have h2 := hl.up
 rw [a19 g (by omega) (by omega), aNV hl hg hB0 hB]
theorem aNO {B : Int} {l : Lay} (hl : lZ B l) (hB0 : 0 ≤ B) (hB : B ≤ 500000000) : KU (l, zL, bG l.1, l, true, 0, ()) = some (l, zL, trn l (bst l), true, ()) := by
 have hu : ∀ g ∈ bG l.1, AU g := fun g hg => sK hg
 have hlen := aOJ (k := l.1)
 have hpos := FH (k := l.1)
 unfold bst
 cases ht : bG l.1 with
 | nil => rw [ht] at hpos; exact absurd hpos (by decide)
 | cons g r =>
  rw [ht] at hu hlen
  rw [List.length_cons] at hlen
  have hb : ∀ i, AU (least (fun g => key (trn l g)) (r.take i) g) := fun i => by
   rcases EV (fun g => key (trn l g)) (r.take i) g with h | h
   ·rw [h]; exact hu g (by simp)
   ·exact hu _ (List.mem_cons_of_mem _ (List.mem_of_mem_take h))
  have key := fJ (N := 2 ^ 64) (step := EJ) (fun i => (l, zL, g :: r, if i = 0 then l else trn l (least (fun g => key (trn l g)) (r.take (i - 1)) g), true, (i : Int), ())) (r.length + 1) (l, zL, trn l (least (fun g => key (trn l g)) r g), true, ()) (by omega) (fun i hi => ?_) ?_
  ·exact key
  ·have e0 : ltI (i : Int) ((g :: r).length : Int) = true := by rw [aO, List.length_cons]; exact decide_eq_true (by omega)
   have e1 : aQ (i : Int) (g :: r).length = true := by rw [bD, List.length_cons]; exact decide_eq_true (by omega)
   have e2 := fF i (by omega)
   have e3 : ((i : Nat) : Int).toNat = i := Int.toNat_natCast _
   cases i with
   | zero =>
    have hg := hu g (by simp)
    have gg := pA hl hg hB0 (by omega)
    have a1 := gg.sh
    have a2 := hl.sh
    rw [if_pos rfl, if_neg (show ¬ 0 + 1 = 0 by decide)]
    have main : ∀ j : Int, j = 0 → EJ (l, zL, g :: r, l, true, j, ()) = some (Sum.inl (l, zL, g :: r, trn l g, true, aL .i64 (j + 1), ())) := fun j hj => by
     have e0 : ltI j ((g :: r).length : Int) = true := by rw [aO, List.length_cons]; exact decide_eq_true (by omega)
     have e1 : aQ j (g :: r).length = true := by rw [bD, List.length_cons]; exact decide_eq_true (by omega)
     have e3 : j.toNat = 0 := by omega
     have e4 : eqI j 0 = true := by rw [eV]; exact decide_eq_true hj
     show (bif ltI j _ then bif aQ j _ then aB (f18 (l, (g :: r).getD j.toNat (0, (0, (0, 0))), ())) _ else _ else _) = _
     rw [e0, e1, cond_true, cond_true, e3]
     show (aB (f18 (l, g, ())) _) = _
     rw [aHX hl hg hB0 hB, aD]
     show (aB (f35 ((trn l g).2.2.1, l.2.2.1, ())) _) = _
     rw [X6 _ _ (by have := a1.2.1; omega) (by have := a2.2.1; omega), aD, e4, cond_true]
    rw [show (((0 : Nat) : Int)) = 0 from rfl, main 0 rfl]
    rw [show ((0 : Nat) : Int) + 1 = 0 + 1 from rfl] at e2
    rw [e2]; rfl
   | succ i =>
    have hir : i < r.length := by omega
    have hx : (g :: r).getD (i + 1) (0, (0, (0, 0))) = r[i] := by simp [List.getD, hir]
    have hg : AU r[i] := hu _ (List.mem_cons_of_mem _ (List.getElem_mem hir))
    have gg := pA hl hg hB0 (by omega)
    have gb := pA hl (hb i) hB0 (by omega)
    have a1 := gg.sh
    have a2 := gb.sh
    have e4 : eqI ((i + 1 : Nat) : Int) 0 = false := by rw [eV]; exact decide_eq_false (by omega)
    have hn : least (fun g => PM.key (trn l g)) (r.take (i + 1)) g = if tV (PM.key (trn l r[i])) (PM.key (trn l (least (fun g => PM.key (trn l g)) (r.take i) g))) < 0 then r[i] else least (fun g => PM.key (trn l g)) (r.take i) g := by
     rw [List.take_succ_eq_append_getElem hir, aAW]
    show EJ (l, zL, g :: r, trn l (least (fun g => PM.key (trn l g)) (r.take i) g), true, ((i + 1 : Nat) : Int), ()) = some (Sum.inl (l, zL, g :: r, trn l (least (fun g => PM.key (trn l g)) (r.take (i + 1)) g), true, ((i + 1 + 1 : Nat) : Int), ()))
    rw [hn]
    generalize least (fun g => PM.key (trn l g)) (r.take i) g = b at gb a2
    show (bif ltI _ _ then bif aQ _ _ then aB (f18 (l, (g :: r).getD ((i + 1 : Nat) : Int).toNat (0, (0, (0, 0))), ())) _ else _ else _) = _
    rw [e0, e1, cond_true, cond_true, e3, hx, aHX hl hg hB0 hB, aD]
    show (aB (f35 ((trn l r[i]).2.2.1, (trn l b).2.2.1, ())) _) = _
    rw [X6 _ _ (by have := a1.2.1; omega) (by have := a2.2.1; omega), aD, e4, cond_false]
    unfold tV
    dsimp only
    rw [aO, eV, bT, bT, e2]
    by_cases c0 : cmpL (trn l r[i]).2.2.1 (trn l b).2.2.1 = 0
    ·rw [if_neg (by omega), if_pos c0, if_neg (not_not_intro c0), X6 _ _ (by have := a1.2.2; omega) (by have := a2.2.2; omega), aD, aO, bT]
     by_cases c1 : cmpL (trn l r[i]).2.2.2 (trn l b).2.2.2 < 0
     ·rw [if_pos c1, if_pos c1]
     ·rw [if_neg c1, if_neg c1]
    ·rw [if_pos c0]
     by_cases c1 : cmpL (trn l r[i]).2.2.1 (trn l b).2.2.1 < 0
     ·rw [if_pos c1, if_pos c1]
     ·rw [if_neg c1, if_neg c1, if_neg c0]
  ·have e0 : ltI ((r.length + 1 : Nat) : Int) ((g :: r).length : Int) = false := by rw [aO, List.length_cons]; exact decide_eq_false (by omega)
   simp only [EJ, e0, cond_false, if_neg (Nat.succ_ne_zero _), Nat.add_sub_cancel, List.take_length]
theorem aZH {l : Lay} (hn : l.2.1.length ≤ 12) {L : Int × List (List Int)} {w : List Int} (h1 : dV ((l.2.1.length : Int), [l.2.2.1, l.2.2.2], ()) = some (L, 0, ())) (h2 : bC (L, l.2.1, ()) = some (w, 0, ())) : f50 (l, ()) = some (w, 0, ()) := by
 have e0 : ltI 12 (l.2.1.length : Int) = false := by rw [aO]; exact decide_eq_false (by omega)
 unfold f50
 show (bif ltI 12 (l.2.1.length : Int) then _ else aB (dV ((l.2.1.length : Int), [l.2.2.1, l.2.2.2], ())) _) = _
 rw [e0, cond_false, h1, aD]
 show aB (bC (L, l.2.1, ())) _ = _
 rw [h2, aD]
theorem aRI {B : Int} {l : Lay} (hl : lZ B l) (hB0 : 0 ≤ B) (hB : B ≤ 500000000) {L : Int × List (List Int)} {w : List Int} (h1 : dV ((l.2.1.length : Int), [l.2.2.1, l.2.2.2], ()) = some (L, 0, ())) (h2 : bC (L, l.2.1, ()) = some (w, 0, ())) :
  f30 (l, ()) = some (can l w, true, ()) := by
 unfold f30
 show (aB (f16 (l.1, ())) _) = _
 rw [aTG hl.kind, aD]
 show (aB (KU (l, zL, bG l.1, l, true, 0, ())) _) = _
 rw [aNO hl hB0 hB, aD]
 show (aB (f50 (l, ())) _) = _
 rw [aZH (by have := hl.len; omega) h1 h2, aD]
 rfl
theorem PG {l : Lay} (hl : lZ 18 l) {x y : Int} (hx : -128 ≤ x ∧ x ≤ 128) (hy : -128 ≤ y ∧ y ≤ 128) :
  lZ 4626 (shL l x y) ∧ nB (shL l x y).2.1 = fun c => x * nB l.2.2.1 c + y * nB l.2.2.2 c + nB l.2.1 c := by
 have h1 := hl.right
 have h2 := hl.up
 have val : ∀ i, i < l.2.2.1.length → aAV x y l.2.1 l.2.2.1 l.2.2.2 l.2.2.1.length i = x * l.2.2.1.getD i 0 + y * l.2.2.2.getD i 0 + l.2.1.getD i 0 ∧ (-4626 ≤ aAV x y l.2.1 l.2.2.1 l.2.2.2 l.2.2.1.length i ∧ aAV x y l.2.1 l.2.2.1 l.2.2.2 l.2.2.1.length i ≤ 4626) := fun i hi => by
  obtain ⟨e1, e2⟩ := aLV (A := 128) (B := 18) (by decide) (by decide) hx hy (hl.r.get hi) (hl.u.get (i := i) (by omega))
  have e3 := hl.o.get (i := i) (by omega)
  have e4 : 2 * (Int.toNat 128 * Int.toNat 18) = 4608 := rfl
  have : aAV x y l.2.1 l.2.2.1 l.2.2.2 l.2.2.1.length i = mxE x y l.2.2.1 l.2.2.2 i + l.2.1.getD i 0 := by
   unfold aAV
   rw [if_pos hi, wrap64 (by omega) (by omega)]
  rw [this, ← e1]
  omega
 have hlen : (shL l x y).2.1.length = l.2.2.1.length := sY _ _ _ _ _ _
 have hsm : ∀ {r : List Int}, Sm 18 r → Sm 4626 r := fun h v hv => by have := h v hv; omega
 refine ⟨⟨hl.kind, by rw [hlen]; have := hl.len; omega, by rw [hlen]; rfl, by rw [hlen]; show l.2.2.2.length = _; omega, fun v hv => ?_, hsm hl.r, hsm hl.u⟩, ?_⟩
 ·obtain ⟨i, hi, rfl⟩ := List.getElem_of_mem hv
  have hi' : i < l.2.2.1.length := by omega
  have e := aE1 x y l.2.1 l.2.2.1 l.2.2.2 l.2.2.1.length hi'
  rw [List.getD_eq_getElem?_getD, List.getElem?_eq_getElem (show i < (shf x y l.2.1 l.2.2.1 l.2.2.2 l.2.2.1.length).length from hi)] at e
  have e : (shL l x y).2.1[i] = _ := e
  rw [e]
  exact (val i hi').2
 ·funext c
  by_cases hc : c < l.2.2.1.length
  ·have e := aE1 x y l.2.1 l.2.2.1 l.2.2.2 l.2.2.1.length hc
   show (shf x y l.2.1 l.2.2.1 l.2.2.2 l.2.2.1.length).getD c 0 = _
   rw [e, (val c hc).1]; rfl
  ·rw [AK hlen (by omega), AK (n := l.2.2.1.length) rfl (by omega), AK (n := l.2.2.1.length) (by omega) (by omega), AK (n := l.2.2.1.length) (by omega) (by omega)]
   simp
theorem aRX {l : Lay} (hl : lZ 18 l) {x y : Int} (hx : -128 ≤ x ∧ x ≤ 128) (hy : -128 ≤ y ∧ y ≤ 128) : Sp 2 (BJ [l.2.2.1, l.2.2.2]) (fun c => nB l.2.1 c - nB (shL l x y).2.1 c) := by
 have := (PG hl hx hy).2
 rw [this]
 refine cast (congrArg _ ?_) (Sp.ZO (M := BJ [l.2.2.1, l.2.2.2]) (-x) (-y))
 funext c
 show -x * nB l.2.2.1 c + -y * nB l.2.2.2 c = _
 simp only [Int.neg_mul]
 omega
theorem aP4 {l : Lay} (hl : lZ 18 l) {x y : Int} (hx : -128 ≤ x ∧ x ≤ 128) (hy : -128 ≤ y ∧ y ≤ 128) : aHK (l, x, y, ()) = some (shL l x y, 0, ()) := by
 have h0 := hl.len
 have h1 := hl.right
 have h2 := hl.up
 have hg := (PG hl hx hy).1
 have g0 := hg.len
 have g1 := hg.right
 have g2 := hg.up
 rw [aU1 x y (by omega) (by omega) (by omega) (aDT hl (by decide)), if_neg (by omega), if_pos ⟨mK hg.o (by decide) (by omega), mK hg.r (by decide) (by omega), mK hg.u (by decide) (by omega)⟩]
theorem aL0 {l : Lay} (hl : lZ 9 l) {g : S4} (hg : g ∈ bG l.1) {x y : Int} (hx : -128 ≤ x ∧ x ≤ 128) (hy : -128 ≤ y ∧ y ≤ 128) :
  ∃ L w, dV ((l.2.1.length : Int), [l.2.2.1, l.2.2.2], ()) = some (L, 0, ()) ∧ dV (((shL (trn l g) x y).2.1.length : Int), [(shL (trn l g) x y).2.2.1, (shL (trn l g) x y).2.2.2], ()) = some (L, 0, ()) ∧
   bC (L, l.2.1, ()) = some (w, 0, ()) ∧ bC (L, (shL (trn l g) x y).2.1, ()) = some (w, 0, ()) ∧ w.length = l.2.1.length := by
 have ht : lZ 18 (trn l g) := pA hl (sK hg) (by decide) (by decide)
 have hs := (PG ht hx hy).1
 have h0 := hl.len
 have h1 := hl.right
 have h2 := hl.up
 have t1 : (trn l g).2.2.1.length = l.2.2.1.length := nI _ _ _ _
 have t2 : (trn l g).2.2.2.length = l.2.2.1.length := nI _ _ _ _
 have e1 : (shL (trn l g) x y).2.1.length = l.2.1.length := by
  have : (shL (trn l g) x y).2.1.length = (trn l g).2.2.1.length := sY _ _ _ _ _ _
  omega
 rw [e1]
 have hsame := aQ6 hl hg (by decide)
 refine aWQ (n := l.2.1.length) (by omega) h1 h2 (hl.r.abs (by decide)) (hl.u.abs (by decide)) (by show (trn l g).2.2.1.length = _; omega) (by show (trn l g).2.2.2.length = _; omega) (ht.r.abs (by decide)) (ht.u.abs (by decide)) rfl (hl.o.abs (by decide)) e1 (hs.o.abs (by decide)) hsame ?_
 exact (hsame _).2 (aRX ht hx hy)
theorem aPT {y l : Lay} (w : List Int) (h1 : y.1 = l.1) (h2 : key (trn y (bst y)) = key (trn l (bst l))) : can y w = can l w := by
 unfold can
 rw [h1, show (trn y (bst y)).2.2.1 = _ from congrArg Prod.fst h2, show (trn y (bst y)).2.2.2 = _ from congrArg Prod.snd h2]
theorem aV7 (d : Ty.den (.prod .bool (.prod (.int .u8) (.prod (.prod (.int .i8) (.prod (.int .i8) (.int .i8))) (.prod (.prod (.int .i8) (.prod (.int .i8) (.int .i8))) (.prod (.int .i8) (.prod (.int .i8) (.int .i8)))))))) {g : Int} {s : Int × Int}
  (hr : 0 ≤ d.2.1 ∧ d.2.1 ≤ 255) (hg : 0 ≤ g ∧ g ≤ 255) (hx : -128 ≤ s.1 ∧ s.1 ≤ 127) (hy : -128 ≤ s.2 ∧ s.2 ≤ 127) : f7 (d, g, s, ()) = some (true, ()) := by
 have h12 : f12 () = some (true, ()) := rfl
 obtain ⟨l, hm, hl⟩ := aQ0 d hr
 unfold f7
 show (aB (f12 ()) _) = _
 rw [h12, aD]
 show (aB (f29 (d, ())) _) = _
 rw [hm, aD]
 have hn := FH (k := l.1)
 have m1 := aVR hg hn
 have l1 := Nat.mod_lt g.toNat hn
 have g1 : (bG l.1).getD (g.toNat % (bG l.1).length) (0, (0, (0, 0))) ∈ bG l.1 := by
  rw [List.getD_eq_getElem?_getD, List.getElem?_eq_getElem l1]; exact List.getElem_mem l1
 have hz : eqI ((bG l.1).length : Int) 0 = false := by rw [eV]; exact decide_eq_false (by omega)
 have i1 : aQ ((g.toNat % (bG l.1).length : Nat) : Int) (bG l.1).length = true := by
  show Nat.blt _ _ = true
  rw [c6]; exact decide_eq_true l1
 have w1 : IntKind.wrap .i64 s.1 = s.1 := by rw [IntKind.wrap_i64]; omega
 have w2 : IntKind.wrap .i64 s.2 = s.2 := by rw [IntKind.wrap_i64]; omega
 obtain ⟨L, w, o1, o2, o3, o4, -⟩ := aL0 hl g1 (x := s.1) (y := s.2) (by omega) (by omega)
 have ht : lZ 18 (trn l _) := pA hl (sK g1) (by decide) (by decide)
 have hs := (PG ht (x := s.1) (y := s.2) (by omega) (by omega)).1
 have hc : can (shL (trn l ((bG l.1).getD (g.toNat % (bG l.1).length) (0, (0, (0, 0))))) s.1 s.2) w = can l w := by
  have := aUI hl g1 (by decide) (y := shL (trn l ((bG l.1).getD (g.toNat % (bG l.1).length) (0, (0, (0, 0))))) s.1 s.2) rfl rfl
  exact aPT w rfl this
 have hsh : ShL (can l w) := by
  have a := (pA hl (sK (aWF l)) (by decide) (by decide)).sh
  have : w.length ≤ 1000 := by
   obtain ⟨L', w', p1, p2, p3, p4, p5⟩ := aL0 hl g1 (x := s.1) (y := s.2) (by omega) (by omega)
   rw [o1] at p1
   cases p1
   rw [o3] at p3
   cases p3
   have := hl.len
   omega
  exact ⟨this, a.2.1, a.2.2⟩
 show (aB (f26 (l, ())) _) = _
 rw [aTE hl (by decide) (by decide) o1 o3, aD]
 show (aB (f30 (l, ())) _) = _
 rw [aRI hl (by decide) (by decide) o1 o3, aD]
 show (aB (f19 (can l w, can l w, ())) _) = _
 rw [aQZ _ hsh, aD, decide_eq_true rfl]
 show (aB (f16 (l.1, ())) _) = _
 rw [aTG hl.kind, aD]
 show (bif eqI ((bG l.1).length : Int) 0 then _ else bif aQ ((IntKind.wrap .i64 g).tmod ((bG l.1).length : Int)) (bG l.1).length then aB (f15 (l, (bG l.1).getD (((IntKind.wrap .i64 g).tmod ((bG l.1).length : Int)).toNat) (0, (0, (0, 0))), ())) _ else _) = _
 rw [hz, cond_false, m1, i1, cond_true, Int.toNat_natCast, aNA hl g1 (by decide) (by decide), aD]
 generalize (bG l.1).getD (g.toNat % (bG l.1).length) (0, (0, (0, 0))) = gg at *
 show (aB (aHK (trn l gg, IntKind.wrap .i64 s.1, IntKind.wrap .i64 s.2, ())) _) = _
 rw [w1, w2, aP4 ht (by omega) (by omega), aD]
 show (aB (f26 (shL (trn l gg) s.1 s.2, ())) _) = _
 rw [aTE hs (by decide) (by decide) o2 o4, aD, hc]
 show (aB (f19 (can l w, can l w, ())) _) = _
 rw [aQZ _ hsh, aD, decide_eq_true rfl]
end Go.PM
