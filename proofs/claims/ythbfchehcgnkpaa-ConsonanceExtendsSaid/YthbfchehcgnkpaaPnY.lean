/- Plain law: lists of ints in order, as slices.Compare orders them. No program. -/
import Derived.Test.YthbfchehcgnkpaaPnX
import Derived.Test.YthbfchehcgnkpaaPnM
set_option linter.unusedSimpArgs false
set_option linter.unusedVariables false
namespace Go.PM
open Go Go.RowKit

/-- slices.Compare at ints. -/
def cmpL : List Int → List Int → Int
  | [], [] => 0
  | [], _ :: _ => -1
  | _ :: _, [] => 1
  | a :: l, b :: m => if a < b then -1 else if b < a then 1 else cmpL l m
theorem cmpL_refl : ∀ l, cmpL l l = 0
  | [] => rfl
  | a :: l => by simp [cmpL, cmpL_refl l]
theorem cmpL_zero : ∀ {l m : List Int}, ¬ cmpL l m < 0 → ¬ cmpL m l < 0 → l = m
  | [], [], _, _ => rfl
  | [], _ :: _, h, _ => by simp [cmpL] at h
  | _ :: _, [], _, h => by simp [cmpL] at h
  | a :: l, b :: m, h, k => by
    simp only [cmpL] at h k
    by_cases h1 : a < b
    · simp [h1] at h
    · by_cases h2 : b < a
      · simp [h2] at k
      · rw [if_neg h1, if_neg h2] at h
        rw [if_neg h2, if_neg h1] at k
        have : a = b := by omega
        rw [this, cmpL_zero h k]
theorem cmpL_trans : ∀ {l m n : List Int}, cmpL l m < 0 → cmpL m n < 0 → cmpL l n < 0
  | [], [], _, h, _ => by simp [cmpL] at h
  | [], _ :: _, [], _, k => by simp [cmpL] at k
  | [], _ :: _, _ :: _, _, _ => by simp [cmpL]
  | _ :: _, [], _, h, _ => by simp [cmpL] at h
  | _ :: _, _ :: _, [], _, k => by simp [cmpL] at k
  | a :: l, b :: m, c :: n, h, k => by
    simp only [cmpL] at h k ⊢
    by_cases h1 : a < b
    · by_cases h3 : b < c
      · rw [if_pos (show a < c by omega)]; omega
      · by_cases h4 : c < b
        · rw [if_neg h3, if_pos h4] at k; omega
        · rw [if_pos (show a < c by omega)]; omega
    · by_cases h2 : b < a
      · rw [if_neg h1, if_pos h2] at h; omega
      · rw [if_neg h1, if_neg h2] at h
        by_cases h3 : b < c
        · rw [if_pos (show a < c by omega)]; omega
        · by_cases h4 : c < b
          · rw [if_neg h3, if_pos h4] at k; omega
          · rw [if_neg h3, if_neg h4] at k
            rw [if_neg (show ¬ a < c by omega), if_neg (show ¬ c < a by omega)]
            exact cmpL_trans h k
theorem cmpL_asym : ∀ {l m : List Int}, cmpL l m < 0 → ¬ cmpL m l < 0 := fun h k => by
  have := cmpL_trans h k
  rw [cmpL_refl] at this; omega
/-- How long a list may be. -/
def D64 (l : List Int) : Bool := Nat.ble l.length 9223372036854775806
theorem loL : LO D64 fun x y => decide (cmpL x y < 0) where
  irrefl x _ := by rw [cmpL_refl]; rfl
  trans x y z _ _ _ h k := by
    simp only [decide_eq_true_eq] at h k ⊢; exact cmpL_trans h k
  ntrans x y z _ _ _ h k := by
    simp only [decide_eq_false_iff_not] at h k ⊢
    intro hz
    -- x < z: then x < y or y < z
    by_cases h1 : x = y
    · subst h1; exact k hz
    · have : cmpL y x < 0 := by
        by_cases h2 : cmpL y x < 0
        · exact h2
        · exact (h1 (cmpL_zero h h2)).elim
      exact k (cmpL_trans this hz)
  anti x y _ _ h k := by
    simp only [decide_eq_false_iff_not] at h k; exact cmpL_zero h k

theorem findSome_map {α β : Type} (f : Nat → Option α) (g : α → β) : ∀ l : List Nat, (l.findSome? fun i => (f i).map g) = (l.findSome? f).map g
  | [] => rfl
  | i :: l => by
    rw [List.findSome?_cons, List.findSome?_cons]
    cases h : f i with
    | some y => rfl
    | none => exact findSome_map f g l
/-- Where two lists differ first. -/
def cmpS (l m : List Int) (i : Nat) : Option Int :=
  if ¬ i < m.length then some 1 else if l.getD i 0 < m.getD i 0 then some (-1) else if m.getD i 0 < l.getD i 0 then some 1 else none
theorem cmpL_find : ∀ (l m : List Int) (j : Nat), ((List.range' j (l.length - j)).findSome? (cmpS l m)).getD (if l.length < m.length then -1 else 0) = cmpL (l.drop j) (m.drop j) ∨ l.length < j
  | l, m, j => by
    rcases Nat.lt_or_ge l.length j with h | h
    · exact .inr h
    · left
      generalize hn : l.length - j = n
      induction n generalizing j with
      | zero =>
        have h1 : l.drop j = [] := List.drop_eq_nil_of_le (by omega)
        rw [h1]
        simp only [List.range'_zero, List.findSome?_nil, Option.getD_none]
        by_cases h2 : l.length < m.length
        · rw [if_pos h2, List.drop_eq_getElem_cons (show j < m.length by omega)]; rfl
        · rw [if_neg h2, List.drop_eq_nil_of_le (show m.length ≤ j by omega)]; rfl
      | succ n ih =>
        have hj : j < l.length := by omega
        rw [List.range'_succ, List.findSome?_cons, List.drop_eq_getElem_cons hj]
        unfold cmpS
        by_cases h2 : j < m.length
        · rw [if_neg (fun h => h h2), List.drop_eq_getElem_cons h2]
          have g1 : l.getD j 0 = l[j] := by rw [List.getD_eq_getElem?_getD, List.getElem?_eq_getElem hj]; rfl
          have g2 : m.getD j 0 = m[j] := by rw [List.getD_eq_getElem?_getD, List.getElem?_eq_getElem h2]; rfl
          rw [g1, g2]
          simp only [cmpL]
          by_cases h3 : l[j] < m[j]
          · rw [if_pos h3, if_pos h3]; rfl
          · rw [if_neg h3, if_neg h3]
            by_cases h4 : m[j] < l[j]
            · rw [if_pos h4, if_pos h4]; rfl
            · rw [if_neg h4, if_neg h4]
              exact ih (j + 1) (by omega) (by omega)
        · rw [if_pos h2, List.drop_eq_nil_of_le (show m.length ≤ j by omega)]; rfl
theorem D64_len {l : List Int} (h : D64 l = true) : l.length ≤ 9223372036854775806 := Nat.le_of_ble_eq_true h

/-- slices.SortFunc, an empty slice too. -/
def sortFE {t : Ty} (D : List t.den → Bool) (lt : List t.den → List t.den → Bool) (l : List (List t.den)) : Option (List (List t.den)) := match l with
  | [] => some []
  | x :: r => sortFO D lt (x :: r)
def sortFH0 (t : Ty) (ck : Kd) (D : List t.den → Bool) (lt : List t.den → List t.den → Bool) (args : List PV) (H : Heap) : Option ResH := match args with
  | [.own r sz, p] => match hget H r with
    | some k => match k.tag with
      | some g => match castL g.t (.list t) g.l with
        | some l => match decK ck p [] 0 with
          | some _ => bif Nat.beq sz 1 && !k.frozen then some ⟨List (List t.den), sortFE D lt l, fun l' => (.tuple [], H.set r (some ⟨encAll (.list t) l', k.ty, k.grown, false, some ⟨.list t, l'⟩⟩))⟩ else none
          | none => none
        | none => none
      | none => none
    | none => none
  | _ => none
theorem castL_to {g : Tg} {u : Ty} {l : List u.den} (h : castL g.t u g.l = some l) : g = ⟨u, l⟩ := by
  obtain ⟨gt, gl⟩ := g
  obtain ⟨e, e2⟩ := castL_some h
  dsimp only at e
  subst e
  dsimp only at e2
  rw [e2]
theorem sortf_own0 {P : Program} {g g2 : FuncId} {t : Ty} {D : List t.den → Bool} {lt : List t.den → List t.den → Bool} (h1 : ShrOK P (g, sortFH t (.fn g2) D lt)) (h0 : ∀ ao c, PureCall P g [.lit (.slice ao 0 c), .lit (.func (.func g2) #[] #[])] (.tuple [])) :
    ShrOK P (g, sortFH0 t (.fn g2) D lt) := by
  intro args H rh h y hy n0 G μ w us hW hv
  change sortFH0 t (.fn g2) D lt args H = some rh at h
  show CallOK P n0 w G μ g us.toArray (rh.out y).1 (rh.out y).2
  unfold sortFH0 at h
  split at h
  · rename_i r sz p
    split at h
    · rename_i k hk
      split at h
      · rename_i gg hg
        split at h
        · rename_i l hl
          split at h
          · rename_i pk hpk
            obtain ⟨hb, h⟩ := condSome1 h
            have hb' := hb
            simp only [Bool.and_eq_true, Bool.not_eq_true'] at hb
            cases l with
            | cons x l =>
              simp only [Option.some.injEq] at h
              subst h
              exact h1 [.own r sz, p] H ⟨List (List t.den), sortFO D lt (x :: l), _⟩ (by simp only [sortFH, hk, hg, hl, hpk, hb', cond_true]) y hy hW hv
            | nil =>
              simp only [Option.some.injEq] at h
              subst h
              simp only [sortFE, Option.some.injEq] at hy
              subst hy
              have hp := decFn_sound (p := p) (g := g2) (x := pk) hpk
              subst hp
              have hsame : H.set r (some ⟨encAll (.list t) [], k.ty, k.grown, false, some ⟨.list t, []⟩⟩) = H := by
                have hgg := castL_to hl
                subst hgg
                have ht := (hW.tags r k _ (hget_some hk) hg).1
                apply List.ext_getElem?
                intro i
                by_cases hi : r = i
                · subst hi
                  rw [List.getElem?_set_self (List.getElem?_eq_some_iff.1 (hget_some hk)).1, hget_some hk]
                  obtain ⟨k1, k2, k3, k4, k5⟩ := k
                  dsimp only at ht hg hb ⊢
                  rw [ht, hg, hb.2]
                · rw [List.getElem?_set_ne hi]
              dsimp only
              rw [hsame]
              rw [VRs] at hv
              obtain ⟨v, vs, rfl, hv1, hv2⟩ := hv
              have hlen : gg.l.length = 0 := by
                rw [castL_to hl]; rfl
              have hm := (hW.tags r k gg (hget_some hk) hg).2
              obtain ⟨ao, c, rfl⟩ : ∃ ao c, v = .slice ao 0 c := by
                rw [VR] at hv1
                obtain ⟨n, e1, e2⟩ := hv1
                rw [hm, hlen] at e1
                cases e1
                rcases e2 with ⟨_, ao, e3⟩ | ⟨b, c, _, e3, _⟩
                · exact ⟨ao, 0, e3⟩
                · exact ⟨_, c, e3⟩
              refine pure_flat (n := depth) hW (h0 ao c) (args := [.lit (.slice ao 0 c), .lit (.func (.func g2) #[] #[])]) rfl rfl ?_
              rw [VRs]
              exact ⟨_, _, rfl, by rw [VR], hv2⟩
          · cases h
        · cases h
      · cases h
    · cases h
  · cases h
end Go.PM
