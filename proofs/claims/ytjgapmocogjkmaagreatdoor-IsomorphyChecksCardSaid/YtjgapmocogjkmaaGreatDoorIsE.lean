/- Chapter 46, plain law: Checks. -/
import Derived.Test.YtjgapmocogjkmaaGreatDoorIsAB
set_option linter.unusedSimpArgs false
set_option linter.unusedVariables false
namespace Go.PM
open Go Go.RowKit Go.Proofs
set_option maxRecDepth 100000

abbrev zW : (Int × Int × Int × Int) × Int × Int := ((0, 0, 0, 0), 0, 0)
theorem f20_err {l : Lay} (x y : Int) (hc : ¬ ce l = 0) : f20 (l, x, y, ()) = some (zL, ce l, ()) := by
  have h24 := f24_eq l
  unfold f20
  show (askO (f24 (l, ())) _) = _
  rw [h24, askO_s]
  show (bif !(eqI (ce l) 0) then _ else _) = _
  rw [eqI_eq, not_dec, cond_dec, if_pos hc]
theorem f26_err {l : Lay} (hc : ¬ ce l = 0) : f26 (l, ()) = some (zL, ce l, ()) := by
  have h24 := f24_eq l
  unfold f26
  show (askO (f24 (l, ())) _) = _
  rw [h24, askO_s]
  show (bif !(eqI (ce l) 0) then _ else _) = _
  rw [eqI_eq, not_dec, cond_dec, if_pos hc]
theorem f28_err {l : Lay} (hc : ¬ ce l = 0) : f28 (l, ()) = some ([], ce l, ()) := by
  have h24 := f24_eq l
  unfold f28
  show (askO (f24 (l, ())) _) = _
  rw [h24, askO_s]
  show (bif !(eqI (ce l) 0) then _ else _) = _
  rw [eqI_eq, not_dec, cond_dec, if_pos hc]
theorem f27_err {a : Lay} (b : Lay) (hc : ¬ ce a = 0) : f27 (a, b, ()) = some (zW, false, ce a, ()) := by
  have h24 := f24_eq a
  have hl : loop27_0 (a, b, zW, false, 0, (a, b), 0, ()) = some (.inl (zW, false, ce a, ())) := by
    unfold loop27_0
    rw [show (2 : Nat) ^ 64 = 18446744073709551615 + 1 from rfl, loopN_succ]
    have hs : step27_0 (a, b, zW, false, 0, (a, b), 0, ()) = some (.inr (.inl (zW, false, ce a, ()))) := by
      show (askO (f24 (a, ())) _) = _
      rw [h24, askO_s]
      show (bif !(eqI (ce a) 0) then _ else _) = _
      rw [eqI_eq, not_dec, cond_dec, if_pos hc]
    rw [hs]
  unfold f27
  show (askO (loop27_0 (a, b, zW, false, 0, (a, b), 0, ())) _) = _
  rw [hl, askO_s]
  rfl
theorem f17_zero : f17 (zL, ()) = some (true, ()) := by
  rw [f17_eq ⟨by decide, by decide, by decide⟩]; rfl
theorem f6_true (a b : Lay) : f6 (a, b, ()) = some (true, ()) := by
  have h12 : f12 () = some (true, ()) := rfl
  obtain ⟨ba, ha, hsa⟩ := f13_some a
  obtain ⟨bb, hb, hsb⟩ := f13_some b
  unfold f6
  show (askO (f12 ()) _) = _
  rw [h12, askO_s]
  show (askO (f13 (a, ())) _) = _
  rw [ha, askO_s]
  cases ba with
  | false => rfl
  | true =>
    have hs := hsa rfl
    show (askO (f13 (b, ())) _) = _
    rw [hb, askO_s]
    cases bb with
    | false => rfl
    | true =>
      have aa := f25_eq a hs
      rw [decide_eq_true rfl] at aa
      have tl : ¬ ce a = 0 → f15 (a, (1, 0, 0, 1), ()) = some (zL, ce a, ()) := fun hc => f15_err _ hc
      have e0 : eqI (ce a) (ce a) = true := by rw [eqI_eq]; exact decide_eq_true rfl
      show (askO (f14 (a, ())) _) = _
      rw [f14_eq, askO_s]
      show (askO (f24 (a, ())) _) = _
      rw [f24_eq, askO_s]
      show (bif !(eqI (ce a) (ce a)) then _ else _) = _
      rw [e0]
      show (askO (f25 (a, b, ())) _) = _
      rw [f25_eq b hs, askO_s]
      show (askO (f19 (a, b, ())) _) = _
      rw [f19_eq b hs, askO_s]
      by_cases hab : a = b
      · rw [decide_eq_true hab]
        show (askO (f25 (a, a, ())) _) = _
        rw [aa, askO_s]
        show (bif eqI (ce a) 0 then _ else _) = _
        rw [eqI_eq, cond_dec]
        by_cases hc : ce a = 0
        · rw [if_pos hc]
        · rw [if_neg hc]
          show (askO (f15 (a, (1, 0, 0, 1), ())) _) = _
          rw [tl hc, askO_s]
          show (askO (f20 (a, 1, 1, ())) _) = _
          rw [f20_err 1 1 hc, askO_s]
          show (askO (f26 (a, ())) _) = _
          rw [f26_err hc, askO_s]
          show (askO (f27 (a, b, ())) _) = _
          rw [f27_err b hc, askO_s]
          show (askO (f28 (a, ())) _) = _
          rw [f28_err hc, askO_s]
          show (askO (f17 (zL, ())) _) = _
          rw [f17_zero, askO_s]
          simp only [e0, cond_true]
          show (askO (f17 (zL, ())) _) = _
          rw [f17_zero, askO_s]
          show (askO (f17 (zL, ())) _) = _
          rw [f17_zero, askO_s]
      · rw [decide_eq_false hab]
        show (askO (f25 (a, a, ())) _) = _
        rw [aa, askO_s]
        show (bif eqI (ce a) 0 then _ else _) = _
        rw [eqI_eq, cond_dec]
        by_cases hc : ce a = 0
        · rw [if_pos hc]
        · rw [if_neg hc]
          show (askO (f15 (a, (1, 0, 0, 1), ())) _) = _
          rw [tl hc, askO_s]
          show (askO (f20 (a, 1, 1, ())) _) = _
          rw [f20_err 1 1 hc, askO_s]
          show (askO (f26 (a, ())) _) = _
          rw [f26_err hc, askO_s]
          show (askO (f27 (a, b, ())) _) = _
          rw [f27_err b hc, askO_s]
          show (askO (f28 (a, ())) _) = _
          rw [f28_err hc, askO_s]
          show (askO (f17 (zL, ())) _) = _
          rw [f17_zero, askO_s]
          simp only [e0, cond_true]
          show (askO (f17 (zL, ())) _) = _
          rw [f17_zero, askO_s]
          show (askO (f17 (zL, ())) _) = _
          rw [f17_zero, askO_s]
end Go.PM
