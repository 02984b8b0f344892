/- Chapter 35, plain law: EvennessMakes and EvennessGenerates answer true. -/
import Derived.Test.YtdlckpedbmjnnaaEvN
set_option linter.unusedSimpArgs false
set_option linter.unusedVariables false
namespace Go.PM
open Go Go.RowKit Go.Proofs
set_option maxRecDepth 100000

theorem f12_true : f12 () = some (true, ()) := by kernel_rfl
theorem f3_true (n k s : Int) : f3 (n, k, s, ()) = some (true, ()) := by
  unfold f3; dsimp only
  rw [f12_true, askO_s]
  simp only [cond_true]
  by_cases hb : badMk n k s
  · rw [f13_bad hb, askO_s]
    simp only [ltI_eq, not_dec, cond_dec]
    unfold badMk at hb
    by_cases h1 : n < 1
    · rw [if_pos h1]; rfl
    rw [if_neg h1]
    by_cases h2 : 60 < n
    · rw [if_pos h2]; rfl
    rw [if_neg h2]
    by_cases h3 : k < 1
    · rw [if_pos h3]; rfl
    rw [if_neg h3]
    by_cases h4 : n < k
    · rw [if_pos h4]; rfl
    rw [if_neg h4]
    by_cases h5 : s < 0
    · rw [if_pos h5]; rfl
    rw [if_neg h5, if_pos (by omega)]; rfl
  · unfold badMk at hb
    have hn : 1 ≤ n ∧ n ≤ 60 := by omega
    have hk : 1 ≤ k ∧ k ≤ n := by omega
    have hs : 0 ≤ s ∧ s < k := by omega
    rw [f13_good hn hk hs, askO_s]
    simp only [ltI_eq, not_dec, cond_dec]
    rw [if_neg (by omega), if_neg (by omega), if_neg (by omega), if_neg (by omega), if_neg (by omega), if_neg (by omega), loop3_eq _ _ hn hk hs, askO_s]
    simp only [eqI_eq, cond_dec, if_true]
    rw [f14_eq _ _ (by rw [mkS_length]; omega), askO_s, decide_eq_true rfl]
theorem f4_true (n g k st : Int) : f4 (n, g, (k, st), ()) = some (true, ()) := by
  unfold f4; dsimp only
  rw [f12_true, askO_s]
  simp only [cond_true]
  by_cases hb : badGen n g k st
  · rw [f15_bad hb, askO_s]
    simp only [ltI_eq, not_dec, cond_dec]
    unfold badGen at hb
    by_cases h1 : n < 1
    · rw [if_pos h1]; rfl
    rw [if_neg h1]
    by_cases h2 : 60 < n
    · rw [if_pos h2]; rfl
    rw [if_neg h2]
    by_cases h3 : k < 1
    · rw [if_pos h3]; rfl
    rw [if_neg h3]
    by_cases h4 : n < k
    · rw [if_pos h4]; rfl
    rw [if_neg h4]
    by_cases h5 : g < 0
    · rw [if_pos h5]; rfl
    rw [if_neg h5]
    by_cases h6 : ¬ g < n
    · rw [if_pos h6]; rfl
    rw [if_neg h6]
    by_cases h7 : st < 0
    · rw [if_pos h7]; rfl
    rw [if_neg h7, if_pos (by omega)]; rfl
  · unfold badGen at hb
    have hn : 1 ≤ n ∧ n ≤ 60 := by omega
    have hg : 0 ≤ g ∧ g < n := by omega
    have hs : 0 ≤ st ∧ st < n := by omega
    obtain ⟨m, rfl⟩ : ∃ m : Nat, k = (m : Int) := ⟨k.toNat, by omega⟩
    have hk : 1 ≤ m ∧ (m : Int) ≤ n := by omega
    rw [f15_good hn hk hg hs, askO_s]
    simp only [ltI_eq, not_dec, cond_dec]
    rw [if_neg (by omega), if_neg (by omega), if_neg (by omega), if_neg (by omega), if_neg (by omega), if_neg (by omega), if_neg (by omega), if_neg (by omega), f16_good hn hk hg hs, askO_s]
    cases hgen : gen n g m st with
    | some l =>
      simp only [cond_true, eqI_eq, cond_dec, if_true]
      rw [f14_eq _ _ (by rw [gen_length hgen]; omega), askO_s, decide_eq_true rfl]
    | none => rfl
end Go.PM
