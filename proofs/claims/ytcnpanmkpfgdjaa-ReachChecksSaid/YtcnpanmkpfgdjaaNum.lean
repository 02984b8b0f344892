/- Plain lemmas on numbers (no program). -/
import Derived.Test.YtcnpanmkpfgdjaaBase
namespace Go.Sch
open Go Go.RowKit
theorem tmod_in (a : Int) {b : Int} (hb : 0 < b) : -b < a.tmod b ∧ a.tmod b < b ∧ (0 ≤ a → 0 ≤ a.tmod b) := by
  by_cases h : 0 ≤ a
  · rw [Int.tmod_eq_emod_of_nonneg h]
    have h1 := Int.emod_nonneg a (show b ≠ 0 by omega)
    have h2 := Int.emod_lt_of_pos a hb
    omega
  · have e : a.tmod b = -((-a) % b) := by
      rw [← Int.tmod_eq_emod_of_nonneg (show 0 ≤ -a by omega), Int.neg_tmod, Int.neg_neg]
    rw [e]
    have h1 := Int.emod_nonneg (-a) (show b ≠ 0 by omega)
    have h2 := Int.emod_lt_of_pos (-a) hb
    omega
end Go.Sch
