/- All(12, 4), an example of the chapter: a closed run of the plain machine, evaluated by the kernel. -/
import Derived.Test.YtdlckpedbmjnnaaPnH
import Derived.Test.YtdlckpedbmjnnaaPmP
set_option linter.unusedSimpArgs false
set_option linter.unusedVariables false
namespace Go.PM
open Go Go.RowKit Go.Proofs
set_option maxRecDepth 100000
/-- Functions that sort or compact in place. -/
def sharing : List Nat := [31, 44, 47, 54, 56, 58, 69]
def isSharing : List Nat → Nat → Bool
  | [], _ => false
  | a :: r, g => bif Nat.beq a g then true else isSharing r g
theorem all_run : runP Try.prog (cfgOf Try.prog) (isSharing sharing) (fun _ _ => none) 1000 12 19 [.lit (.int .i64 12), .lit (.int .i64 4)] = some (encR [.list (.list (.int .i64)), .int .i64] ([[0, 3, 6, 9], [1, 4, 7, 10], [2, 5, 8, 11]], 0, ())) := by kernel_rfl
def f19k (x : denK [.int .i64, .int .i64]) : Option (denK [.list (.list (.int .i64)), .int .i64]) := match x with
  | (n, k, ()) => bif eqI n 12 && eqI k 4 then some ([[0, 3, 6, 9], [1, 4, 7, 10], [2, 5, 8, 11]], 0, ()) else none
theorem fn19k : FnOK Try.prog 19 [.int .i64, .int .i64] [.list (.list (.int .i64)), .int .i64] f19k := by
  rintro ⟨n, k, ⟨⟩⟩ y h
  simp only [f19k, eqI_eq] at h
  by_cases h1 : n = 12
  · by_cases h2 : k = 4
    · subst h1; subst h2
      simp only [decide_true, Bool.and_self, cond_true, Option.some.injEq] at h
      subst h
      exact runP_sound progOK (fun _ _ _ h => by cases h) all_run
    · simp [h2] at h
  · simp [h1] at h
abbrev e19k : Ent := ⟨19, [.int .i64, .int .i64], [.list (.list (.int .i64)), .int .i64], f19k⟩
theorem e19k_ok : Ent.OK Try.prog e19k := fn19k
end Go.PM
