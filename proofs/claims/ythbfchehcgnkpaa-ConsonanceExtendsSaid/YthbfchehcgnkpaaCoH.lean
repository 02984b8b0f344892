/- Chapter 40, plain law: what Compare says; SortFunc by it. -/
import Derived.Test.YthbfchehcgnkpaaCoG
import Derived.Test.YthbfchehcgnkpaaPnY
import Derived.Test.YthbfchehcgnkpaaCoS
import Derived.Test.YthbfchehcgnkpaaPmP
set_option linter.unusedSimpArgs false
set_option linter.unusedVariables false
namespace Go.PM
open Go Go.RowKit Go.Proofs
set_option maxRecDepth 100000

theorem f89_eq (a : Int) : f89 (a, ()) = some (false, ()) := by
  unfold f89; dsimp only
  simp [eqI_eq]
theorem f82_eq (a b : Int) : f82 (a, b, ()) = some (if a < b then -1 else if b < a then 1 else 0, ()) := by
  unfold f82; dsimp only
  rw [f89_eq, askO_s, f89_eq, askO_s]
  simp only [cond_false, ltI_eq, cond_dec]
  by_cases h1 : a < b
  · rw [if_pos h1, if_pos h1]
  · rw [if_neg h1, if_neg h1]
    by_cases h2 : b < a
    · rw [if_pos h2, if_pos h2]
    · rw [if_neg h2, if_neg h2]
theorem f60_eq (l m : List Int) (hl : l.length ≤ 9223372036854775806) (hm : m.length ≤ 9223372036854775806) : f60 (l, m, ()) = some (cmpL l m, ()) := by
  have hloop : loop60_0 (l, m, l, (l.length : Int), 0, ()) = some (((List.range l.length).findSome? fun i => (cmpS l m i).map fun y => .inl (y, ())).getD (.inr (l, m, ()))) := by
    refine loopN_find (N := 2 ^ 64) (step := step60_0) (fun i => (l, m, l, (l.length : Int), (i : Int), ())) (fun i => (cmpS l m i).map fun y => .inl (y, ())) l.length (.inr (l, m, ())) (by omega) ?_ ?_
    · intro i hi
      simp only [step60_0, ltI_eq, eqI_eq, idxOk_eq, not_dec, cond_dec, Int.toNat_natCast]
      rw [if_pos (by omega), if_pos (by omega), f82_eq, askO_s, wrap64s i (by omega)]
      by_cases h2 : i < m.length
      · rw [if_neg (by omega), if_pos (by omega)]
        by_cases h3 : l.getD i 0 < m.getD i 0
        · have hc : cmpS l m i = some (-1) := by unfold cmpS; rw [if_neg (fun h => h h2), if_pos h3]
          rw [hc, if_pos h3, if_pos (by decide)]; rfl
        · by_cases h4 : m.getD i 0 < l.getD i 0
          · have hc : cmpS l m i = some 1 := by unfold cmpS; rw [if_neg (fun h => h h2), if_neg h3, if_pos h4]
            rw [hc, if_neg h3, if_pos h4, if_pos (by decide)]; rfl
          · have hc : cmpS l m i = none := by unfold cmpS; rw [if_neg (fun h => h h2), if_neg h3, if_neg h4]
            rw [hc, if_neg h3, if_neg h4, if_neg (by decide)]; rfl
      · have hc : cmpS l m i = some 1 := by unfold cmpS; rw [if_pos h2]
        rw [hc, if_pos (by omega)]; rfl
    · simp only [step60_0, ltI_eq, cond_dec]
      rw [if_neg (by omega)]
  have hfind := (cmpL_find l m 0).resolve_right (by omega)
  rw [Nat.sub_zero, ← List.range_eq_range'] at hfind
  simp only [List.drop_zero] at hfind
  unfold f60; dsimp only
  rw [hloop, askO_s, findSome_map, ← hfind]
  cases (List.range l.length).findSome? (cmpS l m) with
  | some y => rfl
  | none =>
    simp only [Option.map_none, Option.getD_none, onSum_inr, ltI_eq, cond_dec]
    by_cases h : l.length < m.length
    · rw [if_pos h, if_pos (by omega)]
    · rw [if_neg h, if_neg (by omega)]
theorem f36_eq (l m : List Int) (hl : l.length ≤ 9223372036854775806) (hm : m.length ≤ 9223372036854775806) : f36 (l, m, ()) = some (cmpL l m, ()) := by
  unfold f36; dsimp only
  rw [f60_eq l m hl hm, askO_s]

theorem sort_none (ao : Option Addr) (c : Nat) : PureCall Try.prog 35 [.lit (.slice ao 0 c), .lit (.func (.func 36) #[] #[])] (.tuple []) :=
  runP_sound (cfgs := cfgOf Try.prog) (sh := fun _ => false) (prim := fun _ _ => none) (L := 1000) (n := 12) progOK (fun _ _ _ h => by cases h) (by kernel_rfl)
abbrev s35a : Shr := (35, sortFH0 (.int .i64) (.fn 36) D64 fun x y => decide (cmpL x y < 0))
theorem s35a_ok : ShrOK Try.prog s35a :=
  sortf_own0 (sortf_own (.inl rfl) loL fn36 (fun x y hx hy => f36_eq x y (D64_len hx) (D64_len hy)) (enters Try.func35 (by kernel_rfl) (by kernel_rfl)) (enters Try.func36 (by kernel_rfl) (by kernel_rfl))
    fun enc h1 cf hO cb blk off cap d w hcmp hH hblk hsz => Try.slices_SortFunc enc h1 cf hO 36 cb blk off cap d w (enters Try.func36 (by kernel_rfl) (by kernel_rfl)) hcmp hH hblk hsz) sort_none
end Go.PM
