/- The plain machine, 10: an operation looks at its operands alone. No program. -/
import Derived.Test.YtjgapmocogjkmaaGreatDoorPmI
set_option linter.unusedSimpArgs false
set_option linter.unusedVariables false
namespace Go.PM
open Go Go.RowKit

section
variable {P : Program} {F F' : Frm} {H : Heap}

theorem allVal_congr : ∀ {xs : List Operand}, (∀ x ∈ xs, ev F' x = ev F x) → allVal F' xs = allVal F xs
  | [], _ => rfl
  | x :: xs, h => by
    simp only [allVal, h x List.mem_cons_self]
    rw [allVal_congr fun y hy => h y (List.mem_cons_of_mem _ hy)]
theorem xPure_congr {o : Oper} (h : ∀ x ∈ o.op.operands, ev F' x = ev F x) : xPure P F' o = xPure P F o := by
  unfold xPure
  cases hs : isSelect o.op with
  | true => rfl
  | false =>
    rw [allVal_congr fun x hx => h x (Array.mem_toList_iff.1 hx)]
    rw [execOp_congr (ρ := valOf F') (ρ' := valOf F) o (fun cs b e => by simp [isSelect, e] at hs) fun x hx => by simp only [valOf, h x hx]]
theorem mapPair_congr {ps : List (Nat × Operand)} (h : ∀ p ∈ ps, ev F' p.2 = ev F p.2) : (ps.map fun p => (p.1, ev F' p.2)) = ps.map fun p => (p.1, ev F p.2) :=
  List.map_congr_left fun p hp => by rw [h p hp]

theorem opu_congr {cl : Callee} {o : Oper} (h : ∀ x ∈ o.op.operands, ev F' x = ev F x) : opu P cl F' H o = opu P cl F H o := by
  have hp := xPure_congr (P := P) h
  have hm : ∀ {xs : List Operand}, (∀ x ∈ xs, x ∈ o.op.operands) → xs.map (ev F') = xs.map (ev F) := fun hx => List.map_congr_left fun x hm => h x (hx x hm)
  unfold opu
  rw [hp]
  cases hop : o.op
  case build t parts =>
    have := mapPair_congr (F := F) (F' := F') (ps := parts.toList) fun p hpm => h p.2 (by simp only [hop, Op.operands]; simp; exact ⟨p.1, by simpa using hpm⟩)
    simp only [xBuild, this]
  case buildSlice t n parts =>
    have := mapPair_congr (F := F) (F' := F') (ps := parts.toList) fun p hpm => h p.2 (by simp only [hop, Op.operands]; simp; exact ⟨p.1, by simpa using hpm⟩)
    simp only [xBuildSlice, xBuildSliceH, this]
  case makeFunc fn first caps =>
    have h1 := hm (xs := first.toList) fun x hx => (by simp [hop, Op.operands]; exact .inl (by simpa using hx))
    have h2 := hm (xs := caps.toList) fun x hx => (by simp [hop, Op.operands]; exact .inr (by simpa using hx))
    simp only [h1, h2]
  case slice t x lo hi mx =>
    have hx := h x (by simp [hop, Op.operands])
    have hlo : lo.map (ev F') = lo.map (ev F) := by
      cases lo with
      | none => rfl
      | some y => simp [h y (by simp [hop, Op.operands])]
    have hhi : hi.map (ev F') = hi.map (ev F) := by
      cases hi with
      | none => rfl
      | some y => simp [h y (by simp [hop, Op.operands])]
    cases mx <;> simp only [hx, hlo, hhi]
  case call c =>
    have hargs := hm (xs := c.args.toList) fun x hx => by simp [hop, Op.operands, Call.operands]; exact .inr (by simpa using hx)
    have h0 : ev F' (c.args.getD 0 (.const undef)) = ev F (c.args.getD 0 (.const undef)) := by
      by_cases h1 : 0 < c.args.size
      · refine h _ ?_
        simp only [hop, Op.operands, Call.operands, Array.mem_append]
        right
        simp [h1]
      · have : c.args = #[] := Array.eq_empty_of_size_eq_zero (by omega)
        rw [this]; rfl
    have h2 : ∀ s x, c.args.toList = [s, x] → ev F' s = ev F s ∧ ev F' x = ev F x := fun s x hc => by
      have := hargs
      rw [hc] at this
      simpa using this
    have hf : ∀ f, c.callee = .value f → ev F' f = ev F f := fun f hc => h f (by simp [hop, Op.operands, Call.operands, hc])
    simp only [hargs, h0]
    split
    · rfl
    · split
      · rename_i s x hc
        rw [(h2 s x hc).1, (h2 s x hc).2]
      · rfl
    · split
      · rename_i s x hc
        rw [(h2 s x hc).1, (h2 s x hc).2]
      · rfl
    · split
      · rename_i s hc
        have h1 : ev F' s = ev F s := by
          have := hargs
          rw [hc] at this
          simpa using this
        rw [h1]
      · rfl
    · rfl
    · rename_i f hc
      rw [hf f hc]
    · rfl
  all_goals
    first
    | rfl
    | (simp only [hop, Op.operands] at h
       simp at h
       simp [h])
end
end Go.PM
