/- Arrays of two int8, opened. -/
import Derived.Test.YtcnpanmkpfgdjaaClose
import Derived.Test.YtcnpanmkpfgdjaaBase
namespace Go.Sch
open Go.ChangeShapes Go.WideShapes Go.ChangeAt Go.RowKit Go.Joins

theorem cells_two {H : Type} {enc : TypeId × Value → H} {P : Program} {w : World} {base : Nat} {spare : Nat → Bool} {held : Bool} {t e : TypeId} {fuel : Nat} {cs : List Value} {x : DataW H × List MemPlace}
    (ht : P.underlying t = some (.array 2 e)) (he : P.underlying e = some (.int .i8)) (hce : P.cellsOf e = 1) (hct : P.cellsOf t = 2) (h : DataW.trod enc P w base spare held fuel t cs = some x) :
    ∃ a b : Int, cs = [.int .i8 a, .int .i8 b] ∧ (-128 ≤ a ∧ a ≤ 127) ∧ (-128 ≤ b ∧ b ≤ 127) := by
  obtain ⟨xs, m, -, -, hl, hx, hi⟩ := DataW.trod_array ht h
  rw [hct] at hl
  rw [hce] at hi
  match cs, hl with
  | [c0, c1], _ =>
    match xs, hx with
    | [y0, y1], _ =>
      have h0 := hi 0 (by decide)
      have h1 := hi 1 (by decide)
      simp at h0 h1
      obtain ⟨a, e0, -, wa⟩ := DataW.trod_int he h0
      obtain ⟨b, e1, -, wb⟩ := DataW.trod_int he h1
      simp only [List.cons.injEq, and_true] at e0 e1
      subst e0 e1
      exact ⟨a, b, rfl, bounds_i8 wa, bounds_i8 wb⟩
theorem open_arr8 {H : Type} {enc : TypeId × Value → H} {P : Program} {w : World} {base b0 : Nat} {spare : Nat → Bool} {held : Bool} {r : Reach} {v : Value} {d : DataW H} {p : List MemPlace} {t e : TypeId}
    (ht : P.underlying t = some (.array 2 e)) (he : P.underlying e = some (.int .i8)) (hce : P.cellsOf e = 1) (hct : P.cellsOf t = 2) (hv : Value.okWide P w r b0 t v) (h : DataW.Trod enc P w base spare held t v d p) :
    ∃ a b : Int, v = .agg #[.int .i8 a, .int .i8 b] ∧ (-128 ≤ a ∧ a ≤ 127) ∧ (-128 ≤ b ∧ b ≤ 127) := by
  simp only [Value.okWide, ht] at hv
  obtain ⟨cs, rfl, h2, -⟩ := hv
  obtain ⟨fuel, hf⟩ := h
  obtain ⟨a, b, hc, p1, p2⟩ := cells_two ht he hce hct hf
  refine ⟨a, b, ?_, p1, p2⟩
  simp only [Value.cells] at hc
  congr 1
  apply Array.ext'
  simpa using hc
end Go.Sch
