/- A list of keys, opened. -/
import Derived.Test.YtcnpanmkpfgdjaaClose
import Derived.Test.YtcnpanmkpfgdjaaBase
import Derived.Deep.SlicePairs
namespace Go.Proofs.Ytcnpanmkpfgdjaa
open Go.ChangeShapes Go.WideShapes Go.ChangeAt Go.RowKit Go.Joins Go.Sch
set_option maxRecDepth 10000 in
theorem open_keys {H : Type} {enc : TypeId × Value → H} {w : World} {base b0 : Nat} {spare : Nat → Bool} {held : Bool} {r : Reach} {v : Value} {d : DataW H} {p : List MemPlace} (hv : Value.okWide Try.prog w r b0 31 v) (h : DataW.Trod enc Try.prog w base spare held 31 v d p) :
    ∃ l : List (Int × Int), keysR.R w (fun _ => True) [v] l := by
  obtain ⟨a0, len, cap, rfl⟩ := okWide_slice Try.underlying31 hv
  obtain ⟨fuel, hf⟩ := h
  rcases Deep.open_slice_pairs Try.underlying31 Try.underlying23 Try.cellsKey rfl rfl Try.cellsInt Try.cellsInt hf with ⟨hcs, -⟩ | ⟨a, len', cap', m, n, V0, V1, D0, D1, P0, P1, hcs, -, hl, hm, hmm, -, hx⟩
  · simp [Value.cells] at hcs
    obtain ⟨rfl, rfl, rfl⟩ := hcs
    exact ⟨[], _, _, rfl, Nat.le_refl _, by decide, .inl rfl⟩
  · simp [Value.cells] at hcs
    obtain ⟨rfl, rfl, rfl⟩ := hcs
    have each : ∀ i, i < len → ∃ k : Int × Int, w.cell? (a.add (i * 2)) = some (.int .i64 k.1) ∧ w.cell? (a.add (i * 2 + 1)) = some (.int .i64 k.2) ∧ (Lit.int .i64 k.1).wf = true ∧ (Lit.int .i64 k.2).wf = true := by
      intro i hi
      obtain ⟨h1, h2, h3, h4⟩ := hx i (by rw [hmm]; split <;> omega)
      obtain ⟨x, e0, -, wx⟩ := DataW.trod_int Try.underlying3 h3
      obtain ⟨y, e1, -, wy⟩ := DataW.trod_int Try.underlying3 h4
      simp only [List.cons.injEq, and_true] at e0 e1
      exact ⟨(x, y), by rw [h1, e0], by rw [h2, e1], wx, wy⟩
    obtain ⟨q, hq⟩ := Deep.choose_lt each
    refine ⟨(List.range len).map q, some a, cap, by simp, by simpa using hl, hm, ?_⟩
    by_cases h0 : len = 0
    · exact .inl (by simp [h0])
    · obtain ⟨b, off, spot⟩ := a
      have hspot : spot = none := by simpa [Addr.add] using World.cell?_spot (hq 0 (by omega)).1
      subst hspot
      refine .inr ⟨b, off, rfl, trivial, fun i hi => ⟨keyC (q i), ?_, by simp, ?_⟩⟩
      · have hi' : i < len := by simpa using hi
        obtain ⟨h1, h2, -, -⟩ := hq i hi'
        intro j hj
        match j, hj with
        | 0, _ => exact (by rwa [add_plain] at h1 : w.cell? ⟨b, off + i * 2, none⟩ = some (.int .i64 (q i).1))
        | 1, _ => exact (by rwa [add_plain] at h2 : w.cell? ⟨b, off + (i * 2 + 1), none⟩ = some (.int .i64 (q i).2))
      · have hi' : i < len := by simpa using hi
        obtain ⟨-, -, h3, h4⟩ := hq i hi'
        simpa using ⟨h3, h4⟩
end Go.Proofs.Ytcnpanmkpfgdjaa
