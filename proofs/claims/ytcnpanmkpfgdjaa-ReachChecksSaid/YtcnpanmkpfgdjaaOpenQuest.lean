/- A question, opened; how many bytes its chord takes. -/
import Derived.Test.YtcnpanmkpfgdjaaOpen
import Derived.Test.YtcnpanmkpfgdjaaCloseB
import Derived.Test.YtcnpanmkpfgdjaaQuest
import Derived.SizedLaws
namespace Go.Proofs.Ytcnpanmkpfgdjaa
open Go.ChangeShapes Go.WideShapes Go.ChangeAt Go.RowKit Go.Joins Go.Sch

theorem Try.cellsRow : Try.prog.cellsOf 41 = 1 := by kernel_rfl
theorem Try.cellsRows : Try.prog.cellsOf 44 = 1 := by kernel_rfl
theorem Try.cellsLay : Try.prog.cellsOf 43 = 4 := by kernel_rfl
theorem Try.cellsQuest : Try.prog.cellsOf 46 = 6 := by kernel_rfl
theorem Try.bytesRow : Try.prog.bytesOf 41 = 24 := by kernel_rfl
theorem opens_i64 : Opens Try.prog 3 (intR .i64) := opens_int Try.underlying3 Try.cellsInt
theorem opens_row : Opens Try.prog 41 rowR := opens_slice Try.underlying41 Try.cellsRow opens_i64
theorem opens_rows : Opens Try.prog 44 rowsR := opens_slice Try.underlying44 Try.cellsRows opens_row
set_option maxRecDepth 100000 in
theorem opens_lay : Opens Try.prog 43 layR := by
  refine ⟨Try.cellsLay, fun H enc w base spare held fuel cs x h => ?_⟩
  obtain ⟨hl, n, hfs⟩ := fields Try.underlying43 h
  rw [Try.cellsLay] at hl
  match cs, hl with
  | [c0, c1, c2, c3], _ =>
    obtain ⟨k, e0⟩ := opens_field opens_i64 (hfs 0 _ rfl)
    obtain ⟨o, e1⟩ := opens_field opens_row (hfs 1 _ rfl)
    obtain ⟨r, e2⟩ := opens_field opens_row (hfs 2 _ rfl)
    obtain ⟨u, e3⟩ := opens_field opens_row (hfs 3 _ rfl)
    have f0 : [c0] = [Value.int .i64 k] := e0.1
    simp only [List.cons.injEq, and_true] at f0
    subst f0
    exact ⟨⟨k, o, r, u⟩, c1, c2, c3, rfl, e0.2, e1, e2, e3⟩
set_option maxRecDepth 100000 in
theorem open_quest {H : Type} {enc : TypeId × Value → H} {w : World} {base b0 : Nat} {spare : Nat → Bool} {held : Bool} {r : Reach} {v : Value} {d : DataW H} {p : List MemPlace} (hv : Value.okWide Try.prog w r b0 46 v) (h : DataW.Trod enc Try.prog w base spare held 46 v d p)
    (hsz : ∀ n ∈ d.weights Try.prog 46, n ≤ reachBytes) : ∃ (cs : List Value) (q : Quest), v = .agg cs.toArray ∧ questR.R w (fun _ => True) cs q ∧ q.chord.length * 24 ≤ 140737488351232 := by
  obtain ⟨cs, rfl, -⟩ := okWide_struct Try.underlying46 hv
  obtain ⟨fuel, hf⟩ := h
  obtain ⟨L, hL⟩ : ∃ L, L = cs.toList := ⟨_, rfl⟩
  have hcs : cs = L.toArray := by rw [hL]
  simp only [Value.cells] at hf
  rw [← hL] at hf
  clear hL
  subst hcs
  obtain ⟨xs, n, -, hx, hl, hxl, hfs⟩ := DataW.trod_struct Try.underlying46 hf
  rw [Try.cellsQuest] at hl
  match L, hl, xs, hxl with
  | [c0, c1, c2, c3, c4, c5], _, [y0, y1, y2], _ =>
    have g0 := hfs 0 _ rfl
    have g1 : DataW.trod enc Try.prog w base spare held n 44 (([c0, c1, c2, c3, c4, c5].drop 4).take (Try.prog.cellsOf 44)) = some y1 := hfs 1 _ rfl
    have g2 := hfs 2 _ rfl
    obtain ⟨l, e0⟩ := opens_field opens_lay ⟨y0, g0⟩
    obtain ⟨m, e2⟩ := opens_field opens_i64 ⟨y2, g2⟩
    rw [Try.cellsRows] at g1
    have g1' : DataW.trod enc Try.prog w base spare held n 44 [c4] = some y1 := g1
    obtain ⟨ch, e1⟩ := opens_rows.2 _ _ _ _ _ _ _ _ _ g1'
    have f0 : layR.R w (fun _ => True) [c0, c1, c2, c3] l := e0
    have f2 : [c5] = [Value.int .i64 m] := e2.1
    simp only [List.cons.injEq, and_true] at f2
    subst f2
    refine ⟨_, ⟨l, ch, m⟩, rfl, ⟨[c0, c1, c2, c3], c4, rfl, f0, e1, e2.2⟩, ?_⟩
    simp only [Prod.mk.injEq] at hx
    rw [hx.1] at hsz
    obtain ⟨ao, cap, hcv, -⟩ := e1
    simp only [List.cons.injEq, and_true] at hcv
    rcases DataW.trod_slice Try.underlying44 g1' with ⟨h1, -⟩ | ⟨a, len, cp, elems, rest, k, -, h1, h2, -, -, -, h3, -⟩
    · simp only [List.cons.injEq, and_true] at h1
      rw [hcv] at h1
      simp only [Value.slice.injEq] at h1
      show ch.length * 24 ≤ _
      omega
    · simp only [List.cons.injEq, and_true] at h1
      rw [hcv] at h1
      simp only [Value.slice.injEq] at h1
      have hw : (elems.length + rest.length) * 24 ≤ reachBytes := by
        refine hsz _ ?_
        rw [h2]
        simp only [List.map_cons, List.map_nil, DataW.weights, Try.underlying46]
        simp [DataW.weightsEach, DataW.weights, Try.underlying44, Try.bytesRow]
      unfold reachBytes at hw
      show ch.length * 24 ≤ _
      omega
end Go.Proofs.Ytcnpanmkpfgdjaa
