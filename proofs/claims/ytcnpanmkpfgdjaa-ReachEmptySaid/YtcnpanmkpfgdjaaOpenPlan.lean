/- A plan of the law package, opened. -/
import Derived.Test.YtcnpanmkpfgdjaaOpen
import Derived.Test.YtcnpanmkpfgdjaaCloseC
import Derived.Test.YtcnpanmkpfgdjaaMake
namespace Go.Proofs.Ytcnpanmkpfgdjaa
open Go.ChangeShapes Go.WideShapes Go.ChangeAt Go.RowKit Go.Joins Go.Sch

theorem opens_bool {P : Program} {t : TypeId} (ht : P.underlying t = some .bool) (hc : P.cellsOf t = 1) : Opens P t boolR := by
  refine ⟨hc, fun H enc w base spare held fuel cs x h => ?_⟩
  obtain ⟨b, e, -⟩ := DataW.trod_bool ht h
  exact ⟨b, e⟩
theorem Try.cells8 : Try.prog.cellsOf 35 = 1 := by kernel_rfl
theorem Try.cells28 : Try.prog.cellsOf 36 = 2 := by kernel_rfl
theorem Try.cellsS28 : Try.prog.cellsOf 37 = 1 := by kernel_rfl
theorem Try.cellsBool : Try.prog.cellsOf 4 = 1 := by kernel_rfl
theorem Try.cellsU8 : Try.prog.cellsOf 5 = 1 := by kernel_rfl
theorem Try.cellsPlan : Try.prog.cellsOf 39 = 10 := by kernel_rfl
theorem opens_pair8 : Opens Try.prog 36 pair8R := by
  refine ⟨Try.cells28, fun H enc w base spare held fuel cs x h => ?_⟩
  obtain ⟨a, b, e, h1, h2⟩ := cells_two Try.underlying36 Try.underlying35 Try.cells8 Try.cells28 h
  exact ⟨(a, b), e, h1, h2⟩
theorem opens_chord : Opens Try.prog 37 (sliceR pair8R) := opens_slice Try.underlying37 Try.cellsS28 opens_pair8
set_option maxRecDepth 100000 in
theorem open_plan {H : Type} {enc : TypeId × Value → H} {w : World} {base b0 : Nat} {spare : Nat → Bool} {held : Bool} {r : Reach} {v : Value} {d : DataW H} {p : List MemPlace} (hv : Value.okWide Try.prog w r b0 39 v) (h : DataW.Trod enc Try.prog w base spare held 39 v d p) :
    ∃ (hex two : Bool) (o1 o2 r1 r2 u1 u2 m : Int) (c : Value) (l : List (Int × Int)), v = .agg #[.bool hex, .bool two, .int .i8 o1, .int .i8 o2, .int .i8 r1, .int .i8 r2, .int .i8 u1, .int .i8 u2, c, .int .u8 m] ∧
      (sliceR pair8R).R w (fun _ => True) [c] l ∧ 0 ≤ m ∧ m ≤ 255 := by
  obtain ⟨cs, rfl, hsz⟩ := okWide_struct Try.underlying39 hv
  obtain ⟨fuel, hf⟩ := h
  obtain ⟨hl, n, hfs⟩ := fields Try.underlying39 hf
  rw [Try.cellsPlan] at hl
  obtain ⟨L, hL⟩ : ∃ L, L = cs.toList := ⟨_, rfl⟩
  have hcs : cs = L.toArray := by rw [hL]
  simp only [Value.cells] at hl hfs
  rw [← hL] at hl hfs
  clear hL hf
  subst hcs
  match L, hl with
  | [c0, c1, c2, c3, c4, c5, c6, c7, c8, c9], _ =>
    obtain ⟨hex, e0⟩ := opens_field (opens_bool Try.underlying4 Try.cellsBool) (hfs 0 _ rfl)
    obtain ⟨two, e1⟩ := opens_field (opens_bool Try.underlying4 Try.cellsBool) (hfs 1 _ rfl)
    obtain ⟨o, e2⟩ := opens_field opens_pair8 (hfs 2 _ rfl)
    obtain ⟨r, e3⟩ := opens_field opens_pair8 (hfs 3 _ rfl)
    obtain ⟨u, e4⟩ := opens_field opens_pair8 (hfs 4 _ rfl)
    obtain ⟨l, e5⟩ := opens_field opens_chord (hfs 5 _ rfl)
    obtain ⟨m, e6⟩ := opens_field (opens_int Try.underlying5 Try.cellsU8) (hfs 6 _ rfl)
    have f0 : [c0] = [Value.bool hex] := e0
    have f1 : [c1] = [Value.bool two] := e1
    have f2 : [c2, c3] = [Value.int .i8 o.1, .int .i8 o.2] := e2.1
    have f3 : [c4, c5] = [Value.int .i8 r.1, .int .i8 r.2] := e3.1
    have f4 : [c6, c7] = [Value.int .i8 u.1, .int .i8 u.2] := e4.1
    have f5 : (sliceR pair8R).R w (fun _ => True) [c8] l := e5
    have f6 : [c9] = [Value.int .u8 m] := e6.1
    have f7 : (Lit.int .u8 m).wf = true := e6.2
    simp only [List.cons.injEq, and_true] at f0 f1 f2 f3 f4 f6
    obtain ⟨rfl, rfl⟩ := f2
    obtain ⟨rfl, rfl⟩ := f3
    obtain ⟨rfl, rfl⟩ := f4
    subst f0 f1 f6
    exact ⟨hex, two, o.1, o.2, r.1, r.2, u.1, u.2, m, c8, l, rfl, f5, (bounds_u8 f7).1, (bounds_u8 f7).2⟩
end Go.Proofs.Ytcnpanmkpfgdjaa
