/- How an argument opens: from the reader's word on a type to what the cells hold (no program). -/
import Derived.Test.YtcnpanmkpfgdjaaClose
import Derived.Test.YtcnpanmkpfgdjaaBase
import Derived.Deep.SlicePairs
namespace Go.Sch
open Go Go.ChangeShapes Go.WideShapes Go.ChangeAt Go.RowKit Go.Joins

/-- Cells that can be read at type t hold some a as E says. -/
def Opens {α : Type} (P : Program) (t : TypeId) (E : Rep α) : Prop :=
  P.cellsOf t = E.size ∧ ∀ (H : Type) (enc : TypeId × Value → H) (w : World) (base : Nat) (spare : Nat → Bool) (held : Bool) (fuel : Nat) (cs : List Value) (x : DataW H × List MemPlace),
    DataW.trod enc P w base spare held fuel t cs = some x → ∃ a, E.R w (fun _ => True) cs a
theorem opens_int {P : Program} {t : TypeId} {k : IntKind} (ht : P.underlying t = some (.int k)) (hc : P.cellsOf t = 1) : Opens P t (intR k) := by
  refine ⟨hc, fun H enc w base spare held fuel cs x h => ?_⟩
  obtain ⟨a, e, -, wf⟩ := DataW.trod_int ht h
  exact ⟨a, e, wf⟩
theorem opens_slice {α : Type} {P : Program} {t e : TypeId} {E : Rep α} (ht : P.underlying t = some (.slice e)) (hc : P.cellsOf t = 1) (he : Opens P e E) : Opens P t (sliceR E) := by
  refine ⟨hc, fun H enc w base spare held fuel cs x h => ?_⟩
  rcases DataW.trod_slice ht h with ⟨rfl, -⟩ | ⟨a, len, cap, elems, rest, n, -, rfl, -, -, hl, hm, hel, hx, -, -⟩
  · exact ⟨[], none, 0, rfl, Nat.le_refl _, by decide, .inl rfl⟩
  · have each : ∀ i, i < len → ∃ q : α, ∃ es, (∀ j (_ : j < es.length), w.cell? ((a.add (i * E.size)).add j) = some es[j]) ∧ E.R w (fun _ => True) es q := by
      intro i hi
      have h1 := hx i hi
      rw [List.getElem?_eq_getElem (by omega)] at h1
      obtain ⟨es, h2, h3⟩ := Option.bind_eq_some_iff.1 h1
      obtain ⟨q, hq⟩ := he.2 _ _ _ _ _ _ _ _ _ h3
      rw [he.1] at h2
      obtain ⟨-, hlen, hcell⟩ := World.cells?_some h2
      refine ⟨q, es, fun j hj => ?_, hq⟩
      rw [hcell j (by omega), List.getElem?_eq_getElem hj]
    by_cases h0 : len = 0
    · subst h0
      exact ⟨[], some a, cap, rfl, hl, hm, .inl rfl⟩
    · have : Nonempty α := let ⟨q, _⟩ := each 0 (by omega); ⟨q⟩
      have key : ∃ f : Nat → α, ∀ i, i < len → ∃ es, (∀ j (_ : j < es.length), w.cell? ((a.add (i * E.size)).add j) = some es[j]) ∧ E.R w (fun _ => True) es (f i) := by
        classical
        refine ⟨fun i => if hi : i < len then Classical.choose (each i hi) else Classical.choice this, fun i hi => ?_⟩
        simp only [dif_pos hi]
        exact Classical.choose_spec (each i hi)
      obtain ⟨f, hf⟩ := key
      obtain ⟨b, off, spot⟩ := a
      have hspot : spot = none := by
        obtain ⟨es, h1, h2⟩ := hf 0 (by omega)
        have := h1 0 (by rw [E.len h2]; exact E.pos)
        simpa [Addr.add] using World.cell?_spot this
      subst hspot
      refine ⟨(List.range len).map f, some ⟨b, off, none⟩, cap, by simp, by simpa using hl, hm, .inr ⟨b, off, rfl, trivial, fun i hi => ?_⟩⟩
      obtain ⟨es, h1, h2⟩ := hf i (by simpa using hi)
      refine ⟨es, fun j hj => ?_, by simpa using h2⟩
      have := h1 j hj
      rw [add_plain, add_plain] at this
      exact this
/-- An argument of one cell. -/
theorem open_one {α : Type} {P : Program} {t : TypeId} {E : Rep α} (he : Opens P t E) {H : Type} {enc : TypeId × Value → H} {w : World} {base : Nat} {spare : Nat → Bool} {held : Bool} {v : Value} {d : DataW H} {p : List MemPlace}
    (h : DataW.Trod enc P w base spare held t v d p) : ∃ a, E.R w (fun _ => True) v.cells.toList a := by
  obtain ⟨fuel, hf⟩ := h
  exact he.2 _ _ _ _ _ _ _ _ _ hf
theorem open_sliceArg {α : Type} {P : Program} {t e : TypeId} {E : Rep α} (ht : P.underlying t = some (.slice e)) (hc : P.cellsOf t = 1) (he : Opens P e E) {H : Type} {enc : TypeId × Value → H} {w : World} {base b0 : Nat} {spare : Nat → Bool} {held : Bool} {r : Reach} {v : Value} {d : DataW H} {p : List MemPlace}
    (hv : Value.okWide P w r b0 t v) (h : DataW.Trod enc P w base spare held t v d p) : ∃ l, (sliceR E).R w (fun _ => True) [v] l := by
  obtain ⟨a, len, cap, rfl⟩ := okWide_slice ht hv
  exact open_one (opens_slice ht hc he) h
/-- A struct's fields. -/
theorem fields {P : Program} {t : TypeId} {fs : Array Field} (ht : P.underlying t = some (.struct fs)) {H : Type} {enc : TypeId × Value → H} {w : World} {base : Nat} {spare : Nat → Bool} {held : Bool} {fuel : Nat} {cs : List Value} {x : DataW H × List MemPlace}
    (h : DataW.trod enc P w base spare held fuel t cs = some x) :
    cs.length = P.cellsOf t ∧ ∃ n, ∀ (i : Nat) (f : Field), fs[i]? = some f → ∃ y, DataW.trod enc P w base spare held n f.type ((cs.drop f.offset).take (P.cellsOf f.type)) = some y := by
  obtain ⟨xs, n, -, -, hl, hx, hf⟩ := DataW.trod_struct ht h
  refine ⟨hl, n, fun i f hi => ?_⟩
  have hlt : i < xs.length := by rw [hx]; exact (Array.getElem?_eq_some_iff.1 hi).1
  exact ⟨xs[i], by rw [hf i f hi, List.getElem?_eq_getElem hlt]⟩
theorem opens_field {α : Type} {P : Program} {t : TypeId} {E : Rep α} (he : Opens P t E) {H : Type} {enc : TypeId × Value → H} {w : World} {base : Nat} {spare : Nat → Bool} {held : Bool} {fuel : Nat} {cs : List Value} {off : Nat}
    (h : ∃ y, DataW.trod enc P w base spare held fuel t ((cs.drop off).take (P.cellsOf t)) = some y) : ∃ a, E.R w (fun _ => True) ((cs.drop off).take E.size) a := by
  obtain ⟨y, h⟩ := h
  rw [he.1] at h
  exact he.2 _ _ _ _ _ _ _ _ _ h
end Go.Sch
