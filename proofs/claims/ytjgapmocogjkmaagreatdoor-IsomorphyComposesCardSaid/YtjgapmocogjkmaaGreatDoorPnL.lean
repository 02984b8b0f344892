/- The plain machine, laws: arguments that came in are typed data; a law that the machine finds true returns true and leaves memory as it was. -/
import Derived.Test.YtjgapmocogjkmaaGreatDoorPnB
import Derived.ProofKit
import Derived.Lib.SmallJoins
set_option linter.unusedSimpArgs false
set_option linter.unusedVariables false
namespace Go.PM
open Go Go.RowKit Go.ChangeShapes Go.WideShapes Go.ChangeAt Go.Joins

theorem addr_plain (b off n : Nat) : (⟨b, off, none⟩ : Addr).add n = ⟨b, off + n, none⟩ := by cases n <;> simp [Addr.add]
/-- What typed data that came in keep to. -/
def WF : (t : Ty) → t.den → Prop
  | .int k, x => (Lit.int k x).wf = true
  | .bool, _ => True
  | .str, s => s.size ≤ maxLen
  | .list t, l => l.length ≤ maxLen ∧ ∀ a ∈ l, WF t a
  | .prod a b, (x, y) => WF a x ∧ WF b y
abbrev GW (w : World) : Nat → Prop := fun b => b < w.heap.size
/-- Cells that can be read at type t are data of type T. -/
def OpT (P : Program) (t : TypeId) (T : Ty) : Prop :=
  P.cellsOf t = T.size ∧ ∀ (H : Type) (en : TypeId × Value → H) (w : World) (base : Nat) (spare : Nat → Bool) (held : Bool) (fuel : Nat) (cs : List Value) (x : DataW H × List MemPlace),
    DataW.trod en P w base spare held fuel t cs = some x → ∃ a : T.den, VRs w (GW w) nomap (enc T a) cs ∧ WF T a
section
variable {P : Program}
theorem vrsOne {w : World} {G : Nat → Prop} {p : PV} {v : Value} (h : VR w G nomap p v) : VRs w G nomap [p] [v] := by
  rw [VRs]; exact ⟨v, [], rfl, h, by rw [VRs]⟩
theorem opT_int {t : TypeId} {k : IntKind} (ht : P.underlying t = some (.int k)) (hc : P.cellsOf t = 1) : OpT P t (.int k) := by
  refine ⟨hc, fun H en w base spare held fuel cs x h => ?_⟩
  obtain ⟨n, rfl, -, wf⟩ := DataW.trod_int ht h
  exact ⟨n, vrsOne (by rw [VR]), wf⟩
theorem opT_bool {t : TypeId} (ht : P.underlying t = some .bool) (hc : P.cellsOf t = 1) : OpT P t .bool := by
  refine ⟨hc, fun H en w base spare held fuel cs x h => ?_⟩
  obtain ⟨n, rfl, -⟩ := DataW.trod_bool ht h
  exact ⟨n, vrsOne (by rw [VR]), trivial⟩
theorem opT_str {t : TypeId} (ht : P.underlying t = some .string) (hc : P.cellsOf t = 1) : OpT P t .str := by
  refine ⟨hc, fun H en w base spare held fuel cs x h => ?_⟩
  obtain ⟨n, rfl, -, wf⟩ := DataW.trod_string ht h
  exact ⟨n, vrsOne (by rw [VR]), wf⟩
theorem VCells.app {w : World} {G : Nat → Prop} {b : Nat} : ∀ {ps qs : List PV} {off : Nat}, VCells w G nomap b off ps → VCells w G nomap b (off + ps.length) qs → VCells w G nomap b off (ps ++ qs)
  | [], qs, off, _, h => h
  | p :: ps, qs, off, h, k => by
    rw [VCells] at h
    rw [List.cons_append, VCells]
    refine ⟨h.1, VCells.app h.2 ?_⟩
    rw [List.length_cons] at k
    rwa [Nat.add_assoc, Nat.add_comm 1]
theorem VCells.of_vrs {w : World} {G : Nat → Prop} {b : Nat} : ∀ {ps : List PV} {vs : List Value} {off : Nat}, VRs w G nomap ps vs → (∀ i (h : i < vs.length), w.cell? ⟨b, off + i, none⟩ = some vs[i]) → VCells w G nomap b off ps
  | [], vs, off, _, _ => by rw [VCells]; trivial
  | p :: ps, vs, off, h, k => by
    rw [VRs] at h
    obtain ⟨x, xs, rfl, h2, h3⟩ := h
    rw [VCells]
    refine ⟨⟨x, k 0 (by simp), h2⟩, VCells.of_vrs h3 fun i hi => ?_⟩
    have := k (i + 1) (by simpa using hi)
    rw [Nat.add_assoc, Nat.add_comm 1 i]
    exact this
theorem cells_all {w : World} {T : Ty} {b : Nat} : ∀ (l : List T.den) (off : Nat), (∀ i (h : i < l.length), VCells w (GW w) nomap b (off + i * T.size) (enc T l[i])) → VCells w (GW w) nomap b off (encAll T l)
  | [], off, _ => by show VCells w _ nomap b off []; rw [VCells]; trivial
  | a :: l, off, h => by
    show VCells w _ nomap b off (enc T a ++ encAll T l)
    refine VCells.app (by have := h 0 (by simp); rw [Nat.zero_mul, Nat.add_zero] at this; exact this) ?_
    rw [enc_length]
    refine cells_all l _ fun i hi => ?_
    have := h (i + 1) (by simpa using hi)
    rw [Nat.add_mul, Nat.one_mul, Nat.add_comm (i * _), ← Nat.add_assoc] at this
    exact this
theorem opT_slice {t e : TypeId} {T : Ty} (ht : P.underlying t = some (.slice e)) (hc : P.cellsOf t = 1) (he : OpT P e T) : OpT P t (.list T) := by
  refine ⟨hc, fun H en w base spare held fuel cs x h => ?_⟩
  rcases DataW.trod_slice ht h with ⟨rfl, -⟩ | ⟨a, len, cap, elems, rest, n, -, rfl, -, -, hl, hm, hel, hx, -, -⟩
  · refine ⟨[], vrsOne ?_, ⟨Nat.zero_le _, fun a ha => (by simp at ha)⟩⟩
    rw [VR]
    refine ⟨?_, rfl⟩
    rw [VR]
    exact ⟨none, 0, rfl, Nat.le_refl _, fun k hk => (by cases hk), .inl rfl⟩
  · have each : ∀ i, i < len → ∃ q : T.den, ∃ es, (∀ j (_ : j < es.length), w.cell? ((a.add (i * T.size)).add j) = some es[j]) ∧ VRs w (GW w) nomap (enc T q) es ∧ WF T q := by
      intro i hi
      have h1 := hx i hi
      rw [List.getElem?_eq_getElem (by omega)] at h1
      obtain ⟨es, h2, h3⟩ := Option.bind_eq_some_iff.1 h1
      obtain ⟨q, hq⟩ := he.2 _ _ _ _ _ _ _ _ _ h3
      rw [he.1] at h2
      obtain ⟨-, hlen, hcell⟩ := World.cells?_some h2
      refine ⟨q, es, fun j hj => ?_, hq⟩
      rw [hcell j (by omega), List.getElem?_eq_getElem hj]
    by_cases h0 : len = 0
    · subst h0
      refine ⟨[], vrsOne ?_, ⟨Nat.zero_le _, fun a ha => (by simp at ha)⟩⟩
      rw [VR]
      refine ⟨?_, rfl⟩
      rw [VR]
      exact ⟨some a, cap, rfl, hl, fun k hk => (by cases hk), .inl rfl⟩
    · have hne : Nonempty T.den := let ⟨q, _⟩ := each 0 (by omega); ⟨q⟩
      have key : ∃ f : Nat → T.den, ∀ i, i < len → ∃ es, (∀ j (_ : j < es.length), w.cell? ((a.add (i * T.size)).add j) = some es[j]) ∧ VRs w (GW w) nomap (enc T (f i)) es ∧ WF T (f i) := by
        classical
        refine ⟨fun i => if hi : i < len then Classical.choose (each i hi) else Classical.choice hne, fun i hi => ?_⟩
        simp only [dif_pos hi]
        exact Classical.choose_spec (each i hi)
      obtain ⟨f, hf⟩ := key
      obtain ⟨b, off, spot⟩ := a
      have hfirst : ∃ v, w.cell? ⟨b, off, spot⟩ = some v := by
        obtain ⟨es, h1, h2, -⟩ := hf 0 (by omega)
        have hpos : 0 < es.length := by rw [← VRs.length h2, enc_length]; exact T.size_pos
        have := h1 0 hpos
        exact ⟨_, by simpa [Addr.add] using this⟩
      have hspot : spot = none := by
        obtain ⟨v, hv⟩ := hfirst
        simpa using World.cell?_spot hv
      subst hspot
      have hb : b < w.heap.size := by
        obtain ⟨v, hv⟩ := hfirst
        cases hh : w.heap[b]? with
        | none => simp [World.cell?, hh] at hv
        | some o => exact heap_lt hh
      refine ⟨(List.range len).map f, vrsOne ?_, ?_⟩
      · rw [VR]
        refine ⟨?_, rfl⟩
        rw [VR]
        refine ⟨some ⟨b, off, none⟩, cap, by simp, by simpa using hl, fun k hk => (by cases hk), .inr ⟨b, off, rfl, hb, ?_⟩⟩
        refine cells_all _ _ fun i hi => ?_
        have hi' : i < len := by simpa using hi
        obtain ⟨es, h1, h2, -⟩ := hf i hi'
        have e1 : ((List.range len).map f)[i] = f i := by simp
        rw [e1]
        refine VCells.of_vrs h2 fun j hj => ?_
        have := h1 j hj
        rw [addr_plain, addr_plain] at this
        exact this
      · refine ⟨by simpa using Nat.le_trans hl hm, ?_⟩
        intro q hq
        obtain ⟨i, hi, rfl⟩ := List.mem_map.1 hq
        obtain ⟨es, -, -, h3⟩ := hf i (by simpa using hi)
        exact h3
/-- Fields from offset off on are data of type T, one behind another. -/
def FieldsT (P : Program) : List Field → Nat → Ty → Prop
  | [], _, _ => False
  | [f], off, T => f.offset = off ∧ OpT P f.type T
  | f :: g :: r, off, .prod a b => f.offset = off ∧ OpT P f.type a ∧ FieldsT P (g :: r) (off + a.size) b
  | _ :: _ :: _, _, _ => False
theorem fields_vrs {w : World} : ∀ (fs : List Field) (off : Nat) (T : Ty) (cs : List Value), FieldsT P fs off T → cs.length = off + T.size → (∀ f ∈ fs, ∀ A : Ty, OpT P f.type A → ∃ a : A.den, VRs w (GW w) nomap (enc A a) ((cs.drop f.offset).take A.size) ∧ WF A a) →
    ∃ a : T.den, VRs w (GW w) nomap (enc T a) (cs.drop off) ∧ WF T a
  | [], _, _, _, h, _, _ => h.elim
  | [f], off, T, cs, h, hl, hx => by
    obtain ⟨rfl, h2⟩ := h
    obtain ⟨a, h3, h4⟩ := hx f (by simp) T h2
    rw [List.take_of_length_le (by simp; omega)] at h3
    exact ⟨a, h3, h4⟩
  | f :: g :: r, off, .prod A B, cs, h, hl, hx => by
    obtain ⟨rfl, h2, h3⟩ := h
    obtain ⟨a, h4, h5⟩ := hx f (by simp) A h2
    obtain ⟨b, h6, h7⟩ := fields_vrs (g :: r) _ B cs h3 (by rw [hl, Ty.size]; omega) (fun k hk => hx k (List.mem_cons_of_mem _ hk))
    refine ⟨(a, b), ?_, h5, h7⟩
    have := VRs.append h4 h6
    rw [← List.drop_drop, List.take_append_drop] at this
    exact this
  | _ :: _ :: _, _, .int _, _, h, _, _ => h.elim
  | _ :: _ :: _, _, .bool, _, h, _, _ => h.elim
  | _ :: _ :: _, _, .str, _, h, _, _ => h.elim
  | _ :: _ :: _, _, .list _, _, h, _, _ => h.elim
theorem opT_struct {t : TypeId} {fs : Array Field} {T : Ty} (ht : P.underlying t = some (.struct fs)) (hc : P.cellsOf t = T.size) (hf : FieldsT P fs.toList 0 T) : OpT P t T := by
  refine ⟨hc, fun H en w base spare held fuel cs x h => ?_⟩
  obtain ⟨xs, n, -, -, hl, hx, hi⟩ := DataW.trod_struct ht h
  obtain ⟨a, h1, h2⟩ := fields_vrs (w := w) fs.toList 0 T cs hf (by rw [hl, hc, Nat.zero_add]) (fun f hf A hA => by
    obtain ⟨i, hi', rfl⟩ := List.getElem_of_mem hf
    have hs : i < fs.size := by simpa using hi'
    have h3 := hi i fs[i] (by simp [hs])
    rw [List.getElem?_eq_getElem (by omega)] at h3
    have hA1 := hA.1
    simp only [Array.getElem_toList] at hA1 hA ⊢
    rw [hA1] at h3
    exact hA.2 _ _ _ _ _ _ _ _ _ h3)
  exact ⟨a, by simpa using h1, h2⟩
/-- An array of n + 1 elements, as data. -/
def Ty.arr (T : Ty) : Nat → Ty
  | 0 => T
  | n + 1 => .prod T (Ty.arr T n)
theorem arr_size (T : Ty) : ∀ n, (Ty.arr T n).size = (n + 1) * T.size
  | 0 => by simp [Ty.arr]
  | n + 1 => by simp only [Ty.arr, Ty.size, arr_size T n]; rw [Nat.add_mul (n + 1) 1]; omega
theorem arr_vrs {w : World} {T : Ty} {cs : List Value} : ∀ (n i : Nat), cs.length = (i + n + 1) * T.size → (∀ j, i ≤ j → j < i + n + 1 → ∃ a : T.den, VRs w (GW w) nomap (enc T a) ((cs.drop (j * T.size)).take T.size) ∧ WF T a) →
    ∃ a : (Ty.arr T n).den, VRs w (GW w) nomap (enc (Ty.arr T n) a) (cs.drop (i * T.size)) ∧ WF (Ty.arr T n) a
  | 0, i, hl, hx => by
    obtain ⟨a, h3, h4⟩ := hx i (Nat.le_refl _) (by omega)
    rw [List.take_of_length_le (by rw [List.length_drop, hl, Nat.add_zero, Nat.add_mul, Nat.one_mul]; omega)] at h3
    exact ⟨a, h3, h4⟩
  | n + 1, i, hl, hx => by
    obtain ⟨a, h4, h5⟩ := hx i (Nat.le_refl _) (by omega)
    obtain ⟨b, h6, h7⟩ := arr_vrs n (i + 1) (by rw [hl]; congr 1; omega) (fun j h1 h2 => hx j (by omega) (by omega))
    refine ⟨(a, b), ?_, h5, h7⟩
    have := VRs.append h4 h6
    rw [Nat.add_mul, Nat.one_mul, ← List.drop_drop, List.take_append_drop] at this
    exact this
theorem opT_array {t e : TypeId} {n : Nat} {T : Ty} (ht : P.underlying t = some (.array (n + 1) e)) (hc : P.cellsOf t = (n + 1) * T.size) (he : OpT P e T) : OpT P t (Ty.arr T n) := by
  refine ⟨by rw [hc, arr_size], fun H en w base spare held fuel cs x h => ?_⟩
  obtain ⟨xs, m, -, -, hl, hx, hi⟩ := DataW.trod_array ht h
  rw [he.1] at hi
  obtain ⟨a, h1, h2⟩ := arr_vrs (w := w) (T := T) (cs := cs) n 0 (by rw [hl, hc, Nat.zero_add]) (fun j _ h2 => by
    have h3 := hi j (by omega)
    rw [List.getElem?_eq_getElem (by omega)] at h3
    exact he.2 _ _ _ _ _ _ _ _ _ h3)
  exact ⟨a, by simpa using h1, h2⟩

/-- An argument of type t is of kind k. -/
def OpK (P : Program) (t : TypeId) (k : Kd) (W : k.den → Prop) : Prop :=
  ∀ {H : Type} {en : TypeId × Value → H} {w : World} {base b0 : Nat} {spare : Nat → Bool} {held : Bool} {r : Reach} {v : Value} {d : DataW H} {p : List MemPlace},
    Value.okWide P w r b0 t v → DataW.Trod en P w base spare held t v d p → ∃ x : k.den, VR w (GW w) nomap (encK k x 0) v ∧ W x
theorem opK_int {t : TypeId} {k : IntKind} (ht : P.underlying t = some (.int k)) : OpK P t (.int k) (WF (.int k)) := by
  intro H en w base b0 spare held r v d p hv h
  obtain ⟨n, rfl, -, -, wf⟩ := open_int ht hv h
  exact ⟨n, by rw [encK, VR], wf⟩
theorem opK_bool {t : TypeId} (ht : P.underlying t = some .bool) : OpK P t .bool (WF .bool) := by
  intro H en w base b0 spare held r v d p hv h
  obtain ⟨b, rfl⟩ := okWide_bool ht hv
  exact ⟨b, by rw [encK, VR], trivial⟩
theorem opK_list {t e : TypeId} {T : Ty} (ht : P.underlying t = some (.slice e)) (hc : P.cellsOf t = 1) (he : OpT P e T) : OpK P t (.list T) (WF (.list T)) := by
  intro H en w base b0 spare held r v d p hv h
  obtain ⟨a, len, cap, rfl⟩ := okWide_slice ht hv
  obtain ⟨fuel, hf⟩ := h
  obtain ⟨l, h1, h2⟩ := (opT_slice ht hc he).2 _ _ _ _ _ _ _ _ _ hf
  refine ⟨l, ?_, h2⟩
  simp only [enc, Value.cells] at h1
  rw [VRs] at h1
  obtain ⟨x, xs, h3, h4, -⟩ := h1
  cases h3
  exact h4
theorem opK_agg {t : TypeId} {T : Ty} (hs : ∀ (w : World) (r : Reach) (b0 : Nat) (v : Value), Value.okWide P w r b0 t v → ∃ cs, v = .agg cs) (he : OpT P t T) : OpK P t (.agg T) (WF T) := by
  intro H en w base b0 spare held r v d p hv h
  obtain ⟨cs, rfl⟩ := hs _ _ _ _ hv
  obtain ⟨fuel, hf⟩ := h
  obtain ⟨l, h1, h2⟩ := he.2 _ _ _ _ _ _ _ _ _ hf
  refine ⟨l, ?_, h2⟩
  rw [encK, VR]
  exact ⟨cs, rfl, h1⟩
theorem opK_struct {t : TypeId} {fs : Array Field} {T : Ty} (ht : P.underlying t = some (.struct fs)) (he : OpT P t T) : OpK P t (.agg T) (WF T) :=
  opK_agg (fun w r b0 v h => by obtain ⟨cs, h1, -⟩ := okWide_struct ht h; exact ⟨cs, h1⟩) he
theorem opK_array {t e : TypeId} {n : Nat} {T : Ty} (ht : P.underlying t = some (.array n e)) (he : OpT P t T) : OpK P t (.agg T) (WF T) :=
  opK_agg (fun w r b0 v h => by simp only [Value.okWide, ht] at h; obtain ⟨cs, h1, -⟩ := h; exact ⟨cs, h1⟩) he

/-- A law that is true on typed data. -/
theorem law_true {g : FuncId} {args : List Kd} {f : denK args → Option (denK [.bool])} (hf : FnOK P g args [.bool] f) {x : denK args} (hx : f x = some (true, ())) {w : World} {vs : Array Value} (hv : VRs w (GW w) nomap (encA args x) vs.toList) :
    Calls P g vs w fun e w' => e = .returned (.bool true) ∧ Below w.heap.size w w' := by
  obtain ⟨-, h⟩ := hf x _ hx w (GW w) vs (fun _ h => h) hv
  refine h.mono ?_
  rintro e w' ⟨v', G', rfl, e1, -, e3⟩
  refine ⟨?_, e1.os, e1.tape, e1.output, e1.size, fun b hb => e1.old b hb (Nat.not_le.2 hb)⟩
  have e3 : VR w' G' nomap (.lit (.bool true)) v' := e3
  rw [VR] at e3
  rw [e3]
theorem vrs_cons {w : World} {G : Nat → Prop} {p : PV} {v : Value} {ps : List PV} {vs : List Value} (h : VR w G nomap p v) (k : VRs w G nomap ps vs) : VRs w G nomap (p :: ps) (v :: vs) := by
  rw [VRs]; exact ⟨v, vs, rfl, h, k⟩
theorem vrs_nil {w : World} {G : Nat → Prop} : VRs w G nomap [] [] := by rw [VRs]
end
end Go.PM
