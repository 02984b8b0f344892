/- The plain machine, 14: pure calls: data go in and come out as plain values; the caller's heap stays. No program. -/
import Derived.Test.YtjgapmocogjkmaaGreatDoorPmM
set_option linter.unusedSimpArgs false
set_option linter.unusedVariables false
namespace Go.PM
open Go Go.RowKit

def mapO (f : PV → Option PV) : List PV → Option (List PV)
  | [] => some []
  | p :: ps => match f p with
    | some q => match mapO f ps with
      | some qs => some (q :: qs)
      | none => none
    | none => none
/-- A value without references to the heap; fz: through frozen blocks alone. -/
def inl (fz : Bool) (H : Heap) : Nat → PV → Option PV
  | _, .lit v => some (.lit v)
  | _, .vals cs n cap => some (.vals cs n cap)
  | _, .iptr cs => some (.iptr cs)
  | _, .tl t l cap e => some (.tl t l cap e)
  | _, .tp t l i off e => some (.tp t l i off e)
  | _, .own r _ => match hget H r with
    | some k => match k.tag with
      | some g => bif k.frozen || !fz then some (tlOf g.t g.l none) else none
      | none => none
    | none => none
  | _, .win r lo n sz => match hget H r with
    | some k => match k.tag with
      | some g => bif (k.frozen || !fz) && Nat.beq sz g.t.size then some (tlOf g.t ((g.l.drop lo).take n) none) else none
      | none => none
    | none => none
  | n + 1, .hs r off len _ sz => match hget H r with
    | some k => bif (k.frozen || !fz) && Nat.ble (off + len * sz) k.cells.length then match mapO (fun p => inl fz H n p) ((k.cells.drop off).take (len * sz)) with
        | some cs => some (.vals cs len none)
        | none => none
      else none
    | none => none
  | n + 1, .hptr r off => match hget H r with
    | some k => bif k.frozen || !fz then match mapO (fun p => inl fz H n p) (k.cells.drop off) with
        | some cs => some (.iptr cs)
        | none => none
      else none
    | none => none
  | n + 1, .agg cs => match mapO (fun p => inl fz H n p) cs with | some qs => some (.agg qs) | none => none
  | n + 1, .tuple cs => match mapO (fun p => inl fz H n p) cs with | some qs => some (.tuple qs) | none => none
  | n + 1, .clo fn f c => match mapO (fun p => inl fz H n p) f, mapO (fun p => inl fz H n p) c with
    | some f', some c' => some (.clo fn f' c')
    | _, _ => none
  | _, _ => none

section
variable {P : Program} {n0 : Nat → Prop} {w : World} {G G' : Nat → Prop} {μ : Mp} {H : Heap}

theorem mapO_vrs {f : PV → Option PV} (hf : ∀ p q v, f p = some q → VR w G μ p v → VR w G' nomap q v) : ∀ {ps qs : List PV} {vs : List Value}, mapO f ps = some qs → VRs w G μ ps vs → VRs w G' nomap qs vs
  | [], qs, vs, h, hv => by
    simp only [mapO, Option.some.injEq] at h
    subst h
    rw [VRs] at hv ⊢; exact hv
  | p :: ps, qs, vs, h, hv => by
    simp only [mapO] at h
    split at h
    · rename_i q hq
      split at h
      · rename_i qs' hqs
        simp only [Option.some.injEq] at h
        subst h
        rw [VRs] at hv ⊢
        obtain ⟨x, xs, h1, h2, h3⟩ := hv
        exact ⟨x, xs, h1, hf p q x hq h2, mapO_vrs hf hqs h3⟩
      · cases h
    · cases h
theorem mapO_cells {f : PV → Option PV} (hf : ∀ p q v, f p = some q → VR w G μ p v → VR w G' nomap q v) {b : Nat} : ∀ {ps qs : List PV} {off : Nat}, mapO f ps = some qs → VCells w G μ b off ps → VCells w G' nomap b off qs
  | [], qs, off, h, hv => by
    simp only [mapO, Option.some.injEq] at h
    subst h
    rw [VCells]; trivial
  | p :: ps, qs, off, h, hv => by
    simp only [mapO] at h
    split at h
    · rename_i q hq
      split at h
      · rename_i qs' hqs
        simp only [Option.some.injEq] at h
        subst h
        rw [VCells] at hv ⊢
        obtain ⟨⟨v, h1, h2⟩, h3⟩ := hv
        exact ⟨⟨v, h1, hf p q v hq h2⟩, mapO_cells hf hqs h3⟩
      · cases h
    · cases h

theorem inl_sound (hW : WInv n0 G μ H w) {fz : Bool} (hG : ∀ b, G b → G' b) (hB : ∀ r k b, H[r]? = some (some k) → (k.frozen = true ∨ fz = false) → μ.loc r = some b → G' b) : ∀ (n : Nat) (p q : PV) (v : Value), inl fz H n p = some q → VR w G μ p v → VR w G' nomap q v := by
  have hm : Mono w G nomap w G' nomap := ⟨fun b hb => ⟨hG b hb, rfl⟩, fun _ _ h => h, fun _ _ h => h, fun _ _ h => h⟩
  have base : ∀ (p q : PV) (v : Value), some p = some q → noRef p = true → VR w G μ p v → VR w G' nomap q v := fun p q v h hn hv => by
    cases h
    exact VR.mono hm _ _ (noRef_vr p v hn hv)
  have owned : ∀ (r sz : Nat) (q : PV) (v : Value), (match hget H r with
    | some k => match k.tag with
      | some g => bif k.frozen || !fz then some (tlOf g.t g.l none) else none
      | none => none
    | none => none) = some q → VR w G μ (.own r sz) v → VR w G' nomap q v := fun r sz q v h hv => by
    split at h
    · rename_i k hk
      split at h
      · rename_i g hg
        obtain ⟨hb, h⟩ := condSome h
        simp only [Bool.or_eq_true, Bool.not_eq_true'] at hb
        simp only [Option.some.injEq] at h
        subst h
        exact own_frozen hW hv hk hg hG fun b h1 => hB r k b (hget_some hk) hb h1
      · cases h
    · cases h
  have wind : ∀ (r lo n sz : Nat) (q : PV) (v : Value), (match hget H r with
    | some k => match k.tag with
      | some g => bif (k.frozen || !fz) && Nat.beq sz g.t.size then some (tlOf g.t ((g.l.drop lo).take n) none) else none
      | none => none
    | none => none) = some q → VR w G μ (.win r lo n sz) v → VR w G' nomap q v := fun r lo n sz q v h hv => by
    split at h
    · rename_i k hk
      split at h
      · rename_i g hg
        obtain ⟨hb, h⟩ := condSome h
        simp only [Bool.and_eq_true, Bool.or_eq_true, Bool.not_eq_true'] at hb
        simp only [Option.some.injEq] at h
        subst h
        exact win_frozen hW hv hk hg (Nat.eq_of_beq_eq_true hb.2) hG fun b h1 => hB r k b (hget_some hk) hb.1 h1
      · cases h
    · cases h
  intro n
  induction n with
  | zero =>
    intro p q v h hv
    cases p <;> simp only [inl] at h <;> first | (cases h; done) | exact base _ q v h rfl hv | exact owned _ _ q v h hv | exact wind _ _ _ _ q v h hv
  | succ n ih =>
    intro p q v h hv
    cases p with
    | lit u => simp only [inl] at h; exact base _ q v h rfl hv
    | vals cs k cap => simp only [inl] at h; exact base _ q v h rfl hv
    | iptr cs => simp only [inl] at h; exact base _ q v h rfl hv
    | junk => simp only [inl] at h; cases h
    | tl t l cap e => simp only [inl] at h; exact base _ q v h rfl hv
    | tp t l i off e => simp only [inl] at h; exact base _ q v h rfl hv
    | own r sz => simp only [inl] at h; exact owned r sz q v h hv
    | op r i off sz => simp only [inl] at h; cases h
    | win r lo n sz => simp only [inl] at h; exact wind r lo n sz q v h hv
    | hs r off len cap sz =>
      simp only [inl] at h
      split at h
      · rename_i k hk
        cases hb : ((k.frozen || !fz) && Nat.ble (off + len * sz) k.cells.length) with
        | false => rw [hb] at h; cases h
        | true =>
          rw [hb] at h
          simp only [cond_true] at h
          simp only [Bool.and_eq_true, Bool.or_eq_true, Bool.not_eq_true'] at hb
          split at h
          · rename_i cs hcs
            simp only [Option.some.injEq] at h
            subst h
            rw [VR] at hv; rw [VR]
            obtain ⟨b, c, h1, rfl, h3, _, _⟩ := hv
            obtain ⟨c', g2, g3, _⟩ := hW.blk r k b (hget_some hk) h1
            refine ⟨_, c, rfl, h3, fun k hk => (by cases hk), .inr ⟨b, off, rfl, hB r k b (hget_some hk) hb.1 h1, ?_⟩⟩
            have := g3.sub off (len * sz)
            rw [Nat.zero_add] at this
            exact mapO_cells (fun p q v h hv => ih p q v h hv) hcs this
          · cases h
      · cases h
    | hptr r off =>
      simp only [inl] at h
      split at h
      · rename_i k hk
        cases hb : (k.frozen || !fz) with
        | false => rw [hb] at h; cases h
        | true =>
          rw [hb] at h
          simp only [cond_true] at h
          simp only [Bool.or_eq_true, Bool.not_eq_true'] at hb
          split at h
          · rename_i cs hcs
            simp only [Option.some.injEq] at h
            subst h
            rw [VR] at hv; rw [VR]
            obtain ⟨b, h1, rfl⟩ := hv
            obtain ⟨c', g2, g3, _⟩ := hW.blk r k b (hget_some hk) h1
            refine ⟨b, off, rfl, hB r k b (hget_some hk) hb h1, ?_⟩
            have := g3.drop off
            rw [Nat.zero_add] at this
            exact mapO_cells (fun p q v h hv => ih p q v h hv) hcs this
          · cases h
      · cases h
    | agg cs =>
      simp only [inl] at h
      split at h
      · rename_i qs hqs
        simp only [Option.some.injEq] at h
        subst h
        rw [VR] at hv ⊢
        obtain ⟨vs, h1, h2⟩ := hv
        exact ⟨vs, h1, mapO_vrs (fun p q v h hv => ih p q v h hv) hqs h2⟩
      · cases h
    | tuple cs =>
      simp only [inl] at h
      split at h
      · rename_i qs hqs
        simp only [Option.some.injEq] at h
        subst h
        rw [VR] at hv ⊢
        obtain ⟨vs, h1, h2⟩ := hv
        exact ⟨vs, h1, mapO_vrs (fun p q v h hv => ih p q v h hv) hqs h2⟩
      · cases h
    | clo fn f c =>
      simp only [inl] at h
      split at h
      · rename_i f' c' hf hc
        simp only [Option.some.injEq] at h
        subst h
        rw [VR] at hv ⊢
        obtain ⟨fs, cs, h1, h2, h3⟩ := hv
        exact ⟨fs, cs, h1, mapO_vrs (fun p q v h hv => ih p q v h hv) hf h2, mapO_vrs (fun p q v h hv => ih p q v h hv) hc h3⟩
      · cases h

/-- A function on data. -/
def PureCall (P : Program) (g : FuncId) (args : List PV) (r : PV) : Prop :=
  ∀ (w : World) (G : Nat → Prop) (vs : Array Value), (∀ b, G b → b < w.heap.size) → VRs w G nomap args vs.toList →
    (callFunc g vs).run P w = .ok (.enter g vs) w ∧ Calls P g vs w fun e w' => ∃ v' G', e = .returned v' ∧ Ext (Fresh w) w G nomap w' G' nomap ∧ (∀ b, G' b → b < w'.heap.size) ∧ VR w' G' nomap r v'

def flatLit : PV → Bool
  | .lit _ => true
  | _ => false
def flatOne : PV → Bool
  | .lit _ => true
  | .agg cs => cs.all flatLit
  | _ => false
/-- Data alone: no memory. -/
def flat : PV → Bool
  | .lit _ => true
  | .agg cs => cs.all flatLit
  | .tuple cs => cs.all flatOne
  | _ => false
theorem flat_lits {w' : World} {G' : Nat → Prop} : ∀ {ps : List PV} {vs : List Value}, ps.all flatLit = true → VRs w G nomap ps vs → VRs w' G' μ ps vs
  | [], vs, _, h => by rw [VRs] at h ⊢; exact h
  | p :: ps, vs, hf, h => by
    simp only [List.all_cons, Bool.and_eq_true] at hf
    rw [VRs] at h ⊢
    obtain ⟨x, xs, h1, h2, h3⟩ := h
    refine ⟨x, xs, h1, ?_, flat_lits hf.2 h3⟩
    cases p <;> simp only [flatLit] at hf <;> try (exact absurd hf.1 (by decide))
    rw [VR] at h2 ⊢
    exact h2
theorem flat_ones {w' : World} {G' : Nat → Prop} : ∀ {ps : List PV} {vs : List Value}, ps.all flatOne = true → VRs w G nomap ps vs → VRs w' G' μ ps vs
  | [], vs, _, h => by rw [VRs] at h ⊢; exact h
  | p :: ps, vs, hf, h => by
    simp only [List.all_cons, Bool.and_eq_true] at hf
    rw [VRs] at h ⊢
    obtain ⟨x, xs, h1, h2, h3⟩ := h
    refine ⟨x, xs, h1, ?_, flat_ones hf.2 h3⟩
    cases p <;> simp only [flatOne] at hf <;> try (exact absurd hf.1 (by decide))
    · rw [VR] at h2 ⊢
      exact h2
    · rw [VR] at h2 ⊢
      obtain ⟨us, q1, q2⟩ := h2
      exact ⟨us, q1, flat_lits hf.1 q2⟩
theorem flat_vr {w' : World} {G' : Nat → Prop} {p : PV} {v : Value} (hf : flat p = true) (h : VR w G nomap p v) : VR w' G' μ p v := by
  cases p <;> simp only [flat] at hf <;> try (cases hf; done)
  · rw [VR] at h ⊢; exact h
  · rw [VR] at h ⊢
    obtain ⟨vs, h1, h2⟩ := h
    exact ⟨vs, h1, flat_lits hf h2⟩
  · rw [VR] at h ⊢
    obtain ⟨vs, h1, h2⟩ := h
    exact ⟨vs, h1, flat_ones hf h2⟩

/-- The caller of a function on data keeps its heap. -/
theorem pure_keep (hW : WInv n0 G μ H w) {w' : World} {G0 G1 : Nat → Prop} (hG : ∀ b, G b → G0 b) (hG0 : ∀ b, G0 b → G b ∨ ∃ r, μ.loc r = some b) (e : Ext (Fresh w) w G0 nomap w' G1 nomap) (hlt : ∀ b, G1 b → b < w'.heap.size) {G' : Nat → Prop}
    (hG' : ∀ b, G' b → G b ∨ w.heap.size ≤ b ∧ b < w'.heap.size) (hGG' : ∀ b, G b → G' b) : Ext n0 w G μ w' G' μ ∧ WInv n0 G' μ H w' := by
  have e' : Ext n0 w G μ w' G' μ := {
    good := fun b hb => ⟨hGG' b hb, e.old b (hW.lt b hb) (Nat.not_le.2 (hW.lt b hb))⟩
    map := fun _ _ h => h
    len := fun _ _ h => h
    room := e.room
    os := e.os
    tape := e.tape
    output := e.output
    size := e.size
    drawn := e.drawn
    old := fun b hb _ => e.old b hb (Nat.not_le.2 hb)
    new := fun b hb => by
      rcases hG' b hb with h | h
      · exact .inl h
      · exact .inr (hW.base b h.1) }
  refine ⟨e', hW.keep e' ?_ ?_⟩
  · intro r k b hr hb
    have hlt : b < w.heap.size := hW.loc_lt hr hb
    refine ⟨e.old b hlt (Nat.not_le.2 hlt), fun hb' => ?_⟩
    rcases hG' b hb' with h | h
    · exact h
    · omega
  · intro b hb
    rcases hG' b hb with h | h
    · exact Nat.lt_of_lt_of_le (hW.lt b h) e.size
    · exact h.2

/-- How a pure call is made of a heap: flat results: the arguments may be looked at where they are. -/
theorem pure_flat (hW : WInv n0 G μ H w) {g : FuncId} {args qs : List PV} {r : PV} {n : Nat} {vs : List Value} (hp : PureCall P g qs r) (hq : mapO (inl false H n) args = some qs) (hf : flat r = true) (hv : VRs w G μ args vs) : CallOK P n0 w G μ g vs.toArray r H := by
  have hlive : ∀ r k b, H[r]? = some (some k) → μ.loc r = some b → b < w.heap.size := fun r k b hr hb => by
    exact hW.loc_lt hr hb
  have hvs : VRs w (fun b => b < w.heap.size) nomap qs vs := mapO_vrs (fun p q v h hv => inl_sound hW (fun b hb => hW.lt b hb) (fun r k b hr _ hb => hlive r k b hr hb) n p q v h hv) hq hv
  obtain ⟨h1, h2⟩ := hp w (fun b => b < w.heap.size) vs.toArray (fun b h => h) (by simpa using hvs)
  refine ⟨h1, h2.mono ?_⟩
  rintro e w' ⟨v', G', rfl, e1, e2, e3⟩
  have e4 : Ext n0 w G μ w' G μ := {
    good := fun b hb => ⟨hb, e1.old b (hW.lt b hb) (Nat.not_le.2 (hW.lt b hb))⟩
    map := fun _ _ h => h
    len := fun _ _ h => h
    room := e1.room
    os := e1.os
    tape := e1.tape
    output := e1.output
    size := e1.size
    drawn := e1.drawn
    old := fun b hb _ => e1.old b hb (Nat.not_le.2 hb)
    new := fun b hb => .inl hb }
  refine ⟨v', G, μ, rfl, e4, hW.keep e4 ?_ ?_, flat_vr hf e3⟩
  · intro r k b hr hb
    exact ⟨e1.old b (hlive r k b hr hb) (Nat.not_le.2 (hlive r k b hr hb)), id⟩
  · intro b hb
    exact Nat.lt_of_lt_of_le (hW.lt b hb) e1.size
/-- And with results that lie in memory: of arguments that nobody writes. -/
theorem pure_data (hW : WInv n0 G μ H w) {g : FuncId} {args qs : List PV} {r : PV} {n : Nat} {vs : List Value} (hp : PureCall P g qs r) (hq : mapO (inl true H n) args = some qs) (hv : VRs w G μ args vs) : CallOK P n0 w G μ g vs.toArray r H := by
  have hvs : VRs w G nomap qs vs := mapO_vrs (fun p q v h hv => inl_sound hW (fun b hb => hb) (fun r k b hr hf hb => by
    obtain ⟨c, h2, _, _, h5, _⟩ := hW.blk r k b hr hb
    rcases hf with hf | hf
    · exact h5 hf
    · cases hf) n p q v h hv) hq hv
  obtain ⟨h1, h2⟩ := hp w G vs.toArray hW.lt (by simpa using hvs)
  refine ⟨h1, h2.mono ?_⟩
  rintro e w' ⟨v', G', rfl, e1, e2, e3⟩
  obtain ⟨e4, e5⟩ := pure_keep (G' := G') hW (G0 := G) (fun b h => h) (fun b h => .inl h) e1 e2 (fun b hb => by
    rcases e1.new b hb with h | h
    · exact .inl h
    · exact .inr ⟨h, e2 b hb⟩) (fun b hb => (e1.good b hb).1)
  exact ⟨v', G', μ, rfl, e4, e5, e3.of_nomap⟩
end
end Go.PM
