/- The plain machine: a heap made compact: the blocks that are kept, in order, under new names; variables that hold owned slices. No program. -/
import Derived.Test.YtjgapmocogjkmaaGreatDoorPmR
set_option linter.unusedSimpArgs false
set_option linter.unusedVariables false
namespace Go.PM
open Go Go.RowKit

def posOf : List Nat → Nat → Option Nat
  | [], _ => none
  | x :: l, r => bif Nat.beq x r then some 0 else match posOf l r with
    | some i => some (i + 1)
    | none => none
def nodupN : List Nat → Bool
  | [] => true
  | x :: l => (match posOf l x with | none => true | some _ => false) && nodupN l
def renP (pm : List Nat) : PV → Option PV
  | .lit v => some (.lit v)
  | .vals cs n cap => some (.vals cs n cap)
  | .iptr cs => some (.iptr cs)
  | .tl t l cap e => some (.tl t l cap e)
  | .tp t l i off e => some (.tp t l i off e)
  | .junk => some .junk
  | .hptr r off => match posOf pm r with | some i => some (.hptr i off) | none => none
  | .hs r off len cap sz => match posOf pm r with | some i => some (.hs i off len cap sz) | none => none
  | .own r sz => match posOf pm r with | some i => some (.own i sz) | none => none
  | .op r j off sz => match posOf pm r with | some i => some (.op i j off sz) | none => none
  | .win r lo n sz => match posOf pm r with | some i => some (.win i lo n sz) | none => none
  | .agg cs => match renPs pm cs with | some qs => some (.agg qs) | none => none
  | .tuple cs => match renPs pm cs with | some qs => some (.tuple qs) | none => none
  | .clo fn f c => match renPs pm f, renPs pm c with | some f', some c' => some (.clo fn f' c') | _, _ => none
where renPs (pm : List Nat) : List PV → Option (List PV)
  | [] => some []
  | p :: ps => match renP pm p, renPs pm ps with | some q, some qs => some (q :: qs) | _, _ => none
def pickH (pm : List Nat) (H : Heap) : List Nat → Option Heap
  | [] => some []
  | r :: l => match hget H r with
    | some k => match (bif k.tag.isSome then some k else match renP.renPs pm k.cells with | some cs => some { k with cells := cs } | none => none), pickH pm H l with
      | some k', some H' => some (some k' :: H')
      | _, _ => none
    | none => none
def renF (pm : List Nat) (F : Frm) : List Nat → Option Frm
  | [] => some []
  | t :: l => match renP pm (fget F t), renF pm F l with
    | some p, some F' => some ((t, p) :: F')
    | _, _ => none
/-- The blocks T keep their names. -/
def stayOk (T pm : List Nat) : Bool := T.all fun r => match pm[r]? with
  | some s => Nat.beq s r
  | none => false
def compact (T pm slots : List Nat) (F : Frm) (H : Heap) : Option (Frm × Heap) :=
  bif nodupN pm && stayOk T pm then match pickH pm H pm, renF pm F slots with
    | some H', some F' => some (F', H')
    | _, _ => none
  else none
/-- Empty slices without a block become owned blocks. -/
def openNil : List (Nat × Kd) → Frm → Heap → Frm × Heap
  | [], F, H => (F, H)
  | (t, .own e ty) :: r, F, H => match fget F t with
    | .lit (.slice none m c) => bif Nat.beq m 0 && Nat.beq c 0 then openNil r ((t, .own H.length ty.size) :: F) (H ++ [some ⟨encAll ty [], e, true, false, some ⟨ty, []⟩⟩]) else openNil r F H
    | .tl _ [] (some 0) _ => openNil r ((t, .own H.length ty.size) :: F) (H ++ [some ⟨encAll ty [], e, true, false, some ⟨ty, []⟩⟩])
    | _ => openNil r F H
  | (t, .bown e et ty) :: r, F, H => match fget F t with
    | .hptr s _ => match hget H s with
      | some k => match k.cells with
        | [.lit (.slice none m c)] => bif Nat.beq m 0 && Nat.beq c 0 && !k.tag.isSome then openNil r F ((H ++ [some ⟨encAll ty [], et, true, false, some ⟨ty, []⟩⟩] : Heap).set s (some { k with cells := [.own H.length ty.size] })) else openNil r F H
        | _ => openNil r F H
      | none => openNil r F H
    | _ => openNil r F H
  | (t, .bag _ t1 et ty _) :: r, F, H => match fget F t with
    | .hptr s _ => match hget H s with
      | some k => match k.cells.drop t1.size with
        | .tl _ [] (some 0) _ :: rest => bif !k.tag.isSome then openNil r F ((H ++ [some ⟨encAll ty [], et, true, false, some ⟨ty, []⟩⟩] : Heap).set s (some { k with cells := k.cells.take t1.size ++ .own H.length ty.size :: rest })) else openNil r F H
        | _ => openNil r F H
      | none => openNil r F H
    | _ => openNil r F H
  | _ :: r, F, H => openNil r F H
/-- Variables that shall hold data: an owned slice in them is frozen. -/
def boxData : List (Nat × Kd) → Frm → Heap → Frm × Heap
  | [], F, H => (F, H)
  | (t, .box _ (.list _)) :: r, F, H => match fget F t with
    | .hptr s _ => match hget H s with
      | some k => match k.cells with
        | [.own u sz] => match hget H u with
          | some ku => match ku.tag with
            | some g => bif !k.tag.isSome && !Nat.beq u s then boxData r F (((H.set u (some { ku with frozen := true }))).set s (some { k with cells := [tlOf g.t g.l none] })) else boxData r F H
            | none => boxData r F H
          | none => boxData r F H
        | _ => boxData r F H
      | none => boxData r F H
    | _ => boxData r F H
  | _ :: r, F, H => boxData r F H
def permOf : List (Nat × Kd) → Frm → Heap → Option (List Nat)
  | [], _, _ => some []
  | (t, .own _ _) :: r, F, H => match fget F t, permOf r F H with
    | .own s _, some l => some (s :: l)
    | _, _ => none
  | (t, .box _ _) :: r, F, H => match fget F t, permOf r F H with
    | .hptr s _, some l => some (s :: l)
    | _, _ => none
  | (t, .bown _ _ _) :: r, F, H => match fget F t, permOf r F H with
    | .hptr s _, some l => match hget H s with
      | some k => match k.cells with
        | [.own u _] => some (s :: u :: l)
        | _ => none
      | none => none
    | _, _ => none
  | (t, .bag _ t1 _ _ _) :: r, F, H => match fget F t, permOf r F H with
    | .hptr s _, some l => match hget H s with
      | some k => match k.cells.drop t1.size with
        | .own u _ :: _ => some (s :: u :: l)
        | _ => none
      | none => none
    | _, _ => none
  | _ :: r, F, H => permOf r F H
/-- The typed state of a frame and its heap. -/
def decHeadR (T : List Nat) (sh : List (Nat × Kd)) (F : Frm) (H : Heap) : Option (Shape.den sh) :=
  match toData sh F H with
  | (F0, H0) => match boxData sh F0 H0 with
    | (F1, H1) => match openNil sh F1 H1 with
      | (F2, H2) => match permOf sh F2 H2 with
        | some pm => match compact T pm (slotsOf sh) F2 H2 with
          | some (F', H') => bif Nat.beq H'.length (ownN sh) then decF sh F' H' 0 else none
          | none => none
        | none => none

section
variable {P : Program} {n0 : Nat → Prop} {w wi : World} {G Gi : Nat → Prop} {μ μi μ' : Mp} {H : Heap} {F : Frm} {a : Act} {nt : Nat}

theorem posOf_some : ∀ {l : List Nat} {r i : Nat}, posOf l r = some i → l[i]? = some r
  | [], r, i, h => by cases h
  | x :: l, r, i, h => by
    simp only [posOf] at h
    cases hb : Nat.beq x r with
    | true =>
      rw [hb] at h
      simp only [cond_true, Option.some.injEq] at h
      subst h
      rw [Nat.eq_of_beq_eq_true hb]; rfl
    | false =>
      rw [hb] at h
      simp only [cond_false] at h
      split at h
      · rename_i j hj
        simp only [Option.some.injEq] at h
        subst h
        simpa using posOf_some hj
      · cases h
theorem posOf_none : ∀ {l : List Nat} {r i : Nat}, posOf l r = none → l[i]? = some r → False
  | [], r, i, _, h => by simp at h
  | x :: l, r, i, hn, h => by
    simp only [posOf] at hn
    cases hb : Nat.beq x r with
    | true => rw [hb] at hn; simp at hn
    | false =>
      rw [hb] at hn
      simp only [cond_false] at hn
      split at hn
      · cases hn
      · rename_i hp
        cases i with
        | zero =>
          simp only [List.getElem?_cons_zero, Option.some.injEq] at h
          subst h; simp at hb
        | succ i => exact posOf_none hp (by simpa using h)
theorem nodupN_inj : ∀ {l : List Nat} {i j r : Nat}, nodupN l = true → l[i]? = some r → l[j]? = some r → i = j
  | [], i, j, r, _, h, _ => by simp at h
  | x :: l, i, j, r, hn, h1, h2 => by
    simp only [nodupN, Bool.and_eq_true] at hn
    obtain ⟨hp, hn⟩ := hn
    have hx : posOf l x = none := by
      cases hq : posOf l x with
      | none => rfl
      | some k => rw [hq] at hp; cases hp
    cases i with
    | zero =>
      simp only [List.getElem?_cons_zero, Option.some.injEq] at h1
      subst h1
      cases j with
      | zero => rfl
      | succ j => exact (posOf_none hx (by simpa using h2)).elim
    | succ i =>
      cases j with
      | zero =>
        simp only [List.getElem?_cons_zero, Option.some.injEq] at h2
        subst h2
        exact (posOf_none hx (by simpa using h1)).elim
      | succ j => exact congrArg (· + 1) (nodupN_inj (r := r) hn (by simpa using h1) (by simpa using h2))

/-- The names of those that are kept. -/
def pickMp (μ : Mp) (pm : List Nat) : Mp := ⟨fun i => match pm[i]? with | some r => μ.loc r | none => none, fun i => match pm[i]? with | some r => μ.len r | none => none⟩
theorem pickMp_at {pm : List Nat} {i r : Nat} (h : pm[i]? = some r) : (pickMp μ pm).loc i = μ.loc r ∧ (pickMp μ pm).len i = μ.len r := by simp [pickMp, h]

mutual
theorem renP_vr {pm : List Nat} : ∀ (p q : PV) (v : Value), renP pm p = some q → VR w G μ p v → VR w G (pickMp μ pm) q v
  | .lit u, q, v, h, hv => by simp only [renP, Option.some.injEq] at h; subst h; rw [VR] at hv ⊢; exact hv
  | .vals .., q, v, h, hv => by simp only [renP, Option.some.injEq] at h; subst h; rw [VR] at hv ⊢; exact hv
  | .iptr _, q, v, h, hv => by simp only [renP, Option.some.injEq] at h; subst h; rw [VR] at hv ⊢; exact hv
  | .tl .., q, v, h, hv => by simp only [renP, Option.some.injEq] at h; subst h; rw [VR] at hv ⊢; exact hv
  | .tp .., q, v, h, hv => by simp only [renP, Option.some.injEq] at h; subst h; rw [VR] at hv ⊢; exact hv
  | .junk, q, v, h, hv => by simp only [renP, Option.some.injEq] at h; subst h; rw [VR]; trivial
  | .hptr r off, q, v, h, hv => by
    simp only [renP] at h
    split at h
    · rename_i i hi
      simp only [Option.some.injEq] at h
      subst h
      have := pickMp_at (μ := μ) (posOf_some hi)
      rw [VR] at hv ⊢; rw [this.1]; exact hv
    · cases h
  | .hs r off l c s, q, v, h, hv => by
    simp only [renP] at h
    split at h
    · rename_i i hi
      simp only [Option.some.injEq] at h
      subst h
      have := pickMp_at (μ := μ) (posOf_some hi)
      rw [VR] at hv ⊢; rw [this.1]; exact hv
    · cases h
  | .own r s, q, v, h, hv => by
    simp only [renP] at h
    split at h
    · rename_i i hi
      simp only [Option.some.injEq] at h
      subst h
      have := pickMp_at (μ := μ) (posOf_some hi)
      rw [VR] at hv ⊢; rw [this.1, this.2]; exact hv
    · cases h
  | .op r j off s, q, v, h, hv => by
    simp only [renP] at h
    split at h
    · rename_i i hi
      simp only [Option.some.injEq] at h
      subst h
      have := pickMp_at (μ := μ) (posOf_some hi)
      rw [VR] at hv ⊢; rw [this.1]; exact hv
    · cases h
  | .win r lo n s, q, v, h, hv => by
    simp only [renP] at h
    split at h
    · rename_i i hi
      simp only [Option.some.injEq] at h
      subst h
      have := pickMp_at (μ := μ) (posOf_some hi)
      rw [VR] at hv ⊢; rw [this.1, this.2]; exact hv
    · cases h
  | .agg cs, q, v, h, hv => by
    simp only [renP] at h
    split at h
    · rename_i qs hq
      simp only [Option.some.injEq] at h
      subst h
      rw [VR] at hv ⊢
      obtain ⟨vs, h1, h2⟩ := hv
      exact ⟨vs, h1, renPs_vrs cs qs _ hq h2⟩
    · cases h
  | .tuple cs, q, v, h, hv => by
    simp only [renP] at h
    split at h
    · rename_i qs hq
      simp only [Option.some.injEq] at h
      subst h
      rw [VR] at hv ⊢
      obtain ⟨vs, h1, h2⟩ := hv
      exact ⟨vs, h1, renPs_vrs cs qs _ hq h2⟩
    · cases h
  | .clo fn f c, q, v, h, hv => by
    simp only [renP] at h
    split at h
    · rename_i f' c' hf hc
      simp only [Option.some.injEq] at h
      subst h
      rw [VR] at hv ⊢
      obtain ⟨fs, cs, h1, h2, h3⟩ := hv
      exact ⟨fs, cs, h1, renPs_vrs f f' _ hf h2, renPs_vrs c c' _ hc h3⟩
    · cases h
theorem renPs_vrs {pm : List Nat} : ∀ (ps qs : List PV) (vs : List Value), renP.renPs pm ps = some qs → VRs w G μ ps vs → VRs w G (pickMp μ pm) qs vs
  | [], qs, vs, h, hv => by
    simp only [renP.renPs, Option.some.injEq] at h
    subst h
    rw [VRs] at hv ⊢; exact hv
  | p :: ps, qs, vs, h, hv => by
    simp only [renP.renPs] at h
    split at h
    · rename_i q qs' hq hqs
      simp only [Option.some.injEq] at h
      subst h
      rw [VRs] at hv ⊢
      obtain ⟨x, xs, h1, h2, h3⟩ := hv
      exact ⟨x, xs, h1, renP_vr p q x hq h2, renPs_vrs ps qs' xs hqs h3⟩
    · cases h
end
theorem pickH_get {pm : List Nat} : ∀ {l : List Nat} {H' : Heap}, pickH pm H l = some H' → H'.length = l.length ∧ ∀ (i : Nat) (k' : Blk), H'[i]? = some (some k') → ∃ s k, l[i]? = some s ∧ H[s]? = some (some k) ∧ ((k.tag.isSome = true ∧ k' = k) ∨ (k.tag = none ∧ ∃ cs, renP.renPs pm k.cells = some cs ∧ k' = { k with cells := cs }))
  | [], H', h => by
    simp only [pickH, Option.some.injEq] at h
    subst h
    exact ⟨rfl, fun i k' h => by simp at h⟩
  | r :: l, H', h => by
    simp only [pickH] at h
    split at h
    · rename_i k hk
      split at h
      · rename_i k1 H1 h1 h2
        simp only [Option.some.injEq] at h
        subst h
        obtain ⟨e1, e2⟩ := pickH_get h2
        refine ⟨by simp [e1], fun i k' hi => ?_⟩
        cases i with
        | zero =>
          simp only [List.getElem?_cons_zero, Option.some.injEq] at hi
          subst hi
          refine ⟨r, k, rfl, hget_some hk, ?_⟩
          cases ht : k.tag with
          | some g =>
            rw [ht] at h1
            simp only [Option.isSome_some, cond_true, Option.some.injEq] at h1
            exact .inl ⟨rfl, h1.symm⟩
          | none =>
            rw [ht] at h1
            simp only [Option.isSome_none, cond_false] at h1
            split at h1
            · rename_i cs hcs
              simp only [Option.some.injEq] at h1
              exact .inr ⟨rfl, cs, hcs, h1.symm⟩
            · cases h1
        | succ i =>
          obtain ⟨s, k0, a1, a2, a3⟩ := e2 i k' (by simpa using hi)
          exact ⟨s, k0, by simpa using a1, a2, a3⟩
      · cases h
    · cases h
theorem pick_winv (hW : WInv n0 G μ H w) {pm : List Nat} (hn : nodupN pm = true) {H' : Heap} (h : pickH pm H pm = some H') : WInv n0 G (pickMp μ pm) H' w := by
  obtain ⟨hlen, hget⟩ := pickH_get h
  refine ⟨?_, ?_, ?_, hW.lt, ?_, hW.base⟩
  · intro r k' b hr hb
    obtain ⟨s, k, a1, a2, a3⟩ := hget r k' hr
    rw [(pickMp_at a1).1] at hb
    obtain ⟨c, c1, c2, c3, c4⟩ := hW.blk s k b a2 hb
    rcases a3 with ⟨ht, rfl⟩ | ⟨ht, cs, hcs, rfl⟩
    · refine ⟨c, c1, ?_, c3, c4⟩
      obtain ⟨g, hg⟩ := Option.isSome_iff_exists.1 ht
      have := (hW.tags s k' g a2 hg).1
      rw [this] at c2 ⊢
      exact noRefs_cells (encAll_noRefs _ _) c2
    · obtain ⟨vs, d1, d2⟩ := c2.values
      have d3 := renPs_vrs _ _ _ hcs d1
      exact ⟨c, c1, VCells.of_values d3 d2, fun hg => by rw [c3 hg]; show k.cells.length = cs.length; rw [d1.length, d3.length], c4⟩
  · intro r k' g hr hg
    obtain ⟨s, k, a1, a2, a3⟩ := hget r k' hr
    rw [(pickMp_at a1).2]
    rcases a3 with ⟨ht, rfl⟩ | ⟨ht, cs, hcs, rfl⟩
    · exact hW.tags s k' g a2 hg
    · dsimp only at hg; rw [ht] at hg; cases hg
  · intro r1 r2 k1 k2 b e1 e2 f1 f2 m1 m2
    obtain ⟨s1, l1, a1, a2, a3⟩ := hget r1 k1 e1
    obtain ⟨s2, l2, b1, b2, b3⟩ := hget r2 k2 e2
    rw [(pickMp_at a1).1] at m1
    rw [(pickMp_at b1).1] at m2
    have fz : ∀ {k k' : Blk}, k'.frozen = false → ((k.tag.isSome = true ∧ k' = k) ∨ (k.tag = none ∧ ∃ cs, renP.renPs pm k.cells = some cs ∧ k' = { k with cells := cs })) → k.frozen = false := by
      rintro k k' hf (⟨_, rfl⟩ | ⟨_, cs, _, rfl⟩)
      · exact hf
      · exact hf
    have := hW.inj s1 s2 l1 l2 b a2 b2 (fz f1 a3) (fz f2 b3) m1 m2
    subst this
    exact nodupN_inj hn a1 b1
  · intro r hr
    have : pm[r]? = none := List.getElem?_eq_none (by omega)
    simp [pickMp, this]
theorem renF_get {pm : List Nat} : ∀ {l : List Nat} {F' : Frm}, renF pm F l = some F' → ∀ t, fget F' t = .junk ∨ renP pm (fget F t) = some (fget F' t)
  | [], F', h, t => by
    simp only [renF, Option.some.injEq] at h
    subst h
    exact .inl rfl
  | s :: l, F', h, t => by
    simp only [renF] at h
    split at h
    · rename_i p F1 hp hl
      simp only [Option.some.injEq] at h
      subst h
      rw [fget_cons]
      by_cases hs : t = s
      · subst hs; rw [if_pos rfl]; exact .inr hp
      · rw [if_neg hs]; exact renF_get hl t
    · cases h
theorem compact_sound {T pm slots : List Nat} {F' : Frm} {H' : Heap} (h : compact T pm slots F H = some (F', H')) (hfl : ∀ r, ¬ r ∈ T → μi.loc r = none ∧ μi.len r = none) (hI : I n0 wi Gi μi nt F H a w) : I n0 wi Gi μi nt F' H' a w := by
  unfold compact at h
  obtain ⟨hn, h⟩ := condSome h
  simp only [Bool.and_eq_true] at hn
  obtain ⟨hn, hst⟩ := hn
  have stay : ∀ r, r ∈ T → pm[r]? = some r := by
    intro r hr
    have := List.all_eq_true.1 hst r hr
    split at this
    · rename_i s hs
      rw [hs, Nat.eq_of_beq_eq_true this]
    · cases this
  split at h
  · rename_i H1 F1 h1 h2
    simp only [Option.some.injEq, Prod.mk.injEq] at h
    obtain ⟨rfl, rfl⟩ := h
    obtain ⟨G, μ, e, hW, hF⟩ := hI
    refine ⟨G, pickMp μ pm, ?_, pick_winv hW hn h1, hF.size, fun t => ?_, hF.defers⟩
    · exact {
        good := e.good
        map := fun r b hr => by
          by_cases hT : r ∈ T
          · rw [(pickMp_at (stay r hT)).1]; exact e.map r b hr
          · rw [(hfl r hT).1] at hr; cases hr
        len := fun r b hr => by
          by_cases hT : r ∈ T
          · rw [(pickMp_at (stay r hT)).2]; exact e.len r b hr
          · rw [(hfl r hT).2] at hr; cases hr
        room := e.room
        os := e.os
        tape := e.tape
        output := e.output
        size := e.size
        drawn := e.drawn
        old := e.old
        new := e.new }
    · rcases renF_get h2 t with h3 | h3
      · rw [h3, VR]; trivial
      · exact renP_vr _ _ _ h3 (hF.slot t)
  · cases h

/-- A block whose cells are read in another way. -/
theorem recell_winv (hW : WInv n0 G μ H w) {s : Nat} {k : Blk} {cs : List PV} (hs : H[s]? = some (some k)) (ht : k.tag = none) (hc : ∀ b, VCells w G μ b 0 k.cells → VCells w G μ b 0 cs ∧ cs.length = k.cells.length) :
    WInv n0 G μ (H.set s (some { k with cells := cs })) w := by
  have hsl : s < H.length := (List.getElem?_eq_some_iff.1 hs).1
  have key : ∀ (r : Nat) (k' : Blk), (H.set s (some { k with cells := cs }))[r]? = some (some k') → (r = s ∧ k' = { k with cells := cs }) ∨ (r ≠ s ∧ H[r]? = some (some k')) := by
    intro r k' hr
    by_cases hrs : s = r
    · subst hrs; rw [List.getElem?_set_self hsl] at hr; cases hr; exact .inl ⟨rfl, rfl⟩
    · rw [List.getElem?_set_ne hrs] at hr; exact .inr ⟨Ne.symm hrs, hr⟩
  refine ⟨?_, ?_, ?_, hW.lt, fun r hr => hW.top r (by simpa using hr), hW.base⟩
  · intro r k' b hr hb
    rcases key r k' hr with ⟨rfl, rfl⟩ | ⟨_, hr⟩
    · obtain ⟨c, c1, c2, c3, c4⟩ := hW.blk r k b hs hb
      obtain ⟨d1, d2⟩ := hc b c2
      exact ⟨c, c1, d1, fun hg => by show c.size = cs.length; rw [d2]; exact c3 hg, c4⟩
    · exact hW.blk r k' b hr hb
  · intro r k' g hr hg
    rcases key r k' hr with ⟨rfl, rfl⟩ | ⟨_, hr⟩
    · dsimp only at hg; rw [ht] at hg; cases hg
    · exact hW.tags r k' g hr hg
  · intro r1 r2 k1 k2 b e1 e2 f1 f2 m1 m2
    have old : ∀ (r : Nat) (k' : Blk), (H.set s (some { k with cells := cs }))[r]? = some (some k') → k'.frozen = false → ∃ k0, H[r]? = some (some k0) ∧ k0.frozen = false := by
      intro r k' hr hf
      rcases key r k' hr with ⟨rfl, rfl⟩ | ⟨_, hr⟩
      · exact ⟨k, hs, hf⟩
      · exact ⟨k', hr, hf⟩
    obtain ⟨l1, a1, a2⟩ := old r1 k1 e1 f1
    obtain ⟨l2, b1, b2⟩ := old r2 k2 e2 f2
    exact hW.inj r1 r2 l1 l2 b a1 b1 a2 b2 m1 m2

theorem openNil_sound : ∀ (sh : List (Nat × Kd)) (F : Frm) (H : Heap), I n0 wi Gi μi nt F H a w → I n0 wi Gi μi nt (openNil sh F H).1 (openNil sh F H).2 a w
  | [], F, H, hI => hI
  | (t, .own e ty) :: r, F, H, hI => by
    have skip : I n0 wi Gi μi nt (openNil r F H).1 (openNil r F H).2 a w := openNil_sound r F H hI
    unfold openNil
    split
    · rename_i m c ht
      cases hb : (Nat.beq m 0 && Nat.beq c 0) with
      | false => exact skip
      | true =>
        simp only [cond_true]
        simp only [Bool.and_eq_true] at hb
        have h1 := Nat.eq_of_beq_eq_true hb.1
        have h2 := Nat.eq_of_beq_eq_true hb.2
        subst h1; subst h2
        obtain ⟨G, μ, e0, hW, hF⟩ := hI
        have hs := hF.slot t
        rw [ht, VR] at hs
        obtain ⟨e1, w1⟩ := unborn_winv hW ⟨encAll ty [], e, true, false, some ⟨ty, []⟩⟩ (on := some 0) (fun g hg => by cases hg; exact ⟨rfl, rfl⟩)
        refine openNil_sound r _ _ ⟨G, _, e0.trans e1, w1, FInv.named (hF.mono e1.toMono) ?_⟩
        rw [VR]
        exact ⟨0, upd_len .., .inl ⟨rfl, none, hs⟩⟩
    · rename_i t' e' ht
      obtain ⟨G, μ, e0, hW, hF⟩ := hI
      have hs := hF.slot t
      rw [ht] at hs
      obtain ⟨ao, hs⟩ := tl_nil_vr hs
      obtain ⟨e1, w1⟩ := unborn_winv hW ⟨encAll ty [], e, true, false, some ⟨ty, []⟩⟩ (on := some 0) (fun g hg => by cases hg; exact ⟨rfl, rfl⟩)
      refine openNil_sound r _ _ ⟨G, _, e0.trans e1, w1, FInv.named (hF.mono e1.toMono) ?_⟩
      rw [VR]
      exact ⟨0, upd_len .., .inl ⟨rfl, ao, hs⟩⟩
    · exact skip
  | (t, .bown e et ty) :: r, F, H, hI => by
    have skip : I n0 wi Gi μi nt (openNil r F H).1 (openNil r F H).2 a w := openNil_sound r F H hI
    unfold openNil
    split
    · rename_i s off ht
      split
      · rename_i k hk
        split
        · rename_i m c hcs
          cases hb : (Nat.beq m 0 && Nat.beq c 0 && !k.tag.isSome) with
          | false => exact skip
          | true =>
            simp only [cond_true]
            simp only [Bool.and_eq_true, Bool.not_eq_true'] at hb
            have h1 := Nat.eq_of_beq_eq_true hb.1.1
            have h2 := Nat.eq_of_beq_eq_true hb.1.2
            subst h1; subst h2
            have htag : k.tag = none := by
              cases hq : k.tag with
              | none => rfl
              | some g => rw [hq] at hb; simp at hb
            obtain ⟨G, μ, e0, hW, hF⟩ := hI
            obtain ⟨e1, w1⟩ := unborn_winv hW ⟨encAll ty [], et, true, false, some ⟨ty, []⟩⟩ (on := some 0) (fun g hg => by cases hg; exact ⟨rfl, rfl⟩)
            have hk' := hget_some hk
            have hsl : s < H.length := (List.getElem?_eq_some_iff.1 hk').1
            have hk2 : (H ++ [some ⟨encAll ty [], et, true, false, some ⟨ty, []⟩⟩])[s]? = some (some k) := by rw [List.getElem?_append_left hsl]; exact hk'
            refine openNil_sound r _ _ ⟨G, _, e0.trans e1, recell_winv w1 hk2 htag ?_, hF.mono e1.toMono⟩
            intro b hc
            rw [hcs] at hc ⊢
            refine ⟨?_, rfl⟩
            rw [VCells] at hc ⊢
            obtain ⟨⟨v, v1, v2⟩, v3⟩ := hc
            refine ⟨⟨v, v1, ?_⟩, by rw [VCells]; trivial⟩
            have v4 : v = .slice none 0 0 := by simpa only [VR] using v2
            simp only [VR]
            exact ⟨0, upd_len .., .inl ⟨rfl, none, v4⟩⟩
        · exact skip
      · exact skip
    · exact skip
  | (_, .int _) :: r, F, H, hI => openNil_sound r F H hI
  | (_, .bool) :: r, F, H, hI => openNil_sound r F H hI
  | (_, .str) :: r, F, H, hI => openNil_sound r F H hI
  | (_, .list _) :: r, F, H, hI => openNil_sound r F H hI
  | (_, .agg _) :: r, F, H, hI => openNil_sound r F H hI
  | (_, .box _ _) :: r, F, H, hI => openNil_sound r F H hI
  | (_, .ptr _) :: r, F, H, hI => openNil_sound r F H hI
  | (_, .fn _) :: r, F, H, hI => openNil_sound r F H hI
  | (_, .nil0) :: r, F, H, hI => openNil_sound r F H hI
  | (_, .val) :: r, F, H, hI => openNil_sound r F H hI
  | (_, .nilI) :: r, F, H, hI => openNil_sound r F H hI
  | (_, .clo _ _) :: r, F, H, hI => openNil_sound r F H hI
  | (_, .win _ _) :: r, F, H, hI => openNil_sound r F H hI
  | (t, .bag e t1 et ty t2) :: r, F, H, hI => by
    have skip : I n0 wi Gi μi nt (openNil r F H).1 (openNil r F H).2 a w := openNil_sound r F H hI
    unfold openNil
    split
    · rename_i s off ht
      split
      · rename_i k hk
        split
        · rename_i t' e' rest hcs
          cases hb : (!k.tag.isSome) with
          | false => exact skip
          | true =>
            simp only [cond_true]
            have htag : k.tag = none := by
              cases hq : k.tag with
              | none => rfl
              | some g => rw [hq] at hb; simp at hb
            obtain ⟨G, μ, e0, hW, hF⟩ := hI
            obtain ⟨e1, w1⟩ := unborn_winv hW ⟨encAll ty [], et, true, false, some ⟨ty, []⟩⟩ (on := some 0) (fun g hg => by cases hg; exact ⟨rfl, rfl⟩)
            have hk' := hget_some hk
            have hsl : s < H.length := (List.getElem?_eq_some_iff.1 hk').1
            have hk2 : (H ++ [some ⟨encAll ty [], et, true, false, some ⟨ty, []⟩⟩])[s]? = some (some k) := by rw [List.getElem?_append_left hsl]; exact hk'
            refine openNil_sound r _ _ ⟨G, _, e0.trans e1, recell_winv w1 hk2 htag ?_, hF.mono e1.toMono⟩
            intro b hc
            obtain ⟨vs, d1, d2⟩ := hc.values
            have d3 := d1.take t1.size
            have d4 := d1.drop t1.size
            rw [hcs, VRs] at d4
            obtain ⟨v, vc, e3, d5, d6⟩ := d4
            obtain ⟨ao, d7⟩ := tl_nil_vr d5
            have d8 : VRs w G (upd μ H.length none (some 0)) (k.cells.take t1.size ++ .own H.length ty.size :: rest) (vs.take t1.size ++ v :: vc) := VRs.append d3 (by
              rw [VRs]
              refine ⟨v, vc, rfl, ?_, d6⟩
              rw [VR]
              exact ⟨0, upd_len .., .inl ⟨rfl, ao, d7⟩⟩)
            rw [← e3, List.take_append_drop] at d8
            exact ⟨VCells.of_values d8 d2, by rw [d8.length, d1.length]⟩
        · exact skip
      · exact skip
    · exact skip

theorem boxData_sound : ∀ (sh : List (Nat × Kd)) (F : Frm) (H : Heap), I n0 wi Gi μi nt F H a w → I n0 wi Gi μi nt (boxData sh F H).1 (boxData sh F H).2 a w
  | [], F, H, hI => hI
  | (t, .box e (.list ty)) :: r, F, H, hI => by
    have skip : I n0 wi Gi μi nt (boxData r F H).1 (boxData r F H).2 a w := boxData_sound r F H hI
    unfold boxData
    split
    · rename_i s off ht
      split
      · rename_i k hk
        split
        · rename_i u sz hcs
          split
          · rename_i ku hku
            split
            · rename_i g hg
              cases hb : (!k.tag.isSome && !Nat.beq u s) with
              | false => exact skip
              | true =>
                simp only [cond_true]
                simp only [Bool.and_eq_true, Bool.not_eq_true'] at hb
                have htag : k.tag = none := by
                  cases hq : k.tag with
                  | none => rfl
                  | some g => rw [hq] at hb; simp at hb
                have hne : u ≠ s := fun e => by rw [e] at hb; simp at hb
                obtain ⟨G, μ, e0, hW, hF⟩ := hI
                have hul : u < H.length := (List.getElem?_eq_some_iff.1 (hget_some hku)).1
                have hk2 : (H.set u (some { ku with frozen := true }))[s]? = some (some k) := by rw [List.getElem?_set_ne hne]; exact hget_some hk
                have hku2 : hget (H.set u (some { ku with frozen := true })) u = some { ku with frozen := true } := by
                  simp only [hget, List.getElem?_set_self hul]
                have fin : ∀ {G1 : Nat → Prop} {w1 : World} {μ1 : Mp}, (∀ b, μ1.loc u = some b → G1 b) → WInv n0 G1 μ1 (H.set u (some { ku with frozen := true })) w1 → WInv n0 G1 μ1 ((H.set u (some { ku with frozen := true })).set s (some { k with cells := [tlOf g.t g.l none] })) w1 := by
                  intro G1 w1 μ1 hGu hW1
                  refine recell_winv hW1 hk2 htag fun b hc => ?_
                  rw [hcs] at hc ⊢
                  refine ⟨?_, rfl⟩
                  rw [VCells] at hc ⊢
                  obtain ⟨⟨v, v1, v2⟩, v3⟩ := hc
                  exact ⟨⟨v, v1, (own_frozen hW1 v2 hku2 hg (fun b h => h) hGu).of_nomap⟩, by rw [VCells]; trivial⟩
                cases hfz : ku.frozen with
                | true =>
                  have hsame : H.set u (some { ku with frozen := true }) = H := by
                    apply List.ext_getElem?
                    intro i
                    by_cases hi : u = i
                    · subst hi
                      rw [List.getElem?_set_self hul, hget_some hku]
                      obtain ⟨k1, k2, k3, k4, k5⟩ := ku
                      dsimp only at hfz
                      rw [hfz]
                    · rw [List.getElem?_set_ne hi]
                  refine boxData_sound r _ _ ⟨G, μ, e0, fin (fun b hb => ?_) (by rw [hsame]; exact hW), hF⟩
                  obtain ⟨_, _, _, _, h5, _⟩ := hW.blk u ku b (hget_some hku) hb
                  exact h5 hfz
                | false =>
                  obtain ⟨e1, w1⟩ := freeze_winv hW (hget_some hku) hfz
                  exact boxData_sound r _ _ ⟨_, μ, e0.trans e1, fin (fun b hb => .inr hb) w1, hF.mono e1.toMono⟩
            · exact skip
          · exact skip
        · exact skip
      · exact skip
    · exact skip
  | (_, .int _) :: r, F, H, hI => boxData_sound r F H hI
  | (_, .bool) :: r, F, H, hI => boxData_sound r F H hI
  | (_, .str) :: r, F, H, hI => boxData_sound r F H hI
  | (_, .list _) :: r, F, H, hI => boxData_sound r F H hI
  | (_, .agg _) :: r, F, H, hI => boxData_sound r F H hI
  | (_, .box _ (.int _)) :: r, F, H, hI => boxData_sound r F H hI
  | (_, .box _ .bool) :: r, F, H, hI => boxData_sound r F H hI
  | (_, .box _ .str) :: r, F, H, hI => boxData_sound r F H hI
  | (_, .box _ (.prod _ _)) :: r, F, H, hI => boxData_sound r F H hI
  | (_, .ptr _) :: r, F, H, hI => boxData_sound r F H hI
  | (_, .fn _) :: r, F, H, hI => boxData_sound r F H hI
  | (_, .nil0) :: r, F, H, hI => boxData_sound r F H hI
  | (_, .val) :: r, F, H, hI => boxData_sound r F H hI
  | (_, .nilI) :: r, F, H, hI => boxData_sound r F H hI
  | (_, .clo _ _) :: r, F, H, hI => boxData_sound r F H hI
  | (_, .win _ _) :: r, F, H, hI => boxData_sound r F H hI
  | (_, .own _ _) :: r, F, H, hI => boxData_sound r F H hI
  | (_, .bown _ _ _) :: r, F, H, hI => boxData_sound r F H hI
  | (_, .bag _ _ _ _ _) :: r, F, H, hI => boxData_sound r F H hI

theorem decHeadR_sound {T : List Nat} {sh : List (Nat × Kd)} {x : Shape.den sh} (h : decHeadR T sh F H = some x) (hfl : ∀ r, ¬ r ∈ T → μi.loc r = none ∧ μi.len r = none) (hI : I n0 wi Gi μi nt F H a w) : I n0 wi Gi μi nt (encF sh x 0) (encH sh x) a w := by
  unfold decHeadR at h
  replace hI := toData_sound sh F H hI
  split at h
  rename_i F0 H0 hd0
  rw [hd0] at hI
  replace hI := boxData_sound sh F0 H0 hI
  split at h
  rename_i F1 H1 hd1
  rw [hd1] at hI
  replace hI := openNil_sound sh F1 H1 hI
  split at h
  rename_i F2 H2 hd2
  rw [hd2] at hI
  split at h
  · rename_i pm hpm
    split at h
    · rename_i F' H' ht
      obtain ⟨hb, h⟩ := condSome h
      obtain ⟨G, μ, e, hW, hF⟩ := compact_sound ht hfl hI
      obtain ⟨h1, h2⟩ := decF_sound hW hF.slot sh h
      have hH : ∀ i : Nat, BRel H'[i]? (encH sh x)[i]? := by
        intro i
        rcases Nat.lt_or_ge i (ownN sh) with hl | hl
        · have := h2 i hl
          rwa [Nat.zero_add] at this
        · have e1 := Nat.eq_of_beq_eq_true hb
          exact .inl (by rw [List.getElem?_eq_none (by omega), List.getElem?_eq_none (by rw [encH_length]; omega)])
      exact ⟨G, μ, e, hW.related hH, hF.size, h1, hF.defers⟩
    · cases h
  · cases h
end
end Go.PM
