/- The plain machine: typed states of a frame and its heap. No program. -/
import Derived.Test.YtjgapmocogjkmaaGreatDoorPmP
set_option linter.unusedSimpArgs false
set_option linter.unusedVariables false
namespace Go.PM
open Go Go.RowKit

/-- What a slot holds, typed: own: a slice that may be written and grown (its elements' type in the program); box: a pointer to a variable; ptr: a pointer to data that nobody writes; fn, clo: a function, and one with variables that nobody writes; win: a slice of the owned slice number j (from where on, how many); bown: a pointer to a variable that holds an owned slice. -/
inductive Kd where
  | int (k : IntKind)
  | bool
  | str
  | list (t : Ty)
  | agg (t : Ty)
  | own (e : TypeId) (t : Ty)
  | box (e : TypeId) (t : Ty)
  | ptr (t : Ty)
  | fn (g : FuncId)
  | nil0
  | val
  | nilI
  | clo (g : FuncId) (ts : List Ty)
  | win (j sz : Nat)
  | bown (e et : TypeId) (t : Ty)
  | bag (e : TypeId) (t1 : Ty) (et : TypeId) (t t2 : Ty)
@[reducible] def denT : List Ty → Type
  | [] => Unit
  | t :: r => t.den × denT r
@[reducible] def Kd.den : Kd → Type
  | .int _ => Int
  | .bool => Bool
  | .str => ByteArray
  | .list t => List t.den
  | .agg t => t.den
  | .own _ t => List t.den
  | .box _ t => t.den
  | .ptr t => t.den
  | .fn _ => Unit
  | .nil0 => Unit
  | .val => Value
  | .nilI => Unit
  | .clo _ ts => denT ts
  | .win _ _ => Nat × Nat
  | .bown _ _ t => List t.den
  | .bag _ t1 _ t t2 => t1.den × List t.den × t2.den
abbrev Shape := List (Nat × Kd)
@[reducible] def Shape.den : List (Nat × Kd) → Type
  | [] => Unit
  | (_, k) :: r => k.den × Shape.den r
def Kd.pos : Kd → Nat
  | .own _ _ | .box _ _ => 1
  | .bown _ _ _ => 2
  | .bag _ _ _ _ _ => 2
  | _ => 0
def encP : (ts : List Ty) → denT ts → List PV
  | [], _ => []
  | t :: r, (x, xs) => .iptr (enc t x) :: encP r xs
def encK : (k : Kd) → k.den → Nat → PV
  | .int k, x, _ => .lit (.int k x)
  | .bool, x, _ => .lit (.bool x)
  | .str, x, _ => .lit (.string x)
  | .list t, l, _ => tlOf t l none
  | .agg t, x, _ => .agg (enc t x)
  | .own _ t, _, n => .own n t.size
  | .box _ _, _, n => .hptr n 0
  | .ptr t, x, _ => .iptr (enc t x)
  | .fn g, _, _ => .lit (.func (.func g) #[] #[])
  | .nil0, _, _ => .lit (.slice none 0 0)
  | .val, x, _ => .lit x
  | .nilI, _, _ => .lit .nilIface
  | .clo g ts, x, _ => .clo (.func g) [] (encP ts x)
  | .win j sz, x, _ => .win j x.1 x.2 sz
  | .bown _ _ _, _, n => .hptr n 0
  | .bag _ _ _ _ _, _, n => .hptr n 0
def blkK : (k : Kd) → k.den → Nat → Heap
  | .own e t, l, _ => [some ⟨encAll t l, e, true, false, some ⟨t, l⟩⟩]
  | .box e t, x, _ => [some ⟨enc t x, e, false, false, none⟩]
  | .bown e et t, l, n => [some ⟨[.own (n + 1) t.size], e, false, false, none⟩, some ⟨encAll t l, et, true, false, some ⟨t, l⟩⟩]
  | .bag e t1 et t t2, x, n => [some ⟨enc t1 x.1 ++ .own (n + 1) t.size :: enc t2 x.2.2, e, false, false, none⟩, some ⟨encAll t x.2.1, et, true, false, some ⟨t, x.2.1⟩⟩]
  | .int _, _, _ | .bool, _, _ | .str, _, _ | .list _, _, _ | .agg _, _, _ | .ptr _, _, _ | .fn _, _, _ | .nil0, _, _ | .val, _, _ | .nilI, _, _ | .clo _ _, _, _ | .win _ _, _, _ => []
def encF : (sh : List (Nat × Kd)) → Shape.den sh → Nat → Frm
  | [], _, _ => []
  | (t, k) :: r, (x, xs), n => (t, encK k x n) :: encF r xs (n + k.pos)
def encHN : (sh : List (Nat × Kd)) → Shape.den sh → Nat → Heap
  | [], _, _ => []
  | (_, k) :: r, (x, xs), n => blkK k x n ++ encHN r xs (n + k.pos)
def encH (sh : List (Nat × Kd)) (x : Shape.den sh) : Heap := encHN sh x 0

def decOwn (e : TypeId) (t : Ty) (p : PV) (H : Heap) (n : Nat) : Option (List t.den) :=
  match p with
  | .own s sz => bif Nat.beq s n && Nat.beq sz t.size then match hget H n with
    | some k => match k.tag with
      | some g => match castL g.t t g.l with
        | some l => bif Nat.beq k.ty e && k.grown && !k.frozen then some l else none
        | none => none
      | none => none
    | none => none
    else none
  | _ => none
def decBox (e : TypeId) (t : Ty) (p : PV) (H : Heap) (n : Nat) : Option t.den :=
  match p with
  | .hptr s off => bif Nat.beq s n && Nat.beq off 0 then match hget H n with
    | some k => bif Nat.beq k.ty e && !k.grown && !k.frozen && !k.tag.isSome then dec t k.cells else none
    | none => none
    else none
  | _ => none
def decBown (e et : TypeId) (t : Ty) (p : PV) (H : Heap) (n : Nat) : Option (List t.den) :=
  match p with
  | .hptr s off => bif Nat.beq s n && Nat.beq off 0 then match hget H n with
    | some k => bif Nat.beq k.ty e && !k.grown && !k.frozen && !k.tag.isSome then match k.cells with
      | [.own r sz] => decOwn et t (.own r sz) H (n + 1)
      | _ => none
      else none
    | none => none
    else none
  | _ => none
def decBag (e : TypeId) (t1 : Ty) (et : TypeId) (t t2 : Ty) (p : PV) (H : Heap) (n : Nat) : Option (t1.den × List t.den × t2.den) :=
  match p with
  | .hptr s off => bif Nat.beq s n && Nat.beq off 0 then match hget H n with
    | some k => bif Nat.beq k.ty e && !k.grown && !k.frozen && !k.tag.isSome then match k.cells.drop t1.size with
      | .own r sz :: rest => match dec t1 (k.cells.take t1.size), decOwn et t (.own r sz) H (n + 1), dec t2 rest with
        | some a, some l, some b => some (a, l, b)
        | _, _, _ => none
      | _ => none
      else none
    | none => none
    else none
  | _ => none
def decAgg (t : Ty) : PV → Option t.den
  | .agg cs => dec t cs
  | _ => none
def decPtr (t : Ty) : PV → Option t.den
  | .iptr cs => dec t cs
  | _ => none
def decP : (ts : List Ty) → List PV → Option (denT ts)
  | [], [] => some ()
  | t :: r, p :: ps => match decPtr t p with
    | some x => match decP r ps with
      | some xs => some (x, xs)
      | none => none
    | none => none
  | _, _ => none
def decFn (g : FuncId) : PV → Option Unit
  | .lit (.func (.func f) first caps) => bif Nat.beq f g && Nat.beq first.size 0 && Nat.beq caps.size 0 then some () else none
  | _ => none
def decNil : PV → Option Unit
  | .lit (.slice none o c) => bif Nat.beq o 0 && Nat.beq c 0 then some () else none
  | _ => none
def decVal : PV → Option Value
  | .lit v => some v
  | _ => none
def decNilI : PV → Option Unit
  | .lit .nilIface => some ()
  | _ => none
theorem decVal_sound {p : PV} {x : Value} (h : decVal p = some x) : p = .lit x := by
  unfold decVal at h
  split at h
  · rw [Option.some.inj h]
  · cases h
theorem decNilI_sound {p : PV} {x : Unit} (h : decNilI p = some x) : p = .lit .nilIface := by
  unfold decNilI at h
  split at h
  · rfl
  · cases h
def decClo (g : FuncId) (ts : List Ty) : PV → Option (denT ts)
  | .clo (.func f) [] caps => bif Nat.beq f g then decP ts caps else none
  | _ => none
def decWin (j sz : Nat) : PV → Option (Nat × Nat)
  | .win r lo n s => bif Nat.beq r j && Nat.beq s sz then some (lo, n) else none
  | _ => none
def decK : (k : Kd) → PV → Heap → Nat → Option k.den
  | .int k, p, _, _ => decInt k [p]
  | .bool, p, _, _ => decBool [p]
  | .str, p, _, _ => decStr [p]
  | .list t, p, _, _ => dec (.list t) [p]
  | .agg t, p, _, _ => decAgg t p
  | .own e t, p, H, n => decOwn e t p H n
  | .box e t, p, H, n => decBox e t p H n
  | .ptr t, p, _, _ => decPtr t p
  | .fn g, p, _, _ => decFn g p
  | .nil0, p, _, _ => decNil p
  | .val, p, _, _ => decVal p
  | .nilI, p, _, _ => decNilI p
  | .clo g ts, p, _, _ => decClo g ts p
  | .win j sz, p, _, _ => decWin j sz p
  | .bown e et t, p, H, n => decBown e et t p H n
  | .bag e t1 et t t2, p, H, n => decBag e t1 et t t2 p H n
def decF : (sh : List (Nat × Kd)) → Frm → Heap → Nat → Option (Shape.den sh)
  | [], _, _, _ => some ()
  | (t, k) :: r, F, H, n => match decK k (fget F t) H n with
    | some x => match decF r F H (n + k.pos) with
      | some xs => some (x, xs)
      | none => none
    | none => none
def ownsOf : List (Nat × Kd) → List (Nat × TypeId × Option Ty)
  | [] => []
  | (t, .own e ty) :: r => (t, e, some ty) :: ownsOf r
  | (t, .box e _) :: r => (t, e, none) :: ownsOf r
  | _ :: r => ownsOf r
def slotsOf : List (Nat × Kd) → List Nat
  | [] => []
  | (t, _) :: r => t :: slotsOf r
def ownN : List (Nat × Kd) → Nat
  | [] => 0
  | (_, k) :: r => k.pos + ownN r
/-- Slots that shall be data: owned slices among them are frozen. -/
def toData : List (Nat × Kd) → Frm → Heap → Frm × Heap
  | [], F, H => (F, H)
  | (t, .list _) :: r, F, H => match fget F t with
    | .own s _ => match hget H s with
      | some k => match k.tag with
        | some g => bif k.frozen then toData r ((t, tlOf g.t g.l none) :: F) H else toData r ((t, tlOf g.t g.l none) :: F) (H.set s (some { k with frozen := true }))
        | none => toData r F H
      | none => toData r F H
    | _ => toData r F H
  | _ :: r, F, H => toData r F H
/-- The typed state of a frame and its heap (the heap tidied up). -/
def decHead (sh : List (Nat × Kd)) (F : Frm) (H : Heap) : Option (Shape.den sh) :=
  match toData sh F H with
  | (F1, H1) => match tidy ⟨slotsOf sh, ownsOf sh, 0⟩ F1 H1 with
    | some (F', H') => bif Nat.beq H'.length (ownN sh) then decF sh F' H' 0 else none
    | none => none

section
variable {P : Program} {n0 : Nat → Prop} {w wi : World} {G Gi : Nat → Prop} {μ μi μ' : Mp} {H : Heap} {F : Frm} {a : Act} {nt : Nat}

theorem decOwn_sound (hW : WInv n0 G μ H w) {e : TypeId} {t : Ty} {p : PV} {n : Nat} {l : List t.den} (h : decOwn e t p H n = some l) : p = .own n t.size ∧ H[n]? = some (some ⟨encAll t l, e, true, false, some ⟨t, l⟩⟩) := by
  unfold decOwn at h
  split at h
  · rename_i s sz
    replace h := condSome h
    obtain ⟨hb, h⟩ := h
    simp only [Bool.and_eq_true] at hb
    have h1 := Nat.eq_of_beq_eq_true hb.1
    have h2 := Nat.eq_of_beq_eq_true hb.2
    subst h1; subst h2
    refine ⟨rfl, ?_⟩
    split at h
    · rename_i k hk
      split at h
      · rename_i g hg
        split at h
        · rename_i l' hc
          obtain ⟨hb, h⟩ := condSome h
          simp only [Bool.and_eq_true, Bool.not_eq_true'] at hb
          simp only [Option.some.injEq] at h
          subst h
          have hb3 := Nat.eq_of_beq_eq_true hb.1.1
          have ht := (hW.tags s k g (hget_some hk) hg).1
          obtain ⟨gt, gl⟩ := g
          obtain ⟨rfl, rfl⟩ := castL_some hc
          rw [hget_some hk]
          obtain ⟨k1, k2, k3, k4, k5⟩ := k
          dsimp only at ht hg hb hb3 ⊢
          rw [ht, hg, hb3, hb.1.2, hb.2]
        · cases h
      · cases h
    · cases h
  · cases h
theorem decBown_sound (hW : WInv n0 G μ H w) {e et : TypeId} {t : Ty} {p : PV} {n : Nat} {l : List t.den} (h : decBown e et t p H n = some l) :
    p = .hptr n 0 ∧ H[n]? = some (some ⟨[.own (n + 1) t.size], e, false, false, none⟩) ∧ H[n + 1]? = some (some ⟨encAll t l, et, true, false, some ⟨t, l⟩⟩) := by
  unfold decBown at h
  split at h
  · rename_i s off
    replace h := condSome h
    obtain ⟨hb, h⟩ := h
    simp only [Bool.and_eq_true] at hb
    have h1 := Nat.eq_of_beq_eq_true hb.1
    have h2 := Nat.eq_of_beq_eq_true hb.2
    subst h1; subst h2
    refine ⟨rfl, ?_⟩
    split at h
    · rename_i k hk
      replace h := condSome h
      obtain ⟨hc, h⟩ := h
      simp only [Bool.and_eq_true, Bool.not_eq_true'] at hc
      obtain ⟨⟨⟨c1, c2⟩, c3⟩, c4⟩ := hc
      have c1 := Nat.eq_of_beq_eq_true c1
      split at h
      · rename_i r sz hcs
        obtain ⟨h3, h4⟩ := decOwn_sound hW h
        cases h3
        refine ⟨?_, h4⟩
        rw [hget_some hk]
        obtain ⟨k1, k2, k3, k4, k5⟩ := k
        dsimp only at c1 c2 c3 c4 hcs
        rw [hcs, c1, c2, c3]
        cases k5 with
        | none => rfl
        | some g => simp at c4
      · cases h
    · cases h
  · cases h
/-- A block that reads as another one. -/
def BlkRel (k k' : Blk) : Prop := k.tag = none ∧ k'.ty = k.ty ∧ k'.grown = k.grown ∧ k'.frozen = k.frozen ∧ k'.tag = none ∧ ∀ (w : World) (G : Nat → Prop) (μ : Mp) (b : Nat), VCells w G μ b 0 k.cells → VCells w G μ b 0 k'.cells ∧ k'.cells.length = k.cells.length
def BRel (a b : Option (Option Blk)) : Prop := a = b ∨ ∃ k k', a = some (some k) ∧ b = some (some k') ∧ BlkRel k k'
theorem WInv.related (hW : WInv n0 G μ H w) {H' : Heap} (h : ∀ r : Nat, BRel H[r]? H'[r]?) : WInv n0 G μ H' w := by
  have key : ∀ (r : Nat) (k' : Blk), H'[r]? = some (some k') → ∃ k, H[r]? = some (some k) ∧ (k = k' ∨ BlkRel k k') ∧ k'.frozen = k.frozen := by
    intro r k' hr
    rcases h r with h1 | ⟨k, k2, h1, h2, h3⟩
    · exact ⟨k', by rw [h1, hr], .inl rfl, rfl⟩
    · rw [hr] at h2
      cases h2
      exact ⟨k, h1, .inr h3, h3.2.2.2.1⟩
  refine ⟨?_, ?_, ?_, hW.lt, ?_, hW.base⟩
  · intro r k' b hr hb
    obtain ⟨k, h1, h2, h3⟩ := key r k' hr
    obtain ⟨c, a1, a2, a3, a4⟩ := hW.blk r k b h1 hb
    rcases h2 with rfl | ⟨_, e1, e2, e3, _, e5⟩
    · exact ⟨c, a1, a2, a3, a4⟩
    · obtain ⟨b1, b2⟩ := e5 w G μ b a2
      exact ⟨c, by rw [e1]; exact a1, b1, fun hg => by rw [b2]; exact a3 (by rw [← e2]; exact hg), by rw [e3]; exact a4⟩
  · intro r k' g hr hg
    obtain ⟨k, h1, h2, _⟩ := key r k' hr
    rcases h2 with rfl | ⟨_, _, _, _, e4, _⟩
    · exact hW.tags r k g h1 hg
    · rw [e4] at hg; cases hg
  · intro r s k l b hr hs fk fl m1 m2
    obtain ⟨k1, h1, _, h3⟩ := key r k hr
    obtain ⟨l1, h4, _, h6⟩ := key s l hs
    exact hW.inj r s k1 l1 b h1 h4 (by rw [← h3]; exact fk) (by rw [← h6]; exact fl) m1 m2
  · intro r hr
    refine hW.top r ?_
    rcases Nat.lt_or_ge r H.length with hl | hl
    · rcases h r with h1 | ⟨k, k', _, h2, _⟩
      · rw [List.getElem?_eq_none hr, List.getElem?_eq_getElem hl] at h1; cases h1
      · rw [List.getElem?_eq_none hr] at h2; cases h2
    · exact hl
theorem decBox_sound {e : TypeId} {t : Ty} {p : PV} {n : Nat} {x : t.den} (h : decBox e t p H n = some x) : p = .hptr n 0 ∧ BRel H[n]? (some (some ⟨enc t x, e, false, false, none⟩)) := by
  unfold decBox at h
  split at h
  · rename_i s off
    replace h := condSome h
    obtain ⟨hb, h⟩ := h
    simp only [Bool.and_eq_true] at hb
    have h1 := Nat.eq_of_beq_eq_true hb.1
    have h2 := Nat.eq_of_beq_eq_true hb.2
    subst h1; subst h2
    refine ⟨rfl, ?_⟩
    split at h
    · rename_i k hk
      obtain ⟨hc, h⟩ := condSome h
      simp only [Bool.and_eq_true, Bool.not_eq_true'] at hc
      obtain ⟨⟨⟨c1, c2⟩, c3⟩, c4⟩ := hc
      have c1 := Nat.eq_of_beq_eq_true c1
      refine .inr ⟨k, _, hget_some hk, rfl, by simpa using c4, c1.symm, c2.symm, c3.symm, rfl, ?_⟩
      intro w G μ b hc
      obtain ⟨vs, d1, d2⟩ := hc.values
      have d3 := dec_vr t μ k.cells x vs h d1
      exact ⟨VCells.of_values d3.of_nomap d2, by rw [d3.length, d1.length]⟩
    · cases h
  · cases h
theorem decBag_sound (hW : WInv n0 G μ H w) {e : TypeId} {t1 : Ty} {et : TypeId} {t t2 : Ty} {p : PV} {n : Nat} {x : t1.den × List t.den × t2.den} (h : decBag e t1 et t t2 p H n = some x) :
    p = .hptr n 0 ∧ BRel H[n]? (some (some ⟨enc t1 x.1 ++ .own (n + 1) t.size :: enc t2 x.2.2, e, false, false, none⟩)) ∧ H[n + 1]? = some (some ⟨encAll t x.2.1, et, true, false, some ⟨t, x.2.1⟩⟩) := by
  unfold decBag at h
  split at h
  · rename_i s off
    replace h := condSome h
    obtain ⟨hb, h⟩ := h
    simp only [Bool.and_eq_true] at hb
    have h1 := Nat.eq_of_beq_eq_true hb.1
    have h2 := Nat.eq_of_beq_eq_true hb.2
    subst h1; subst h2
    refine ⟨rfl, ?_⟩
    split at h
    · rename_i k hk
      obtain ⟨hc, h⟩ := condSome h
      simp only [Bool.and_eq_true, Bool.not_eq_true'] at hc
      obtain ⟨⟨⟨c1, c2⟩, c3⟩, c4⟩ := hc
      have c1 := Nat.eq_of_beq_eq_true c1
      split at h
      · rename_i r sz rest hd
        split at h
        · rename_i xa xl xb ha hl hbb
          simp only [Option.some.injEq] at h
          subst h
          obtain ⟨h3, h4⟩ := decOwn_sound hW hl
          cases h3
          refine ⟨.inr ⟨k, _, hget_some hk, rfl, by simpa using c4, c1.symm, c2.symm, c3.symm, rfl, ?_⟩, h4⟩
          intro w G μ b hc
          obtain ⟨vs, d1, d2⟩ := hc.values
          have d3 := d1.take t1.size
          have d4 := d1.drop t1.size
          rw [hd, VRs] at d4
          obtain ⟨v, vc, e1, d5, d6⟩ := d4
          have d7 := dec_vr t1 μ _ xa _ ha d3
          have d8 := dec_vr t2 μ _ xb vc hbb d6
          have d9 : VRs w G μ (enc t1 xa ++ .own (s + 1) t.size :: enc t2 xb) (vs.take t1.size ++ v :: vc) := VRs.append d7.of_nomap (by rw [VRs]; exact ⟨v, vc, rfl, d5, d8.of_nomap⟩)
          rw [← e1, List.take_append_drop] at d9
          exact ⟨VCells.of_values d9 d2, by rw [d9.length, d1.length]⟩
        · cases h
      · cases h
    · cases h
  · cases h
theorem decPtr_sound {t : Ty} {p : PV} {x : t.den} {v : Value} (h : decPtr t p = some x) (hv : VR w G μ p v) : VR w G nomap (.iptr (enc t x)) v := by
  unfold decPtr at h
  split at h
  · rename_i cs
    rw [VR] at hv ⊢
    obtain ⟨b, off, h1, h2, h3⟩ := hv
    obtain ⟨vs, d1, d2⟩ := h3.values
    exact ⟨b, off, h1, h2, VCells.of_values (dec_vr t nomap cs x vs h d1) d2⟩
  · cases h
theorem decP_sound : ∀ (ts : List Ty) {ps : List PV} {x : denT ts} {vs : List Value}, decP ts ps = some x → VRs w G μ ps vs → VRs w G nomap (encP ts x) vs
  | [], [], x, vs, h, hv => by rw [VRs] at hv; simp only [encP]; rw [VRs]; exact hv
  | [], _ :: _, x, vs, h, hv => by cases h
  | _ :: _, [], x, vs, h, hv => by cases h
  | t :: r, p :: ps, x, vs, h, hv => by
    simp only [decP] at h
    split at h
    · rename_i y hy
      split at h
      · rename_i ys hys
        simp only [Option.some.injEq] at h
        subst h
        rw [VRs] at hv
        obtain ⟨u, us, h1, h2, h3⟩ := hv
        simp only [encP]
        rw [VRs]
        exact ⟨u, us, h1, decPtr_sound hy h2, decP_sound r hys h3⟩
      · cases h
    · cases h
theorem decNil_sound {p : PV} {x : Unit} (h : decNil p = some x) : p = .lit (.slice none 0 0) := by
  unfold decNil at h
  split at h
  · rename_i o c
    cases hb : (Nat.beq o 0 && Nat.beq c 0) with
    | false => rw [hb] at h; cases h
    | true =>
      simp only [Bool.and_eq_true] at hb
      rw [Nat.eq_of_beq_eq_true hb.1, Nat.eq_of_beq_eq_true hb.2]
  · cases h
theorem decFn_sound {g : FuncId} {p : PV} {x : Unit} (h : decFn g p = some x) : p = .lit (.func (.func g) #[] #[]) := by
  unfold decFn at h
  split at h
  · rename_i f first caps
    replace h := (condSome h).1
    simp only [Bool.and_eq_true] at h
    have h1 := Nat.eq_of_beq_eq_true h.1.1
    have h2 := Array.eq_empty_of_size_eq_zero (Nat.eq_of_beq_eq_true h.1.2)
    have h3 := Array.eq_empty_of_size_eq_zero (Nat.eq_of_beq_eq_true h.2)
    rw [h1, h2, h3]
  · cases h
theorem decClo_sound {g : FuncId} {ts : List Ty} {p : PV} {x : denT ts} {v : Value} (h : decClo g ts p = some x) (hv : VR w G μ p v) : VR w G nomap (.clo (.func g) [] (encP ts x)) v := by
  unfold decClo at h
  split at h
  · rename_i f caps
    have h1 := Nat.eq_of_beq_eq_true (condSome h).1
    have h2 := (condSome h).2
    subst h1
    rw [VR] at hv ⊢
    obtain ⟨fs, cs, e1, e2, e3⟩ := hv
    exact ⟨fs, cs, e1, by rw [VRs] at e2 ⊢; exact e2, decP_sound ts h2 e3⟩
  · cases h
theorem decWin_sound {j sz : Nat} {p : PV} {x : Nat × Nat} (h : decWin j sz p = some x) : p = .win j x.1 x.2 sz := by
  unfold decWin at h
  split at h
  · replace h := condSome h
    obtain ⟨hb, h⟩ := h
    simp only [Bool.and_eq_true] at hb
    have h1 := Nat.eq_of_beq_eq_true hb.1
    have h2 := Nat.eq_of_beq_eq_true hb.2
    simp only [Option.some.injEq] at h
    rw [← h, h1, h2]
  · cases h
theorem decK_sound (hW : WInv n0 G μ H w) : ∀ (k : Kd) {p : PV} {n : Nat} {x : k.den} {v : Value}, decK k p H n = some x → VR w G μ p v → VR w G μ (encK k x n) v ∧ ∀ i : Nat, i < k.pos → BRel H[n + i]? (blkK k x n)[i]?
  | .int k, p, n, x, v, h, hv => by
    have := decInt_some h
    simp only [List.cons.injEq, and_true] at this
    subst this
    exact ⟨hv, fun i hi => absurd hi (Nat.not_lt_zero _)⟩
  | .bool, p, n, x, v, h, hv => by
    have := decBool_some h
    simp only [List.cons.injEq, and_true] at this
    subst this
    exact ⟨hv, fun i hi => absurd hi (Nat.not_lt_zero _)⟩
  | .str, p, n, x, v, h, hv => by
    have := decStr_some h
    simp only [List.cons.injEq, and_true] at this
    subst this
    exact ⟨hv, fun i hi => absurd hi (Nat.not_lt_zero _)⟩
  | .list t, p, n, x, v, h, hv => by
    have := dec_vr (.list t) μ [p] x [v] h (by rw [VRs]; exact ⟨v, [], rfl, hv, by rw [VRs]⟩)
    refine ⟨?_, fun i hi => absurd hi (Nat.not_lt_zero _)⟩
    simp only [enc] at this
    rw [VRs] at this
    obtain ⟨y, ys, h1, h2, _⟩ := this
    cases h1
    exact h2.of_nomap
  | .agg t, p, n, x, v, h, hv => by
    refine ⟨?_, fun i hi => absurd hi (Nat.not_lt_zero _)⟩
    simp only [decK] at h
    unfold decAgg at h
    split at h
    · rename_i cs
      rw [VR] at hv
      obtain ⟨vs, rfl, h2⟩ := hv
      simp only [encK]
      rw [VR]
      exact ⟨vs, rfl, (dec_vr t μ cs x vs.toList h h2).of_nomap⟩
    · cases h
  | .own e t, p, n, x, v, h, hv => by
    obtain ⟨rfl, h2⟩ := decOwn_sound hW h
    refine ⟨hv, fun i hi => ?_⟩
    simp only [Kd.pos] at hi
    have : i = 0 := by omega
    subst this
    simp only [Nat.add_zero, h2]
    exact .inl rfl
  | .box e t, p, n, x, v, h, hv => by
    obtain ⟨rfl, h2⟩ := decBox_sound h
    refine ⟨hv, fun i hi => ?_⟩
    simp only [Kd.pos] at hi
    have : i = 0 := by omega
    subst this
    exact h2
  | .ptr t, p, n, x, v, h, hv => ⟨(decPtr_sound h hv).of_nomap, fun i hi => absurd hi (Nat.not_lt_zero _)⟩
  | .fn g, p, n, x, v, h, hv => by
    have := decFn_sound h
    subst this
    exact ⟨hv, fun i hi => absurd hi (Nat.not_lt_zero _)⟩
  | .nil0, p, n, x, v, h, hv => by
    have := decNil_sound h
    subst this
    exact ⟨hv, fun i hi => absurd hi (Nat.not_lt_zero _)⟩
  | .val, p, n, x, v, h, hv => by
    have := decVal_sound (p := p) (x := x) h
    subst this
    exact ⟨hv, fun i hi => absurd hi (Nat.not_lt_zero _)⟩
  | .nilI, p, n, x, v, h, hv => by
    have := decNilI_sound (p := p) (x := x) h
    subst this
    exact ⟨hv, fun i hi => absurd hi (Nat.not_lt_zero _)⟩
  | .clo g ts, p, n, x, v, h, hv => ⟨(decClo_sound h hv).of_nomap, fun i hi => absurd hi (Nat.not_lt_zero _)⟩
  | .win j sz, p, n, x, v, h, hv => by
    have := decWin_sound h
    subst this
    exact ⟨hv, fun i hi => absurd hi (Nat.not_lt_zero _)⟩
  | .bown e et t, p, n, x, v, h, hv => by
    obtain ⟨rfl, h2, h3⟩ := decBown_sound hW h
    refine ⟨hv, fun i hi => ?_⟩
    simp only [Kd.pos] at hi
    rcases (show i = 0 ∨ i = 1 by omega) with rfl | rfl
    · simp only [Nat.add_zero, h2]
      exact .inl rfl
    · simp only [h3]
      exact .inl rfl
  | .bag e t1 et t t2, p, n, x, v, h, hv => by
    obtain ⟨rfl, h2, h3⟩ := decBag_sound hW h
    refine ⟨hv, fun i hi => ?_⟩
    simp only [Kd.pos] at hi
    rcases (show i = 0 ∨ i = 1 by omega) with rfl | rfl
    · exact h2
    · simp only [h3]
      exact .inl rfl
theorem blkK_length : ∀ (k : Kd) (x : k.den) (n : Nat), (blkK k x n).length = k.pos
  | .int _, _, _ | .bool, _, _ | .str, _, _ | .list _, _, _ | .agg _, _, _ | .ptr _, _, _ | .fn _, _, _ | .nil0, _, _ | .val, _, _ | .nilI, _, _ | .clo _ _, _, _ | .win _ _, _, _ => rfl
  | .own _ _, _, _ => rfl
  | .box _ _, _, _ => rfl
  | .bown _ _ _, _, _ => rfl
  | .bag _ _ _ _ _, _, _ => rfl
theorem encHN_length : ∀ (sh : List (Nat × Kd)) (x : Shape.den sh) (n : Nat), (encHN sh x n).length = ownN sh
  | [], _, _ => rfl
  | (_, k) :: r, (x, xs), n => by simp only [encHN, List.length_append, blkK_length, encHN_length r xs, ownN]
theorem encH_length (sh : List (Nat × Kd)) (x : Shape.den sh) : (encH sh x).length = ownN sh := encHN_length sh x 0
theorem decF_sound (hW : WInv n0 G μ H w) (hF : ∀ t, VR w G μ (fget F t) (a.tmps.getD t undef)) : ∀ (sh : List (Nat × Kd)) {n : Nat} {x : Shape.den sh}, decF sh F H n = some x → (∀ t, VR w G μ (fget (encF sh x n) t) (a.tmps.getD t undef)) ∧ ∀ i : Nat, i < ownN sh → BRel H[n + i]? (encHN sh x n)[i]?
  | [], n, x, h => ⟨fun t => by simp only [encF, fget]; rw [VR]; trivial, fun i hi => absurd hi (Nat.not_lt_zero _)⟩
  | (t, k) :: r, n, x, h => by
    simp only [decF] at h
    split at h
    · rename_i y hy
      split at h
      · rename_i ys hys
        simp only [Option.some.injEq] at h
        subst h
        obtain ⟨h1, h2⟩ := decK_sound hW k hy (hF t)
        obtain ⟨h3, h4⟩ := decF_sound hW hF r hys
        refine ⟨fun s => ?_, fun i hi => ?_⟩
        · simp only [encF]
          rw [fget_cons]
          by_cases hs : s = t
          · subst hs; rw [if_pos rfl]; exact h1
          · rw [if_neg hs]; exact h3 s
        · simp only [encHN]
          rcases Nat.lt_or_ge i k.pos with hl | hl
          · rw [List.getElem?_append_left (by rw [blkK_length]; exact hl)]
            exact h2 i hl
          · rw [List.getElem?_append_right (by rw [blkK_length]; exact hl), blkK_length]
            have := h4 (i - k.pos) (by simp only [ownN] at hi; omega)
            have e1 : n + k.pos + (i - k.pos) = n + i := by omega
            rwa [e1] at this
      · cases h
    · cases h
theorem toData_sound : ∀ (sh : List (Nat × Kd)) (F : Frm) (H : Heap), I n0 wi Gi μi nt F H a w → I n0 wi Gi μi nt (toData sh F H).1 (toData sh F H).2 a w
  | [], F, H, hI => hI
  | (t, k0) :: r, F, H, hI => by
    have skip : I n0 wi Gi μi nt (toData r F H).1 (toData r F H).2 a w := toData_sound r F H hI
    unfold toData
    split
    · exact hI
    · rename_i heq
      cases heq
      split
      · rename_i s sz ht
        split
        · rename_i k hk
          split
          · rename_i g hg
            obtain ⟨G, μ, e, hW, hF⟩ := hI
            have hv := hF.slot t
            rw [ht] at hv
            cases hfz : k.frozen with
            | true =>
              simp only [cond_true]
              refine toData_sound r _ _ ⟨G, μ, e, hW, hF.named ?_⟩
              exact (own_frozen hW hv hk hg (fun b h => h) (fun b hb => by
                obtain ⟨_, _, _, _, h5, _⟩ := hW.blk s k b (hget_some hk) hb
                exact h5 hfz)).of_nomap
            | false =>
              simp only [cond_false]
              obtain ⟨e1, w1⟩ := freeze_winv hW (hget_some hk) hfz
              refine toData_sound r _ _ ⟨_, μ, e.trans e1, w1, (hF.mono e1.toMono).named ?_⟩
              exact (own_frozen hW hv hk hg (fun b h => .inl h) (fun b hb => .inr hb)).of_nomap
          · exact skip
        · exact skip
      · exact skip
    · rename_i heq
      cases heq
      exact skip
theorem decHead_sound {sh : List (Nat × Kd)} {x : Shape.den sh} (h : decHead sh F H = some x) (hfl : ∀ r, μi.loc r = none ∧ μi.len r = none) (hI : I n0 wi Gi μi nt F H a w) : I n0 wi Gi μi nt (encF sh x 0) (encH sh x) a w := by
  unfold decHead at h
  replace hI := toData_sound sh F H hI
  split at h
  rename_i F1 H1 hd
  rw [hd] at hI
  split at h
  · rename_i F' H' ht
    obtain ⟨hb, h⟩ := condSome h
    obtain ⟨⟨G, μ, e, hW, hF⟩, _⟩ := tidy_sound ht (fun r _ => hfl r) hI
    obtain ⟨h1, h2⟩ := decF_sound hW hF.slot sh h
    have hH : ∀ i : Nat, BRel H'[i]? (encH sh x)[i]? := by
      intro i
      rcases Nat.lt_or_ge i (ownN sh) with hl | hl
      · have := h2 i hl
        rwa [Nat.zero_add] at this
      · have e1 := Nat.eq_of_beq_eq_true hb
        exact .inl (by rw [List.getElem?_eq_none (by omega), List.getElem?_eq_none (by rw [encH_length]; omega)])
    exact ⟨G, μ, e, hW.related hH, hF.size, h1, hF.defers⟩
  · cases h
end
end Go.PM
