/- Texts of one proof, joined (4). -/
import Derived.ProofKit
import Derived.Lib.SmallJoins
import Derived.Test.YtjgapmocogjkmaaGreatDoorRows
import Derived.LaidMore
import Derived.OpenShut
import Derived.Lib.LaidU8
import Derived.MakeChecks
import Derived.Test.YtjgapmocogjkmaaGreatDoorProg
import Derived.KernelRfl
import Derived.Test.YtjgapmocogjkmaaGreatDoorQM3
set_option linter.unusedSimpArgs false
set_option linter.unusedVariables false
namespace Go.PM
open Go Go.RowKit
inductive Kd where
 | int (k : IntKind)
 | bool
 | str
 | list (t : Ty)
 | agg (t : Ty)
 | own (e : TypeId) (t : Ty)
 | box (e : TypeId) (t : Ty)
 | ptr (t : Ty)
 | fn (g : FuncId)
 | nil0
 | val
 | nilI
 | clo (g : FuncId) (ts : List Ty)
 | win (j sz : Nat)
 | bown (e et : TypeId) (t : Ty)
 | bag (e : TypeId) (t1 : Ty) (et : TypeId) (t : Ty) (t2 : Option Ty)
 | hnd (sz : Nat)
 | ar (e : TypeId) (t : Ty)
@[reducible] def aQW : Option Ty → Type
 | none => Unit
 | some t => t.den
def aS5 : (t : Option Ty) → aQW t → List PV
 | none, _ => []
 | some t, x => enc t x
@[reducible] def uJ : List Ty → Type
 | [] => Unit
 | t :: r => t.den × uJ r
@[reducible] def Kd.den : Kd → Type
 | .int _ => Int
 | .bool => Bool
 | .str => ByteArray
 | .list t => List t.den
 | .agg t => t.den
 | .own _ t => List t.den
 | .box _ t => t.den
 | .ptr t => t.den
 | .fn _ => Unit
 | .nil0 => Unit
 | .val => Value
 | .nilI => Unit
 | .clo _ ts => uJ ts
 | .win _ _ => Nat × Nat
 | .bown _ _ t => List t.den
 | .bag _ t1 _ t t2 => t1.den × List t.den × aQW t2
 | .hnd _ => Nat × Nat × Nat
 | .ar _ t => List (List t.den)
abbrev Shape := List (Nat × Kd)
@[reducible] def Shape.den : List (Nat × Kd) → Type
 | [] => Unit
 | (_, k) :: r => k.den × Shape.den r
def Kd.pos : Kd → Nat
 | .own _ _ | .box _ _ | .ar _ _ => 1
 | .bown _ _ _ => 2
 | .bag _ _ _ _ _ => 2
 | _ => 0
def HV : (ts : List Ty) → uJ ts → List PV
 | [], _ => []
 | t :: r, (x, xs) => .iptr (enc t x) :: HV r xs
def pO : (k : Kd) → k.den → Nat → PV
 | .int k, x, _ => .lit (.int k x)
 | .bool, x, _ => .lit (.bool x)
 | .str, x, _ => .lit (.string x)
 | .list t, l, _ => zM t l none
 | .agg t, x, _ => .agg (enc t x)
 | .own _ t, _, n => .own n t.size
 | .box _ _, _, n => .hptr n 0
 | .ptr t, x, _ => .iptr (enc t x)
 | .fn g, _, _ => .lit (.func (.func g) #[] #[])
 | .nil0, _, _ => .lit (.slice none 0 0)
 | .val, x, _ => .lit x
 | .nilI, _, _ => .lit .nilIface
 | .clo g ts, x, _ => .clo (.func g) [] (HV ts x)
 | .win j sz, x, _ => .win j x.1 x.2 sz
 | .bown _ _ _, _, n => .hptr n 0
 | .bag _ _ _ _ _, _, n => .hptr n 0
 | .hnd sz, x, _ => .row x.1 x.2.1 x.2.2 sz
 | .ar _ _, _, _ => .junk
def a0B : (k : Kd) → k.den → Nat → Heap
 | .own e t, l, _ => [some ⟨aO t l, e, true, false, some ⟨t, l⟩⟩]
 | .box e t, x, _ => [some ⟨enc t x, e, false, false, none⟩]
 | .bown e et t, l, n => [some ⟨[.own (n + 1) t.size], e, false, false, none⟩, some ⟨aO t l, et, true, false, some ⟨t, l⟩⟩]
 | .bag e t1 et t t2, x, n => [some ⟨enc t1 x.1 ++ .own (n + 1) t.size :: aS5 t2 x.2.2, e, false, false, none⟩, some ⟨aO t x.2.1, et, true, false, some ⟨t, x.2.1⟩⟩]
 | .ar e t, l, _ => [some ⟨aO (.rows t) l, e, false, false, some ⟨.rows t, l⟩⟩]
 | .int _, _, _ | .bool, _, _ | .str, _, _ | .list _, _, _ | .agg _, _, _ | .ptr _, _, _ | .fn _, _, _ | .nil0, _, _ | .val, _, _ | .nilI, _, _ | .clo _ _, _, _ | .win _ _, _, _ | .hnd _, _, _ => []
def o8 : (sh : List (Nat × Kd)) → Shape.den sh → Nat → Frm
 | [], _, _ => []
 | (t, k) :: r, (x, xs), n => (t, pO k x n) :: o8 r xs (n + k.pos)
def aCX : (sh : List (Nat × Kd)) → Shape.den sh → Nat → Heap
 | [], _, _ => []
 | (_, k) :: r, (x, xs), n => a0B k x n ++ aCX r xs (n + k.pos)
def wA (sh : List (Nat × Kd)) (x : Shape.den sh) : Heap := aCX sh x 0

def DV (e : TypeId) (t : Ty) (p : PV) (H : Heap) (n : Nat) : Option (List t.den) :=
 match p with
 | .own s sz => bif Nat.beq s n && Nat.beq sz t.size then match gR H n with
  | some k => match k.tag with
   | some g => match xH g.t t g.l with
    | some l => bif Nat.beq k.ty e && k.grown && !k.frozen then some l else none
    | none => none
   | none => none
  | none => none
  else none
 | _ => none
def aBF (e : TypeId) (t : Ty) (p : PV) (H : Heap) (n : Nat) : Option t.den :=
 match p with
 | .hptr s off => bif Nat.beq s n && Nat.beq off 0 then match gR H n with
  | some k => bif Nat.beq k.ty e && !k.grown && !k.frozen && !k.tag.isSome then dec t k.cells else none
  | none => none
  else none
 | _ => none
def QX (e et : TypeId) (t : Ty) (p : PV) (H : Heap) (n : Nat) : Option (List t.den) :=
 match p with
 | .hptr s off => bif Nat.beq s n && Nat.beq off 0 then match gR H n with
  | some k => bif Nat.beq k.ty e && !k.grown && !k.frozen && !k.tag.isSome then match k.cells with
   | [.own r sz] => DV et t (.own r sz) H (n + 1)
   | _ => none
   else none
  | none => none
  else none
 | _ => none
def a4K : (t : Option Ty) → List PV → Option (aQW t)
 | none, cs => match cs with
  | [] => some ()
  | _ :: _ => none
 | some t, cs => dec t cs
def aBL (e : TypeId) (t1 : Ty) (et : TypeId) (t : Ty) (t2 : Option Ty) (p : PV) (H : Heap) (n : Nat) : Option (t1.den × List t.den × aQW t2) :=
 match p with
 | .hptr s off => bif Nat.beq s n && Nat.beq off 0 then match gR H n with
  | some k => bif Nat.beq k.ty e && !k.grown && !k.frozen && !k.tag.isSome then match k.cells.drop t1.size with
   | .own r sz :: rest => match dec t1 (k.cells.take t1.size), DV et t (.own r sz) H (n + 1), a4K t2 rest with
    | some a, some l, some b => some (a, l, b)
    | _, _, _ => none
   | _ => none
   else none
  | none => none
  else none
 | _ => none
def aNY (e : TypeId) (t : Ty) (H : Heap) (n : Nat) : Option (List (List t.den)) := match gR H n with
 | some k => match k.tag with
  | some g => match xH g.t (.rows t) g.l with
   | some l => bif Nat.beq k.ty e && !k.grown && !k.frozen then some l else none
   | none => none
  | none => none
 | none => none
def aKJ (t : Ty) : PV → Option t.den
 | .agg cs => dec t cs
 | _ => none
def aEN (t : Ty) : PV → Option t.den
 | .iptr cs => dec t cs
 | _ => none
def aVS : (ts : List Ty) → List PV → Option (uJ ts)
 | [], [] => some ()
 | t :: r, p :: ps => match aEN t p with
  | some x => match aVS r ps with
   | some xs => some (x, xs)
   | none => none
  | none => none
 | _, _ => none
def aUN (g : FuncId) : PV → Option Unit
 | .lit (.func (.func f) first caps) => bif Nat.beq f g && Nat.beq first.size 0 && Nat.beq caps.size 0 then some () else none
 | _ => none
def aLB : PV → Option Unit
 | .lit (.slice none o c) => bif Nat.beq o 0 && Nat.beq c 0 then some () else none
 | _ => none
def aKF : PV → Option Value
 | .lit v => some v
 | _ => none
def aFB : PV → Option Unit
 | .lit .nilIface => some ()
 | _ => none
theorem RL {p : PV} {x : Value} (h : aKF p = some x) : p = .lit x := by
 unfold aKF at h
 split at h
 ·rw [Option.some.inj h]
 ·cases h
theorem M7 {p : PV} {x : Unit} (h : aFB p = some x) : p = .lit .nilIface := by
 unfold aFB at h
 split at h
 ·rfl
 ·cases h
def aEZ (g : FuncId) (ts : List Ty) : PV → Option (uJ ts)
 | .clo (.func f) [] caps => bif Nat.beq f g then aVS ts caps else none
 | _ => none
def aLK (j sz : Nat) : PV → Option (Nat × Nat)
 | .win r lo n s => bif Nat.beq r j && Nat.beq s sz then some (lo, n) else none
 | _ => none
def XE : (k : Kd) → PV → Heap → Nat → Option k.den
 | .int k, p, _, _ => aG3 k [p]
 | .bool, p, _, _ => XS [p]
 | .str, p, _, _ => aF4 [p]
 | .list t, p, _, _ => dec (.list t) [p]
 | .agg t, p, _, _ => aKJ t p
 | .own e t, p, H, n => DV e t p H n
 | .box e t, p, H, n => aBF e t p H n
 | .ptr t, p, _, _ => aEN t p
 | .fn g, p, _, _ => aUN g p
 | .nil0, p, _, _ => aLB p
 | .val, p, _, _ => aKF p
 | .nilI, p, _, _ => aFB p
 | .clo g ts, p, _, _ => aEZ g ts p
 | .win j sz, p, _, _ => aLK j sz p
 | .bown e et t, p, H, n => QX e et t p H n
 | .bag e t1 et t t2, p, H, n => aBL e t1 et t t2 p H n
 | .hnd sz, p, _, _ => aG4 sz [p]
 | .ar e t, _, H, n => aNY e t H n
def aU3 : (sh : List (Nat × Kd)) → Frm → Heap → Nat → Option (Shape.den sh)
 | [], _, _, _ => some ()
 | (t, k) :: r, F, H, n => match XE k (cN F t) H n with
  | some x => match aU3 r F H (n + k.pos) with
   | some xs => some (x, xs)
   | none => none
  | none => none
def Y2 : List (Nat × Kd) → List (Nat × TypeId × Option Ty)
 | [] => []
 | (t, .own e ty) :: r => (t, e, some ty) :: Y2 r
 | (t, .box e _) :: r => (t, e, none) :: Y2 r
 | (t, .ar e ty) :: r => (t, e, some (.rows ty)) :: Y2 r
 | _ :: r => Y2 r
def slotsOf : List (Nat × Kd) → List Nat
 | [] => []
 | (t, _) :: r => t :: slotsOf r
def aBX : List (Nat × Kd) → Nat
 | [] => 0
 | (_, k) :: r => k.pos + aBX r
def qL : List (Nat × Kd) → Frm → Heap → Frm × Heap
 | [], F, H => (F, H)
 | (t, .list _) :: r, F, H => match cN F t with
  | .own s _ => match gR H s with
   | some k => match k.tag with
    | some g => bif k.frozen then qL r ((t, zM g.t g.l none) :: F) H else qL r ((t, zM g.t g.l none) :: F) (H.set s (some { k with frozen := true }))
    | none => qL r F H
   | none => qL r F H
  | _ => qL r F H
 | (t, .hnd sz) :: r, F, H => match cN F t with
  | .own s sz2 => bif Nat.beq sz2 sz then match aE6 H sz s with
   | some (q, H1) => qL r ((t, q) :: F) H1
   | none => qL r F H
   else qL r F H
  | _ => qL r F H
 | _ :: r, F, H => qL r F H
def DE (sh : List (Nat × Kd)) (F : Frm) (H : Heap) : Option (Shape.den sh) :=
 match qL sh F H with
 | (F1, H1) => match tidy ⟨slotsOf sh, Y2 sh, 0⟩ F1 H1 with
  | some (F', H') => bif Nat.beq H'.length (aBX sh) then aU3 sh F' H' 0 else none
  | none => none

section
variable {P : Program} {n0 : Nat → Prop} {w wi : World} {G Gi : Gd} {μ μi μ' : Mp} {H : Heap} {F : Frm} {a : Act} {nt : Nat}
theorem rI (hW : aW n0 G μ H w) {e : TypeId} {t : Ty} {p : PV} {n : Nat} {l : List t.den} (h : DV e t p H n = some l) : p = .own n t.size ∧ H[n]? = some (some ⟨aO t l, e, true, false, some ⟨t, l⟩⟩) := by
 unfold DV at h
 split at h
 ·rename_i s sz
  replace h := aI h
  obtain ⟨hb, h⟩ := h
  simp only [Bool.and_eq_true] at hb
  have h1 := Nat.eq_of_beq_eq_true hb.1
  have h2 := Nat.eq_of_beq_eq_true hb.2
  subst h1; subst h2
  refine ⟨rfl, ?_⟩
  split at h
  ·rename_i k hk
   split at h
   ·rename_i g hg
    split at h
    ·rename_i l' hc
     obtain ⟨hb, h⟩ := aI h
     simp only [Bool.and_eq_true, Bool.not_eq_true'] at hb
     simp only [Option.some.injEq] at h
     subst h
     have hb3 := Nat.eq_of_beq_eq_true hb.1.1
     have ht := (hW.tags s k g (aN hk) hg).1
     obtain ⟨gt, gl⟩ := g
     obtain ⟨rfl, rfl⟩ := nH hc
     rw [aN hk]
     obtain ⟨k1, k2, k3, k4, k5⟩ := k
     dsimp only at ht hg hb hb3 ⊢
     rw [ht, hg, hb3, hb.1.2, hb.2]
    ·cases h
   ·cases h
  ·cases h
 ·cases h
theorem aCJ (hW : aW n0 G μ H w) {e et : TypeId} {t : Ty} {p : PV} {n : Nat} {l : List t.den} (h : QX e et t p H n = some l) :
  p = .hptr n 0 ∧ H[n]? = some (some ⟨[.own (n + 1) t.size], e, false, false, none⟩) ∧ H[n + 1]? = some (some ⟨aO t l, et, true, false, some ⟨t, l⟩⟩) := by
 unfold QX at h
 split at h
 ·rename_i s off
  replace h := aI h
  obtain ⟨hb, h⟩ := h
  simp only [Bool.and_eq_true] at hb
  have h1 := Nat.eq_of_beq_eq_true hb.1
  have h2 := Nat.eq_of_beq_eq_true hb.2
  subst h1; subst h2
  refine ⟨rfl, ?_⟩
  split at h
  ·rename_i k hk
   replace h := aI h
   obtain ⟨hc, h⟩ := h
   simp only [Bool.and_eq_true, Bool.not_eq_true'] at hc
   obtain ⟨⟨⟨c1, c2⟩, c3⟩, c4⟩ := hc
   have c1 := Nat.eq_of_beq_eq_true c1
   split at h
   ·rename_i r sz hcs
    obtain ⟨h3, h4⟩ := rI hW h
    cases h3
    refine ⟨?_, h4⟩
    rw [aN hk]
    obtain ⟨k1, k2, k3, k4, k5⟩ := k
    dsimp only at c1 c2 c3 c4 hcs
    rw [hcs, c1, c2, c3]
    cases k5 with
    | none => rfl
    | some g => simp at c4
   ·cases h
  ·cases h
 ·cases h
def aR9 (k k' : Blk) : Prop := k.tag = none ∧ k'.ty = k.ty ∧ k'.grown = k.grown ∧ k'.frozen = k.frozen ∧ k'.tag = none ∧ ∀ (w : World) (G : Gd) (μ : Mp) (b : Nat), aQ w G μ b 0 k.cells → aQ w G μ b 0 k'.cells ∧ k'.cells.length = k.cells.length
def aML (a b : Option (Option Blk)) : Prop := a = b ∨ ∃ k k', a = some (some k) ∧ b = some (some k') ∧ aR9 k k'
theorem aW.aNE (hW : aW n0 G μ H w) {H' : Heap} (h : ∀ r : Nat, aML H[r]? H'[r]?) : aW n0 G μ H' w := by
 have key : ∀ (r : Nat) (k' : Blk), H'[r]? = some (some k') → ∃ k, H[r]? = some (some k) ∧ (k = k' ∨ aR9 k k') ∧ k'.frozen = k.frozen := by
  intro r k' hr
  rcases h r with h1 | ⟨k, k2, h1, h2, h3⟩
  ·exact ⟨k', by rw [h1, hr], .inl rfl, rfl⟩
  ·rw [hr] at h2
   cases h2
   exact ⟨k, h1, .inr h3, h3.2.2.2.1⟩
 refine ⟨?_, ?_, ?_, hW.lt, ?_, hW.base, hW.rows.step (Mono.refl _ _ _) (Nat.le_refl _) (fun _ => rfl) (fun j b hj => ⟨rfl, id, fun r k' hr hf hl => ?_⟩) (fun r k' t l hr hg ht => ?_)⟩
 case refine_5 =>
  obtain ⟨k, h1, _, h3⟩ := key r k' hr
  exact ⟨r, k, h1, by rw [← h3]; exact hf, hl⟩
 case refine_6 =>
  obtain ⟨k, h1, h2, h3⟩ := key r k' hr
  rcases h2 with rfl | ⟨_, _, _, _, e4, _⟩
  ·exact ⟨k, h1, rfl, rfl, rfl, rfl⟩
  ·rw [e4] at ht; cases ht
 ·intro r k' b hr hb
  obtain ⟨k, h1, h2, h3⟩ := key r k' hr
  obtain ⟨c, a1, a2, a3, a4⟩ := hW.blk r k b h1 hb
  rcases h2 with rfl | ⟨_, e1, e2, e3, _, e5⟩
  ·exact ⟨c, a1, a2, a3, a4⟩
  ·obtain ⟨b1, b2⟩ := e5 w G μ b a2
   exact ⟨c, by rw [e1]; exact a1, b1, fun hg => by rw [b2]; exact a3 (by rw [← e2]; exact hg), by rw [e3]; exact a4⟩
 ·intro r k' g hr hg
  obtain ⟨k, h1, h2, _⟩ := key r k' hr
  rcases h2 with rfl | ⟨_, _, _, _, e4, _⟩
  ·exact hW.tags r k g h1 hg
  ·rw [e4] at hg; cases hg
 ·intro r s k l b hr hs fk fl m1 m2
  obtain ⟨k1, h1, _, h3⟩ := key r k hr
  obtain ⟨l1, h4, _, h6⟩ := key s l hs
  exact hW.inj r s k1 l1 b h1 h4 (by rw [← h3]; exact fk) (by rw [← h6]; exact fl) m1 m2
 ·intro r hr
  refine hW.top r ?_
  rcases Nat.lt_or_ge r H.length with hl | hl
  ·rcases h r with h1 | ⟨k, k', _, h2, _⟩
   ·rw [List.getElem?_eq_none hr, List.getElem?_eq_getElem hl] at h1; cases h1
   ·rw [List.getElem?_eq_none hr] at h2; cases h2
  ·exact hl
theorem aFR {e : TypeId} {t : Ty} {p : PV} {n : Nat} {x : t.den} (h : aBF e t p H n = some x) : p = .hptr n 0 ∧ aML H[n]? (some (some ⟨enc t x, e, false, false, none⟩)) := by
 unfold aBF at h
 split at h
 ·rename_i s off
  replace h := aI h
  obtain ⟨hb, h⟩ := h
  simp only [Bool.and_eq_true] at hb
  have h1 := Nat.eq_of_beq_eq_true hb.1
  have h2 := Nat.eq_of_beq_eq_true hb.2
  subst h1; subst h2
  refine ⟨rfl, ?_⟩
  split at h
  ·rename_i k hk
   obtain ⟨hc, h⟩ := aI h
   simp only [Bool.and_eq_true, Bool.not_eq_true'] at hc
   obtain ⟨⟨⟨c1, c2⟩, c3⟩, c4⟩ := hc
   have c1 := Nat.eq_of_beq_eq_true c1
   refine .inr ⟨k, _, aN hk, rfl, by simpa using c4, c1.symm, c2.symm, c3.symm, rfl, ?_⟩
   intro w G μ b hc
   obtain ⟨vs, d1, d2⟩ := hc.values
   have d3 := oU t μ k.cells x vs h d1
   exact ⟨aQ.kM d3.bF d2, by rw [d3.length, d1.length]⟩
  ·cases h
 ·cases h
theorem aW6 (t : Option Ty) (μ : Mp) (cs : List PV) (x : aQW t) (vs : List Value) (h : a4K t cs = some x) (hv : VRs w G μ cs vs) : VRs w G aM (aS5 t x) vs := by
 cases t with
 | none =>
  cases cs with
  | nil => rw [VRs] at hv; rw [aS5, VRs]; exact hv
  | cons p ps => cases h
 | some t => exact oU t μ cs x vs h hv
theorem aE5 (hW : aW n0 G μ H w) {e : TypeId} {t1 : Ty} {et : TypeId} {t : Ty} {t2 : Option Ty} {p : PV} {n : Nat} {x : t1.den × List t.den × aQW t2} (h : aBL e t1 et t t2 p H n = some x) :
  p = .hptr n 0 ∧ aML H[n]? (some (some ⟨enc t1 x.1 ++ .own (n + 1) t.size :: aS5 t2 x.2.2, e, false, false, none⟩)) ∧ H[n + 1]? = some (some ⟨aO t x.2.1, et, true, false, some ⟨t, x.2.1⟩⟩) := by
 unfold aBL at h
 split at h
 ·rename_i s off
  replace h := aI h
  obtain ⟨hb, h⟩ := h
  simp only [Bool.and_eq_true] at hb
  have h1 := Nat.eq_of_beq_eq_true hb.1
  have h2 := Nat.eq_of_beq_eq_true hb.2
  subst h1; subst h2
  refine ⟨rfl, ?_⟩
  split at h
  ·rename_i k hk
   obtain ⟨hc, h⟩ := aI h
   simp only [Bool.and_eq_true, Bool.not_eq_true'] at hc
   obtain ⟨⟨⟨c1, c2⟩, c3⟩, c4⟩ := hc
   have c1 := Nat.eq_of_beq_eq_true c1
   split at h
   ·rename_i r sz rest hd
    split at h
    ·rename_i xa xl xb ha hl hbb
     simp only [Option.some.injEq] at h
     subst h
     obtain ⟨h3, h4⟩ := rI hW hl
     cases h3
     refine ⟨.inr ⟨k, _, aN hk, rfl, by simpa using c4, c1.symm, c2.symm, c3.symm, rfl, ?_⟩, h4⟩
     intro w G μ b hc
     obtain ⟨vs, d1, d2⟩ := hc.values
     have d3 := d1.take t1.size
     have d4 := d1.drop t1.size
     rw [hd, VRs] at d4
     obtain ⟨v, vc, e1, d5, d6⟩ := d4
     have d7 := oU t1 μ _ xa _ ha d3
     have d8 := aW6 t2 μ _ xb vc hbb d6
     have d9 : VRs w G μ (enc t1 xa ++ .own (s + 1) t.size :: aS5 t2 xb) (vs.take t1.size ++ v :: vc) := VRs.append d7.bF (by rw [VRs]; exact ⟨v, vc, rfl, d5, d8.bF⟩)
     rw [← e1, List.take_append_drop] at d9
     exact ⟨aQ.kM d9 d2, by rw [d9.length, d1.length]⟩
    ·cases h
   ·cases h
  ·cases h
 ·cases h
theorem aHZ {g : Tg} {b : Ty} {l' : List b.den} (h : xH g.t b g.l = some l') : g = ⟨b, l'⟩ := by
 obtain ⟨a, l⟩ := g
 unfold xH at h
 split at h
 ·rename_i e
  dsimp only at e
  subst e
  simp only [Option.some.injEq] at h
  rw [← h]
 ·cases h
theorem aJG (hW : aW n0 G μ H w) {e : TypeId} {t : Ty} {n : Nat} {l : List (List t.den)} (h : aNY e t H n = some l) : H[n]? = some (some ⟨aO (.rows t) l, e, false, false, some ⟨.rows t, l⟩⟩) := by
 unfold aNY at h
 split at h
 ·rename_i k hk
  split at h
  ·rename_i g hg
   split at h
   ·rename_i l' hc
    obtain ⟨hb, h⟩ := aI h
    simp only [Bool.and_eq_true, Bool.not_eq_true'] at hb
    simp only [Option.some.injEq] at h
    have hb3 := Nat.eq_of_beq_eq_true hb.1.1
    have ht := (hW.tags n k g (aN hk) hg).1
    have hge := aHZ hc
    rw [hge] at hg ht
    rw [← h, aN hk]
    obtain ⟨k1, k2, k3, k4, k5⟩ := k
    dsimp only at ht hg hb hb3 ⊢
    rw [ht, hg, hb3, hb.1.2, hb.2]
   ·cases h
  ·cases h
 ·cases h
theorem IF {t : Ty} {p : PV} {x : t.den} {v : Value} (h : aEN t p = some x) (hv : VR w G μ p v) : VR w G aM (.iptr (enc t x)) v := by
 unfold aEN at h
 split at h
 ·rename_i cs
  rw [VR] at hv ⊢
  obtain ⟨b, off, h1, h2, h3⟩ := hv
  obtain ⟨vs, d1, d2⟩ := h3.values
  exact ⟨b, off, h1, h2, aQ.kM (oU t aM cs x vs h d1) d2⟩
 ·cases h
theorem YS : ∀ (ts : List Ty) {ps : List PV} {x : uJ ts} {vs : List Value}, aVS ts ps = some x → VRs w G μ ps vs → VRs w G aM (HV ts x) vs
 | [], [], x, vs, h, hv => by rw [VRs] at hv; simp only [HV]; rw [VRs]; exact hv
 | [], _ :: _, x, vs, h, hv => by cases h
 | _ :: _, [], x, vs, h, hv => by cases h
 | t :: r, p :: ps, x, vs, h, hv => by
  simp only [aVS] at h
  split at h
  ·rename_i y hy
   split at h
   ·rename_i ys hys
    simp only [Option.some.injEq] at h
    subst h
    rw [VRs] at hv
    obtain ⟨u, us, h1, h2, h3⟩ := hv
    simp only [HV]
    rw [VRs]
    exact ⟨u, us, h1, IF hy h2, YS r hys h3⟩
   ·cases h
  ·cases h
theorem QL {p : PV} {x : Unit} (h : aLB p = some x) : p = .lit (.slice none 0 0) := by
 unfold aLB at h
 split at h
 ·rename_i o c
  cases hb : (Nat.beq o 0 && Nat.beq c 0) with
  | false => rw [hb] at h; cases h
  | true =>
   simp only [Bool.and_eq_true] at hb
   rw [Nat.eq_of_beq_eq_true hb.1, Nat.eq_of_beq_eq_true hb.2]
 ·cases h
theorem WB {g : FuncId} {p : PV} {x : Unit} (h : aUN g p = some x) : p = .lit (.func (.func g) #[] #[]) := by
 unfold aUN at h
 split at h
 ·rename_i f first caps
  replace h := (aI h).1
  simp only [Bool.and_eq_true] at h
  have h1 := Nat.eq_of_beq_eq_true h.1.1
  have h2 := Array.eq_empty_of_size_eq_zero (Nat.eq_of_beq_eq_true h.1.2)
  have h3 := Array.eq_empty_of_size_eq_zero (Nat.eq_of_beq_eq_true h.2)
  rw [h1, h2, h3]
 ·cases h
theorem GM {g : FuncId} {ts : List Ty} {p : PV} {x : uJ ts} {v : Value} (h : aEZ g ts p = some x) (hv : VR w G μ p v) : VR w G aM (.clo (.func g) [] (HV ts x)) v := by
 unfold aEZ at h
 split at h
 ·rename_i f caps
  have h1 := Nat.eq_of_beq_eq_true (aI h).1
  have h2 := (aI h).2
  subst h1
  rw [VR] at hv ⊢
  obtain ⟨fs, cs, e1, e2, e3⟩ := hv
  exact ⟨fs, cs, e1, by rw [VRs] at e2 ⊢; exact e2, YS ts h2 e3⟩
 ·cases h
theorem R0 {j sz : Nat} {p : PV} {x : Nat × Nat} (h : aLK j sz p = some x) : p = .win j x.1 x.2 sz := by
 unfold aLK at h
 split at h
 ·replace h := aI h
  obtain ⟨hb, h⟩ := h
  simp only [Bool.and_eq_true] at hb
  have h1 := Nat.eq_of_beq_eq_true hb.1
  have h2 := Nat.eq_of_beq_eq_true hb.2
  simp only [Option.some.injEq] at h
  rw [← h, h1, h2]
 ·cases h
theorem aMD (hW : aW n0 G μ H w) : ∀ (k : Kd) {p : PV} {n : Nat} {x : k.den} {v : Value}, XE k p H n = some x → VR w G μ p v → VR w G μ (pO k x n) v ∧ ∀ i : Nat, i < k.pos → aML H[n + i]? (a0B k x n)[i]?
 | .int k, p, n, x, v, h, hv => by
  have := LS h
  simp only [List.cons.injEq, and_true] at this
  subst this
  exact ⟨hv, fun i hi => absurd hi (Nat.not_lt_zero _)⟩
 | .bool, p, n, x, v, h, hv => by
  have := HH h
  simp only [List.cons.injEq, and_true] at this
  subst this
  exact ⟨hv, fun i hi => absurd hi (Nat.not_lt_zero _)⟩
 | .str, p, n, x, v, h, hv => by
  have := KA h
  simp only [List.cons.injEq, and_true] at this
  subst this
  exact ⟨hv, fun i hi => absurd hi (Nat.not_lt_zero _)⟩
 | .list t, p, n, x, v, h, hv => by
  have := oU (.list t) μ [p] x [v] h (by rw [VRs]; exact ⟨v, [], rfl, hv, by rw [VRs]⟩)
  refine ⟨?_, fun i hi => absurd hi (Nat.not_lt_zero _)⟩
  simp only [enc] at this
  rw [VRs] at this
  obtain ⟨y, ys, h1, h2, _⟩ := this
  cases h1
  exact h2.bF
 | .agg t, p, n, x, v, h, hv => by
  refine ⟨?_, fun i hi => absurd hi (Nat.not_lt_zero _)⟩
  simp only [XE] at h
  unfold aKJ at h
  split at h
  ·rename_i cs
   rw [VR] at hv
   obtain ⟨vs, rfl, h2⟩ := hv
   simp only [pO]
   rw [VR]
   exact ⟨vs, rfl, (oU t μ cs x vs.toList h h2).bF⟩
  ·cases h
 | .own e t, p, n, x, v, h, hv => by
  obtain ⟨rfl, h2⟩ := rI hW h
  refine ⟨hv, fun i hi => ?_⟩
  simp only [Kd.pos] at hi
  have : i = 0 := by omega
  subst this
  simp only [Nat.add_zero, h2]
  exact .inl rfl
 | .box e t, p, n, x, v, h, hv => by
  obtain ⟨rfl, h2⟩ := aFR h
  refine ⟨hv, fun i hi => ?_⟩
  simp only [Kd.pos] at hi
  have : i = 0 := by omega
  subst this
  exact h2
 | .ptr t, p, n, x, v, h, hv => ⟨(IF h hv).bF, fun i hi => absurd hi (Nat.not_lt_zero _)⟩
 | .fn g, p, n, x, v, h, hv => by
  have := WB h
  subst this
  exact ⟨hv, fun i hi => absurd hi (Nat.not_lt_zero _)⟩
 | .nil0, p, n, x, v, h, hv => by
  have := QL h
  subst this
  exact ⟨hv, fun i hi => absurd hi (Nat.not_lt_zero _)⟩
 | .val, p, n, x, v, h, hv => by
  have := RL (p := p) (x := x) h
  subst this
  exact ⟨hv, fun i hi => absurd hi (Nat.not_lt_zero _)⟩
 | .nilI, p, n, x, v, h, hv => by
  have := M7 (p := p) (x := x) h
  subst this
  exact ⟨hv, fun i hi => absurd hi (Nat.not_lt_zero _)⟩
 | .clo g ts, p, n, x, v, h, hv => ⟨(GM h hv).bF, fun i hi => absurd hi (Nat.not_lt_zero _)⟩
 | .win j sz, p, n, x, v, h, hv => by
  have := R0 h
  subst this
  exact ⟨hv, fun i hi => absurd hi (Nat.not_lt_zero _)⟩
 | .bown e et t, p, n, x, v, h, hv => by
  obtain ⟨rfl, h2, h3⟩ := aCJ hW h
  refine ⟨hv, fun i hi => ?_⟩
  simp only [Kd.pos] at hi
  rcases (show i = 0 ∨ i = 1 by omega) with rfl | rfl
  ·simp only [Nat.add_zero, h2]
   exact .inl rfl
  ·simp only [h3]
   exact .inl rfl
 | .bag e t1 et t t2, p, n, x, v, h, hv => by
  obtain ⟨rfl, h2, h3⟩ := aE5 hW h
  refine ⟨hv, fun i hi => ?_⟩
  simp only [Kd.pos] at hi
  rcases (show i = 0 ∨ i = 1 by omega) with rfl | rfl
  ·exact h2
  ·simp only [h3]
   exact .inl rfl
 | .hnd sz, p, n, x, v, h, hv => by
  refine ⟨?_, fun i hi => absurd hi (Nat.not_lt_zero _)⟩
  have := TH (μ := μ) (vs := [v]) h (by rw [VRs]; exact ⟨v, [], rfl, hv, by rw [VRs]⟩)
  rw [VRs] at this
  obtain ⟨y, ys, h1, h2, _⟩ := this
  cases h1
  exact h2.bF
 | .ar e t, p, n, x, v, h, hv => by
  have h2 := aJG hW h
  refine ⟨by simp only [pO]; rw [VR]; trivial, fun i hi => ?_⟩
  simp only [Kd.pos] at hi
  have : i = 0 := by omega
  subst this
  simp only [Nat.add_zero, h2]
  exact .inl rfl
theorem DN : ∀ (k : Kd) (x : k.den) (n : Nat), (a0B k x n).length = k.pos
 | .int _, _, _ | .bool, _, _ | .str, _, _ | .list _, _, _ | .agg _, _, _ | .ptr _, _, _ | .fn _, _, _ | .nil0, _, _ | .val, _, _ | .nilI, _, _ | .clo _ _, _, _ | .win _ _, _, _ | .hnd _, _, _ => rfl
 | .ar _ _, _, _ => rfl
 | .own _ _, _, _ => rfl
 | .box _ _, _, _ => rfl
 | .bown _ _ _, _, _ => rfl
 | .bag _ _ _ _ _, _, _ => rfl
theorem RA : ∀ (sh : List (Nat × Kd)) (x : Shape.den sh) (n : Nat), (aCX sh x n).length = aBX sh
 | [], _, _ => rfl
 | (_, k) :: r, (x, xs), n => by simp only [aCX, List.length_append, DN, RA r xs, aBX]
theorem WD (sh : List (Nat × Kd)) (x : Shape.den sh) : (wA sh x).length = aBX sh := RA sh x 0
theorem N6 (hW : aW n0 G μ H w) (hF : ∀ t, VR w G μ (cN F t) (a.tmps.getD t undef)) : ∀ (sh : List (Nat × Kd)) {n : Nat} {x : Shape.den sh}, aU3 sh F H n = some x → (∀ t, VR w G μ (cN (o8 sh x n) t) (a.tmps.getD t undef)) ∧ ∀ i : Nat, i < aBX sh → aML H[n + i]? (aCX sh x n)[i]?
 | [], n, x, h => ⟨fun t => by simp only [o8, cN]; rw [VR]; trivial, fun i hi => absurd hi (Nat.not_lt_zero _)⟩
 | (t, k) :: r, n, x, h => by
  simp only [aU3] at h
  split at h
  ·rename_i y hy
   split at h
   ·rename_i ys hys
    simp only [Option.some.injEq] at h
    subst h
    obtain ⟨h1, h2⟩ := aMD hW k hy (hF t)
    obtain ⟨h3, h4⟩ := N6 hW hF r hys
    refine ⟨fun s => ?_, fun i hi => ?_⟩
    ·simp only [o8]
     rw [dW]
     by_cases hs : s = t
     ·subst hs; rw [if_pos rfl]; exact h1
     ·rw [if_neg hs]; exact h3 s
    ·simp only [aCX]
     rcases Nat.lt_or_ge i k.pos with hl | hl
     ·rw [List.getElem?_append_left (by rw [DN]; exact hl)]
      exact h2 i hl
     ·rw [List.getElem?_append_right (by rw [DN]; exact hl), DN]
      have := h4 (i - k.pos) (by simp only [aBX] at hi; omega)
      have e1 : n + k.pos + (i - k.pos) = n + i := by omega
      rwa [e1] at this
   ·cases h
  ·cases h
theorem rK : ∀ (sh : List (Nat × Kd)) (F : Frm) (H : Heap), I n0 wi Gi μi nt F H a w → I n0 wi Gi μi nt (qL sh F H).1 (qL sh F H).2 a w
 | [], F, H, hI => hI
 | (t, k0) :: r, F, H, hI => by
  have skip : I n0 wi Gi μi nt (qL r F H).1 (qL r F H).2 a w := rK r F H hI
  unfold qL
  split
  ·exact hI
  ·rename_i heq
   cases heq
   split
   ·rename_i s sz ht
    split
    ·rename_i k hk
     split
     ·rename_i g hg
      obtain ⟨G, μ, e, hW, hF⟩ := hI
      have hv := hF.slot t
      rw [ht] at hv
      cases hfz : k.frozen with
      | true =>
       simp only [cond_true]
       refine rK r _ _ ⟨G, μ, e, hW, hF.named ?_⟩
       exact (BG hW hv hk hg (fun b h => h) (fun b hb => by
        obtain ⟨_, _, _, _, h5, _⟩ := hW.blk s k b (aN hk) hb
        exact h5 hfz)).bF
      | false =>
       simp only [cond_false]
       obtain ⟨e1, w1⟩ := DO hW (aN hk) hfz
       refine rK r _ _ ⟨_, μ, e.trans e1, w1, (hF.mono e1.toMono).named ?_⟩
       exact (BG (G' := G.or fun x => μ.loc s = some x) hW hv hk hg (fun b h => .inl h) (fun b hb => .inr hb)).bF
     ·exact skip
    ·exact skip
   ·exact skip
  ·rename_i heq
   cases heq
   split
   ·rename_i s sz2 ht
    cases hsz : Nat.beq sz2 _ with
    | true =>
     simp only [cond_true]
     have hsz := Nat.eq_of_beq_eq_true hsz
     subst hsz
     split
     ·rename_i q H1 hA
      obtain ⟨G, μ, e, hW, hF⟩ := hI
      have hv := hF.slot t
      rw [ht] at hv
      obtain ⟨G', μ', e1, w1, v1⟩ := QS hW hA hv
      exact rK r _ _ ⟨G', μ', e.trans e1, w1, (hF.mono e1.toMono).named v1.bF⟩
     ·exact skip
    | false => exact skip
   ·exact skip
  ·rename_i heq
   cases heq
   exact skip
theorem sP {sh : List (Nat × Kd)} {x : Shape.den sh} (h : DE sh F H = some x) (hfl : ∀ r, μi.loc r = none ∧ μi.len r = none) (hI : I n0 wi Gi μi nt F H a w) : I n0 wi Gi μi nt (o8 sh x 0) (wA sh x) a w := by
 unfold DE at h
 replace hI := rK sh F H hI
 split at h
 rename_i F1 H1 hd
 rw [hd] at hI
 split at h
 ·rename_i F' H' ht
  obtain ⟨hb, h⟩ := aI h
  obtain ⟨⟨G, μ, e, hW, hF⟩, _⟩ := aK8 ht (fun r _ => hfl r) hI
  obtain ⟨h1, h2⟩ := N6 hW hF.slot sh h
  have hH : ∀ i : Nat, aML H'[i]? (wA sh x)[i]? := by
   intro i
   rcases Nat.lt_or_ge i (aBX sh) with hl | hl
   ·have := h2 i hl
    rwa [Nat.zero_add] at this
   ·have e1 := Nat.eq_of_beq_eq_true hb
    exact .inl (by rw [List.getElem?_eq_none (by omega), List.getElem?_eq_none (by rw [WD]; omega)])
  exact ⟨G, μ, e, hW.aNE hH, hF.size, h1, hF.defers⟩
 ·cases h
end
end Go.PM
set_option linter.unusedSimpArgs false
set_option linter.unusedVariables false
namespace Go.PM
open Go Go.RowKit
def ask {α : Type} (b : Bool) (k : Bool → Option α) : Option α := bif b then k true else k false
def K1 {α : Type} : List Bool → Option α → Option α
 | [], r => r
 | b :: l, r => bif b then K1 l r else none
def aB {τ α : Type} (x : Option τ) (k : τ → Option α) : Option α := match x with
 | some x => k x
 | none => none
def kT {β γ α : Type} (z : β ⊕ γ) (f : β → Option α) (g : γ → Option α) : Option α := match z with
 | .inl a => f a
 | .inr b => g b

structure Res where
 τ : Type
 val : Option τ
 out : τ → PV
structure aKL where
 τ : Type
 val : Option τ
 out : τ → PV × Heap
structure Env where
 pure : FuncId → List PV → Option Res
 shr : FuncId → List PV → Heap → Option aKL
 sh : FuncId → Bool
def aAZ (E : Env) (g : FuncId) (args : List PV) : Option PV := match E.pure g args with
 | some r => match r.val with
  | some x => some (r.out x)
  | none => none
 | none => none
def X1 (E : Env) (g : FuncId) (args : List PV) (H : Heap) : Option (PV × Heap) := match E.shr g args H with
 | some r => match r.val with
  | some x => some (r.out x)
  | none => none
 | none => none
def dH (P : Program) (E : Env) : Callee := callee P E.sh (aAZ E) (X1 E)

section
variable {α : Type} (P : Program) (E : Env)
def aXV (g : FuncId) (args : List PV) (H : Heap) (k : PV → Heap → Nat → Option α) : Option α :=
 bif E.sh g then match E.shr g args H with
  | some r => aB r.val fun x => k (r.out x).1 (r.out x).2 2
  | none => none
 else bif cZ.noRefs args then bif dM.noRows args then match E.pure g args with
  | some r => aB r.val fun x => k (r.out x) H 0
  | none => none
  else none
 else bif UG P g then match HF (fun p => inl false H depth p) args with
  | some qs => bif dM.noRows qs then match E.pure g qs with
   | some r => aB r.val fun x => bif flat (r.out x) then k (r.out x) H 1 else none
   | none => none
   else none
  | none => none
 else match CB H (args.flatMap (fun p => reach H depth p)) with
  | H1 => match HF (fun p => inl true H1 depth p) args with
   | some qs => bif dM.noRows qs then match E.pure g qs with
    | some r => aB r.val fun x => k (r.out x) H1 2
    | none => none
    else none
   | none => none
def aS1 : Frm → Nat → Bool → Frm
 | [], _, _ => []
 | (s, p) :: r, t, b => bif Nat.beq s t then (s, .lit (.bool b)) :: r else (s, p) :: aS1 r t b
def aI2 (F : Frm) (x : Operand) (b : Bool) (k : Frm → Bool → Option α) : Option α := match x with
 | .tmp t => ask b fun b => k (aS1 F t b) b
 | _ => ask b fun b => k F b
def aF8 (F : Frm) (l : List Oper) (o : Oper) (k : Frm → Bool → Option α) : Option α :=
 match o.guard with
 | none => k F true
 | some (j, want) => match l[j]? with
  | some p => match p.dst with
   | some t => match cN F t with
    | .lit (.bool b) => ask b fun b => k (aS1 F t b) (bif b then want else !want)
    | .lit _ => k F false
    | _ => none
   | none => none
  | none => none
def a0Y (op : BinOp) (k1 : IntKind) (a b : Int) (k : Value → Option α) : Option α := match op with
 | .quo => bif eqI b 0 then none else k (.int k1 (aJ k1 (a.tdiv b)))
 | .rem => bif eqI b 0 then none else k (.int k1 (a.tmod b))
 | op => match aI0 op k1 a b with
  | some v => k v
  | none => none
def isX : BinOp → Bool
 | .add | .sub | .mul | .quo | .rem | .eql | .neq | .lss | .leq | .gtr | .geq => true
 | _ => false
def aF0 : BinOp → Bool
 | .shl | .shr => true
 | _ => false
def aKQ (op : BinOp) (k : IntKind) (x y : Int) : Option Value := match op with
 | .shl => some (.int k (k.wrap (x * 2 ^ (min y.toNat k.bits))))
 | .shr => some (.int k (x.fdiv (2 ^ (min y.toNat k.bits))))
 | _ => none
def OV (F : Frm) (H : Heap) (o : Oper) (k : Frm → PV → Heap → Nat → Option α) : Option α := match opu P (dH P E) F H o with
 | some (v, H', c) => k F v H' c
 | none => none
def aSW (F : Frm) (x : Operand) (k : Frm → Option α) : Option α := match ev F x with
 | .lit (.bool b) => aI2 F x b fun F _ => k F
 | _ => k F
def aFT : List Operand → Frm → (Frm → Option α) → Option α
 | [], F, k => k F
 | x :: r, F, k => aSW F x fun F => aFT r F k
def opK (F : Frm) (H : Heap) (o : Oper) (k : Frm → PV → Heap → Nat → Option α) : Option α :=
 bif typed P F o then match top P F H o with
  | some (cs, v, H', c) => K1 cs (k F v H' c)
  | none => none
 else match o.op with
  | .binOp op _ x y _ => match ev F x, ev F y with
   | .lit (.int k1 a), .lit (.int k2 b) => bif aF0 op then (bif ltI b 0 then none else match aKQ op k1 a b with
     | some v => k F (.lit v) H 0
     | none => none)
    else bif yP k1 k2 && isX op then a0Y op k1 a b fun v => k F (.lit v) H 0 else OV P E F H o k
   | _, _ => aFT [x, y] F fun F => OV P E F H o k
  | .unOp .. => aFT o.op.operands.toList F fun F => OV P E F H o k
  | .pick c a b => match ev F c with
   | .lit (.bool t) => aI2 F c t fun F t => k F (bif t then ev F a else ev F b) H 0
   | _ => none
  | .call c => match c.callee with
   | .value f => match ev F f with
    | .lit (.func (.func g) first caps) => aXV P E g (lits first ++ c.args.toList.map (ev F) ++ lits caps) H (k F)
    | .clo (.func g) first caps => aXV P E g (first ++ c.args.toList.map (ev F) ++ caps) H (k F)
    | _ => none
   | _ => OV P E F H o k
  | _ => OV P E F H o k
def N3 : Nat → Nat → Int → (Int → Option α) → Option α
 | 0, _, _, _ => none
 | n + 1, j, v, f => bif eqI v (j : Int) then f j else N3 n (j + 1) v f
def a3L (t : TypeId) : Option Nat := match P.underlying t with
 | some (.array n _) => some n
 | _ => none
def a1S : PV → Bool
 | .hptr _ _ | .iptr _ => true
 | _ => false
def a5U : PV → Bool
 | .agg _ => true
 | _ => false
def xIdx (H : Heap) (t : TypeId) (p : PV) (i : Int) : Option (PV × Heap × Nat) := match p, P.underlying t with
 | .agg cs, some (.array n e) => match kU P e with
  | some sz => bif aP i n then p0 H (qQ P e (cs.drop (i.toNat * sz))) else none
  | none => none
 | _, _ => none
def a0G (l : List Oper) (F : Frm) (H : Heap) (o : Oper) (k : Frm → PV → Heap → Nat → Option α) : Option α := match o.op with
 | .makeSlice t n c => bif aAY l o.dst then (match FC P H t (ev F n) (ev F c) with
   | some (cs, v, H', c') => K1 cs (k F v H' c')
   | none => none) else opK P E F H o k
 | .indexAddr t x i => match a3L P t, ev F i with
  | some n, .lit (.int _ v) => bif aB1 (ev F x) then N3 n 0 v (fun j => match lQ P H t (ev F x) j with
    | some (cs, p, H', c) => K1 cs (k F p H' c)
    | none => none) else bif a1S (ev F x) then N3 n 0 v (fun j => match p0 H (HE P t (ev F x) j) with
    | some (p, H', c) => k F p H' c
    | none => none) else opK P E F H o k
  | _, _ => opK P E F H o k
 | .index t x i => match a3L P t, ev F i with
  | some n, .lit (.int _ v) => bif a5U (ev F x) then N3 n 0 v (fun j => match xIdx P H t (ev F x) j with
    | some (p, H', c) => k F p H' c
    | none => none) else opK P E F H o k
  | _, _ => opK P E F H o k
 | .slice t x lo hi none => match ev F x with
  | .own r sz => match aFP H r, P.underlying t with
   | some g, some (.slice e) => bif aAW g.t then (match kU P e with
    | some n => bif Nat.beq n sz then ask (Nat.beq g.l.length 0) fun z => (match XN g H r sz (lo.map (ev F)) (hi.map (ev F)) z with
      | some (cs, v, H', c) => K1 cs (k F v H' c)
      | none => none) else none
    | none => none) else opK P E F H o k
   | _, _ => opK P E F H o k
  | _ => opK P E F H o k
 | _ => opK P E F H o k
def aIF (l : List Oper) (o : Oper) (F : Frm) (H : Heap) (k : Frm → PV → Heap → Nat → Option α) : Option α :=
 aF8 F l o fun F b => bif b then (match mkData P F l o with
  | none => a0G P E l F H o k
  | some none => none
  | some (some (cs, v)) => K1 cs (k F v H 0)) else k F (.lit undef) H 0
def zX (nt : Nat) (l : List Oper) : List Oper → Frm → Heap → (Frm → Heap → Option α) → Option α
 | [], F, H, k => k F H
 | o :: rest, F, H, k => aIF P E l o F H fun F v H' _ => match GA nt F o.dst v with
  | some F' => zX nt l rest F' H' k
  | none => none
def stK (nt : Nat) (m : Option Nat) (ms : List Nat) (l : List Oper) : List Oper → Nat → Frm → Heap → YY → (Frm → Heap → YY → Option α) → Option α
 | [], _, F, H, hl, k => k F H hl
 | o :: rest, j, F, H, hl, k => match yO m o j with
  | none => aIF P E l o F H fun F v H' c => bif okT m (ms.getD j 0) j (aI3 F o) c v H' then (match GA nt F o.dst v with
   | some F' => stK nt m ms l rest (j + 1) F' H' (bif Nat.beq c 0 then hl else (j, c, aI3 F o) :: hl) k
   | none => none) else none
  | some q => bif UN o then (bif cZ.noRefs (o.op.operands.toList.map (ev F)) && dM.noRows (o.op.operands.toList.map (ev F)) then aIF P E l o F [] fun F v X _ => match aD4 q v X H with
    | some (v, H', c) => bif okT m (ms.getD j 0) j (some q) c v H' then (match GA nt F o.dst v with
     | some F' => stK nt m ms l rest (j + 1) F' H' (bif Nat.beq c 0 then hl else (j, c, some q) :: hl) k
     | none => none) else none
    | none => none else none)
   else match stepT (some q) P (dH P E) l o F H with
   | some (v, H', c) => bif okT m (ms.getD j 0) j (some q) c v H' then (match GA nt F o.dst v with
    | some F' => stK nt m ms l rest (j + 1) F' H' ((j, 2, some q) :: hl) k
    | none => none) else none
   | none => none
def rC (nt : Nat) (ops : Array Oper) (draw : Bool) (F : Frm) (H : Heap) (k : Frm → Heap → Option α) : Option α :=
 bif draw then (bif LR ops && aEP (HA ops H) F H then stK P E nt (HA ops H) (gZ ops) ops.toList ops.toList 0 F (aKN (HA ops H) ops.toList.length H) [] fun F H hl => bif PH (gZ ops) hl then k F H else none else none)
 else zX P E nt ops.toList ops.toList F H k
end
section
variable {α : Type} {P : Program} {E : Env} {z : α}
theorem Q0 {b : Bool} {k : Bool → Option α} (h : ask b k = some z) : k b = some z := by cases b <;> exact h
theorem tL : ∀ {l : List Bool} {r : Option α}, K1 l r = some z → vK l = true ∧ r = some z
 | [], r, h => ⟨rfl, h⟩
 | b :: l, r, h => by
  simp only [K1] at h
  obtain ⟨rfl, h⟩ := aI h
  exact tL (l := l) h
theorem oC {τ : Type} {x : Option τ} {k : τ → Option α} (h : aB x k = some z) : ∃ y, x = some y ∧ k y = some z := by
 cases x with
 | none => cases h
 | some y => exact ⟨y, rfl, h⟩
theorem aD1 {g : FuncId} {args : List PV} {H : Heap} {k : PV → Heap → Nat → Option α} (h : aXV P E g args H k = some z) : ∃ v H' c, dH P E g args H = some (v, H', c) ∧ k v H' c = some z := by
 unfold aXV at h
 unfold dH callee
 cases hsh : E.sh g with
 | true =>
  rw [hsh] at h
  simp only [cond_true] at h ⊢
  split at h
  ·rename_i r hr
   obtain ⟨x, h1, h2⟩ := oC h
   exact ⟨_, _, _, by simp only [X1, hr, h1], h2⟩
  ·cases h
 | false =>
  rw [hsh] at h
  simp only [cond_false] at h ⊢
  cases hn : cZ.noRefs args with
  | true =>
   rw [hn] at h
   simp only [cond_true] at h ⊢
   obtain ⟨hnr, h⟩ := aI h
   split at h
   ·rename_i r hr
    obtain ⟨x, h1, h2⟩ := oC h
    exact ⟨_, _, _, by simp only [hnr, cond_true, aAZ, hr, h1], h2⟩
   ·cases h
  | false =>
   rw [hn] at h
   simp only [cond_false] at h ⊢
   cases hf : UG P g with
   | true =>
    rw [hf] at h
    simp only [cond_true] at h ⊢
    split at h
    ·rename_i qs hq
     obtain ⟨hnr, h⟩ := aI h
     split at h
     ·rename_i r hr
      obtain ⟨x, h1, h2⟩ := oC h
      obtain ⟨h3, h2⟩ := aI h2
      exact ⟨_, _, _, by simp only [hq, hnr, aAZ, hr, h1, h3, cond_true], h2⟩
     ·cases h
    ·cases h
   | false =>
    rw [hf] at h
    simp only [cond_false] at h ⊢
    split at h
    ·rename_i qs hq
     obtain ⟨hnr, h⟩ := aI h
     split at h
     ·rename_i r hr
      obtain ⟨x, h1, h2⟩ := oC h
      exact ⟨_, _, _, by simp only [hq, hnr, cond_true, aAZ, hr, h1], h2⟩
     ·cases h
    ·cases h
theorem aGU {t : Nat} {b : Bool} : ∀ {F : Frm}, cN F t = .lit (.bool b) → aS1 F t b = F
 | [], _ => rfl
 | (s, p) :: r, h => by
  simp only [cN] at h
  simp only [aS1]
  cases hs : Nat.beq s t with
  | true => rw [hs] at h; simp only [cond_true] at h ⊢; rw [h]
  | false => rw [hs] at h; simp only [cond_false] at h ⊢; rw [aGU h]
theorem AH {F : Frm} {x : Operand} {b : Bool} {k : Frm → Bool → Option α} (h : aI2 F x b k = some z) (hx : ev F x = .lit (.bool b)) : k F b = some z := by
 unfold aI2 at h
 split at h
 ·have := Q0 h
  rwa [aGU (by simpa only [ev] using hx)] at this
 ·exact Q0 h
theorem VH {F : Frm} {l : List Oper} {o : Oper} {k : Frm → Bool → Option α} (h : aF8 F l o k = some z) : ∃ b, guardOf F l o = some b ∧ k F b = some z := by
 unfold aF8 at h
 unfold guardOf
 cases hg : o.guard with
 | none => rw [hg] at h; exact ⟨true, rfl, h⟩
 | some g =>
  obtain ⟨j, want⟩ := g
  rw [hg] at h
  simp only at h ⊢
  cases hp : l[j]? with
  | none => rw [hp] at h; cases h
  | some p =>
   rw [hp] at h
   simp only at h ⊢
   cases ht : p.dst with
   | none => rw [ht] at h; cases h
   | some t =>
    rw [ht] at h
    simp only at h ⊢
    split at h
    ·rename_i b hb
     have := Q0 h
     rw [aGU hb] at this
     exact ⟨_, by rw [hb], this⟩
    ·rename_i u hu hb
     refine ⟨false, ?_, h⟩
     rw [hb]
     cases u <;> first | rfl | exact absurd rfl (hu _)
    ·cases h
theorem aOC {op : BinOp} {k1 : IntKind} {a b : Int} {k : Value → Option α} (h : a0Y op k1 a b k = some z) : ∃ v, aI0 op k1 a b = some v ∧ k v = some z := by
 unfold a0Y at h
 split at h
 ·cases hb : eqI b 0 with
  | true => rw [hb] at h; cases h
  | false => rw [hb] at h; exact ⟨_, by simp only [aI0, hb, cond_false], h⟩
 ·cases hb : eqI b 0 with
  | true => rw [hb] at h; cases h
  | false => rw [hb] at h; exact ⟨_, by simp only [aI0, hb, cond_false], h⟩
 ·split at h
  ·rename_i v hv; exact ⟨v, hv, h⟩
  ·cases h
theorem xA {F : Frm} {H : Heap} {o : Oper} {k : Frm → PV → Heap → Nat → Option α} (h : OV P E F H o k = some z) : ∃ v H' c, opu P (dH P E) F H o = some (v, H', c) ∧ k F v H' c = some z := by
 unfold OV at h
 split at h
 ·rename_i v H' c hc; exact ⟨v, H', c, hc, h⟩
 ·cases h
theorem aHN {F : Frm} {o : Oper} {op : BinOp} {xt yt : TypeId} {x y : Operand} {k1 k2 : IntKind} {a b : Int} {v : Value} (ho : o.op = .binOp op xt x y yt) (hx : ev F x = .lit (.int k1 a)) (hy : ev F y = .lit (.int k2 b)) (hb : ltI b 0 = false) (hv : aKQ op k1 a b = some v) : kS P F o = some (.lit v) := by
 have hb : ¬ b < 0 := by rw [aL] at hb; exact of_decide_eq_false hb
 have h1 : valOf F x = .int k1 a := by simp [valOf, hx, VL]
 have h2 : valOf F y = .int k2 b := by simp [valOf, hy, VL]
 have h3 : EK F o.op.operands.toList = true := by simp [ho, Op.operands, EK, hx, hy, VL]
 have h4 : CN o.op = false := by simp [ho, CN]
 unfold kS
 rw [h3, h4]
 simp only [Bool.not_true, Bool.or_self, cond_false]
 cases op <;> simp only [aKQ] at hv <;> try (cases hv; done)
 all_goals
  simp only [Option.some.injEq] at hv
  subst hv
  simp [execOp, ho, h1, h2, eqGuard, binOp, Op.shift, hb, B5, RD]
  try rfl
theorem aKD {F : Frm} {x : Operand} {k : Frm → Option α} (h : aSW F x k = some z) : k F = some z := by
 unfold aSW at h
 split at h
 ·rename_i b hb; exact AH h hb
 ·exact h
theorem KL : ∀ {l : List Operand} {F : Frm} {k : Frm → Option α}, aFT l F k = some z → k F = some z
 | [], F, k, h => h
 | x :: r, F, k, h => KL (l := r) (aKD h)
theorem K3 {F : Frm} {H : Heap} {o : Oper} {k : Frm → PV → Heap → Nat → Option α} (h : opK P E F H o k = some z) : ∃ v H' c, opx P (dH P E) F H o = some (v, H', c) ∧ k F v H' c = some z := by
 unfold opK at h
 unfold opx
 cases ht : typed P F o with
 | true =>
  rw [ht] at h
  simp only [cond_true] at h ⊢
  split at h
  ·rename_i cs v H' c hc
   obtain ⟨h1, h2⟩ := tL h
   exact ⟨v, H', c, by simp only [hc, h1, cond_true], h2⟩
  ·cases h
 | false =>
  rw [ht] at h
  simp only [cond_false] at h ⊢
  split at h
  ·rename_i op xt x y yt ho
   split at h
   ·rename_i k1 a k2 b hx hy
    cases hsh : aF0 op with
    | true =>
     rw [hsh] at h
     simp only [cond_true] at h
     cases hb : ltI b 0 with
     | true => rw [hb] at h; cases h
     | false =>
      rw [hb] at h
      simp only [cond_false] at h
      split at h
      ·rename_i v hv
       have hp := aHN (P := P) ho hx hy hb hv
       have hxb : aI0 op k1 a b = none := by cases op <;> simp only [aF0] at hsh <;> first | rfl | (cases hsh; done)
       refine ⟨_, _, _, ?_, h⟩
       simp only [opu, ho, hx, hy, hxb, hp, p0, Bool.cond_self]
      ·cases h
    | false =>
    rw [hsh] at h
    simp only [cond_false] at h
    cases hb : (yP k1 k2 && isX op) with
    | true =>
     rw [hb] at h
     simp only [cond_true] at h
     simp only [Bool.and_eq_true] at hb
     obtain ⟨v, h1, h2⟩ := aOC h
     exact ⟨_, _, _, by simp only [opu, ho, hx, hy, hb.1, cond_true, h1], h2⟩
    | false => rw [hb] at h; exact xA h
   ·exact xA (KL h)
  ·exact xA (KL h)
  ·rename_i c a b ho
   split at h
   ·rename_i t hc
    exact ⟨_, _, _, by simp only [opu, ho, hc], AH h hc⟩
   ·cases h
  ·rename_i c ho
   split at h
   ·rename_i f hc
    split at h
    ·rename_i g first caps hf
     obtain ⟨v, H', c', h1, h2⟩ := aD1 h
     exact ⟨v, H', c', by simp only [opu, ho, hc, hf, h1], h2⟩
    ·rename_i g first caps hf
     obtain ⟨v, H', c', h1, h2⟩ := aD1 h
     exact ⟨v, H', c', by simp only [opu, ho, hc, hf, h1], h2⟩
    ·cases h
   ·exact xA h
  ·exact xA h
theorem xX {f : Int → Option α} {v : Int} : ∀ {n j : Nat}, N3 n j v f = some z → f v = some z
 | 0, _, h => by cases h
 | n + 1, j, h => by
  unfold N3 at h
  cases hb : eqI v (j : Int) with
  | true =>
   rw [hb] at h
   rw [dI, decide_eq_true_eq] at hb
   rw [hb]; exact h
  | false =>
   rw [hb] at h
   exact xX h
theorem aXP {p : PV} (h : a1S p = true) : isT p = false := by cases p <;> first | rfl | cases h
theorem aQ9 {l : List Oper} {F : Frm} {H : Heap} {o : Oper} {k : Frm → PV → Heap → Nat → Option α} (h : a0G P E l F H o k = some z) : ∃ v H' c, opz P (dH P E) l F H o = some (v, H', c) ∧ k F v H' c = some z := by
 unfold a0G at h
 split at h
 ·rename_i t n c ho
  cases hb : aAY l o.dst with
  | false =>
   rw [hb] at h
   obtain ⟨v, H', c', h1, h2⟩ := K3 h
   exact ⟨v, H', c', by simp only [opz, ho, hb, cond_false, h1], h2⟩
  | true =>
   rw [hb] at h
   simp only [cond_true] at h
   split at h
   ·rename_i cs v1 H1 k1 h1
    obtain ⟨h3, h4⟩ := tL h
    exact ⟨_, _, _, by simp only [opz, ho, hb, cond_true, h1, h3], h4⟩
   ·cases h
 ·rename_i t x i ho
  have plain : opK P E F H o k = some z → ∃ v H' c, opz P (dH P E) l F H o = some (v, H', c) ∧ k F v H' c = some z := fun h => by
   obtain ⟨v, H', c', h1, h2⟩ := K3 h
   exact ⟨v, H', c', by simp only [opz, ho, h1], h2⟩
  split at h
  ·rename_i n k1 v hn hv
   cases hb : aB1 (ev F x) with
   | false =>
    rw [hb] at h
    simp only [cond_false] at h
    cases hb2 : a1S (ev F x) with
    | false => rw [hb2] at h; exact plain h
    | true =>
     rw [hb2] at h
     simp only [cond_true] at h
     have h := xX h
     split at h
     ·rename_i p H1 c1 h1
      refine ⟨_, _, _, ?_, h⟩
      have ht : typed P F o = false := by simp only [typed, ho, hb, aXP hb2, Bool.or_false]
      simp only [opz, ho, opx, ht, cond_false, opu, hv, h1]
     ·cases h
   | true =>
    rw [hb] at h
    simp only [cond_true] at h
    have h := xX h
    split at h
    ·rename_i cs p H1 c1 h1
     obtain ⟨h3, h4⟩ := tL h
     refine ⟨_, _, _, ?_, h4⟩
     have ht : typed P F o = true := by simp only [typed, ho, hb, Bool.or_true]
     simp only [opz, ho, opx, ht, cond_true, top, hv, h1, h3]
    ·cases h
  ·exact plain h
 ·rename_i t x i ho
  have plain : opK P E F H o k = some z → ∃ v H' c, opz P (dH P E) l F H o = some (v, H', c) ∧ k F v H' c = some z := fun h => by
   obtain ⟨v, H', c', h1, h2⟩ := K3 h
   exact ⟨v, H', c', by simp only [opz, ho, h1], h2⟩
  split at h
  ·rename_i n k1 v hn hv
   cases hb : a5U (ev F x) with
   | false => rw [hb] at h; exact plain h
   | true =>
    rw [hb] at h
    simp only [cond_true] at h
    have h := xX h
    split at h
    ·rename_i p H1 c1 h1
     refine ⟨_, _, _, ?_, h⟩
     obtain ⟨cs, hcs⟩ : ∃ cs, ev F x = .agg cs := by
      revert hb
      cases ev F x <;> intro hb <;> first | exact ⟨_, rfl⟩ | cases hb
     have ht : typed P F o = false := by simp only [typed, ho, hcs, isS]
     simp only [opz, ho, opx, ht, cond_false, opu, hv, hcs]
     rw [hcs] at h1
     unfold a3L at hn
     split at hn
     ·rename_i n1 e1 hu
      unfold xIdx at h1
      simp only [hu] at h1 ⊢
      exact h1
     ·cases hn
    ·cases h
  ·exact plain h
 ·rename_i t x lo hi ho
  have plain : opK P E F H o k = some z → ∃ v H' c, opz P (dH P E) l F H o = some (v, H', c) ∧ k F v H' c = some z := fun h => by
   obtain ⟨v, H', c', h1, h2⟩ := K3 h
   exact ⟨v, H', c', by simp only [opz, ho, h1], h2⟩
  split at h
  ·rename_i r sz hx
   split at h
   ·rename_i g e hg hu
    cases hb : aAW g.t with
    | false => rw [hb] at h; exact plain h
    | true =>
     rw [hb] at h
     simp only [cond_true] at h
     split at h
     ·rename_i n hn
      obtain ⟨hbn, h⟩ := aI h
      replace h := Q0 h
      split at h
      ·rename_i cs v H1 c1 h1
       obtain ⟨h3, h4⟩ := tL h
       refine ⟨_, _, _, ?_, h4⟩
       have ht : typed P F o = true := by simp only [typed, ho, hx, isT, Bool.true_or]
       simp only [opz, ho, opx, ht, cond_true, top, hx, isS, cond_false, EE, hu, hn, hg, hbn, hb, Bool.true_and, h1, h3]
      ·cases h
     ·cases h
   ·exact plain h
  ·exact plain h
 ·rename_i hno hno2 hno3 hno4
  obtain ⟨v, H', c', h1, h2⟩ := K3 h
  refine ⟨v, H', c', ?_, h2⟩
  unfold opz
  split
  ·rename_i t n c ho
   exact (hno t n c ho).elim
  ·exact h1
theorem N2 {l : List Oper} {F : Frm} {H : Heap} {o : Oper} {k : Frm → PV → Heap → Nat → Option α} (h : aIF P E l o F H k = some z) : ∃ v H' c, nB P (dH P E) l o F H = some (v, H', c) ∧ k F v H' c = some z := by
 unfold aIF at h
 obtain ⟨b, h1, h2⟩ := VH h
 unfold nB
 cases b with
 | true =>
  simp only [h1]
  simp only [cond_true] at h2
  split at h2
  ·rename_i hm
   simp only [hm]
   exact aQ9 h2
  ·cases h2
  ·rename_i cs v hm
   obtain ⟨h3, h4⟩ := tL h2
   exact ⟨_, _, _, by simp only [hm, h3, cond_true], h4⟩
 | false => exact ⟨_, _, _, by simp only [h1], h2⟩
theorem o7 {nt : Nat} {l : List Oper} {k : Frm → Heap → Option α} : ∀ {r : List Oper} {F : Frm} {H : Heap}, zX P E nt l r F H k = some z → ∃ F' H', EB P (dH P E) nt l r F H = some (F', H') ∧ k F' H' = some z
 | [], F, H, h => ⟨F, H, rfl, h⟩
 | o :: r, F, H, h => by
  simp only [zX] at h
  obtain ⟨v, H1, c, h1, h2⟩ := N2 h
  split at h2
  ·rename_i F1 hp
   obtain ⟨F', H', h3, h4⟩ := o7 h2
   refine ⟨F', H', ?_, h4⟩
   simp only [EB, h1, OW, hp, vI, Bool.cond_self, h3]
  ·cases h2
theorem RJ {nt : Nat} {m : Option Nat} {ms : List Nat} {l : List Oper} {F0 : Frm} {H0 : Heap} {k : Frm → Heap → YY → Option α} : ∀ {r : List Oper} {j : Nat} {F : Frm} {H : Heap} {hl : YY}, stK P E nt m ms l r j F H hl k = some z → r = l.drop j → j ≤ l.length → M5 P (dH P E) nt m ms l F0 H0 j = some (F, H, hl) → ∃ F' H' hl', M5 P (dH P E) nt m ms l F0 H0 l.length = some (F', H', hl') ∧ k F' H' hl' = some z
 | [], j, F, H, hl, h, hr, hjl, hs => by
  have h1 : (l.drop j).length = 0 := by rw [← hr]; rfl
  rw [List.length_drop] at h1
  have h2 : j = l.length := by omega
  subst h2
  exact ⟨F, H, hl, hs, h⟩
 | o :: r, j, F, H, hl, h, hr, hjl, hs => by
  have hj : l[j]? = some o := by
   have : (l.drop j)[0]? = some o := by rw [← hr]; rfl
   simpa using this
  have hr' : r = l.drop (j + 1) := by
   have : (l.drop j).tail = r := by rw [← hr]; rfl
   rw [← this, List.tail_drop]
  simp only [stK] at h
  split at h
  ·rename_i hres
   obtain ⟨v, H1, c, h1, h2⟩ := N2 h
   obtain ⟨hok, h2⟩ := aI h2
   split at h2
   ·rename_i F1 hp
    refine RJ h2 hr' (List.getElem?_eq_some_iff.1 hj).1 ?_
    simp only [M5, hs, hj, hres, stepT, h1, hok, cond_true, OW, hp, vI, QQ]
    cases Nat.beq c 0 <;> rfl
   ·cases h2
  ·rename_i q hres
   cases hcall : UN o with
   | true =>
    rw [hcall] at h
    simp only [cond_true] at h
    obtain ⟨hnr, h⟩ := aI h
    obtain ⟨v0, X, c0, h1, h⟩ := N2 h
    split at h
    ·rename_i v H1 c hct
     obtain ⟨hok, h2⟩ := aI h
     split at h2
     ·rename_i F1 hp
      refine RJ h2 hr' (List.getElem?_eq_some_iff.1 hj).1 ?_
      have hop : ∃ cc, o.op = .call cc := by
       unfold UN at hcall
       split at hcall
       ·unfold U4 at hcall
        split at hcall
        ·rename_i cc hcc; exact ⟨cc, hcc⟩
        ·cases hcall
       ·cases hcall
      obtain ⟨cc, hop⟩ := hop
      have hst : stepT (some q) P (dH P E) l o F H = some (v, H1, c) := by
       simp only [stepT, hop]
       rw [← hop, hnr, cond_true, h1]
       exact hct
      simp only [M5, hs, hj, hres, hst, hok, cond_true, OW, hp, vI, QQ]
      cases Nat.beq c 0 <;> rfl
     ·cases h2
    ·cases h
   | false =>
   rw [hcall] at h
   simp only [cond_false] at h
   split at h
   ·rename_i v H1 c h1
    obtain ⟨hok, h2⟩ := aI h
    split at h2
    ·rename_i F1 hp
     refine RJ h2 hr' (List.getElem?_eq_some_iff.1 hj).1 ?_
     have hc : c = 2 := by
      simp only [stepT] at h1
      split at h1
      ·split at h1
       ·obtain ⟨_, h1⟩ := aI h1
        simp only [Option.some.injEq, Prod.mk.injEq] at h1
        exact h1.2.2.symm
       ·cases h1
      ·obtain ⟨_, h1⟩ := aI h1
       split at h1
       ·rcases BV h1 with ⟨_, _, _, _, _, _, h1, _⟩ | ⟨_, _, _, _, _⟩
        ·exact h1
        ·obtain ⟨_, _, _, ha⟩ := TI hres
         unfold H7 at ha
         rw [hcall, Bool.or_false] at ha
         unfold isVar at ha
         split at ha
         ·simp_all
         ·cases ha
       ·cases h1
      ·cases h1
     subst hc
     simp only [M5, hs, hj, hres, h1, hok, cond_true, OW, hp, vI, QQ]
     rfl
    ·cases h2
   ·cases h
theorem GR {nt : Nat} {ops : Array Oper} {F : Frm} {H : Heap} {k : Frm → Heap → Option α} (h : rC P E nt ops true F H k = some z) : ∃ F' H', GY P (dH P E) nt ops F H = some (F', H') ∧ k F' H' = some z := by
 unfold rC at h
 simp only [cond_true] at h
 obtain ⟨h1, h⟩ := aI h
 obtain ⟨F', H', hl, h2, h3⟩ := RJ h (F0 := F) (H0 := aKN (HA ops H) ops.toList.length H) (by simp) (Nat.zero_le _) rfl
 obtain ⟨h4, h3⟩ := aI h3
 exact ⟨F', H', by simp only [GY, h1, cond_true, h2, h4], h3⟩
theorem NR {nt : Nat} {id : Nat} {ops : Array Oper} {draw : Bool} {F : Frm} {H : Heap} {k : Frm → Heap → Option α} (hcl : cQ P (dH P E)) (hP : P.follows .mixedOrders = true) (h : rC P E nt ops draw F H k = some z) :
  ∃ F' H', k F' H' = some z ∧ ∀ {n0 wi Gi μi a w} {Q : Exit → Act → World → Prop}, I n0 wi Gi μi nt F H a w → (∀ a' w', I n0 wi Gi μi nt F' H' a' w' → Q .normal a' w') → (Code.region id ops draw).wp P Q a w := by
 cases draw with
 | true =>
  obtain ⟨F', H', h2, h3⟩ := GR h
  exact ⟨F', H', h3, fun hI hQ => aCN hcl hP h2 hI hQ⟩
 | false =>
  unfold rC at h
  simp only [cond_false] at h
  obtain ⟨F', H', h2, h3⟩ := o7 h
  exact ⟨F', H', h3, fun hI hQ => wp_region_list (rQ hcl ops.toList F H _ _ h2 hI hQ)⟩
end
end Go.PM
set_option linter.unusedSimpArgs false
set_option linter.unusedVariables false
namespace Go.PM
open Go Go.RowKit
def IX {α : Type} (m : Nat) : Frm → (Frm → α) → α
 | [], k => k []
 | (t, p) :: r, k => bif RK m t then IX m r (fun r => k ((t, p) :: r)) else IX m r k
theorem wD {α : Type} (m : Nat) : ∀ (F : Frm) (k : Frm → α), ∃ F', IX m F k = k F' ∧ ∀ t, cN F' t = cN F t ∨ cN F' t = .junk
 | [], k => ⟨[], rfl, fun t => .inl rfl⟩
 | (s, p) :: r, k => by
  simp only [IX]
  cases hs : RK m s with
  | true =>
   obtain ⟨F', h1, h2⟩ := wD m r fun r => k ((s, p) :: r)
   refine ⟨(s, p) :: F', h1, fun t => ?_⟩
   rw [dW, dW]
   by_cases hts : t = s
   ·subst hts; simp
   ·simp only [hts, if_false]; exact h2 t
  | false =>
   have key : ∀ (F : Frm) (k : Frm → α), ∃ F', IX m F k = k F' ∧ ∀ t, cN F' t = if RK m t then cN F t else .junk := by
    intro F
    induction F with
    | nil => intro k; exact ⟨[], rfl, fun t => by simp [cN]⟩
    | cons x r ih =>
     intro k
     obtain ⟨s, p⟩ := x
     simp only [IX]
     cases hs : RK m s with
     | true =>
      obtain ⟨F', h1, h2⟩ := ih fun r => k ((s, p) :: r)
      refine ⟨(s, p) :: F', h1, fun t => ?_⟩
      rw [dW, dW, h2 t]
      by_cases hts : t = s
      ·subst hts; simp [hs]
      ·simp [hts]
     | false =>
      obtain ⟨F', h1, h2⟩ := ih k
      refine ⟨F', h1, fun t => ?_⟩
      rw [dW, h2 t]
      by_cases hts : t = s
      ·subst hts; simp [hs]
      ·simp [hts]
   obtain ⟨F', h1, h2⟩ := key r k
   refine ⟨F', h1, fun t => ?_⟩
   rw [dW, h2 t]
   by_cases hts : t = s
   ·subst hts; simp [hs]
   ·simp only [hts, if_false]
    cases RK m t <;> simp

@[reducible] def aV : List (Ex × List (Nat × Kd)) → Type
 | [] => Empty
 | [(_, s)] => Shape.den s
 | (_, s) :: b :: r => Shape.den s ⊕ aV (b :: r)
structure aR where
 sh : List (Nat × Kd)
 exits : List (Ex × List (Nat × Kd))
 run : Shape.den sh → Option (aV exits)
def rJ : (l : List (Ex × List (Nat × Kd))) → aV l → Ex × Frm × Heap
 | [], z => Empty.elim z
 | [(e, s)], z => (e, o8 s z 0, wA s z)
 | (e, s) :: b :: r, z => match z with
  | .inl x => (e, o8 s x 0, wA s x)
  | .inr y => rJ (b :: r) y
def aKC {α : Type} : (l : List (Ex × List (Nat × Kd))) → aV l → (Ex → Frm → Heap → Option α) → Option α
 | [], z, _ => Empty.elim z
 | [(e, s)], z, k => k e (o8 s z 0) (wA s z)
 | (e, s) :: b :: r, z, k => kT z (fun x => k e (o8 s x 0) (wA s x)) (fun y => aKC (b :: r) y k)
def aI8 : Ex → Ex → Bool
 | .normal, .normal => true
 | .exit i, .exit j => Nat.beq i j
 | .ret, .ret => true
 | _, _ => false
def NG : (l : List (Ex × List (Nat × Kd))) → Ex → Frm → Heap → Option (aV l)
 | [], _, _, _ => none
 | [(e, s)], ex, F, H => bif aI8 e ex then DE s F H else none
 | (e, s) :: b :: r, ex, F, H => bif aI8 e ex then (match DE s F H with | some x => some (.inl x) | none => none) else (match NG (b :: r) ex F H with | some y => some (.inr y) | none => none)

section
variable {α : Type} (P : Program) (E : Env) (nt aU : Nat) (lt : Nat → Option aR)
def sK : Code → Frm → Heap → (Ex → Frm → Heap → Option α) → Option α
 | .skip, F, H, k => k .normal F H
 | .label _, F, H, k => k .normal F H
 | .region _ ops draw, F, H, k => rC P E nt ops draw F H fun F H => IX aU F fun F => k .normal F H
 | .seq a b, F, H, k => sK a F H fun ex F H => match ex with
  | .normal => sK b F H k
  | .exit i => k (.exit i) F H
  | .ret => k .ret F H
 | .cond c a b, F, H, k => match ev F c with
  | .lit (.bool t) => aI2 F c t fun F t => bif t then sK a F H k else sK b F H k
  | _ => none
 | .block id a, F, H, k => sK a F H fun ex F H => match ex with
  | .exit i => bif Nat.beq i id then k .normal F H else k (.exit i) F H
  | .normal => k .normal F H
  | .ret => k .ret F H
 | .loop a, F, H, k => match lt (aG a) with
  | some s => match DE s.sh F H with
   | some x => aB (s.run x) fun z => aKC s.exits z k
   | none => none
  | none => none
 | .exit id, F, H, k => k (.exit id) F H
 | .scope a, F, H, k => sK a F H k
 | .ret, F, H, k => k .ret F H
 | _, _, _, _ => none
def Z7 (sh : List (Nat × Kd)) (exits : List (Ex × List (Nat × Kd))) (ex : Ex) (F : Frm) (H : Heap) : Option (Shape.den sh ⊕ aV exits) := match ex with
 | .normal => match DE sh F H with
  | some y => some (.inl y)
  | none => none
 | .exit i => match NG exits (.exit i) F H with
  | some z => some (.inr z)
  | none => none
 | .ret => match NG exits .ret F H with
  | some z => some (.inr z)
  | none => none
def dZ (a : Code) (sh : List (Nat × Kd)) (exits : List (Ex × List (Nat × Kd))) (x : Shape.den sh) : Option (Shape.den sh ⊕ aV exits) :=
 sK P E nt aU lt a (o8 sh x 0) (wA sh x) (Z7 sh exits)
end
def bS {σ τ : Type} (step : σ → Option (σ ⊕ τ)) : Nat → σ → Option τ
 | 0, _ => none
 | n + 1, x => match step x with
  | some (.inl y) => bS step n y
  | some (.inr z) => some z
  | none => none
def aF : Code → List Code
 | .seq a b => aF a ++ aF b
 | .cond _ a b => aF a ++ aF b
 | .block _ a => aF a
 | .scope a => aF a
 | .loop a => [a]
 | _ => []

section
variable {α : Type} {P : Program} {E : Env} {nt aU : Nat} {lt : Nat → Option aR}
def aN6 (P : Program) (nt : Nat) (c : Code) (F : Frm) (H : Heap) (r : Ex × Frm × Heap) : Prop :=
 ∀ (n0 : Nat → Prop) (wi : World) (Gi : Gd) (μi : Mp) (a : Act) (w : World), (∀ r, μi.loc r = none ∧ μi.len r = none) → I n0 wi Gi μi nt F H a w → a64 P n0 wi Gi μi nt c a w r
def cL (P : Program) (nt : Nat) (a : Code) (s : aR) : Prop :=
 ∀ x z, s.run x = some z → aN6 P nt (.loop a) (o8 s.sh x 0) (wA s.sh x) (rJ s.exits z)

theorem AL : ∀ {l : List (Ex × List (Nat × Kd))} {z : aV l} {k : Ex → Frm → Heap → Option α} {y : α}, aKC l z k = some y → k (rJ l z).1 (rJ l z).2.1 (rJ l z).2.2 = some y
 | [], z, _, _, _ => Empty.elim z
 | [(e, s)], z, k, y, h => h
 | (e, s) :: b :: r, z, k, y, h => by
  cases z with
  | inl x => exact h
  | inr x => exact AL (l := b :: r) (z := x) h
theorem XO {a b : Ex} (h : aI8 a b = true) : a = b := by
 cases a <;> cases b <;> simp only [aI8] at h <;> first | rfl | (cases h; done) | exact congrArg Ex.exit (Nat.eq_of_beq_eq_true h)
theorem KE {n0 : Nat → Prop} {wi : World} {Gi : Gd} {μi : Mp} (hfl : ∀ r, μi.loc r = none ∧ μi.len r = none) {ex : Ex} {F : Frm} {H : Heap} : ∀ {l : List (Ex × List (Nat × Kd))} {z : aV l}, NG l ex F H = some z →
  (rJ l z).1 = ex ∧ ∀ a w, I n0 wi Gi μi nt F H a w → I n0 wi Gi μi nt (rJ l z).2.1 (rJ l z).2.2 a w
 | [], z, _ => Empty.elim z
 | [(e, s)], z, h => by
  simp only [NG] at h
  obtain ⟨hb, h⟩ := aI h
  exact ⟨XO hb, fun a w hI => sP h hfl hI⟩
 | (e, s) :: b :: r, z, h => by
  simp only [NG] at h
  cases hb : aI8 e ex with
  | true =>
   rw [hb] at h
   simp only [cond_true] at h
   split at h
   ·rename_i x hx
    simp only [Option.some.injEq] at h
    subst h
    exact ⟨XO hb, fun a w hI => sP hx hfl hI⟩
   ·cases h
  | false =>
   rw [hb] at h
   simp only [cond_false] at h
   split at h
   ·rename_i x hx
    simp only [Option.some.injEq] at h
    subst h
    exact KE hfl (l := b :: r) (z := x) hx
   ·cases h

theorem jF (hcl : cQ P (dH P E)) (hP : P.follows .mixedOrders = true) : ∀ (c : Code) (F : Frm) (H : Heap) (k : Ex → Frm → Heap → Option α) (z : α), (∀ a ∈ aF c, ∀ s, lt (aG a) = some s → cL P nt a s) →
  sK P E nt aU lt c F H k = some z → ∃ r : Ex × Frm × Heap, k r.1 r.2.1 r.2.2 = some z ∧ aN6 P nt c F H r
 | .skip, F, H, k, z, hl, h => ⟨(.normal, F, H), h, fun _ _ _ _ _ _ _ hI => wp_skip ⟨rfl, hI⟩⟩
 | .label l, F, H, k, z, hl, h => ⟨(.normal, F, H), h, fun _ _ _ _ _ _ _ hI => wp_label ⟨rfl, hI⟩⟩
 | .region id ops draw, F, H, k, z, hl, h => by
  simp only [sK] at h
  obtain ⟨F1, H1, h1, h2⟩ := NR (id := id) hcl hP h
  obtain ⟨F2, h3, h4⟩ := wD aU F1 fun F => k .normal F H1
  rw [h3] at h1
  exact ⟨(.normal, F2, H1), h1, fun _ _ _ _ _ _ _ hI => h2 hI fun a' w' hI' => ⟨rfl, hI'.aOL h4⟩⟩
 | .seq x y, F, H, k, z, hl, h => by
  simp only [sK] at h
  obtain ⟨⟨ex, F1, H1⟩, h1, h2⟩ := jF hcl hP x F H _ z (fun a ha => hl a (by simp [aF, ha])) h
  cases ex with
  | normal =>
   obtain ⟨r, h3, h4⟩ := jF hcl hP y F1 H1 k z (fun a ha => hl a (by simp [aF, ha])) h1
   refine ⟨r, h3, fun n0 wi Gi μi a w hfl hI => wp_seq (wp_mono (h2 n0 wi Gi μi a w hfl hI) ?_)⟩
   rintro e a' w' ⟨rfl, hI'⟩
   exact h4 n0 wi Gi μi a' w' hfl hI'
  | exit i =>
   refine ⟨(.exit i, F1, H1), h1, fun n0 wi Gi μi a w hfl hI => wp_seq (wp_mono (h2 n0 wi Gi μi a w hfl hI) ?_)⟩
   rintro e a' w' ⟨rfl, hI'⟩
   exact ⟨rfl, hI'⟩
  | ret =>
   refine ⟨(.ret, F1, H1), h1, fun n0 wi Gi μi a w hfl hI => wp_seq (wp_mono (h2 n0 wi Gi μi a w hfl hI) ?_)⟩
   rintro e a' w' ⟨rfl, hI'⟩
   exact ⟨rfl, hI'⟩
 | .cond c x y, F, H, k, z, hl, h => by
  simp only [sK] at h
  split at h
  ·rename_i t ht
   replace h := AH h ht
   have hc : ∀ {n0 wi Gi μi a w}, I n0 wi Gi μi nt F H a w → a.eval c = .bool t := fun hI => by
    obtain ⟨G, μ, e, hW, hF⟩ := hI
    have hc := cG hF c
    rwa [ht, VR] at hc
   cases t with
   | true =>
    obtain ⟨r, h3, h4⟩ := jF hcl hP x F H k z (fun a ha => hl a (by simp [aF, ha])) h
    exact ⟨r, h3, fun n0 wi Gi μi a w hfl hI => wp_cond (hc hI) (h4 n0 wi Gi μi a w hfl hI)⟩
   | false =>
    obtain ⟨r, h3, h4⟩ := jF hcl hP y F H k z (fun a ha => hl a (by simp [aF, ha])) h
    exact ⟨r, h3, fun n0 wi Gi μi a w hfl hI => wp_cond (hc hI) (h4 n0 wi Gi μi a w hfl hI)⟩
  ·cases h
 | .block id x, F, H, k, z, hl, h => by
  simp only [sK] at h
  obtain ⟨⟨ex, F1, H1⟩, h1, h2⟩ := jF hcl hP x F H _ z (fun a ha => hl a (by simp [aF, ha])) h
  cases ex with
  | normal =>
   refine ⟨(.normal, F1, H1), h1, fun n0 wi Gi μi a w hfl hI => wp_block (wp_mono (h2 n0 wi Gi μi a w hfl hI) ?_)⟩
   rintro e a' w' ⟨rfl, hI'⟩
   exact ⟨rfl, hI'⟩
  | ret =>
   refine ⟨(.ret, F1, H1), h1, fun n0 wi Gi μi a w hfl hI => wp_block (wp_mono (h2 n0 wi Gi μi a w hfl hI) ?_)⟩
   rintro e a' w' ⟨rfl, hI'⟩
   exact ⟨rfl, hI'⟩
  | exit i =>
   simp only at h1
   cases hi : Nat.beq i id with
   | true =>
    rw [hi] at h1
    have := Nat.eq_of_beq_eq_true hi
    subst this
    refine ⟨(.normal, F1, H1), h1, fun n0 wi Gi μi a w hfl hI => wp_block (wp_mono (h2 n0 wi Gi μi a w hfl hI) ?_)⟩
    rintro e a' w' ⟨rfl, hI'⟩
    simp only [Ex.to, Exit.inBlock, if_true]
    exact ⟨trivial, hI'⟩
   | false =>
    rw [hi] at h1
    have hne : ¬ i = id := fun e => by rw [e] at hi; simp at hi
    refine ⟨(.exit i, F1, H1), h1, fun n0 wi Gi μi a w hfl hI => wp_block (wp_mono (h2 n0 wi Gi μi a w hfl hI) ?_)⟩
    rintro e a' w' ⟨rfl, hI'⟩
    simp only [Ex.to, Exit.inBlock, hne, if_false]
    exact ⟨trivial, hI'⟩
 | .loop x, F, H, k, z, hl, h => by
  simp only [sK] at h
  split at h
  ·rename_i s hs
   split at h
   ·rename_i x0 hx
    obtain ⟨y, h1, h2⟩ := oC h
    exact ⟨rJ s.exits y, AL h2, fun n0 wi Gi μi a w hfl hI => hl x (by simp [aF]) s hs x0 y h1 n0 wi Gi μi a w hfl (sP hx hfl hI)⟩
   ·cases h
  ·cases h
 | .exit id, F, H, k, z, hl, h => ⟨(.exit id, F, H), h, fun _ _ _ _ _ _ _ hI => wp_exit ⟨rfl, hI⟩⟩
 | .scope x, F, H, k, z, hl, h => by
  simp only [sK] at h
  obtain ⟨⟨ex, F1, H1⟩, h1, h2⟩ := jF hcl hP x F H _ z (fun a ha => hl a (by simp [aF, ha])) h
  refine ⟨(ex, F1, H1), h1, fun n0 wi Gi μi a w hfl hI => wp_scope_straight (wp_mono (h2 n0 wi Gi μi a w hfl hI) ?_)⟩
  rintro e a' w' ⟨rfl, hI'⟩
  cases ex <;> exact ⟨rfl, hI'⟩
 | .ret, F, H, k, z, hl, h => ⟨(.ret, F, H), h, fun _ _ _ _ _ _ _ hI => wp_ret ⟨rfl, hI⟩⟩
 | .rangeFunc .., F, H, k, z, hl, h => by simp only [sK] at h; cases h
 | .goto l, F, H, k, z, hl, h => by simp only [sK] at h; cases h
 | .refuse s, F, H, k, z, hl, h => by simp only [sK] at h; cases h

theorem cS (hcl : cQ P (dH P E)) (hP : P.follows .mixedOrders = true) {a : Code} {sh : List (Nat × Kd)} {exits : List (Ex × List (Nat × Kd))} {step : Shape.den sh → Option (Shape.den sh ⊕ aV exits)} (L : Nat)
  (hl : ∀ b ∈ aF a, ∀ s, lt (aG b) = some s → cL P nt b s) (hr : ∀ x, dZ P E nt aU lt a sh exits x = step x) : cL P nt a ⟨sh, exits, bS step L⟩ := by
 intro x z hz n0 wi Gi μi act w hfl hI
 refine wp_loop_ghost (fun k a w => ∃ x, bS step k x = some z ∧ I n0 wi Gi μi nt (o8 sh x 0) (wA sh x) a w) L ⟨x, hz, hI⟩ ?_
 rintro k act w ⟨x, hz, hI⟩
 cases k with
 | zero => cases hz
 | succ k =>
  simp only [bS] at hz
  split at hz
  ·rename_i y hs
   rw [← hr] at hs
   obtain ⟨⟨ex, F', H'⟩, h1, h2⟩ := jF hcl hP a _ _ _ _ hl hs
   refine wp_mono (h2 n0 wi Gi μi act w hfl hI) ?_
   rintro e a' w' ⟨rfl, hI'⟩
   cases ex with
   | normal =>
    simp only [Z7] at h1
    split at h1
    ·rename_i y' hy
     simp only [Option.some.injEq, Sum.inl.injEq] at h1
     subst h1
     exact ⟨k, by omega, y', hz, sP hy hfl hI'⟩
    ·cases h1
   | exit i =>
    simp only [Z7] at h1
    split at h1
    ·simp at h1
    ·cases h1
   | ret =>
    simp only [Z7] at h1
    split at h1
    ·simp at h1
    ·cases h1
  ·rename_i y hs
   simp only [Option.some.injEq] at hz
   subst hz
   rw [← hr] at hs
   obtain ⟨⟨ex, F', H'⟩, h1, h2⟩ := jF hcl hP a _ _ _ _ hl hs
   refine wp_mono (h2 n0 wi Gi μi act w hfl hI) ?_
   rintro e a' w' ⟨rfl, hI'⟩
   cases ex with
   | normal =>
    simp only [Z7] at h1
    split at h1
    ·simp at h1
    ·cases h1
   | exit i =>
    simp only [Z7] at h1
    split at h1
    ·rename_i y' hy
     simp only [Option.some.injEq, Sum.inr.injEq] at h1
     subst h1
     obtain ⟨h3, h4⟩ := KE (nt := nt) (n0 := n0) (wi := wi) (Gi := Gi) hfl hy
     have h5 := h4 a' w' hI'
     exact ⟨by rw [h3], h5⟩
    ·cases h1
   | ret =>
    simp only [Z7] at h1
    split at h1
    ·rename_i y' hy
     simp only [Option.some.injEq, Sum.inr.injEq] at h1
     subst h1
     obtain ⟨h3, h4⟩ := KE (nt := nt) (n0 := n0) (wi := wi) (Gi := Gi) hfl hy
     have h5 := h4 a' w' hI'
     exact ⟨by rw [h3], h5⟩
    ·cases h1
  ·cases hz
end
end Go.PM
set_option linter.unusedSimpArgs false
set_option linter.unusedVariables false
namespace Go.PM
open Go Go.RowKit
@[reducible] def aH : List Kd → Type
 | [] => Unit
 | k :: r => k.den × aH r
def iE : (l : List Kd) → aH l → List PV
 | [], _ => []
 | k :: r, (x, xs) => pO k x 0 :: iE r xs
def aFK : (l : List Kd) → List PV → Option (aH l)
 | [], [] => some ()
 | k :: r, p :: ps => match XE k p [] 0 with
  | some x => match aFK r ps with
   | some xs => some (x, xs)
   | none => none
  | none => none
 | _, _ => none
def FV : List Kd → Bool
 | [] => true
 | .own _ _ :: _ | .box _ _ :: _ | .win _ _ :: _ | .bown _ _ _ :: _ | .bag _ _ _ _ _ :: _ | .ar _ _ :: _ => false
 | _ :: r => FV r
def Kd.plain : Kd → Bool
 | .list t | .agg t | .ptr t => t.plain
 | .clo _ ts => ts.all Ty.plain
 | .hnd _ => false
 | _ => true
theorem PE : ∀ (ts : List Ty) (x : uJ ts), ts.all Ty.plain = true → dM.noRows (HV ts x) = true
 | [], _, _ => rfl
 | t :: r, (x, xs), h => by
  simp only [List.all_cons, Bool.and_eq_true] at h
  simp only [HV, dM.noRows, dM, Bool.and_eq_true]
  exact ⟨AG t x h.1, PE r xs h.2⟩
theorem aME : ∀ (k : Kd) (x : k.den) (n : Nat), k.plain = true → dM (pO k x n) = true
 | .int _, _, _, _ | .bool, _, _, _ | .str, _, _, _ | .own _ _, _, _, _ | .box _ _, _, _, _ | .fn _, _, _, _ | .nil0, _, _, _ | .val, _, _, _ | .nilI, _, _, _ | .win _ _, _, _, _ | .bown _ _ _, _, _, _ | .bag _ _ _ _ _, _, _, _ | .ar _ _, _, _, _ => rfl
 | .hnd _, _, _, h => by cases h
 | .list t, _, _, h => h
 | .agg t, x, _, h => AG t x h
 | .ptr t, x, _, h => AG t x h
 | .clo _ ts, x, _, h => by
  simp only [pO, dM, dM.noRows, Bool.true_and]
  exact PE ts x h
theorem ZA : ∀ (ks : List Kd) (x : aH ks), ks.all Kd.plain = true → dM.noRows (iE ks x) = true
 | [], _, _ => rfl
 | k :: r, (x, xs), h => by
  simp only [List.all_cons, Bool.and_eq_true] at h
  simp only [iE, dM.noRows, Bool.and_eq_true]
  exact ⟨aME k x 0 h.1, ZA r xs h.2⟩
def aJ5 (l : List Kd) (x : aH l) : PV := dU (iE l x)
def aH7 : (l : List Kd) → PV → Option (aH l)
 | [k], q => match XE k q [] 0 with
  | some x => some (x, ())
  | none => none
 | l, .tuple qs => aFK l qs
 | _, _ => none

section
variable {P : Program} {n0 : Nat → Prop} {w wi : World} {G Gi : Gd} {μ μi μ' : Mp} {H : Heap} {F : Frm} {a : Act} {nt : Nat}
theorem aMC {e : TypeId} {t : Ty} {p : PV} {n : Nat} : DV e t p [] n = none := by
 unfold DV
 split
 ·cases Nat.beq _ n && Nat.beq _ t.size <;> rfl
 ·rfl
theorem aMS {e : TypeId} {t : Ty} {p : PV} {n : Nat} : aBF e t p [] n = none := by
 unfold aBF
 split
 ·cases Nat.beq _ n && Nat.beq _ 0 <;> rfl
 ·rfl
theorem aJD {e et : TypeId} {t : Ty} {p : PV} {n : Nat} : QX e et t p [] n = none := by
 unfold QX
 split
 ·cases Nat.beq _ n && Nat.beq _ 0 <;> rfl
 ·rfl
theorem aLY {e : TypeId} {t1 : Ty} {et : TypeId} {t : Ty} {t2 : Option Ty} {p : PV} {n : Nat} : aBL e t1 et t t2 p [] n = none := by
 unfold aBL
 split
 ·cases Nat.beq _ n && Nat.beq _ 0 <;> rfl
 ·rfl
theorem aEE : ∀ (k : Kd) {p : PV} {x : k.den} {v : Value}, XE k p [] 0 = some x → VR w G aM p v → VR w G aM (pO k x 0) v
 | .int k, p, x, v, h, hv => by
  have := LS h
  simp only [List.cons.injEq, and_true] at this
  subst this
  exact hv
 | .bool, p, x, v, h, hv => by
  have := HH h
  simp only [List.cons.injEq, and_true] at this
  subst this
  exact hv
 | .str, p, x, v, h, hv => by
  have := KA h
  simp only [List.cons.injEq, and_true] at this
  subst this
  exact hv
 | .list t, p, x, v, h, hv => by
  have := oU (.list t) aM [p] x [v] h (by rw [VRs]; exact ⟨v, [], rfl, hv, by rw [VRs]⟩)
  simp only [enc] at this
  rw [VRs] at this
  obtain ⟨y, ys, h1, h2, _⟩ := this
  cases h1
  exact h2
 | .agg t, p, x, v, h, hv => by
  simp only [XE] at h
  unfold aKJ at h
  split at h
  ·rename_i cs
   rw [VR] at hv
   obtain ⟨vs, rfl, h2⟩ := hv
   simp only [pO]
   rw [VR]
   exact ⟨vs, rfl, oU t aM cs x vs.toList h h2⟩
  ·cases h
 | .own e t, p, x, v, h, hv => by
  simp only [XE, aMC] at h
  cases h
 | .box e t, p, x, v, h, hv => by
  simp only [XE, aMS] at h
  cases h
 | .ptr t, p, x, v, h, hv => IF h hv
 | .fn g, p, x, v, h, hv => by
  have := WB h
  subst this
  exact hv
 | .nil0, p, x, v, h, hv => by
  have := QL h
  subst this
  exact hv
 | .val, p, x, v, h, hv => by
  have := RL (p := p) (x := x) h
  subst this
  exact hv
 | .nilI, p, x, v, h, hv => by
  have := M7 (p := p) (x := x) h
  subst this
  exact hv
 | .clo g ts, p, x, v, h, hv => GM h hv
 | .win j sz, p, x, v, h, hv => by
  have := R0 h
  subst this
  exact hv
 | .bown e et t, p, x, v, h, hv => by
  simp only [XE, aJD] at h
  cases h
 | .bag e t1 et t t2, p, x, v, h, hv => by
  simp only [XE, aLY] at h
  cases h
 | .hnd sz, p, x, v, h, hv => by
  have := TH (μ := aM) (vs := [v]) h (by rw [VRs]; exact ⟨v, [], rfl, hv, by rw [VRs]⟩)
  rw [VRs] at this
  obtain ⟨y, ys, h1, h2, _⟩ := this
  cases h1
  exact h2
 | .ar e t, p, x, v, h, hv => by
  simp only [XE, aNY, PM.gR] at h
  simp at h
theorem xN : ∀ (l : List Kd) {ps : List PV} {x : aH l} {vs : List Value}, aFK l ps = some x → VRs w G aM ps vs → VRs w G aM (iE l x) vs
 | [], [], x, vs, h, hv => hv
 | [], _ :: _, x, vs, h, hv => by cases h
 | _ :: _, [], x, vs, h, hv => by cases h
 | k :: r, p :: ps, x, vs, h, hv => by
  simp only [aFK] at h
  split at h
  ·rename_i y hy
   split at h
   ·rename_i ys hys
    simp only [Option.some.injEq] at h
    subst h
    rw [VRs] at hv
    obtain ⟨u, us, h1, h2, h3⟩ := hv
    simp only [iE]
    rw [VRs]
    exact ⟨u, us, h1, aEE k hy h2, xN r hys h3⟩
   ·cases h
  ·cases h
theorem L0 {l : List Kd} {q : PV} {x : aH l} {v : Value} (h : aH7 l q = some x) (hv : VR w G aM q v) : VR w G aM (aJ5 l x) v := by
 unfold aH7 at h
 split at h
 ·split at h
  ·rename_i k q y hy
   simp only [Option.some.injEq] at h
   subst h
   exact aEE _ hy hv
  ·cases h
 ·rename_i hne
  rw [VR] at hv
  obtain ⟨vs, rfl, h2⟩ := hv
  have h3 := xN _ h h2
  clear h
  match l, x, h3 with
  | [], x, h3 =>
   simp only [aJ5, iE, dU]
   rw [VR]
   exact ⟨vs, rfl, h3⟩
  | [k], x, h3 => exact (hne k rfl).elim
  | k :: k2 :: r, (x, y, z), h3 =>
   simp only [aJ5, iE, dU]
   rw [VR]
   exact ⟨vs, rfl, h3⟩
 ·cases h

def cO (P : Program) (g : FuncId) (args rets : List Kd) (f : aH args → Option (aH rets)) : Prop :=
 ∀ x y, f x = some y → xJ P g (iE args x) (aJ5 rets y)
def aNK (args rets : List Kd) (f : aH args → Option (aH rets)) (qs : List PV) : Option Res := match aFK args qs with
 | some x => some ⟨aH rets, f x, aJ5 rets⟩
 | none => none
theorem aRV {g : FuncId} {args rets : List Kd} {f : aH args → Option (aH rets)} (hf : cO P g args rets f) {qs : List PV} {r : Res} (h : aNK args rets f qs = some r) : ∀ y, r.val = some y → xJ P g qs (r.out y) := by
 unfold aNK at h
 split at h
 ·rename_i x hx
  simp only [Option.some.injEq] at h
  subst h
  intro y hy w G vs hlt hv
  exact hf x y hy w G vs hlt (xN args hx hv)
 ·cases h
structure aZ (P : Program) (E : Env) : Prop where
 pure : ∀ g qs r, E.pure g qs = some r → ∀ y, r.val = some y → xJ P g qs (r.out y)
 shr : ∀ g args H r, E.shr g args H = some r → ∀ y, r.val = some y → ∀ {n0 G μ w vs}, aW n0 G μ H w → VRs w G μ args vs → o6 P n0 w G μ g vs.toArray (r.out y).1 (r.out y).2
theorem aZ.callee {E : Env} (h : aZ P E) : cQ P (dH P E) := by
 refine aOA ?_ ?_
 ·intro g args r hr
  unfold aAZ at hr
  split at hr
  ·rename_i s hs
   split at hr
   ·rename_i x hx
    simp only [Option.some.injEq] at hr
    subst hr
    exact h.pure g args s hs x hx
   ·cases hr
  ·cases hr
 ·intro g args H r H' hr
  unfold X1 at hr
  split at hr
  ·rename_i s hs
   split at hr
   ·rename_i x hx
    have hr := Option.some.inj hr
    have h1 : r = (s.out x).1 := by rw [hr]
    have h2 : H' = (s.out x).2 := by rw [hr]
    subst h1; subst h2
    intro n0 G μ w vs hW hv
    exact h.shr g args H s hs x hx hW hv
   ·cases hr
  ·cases hr

def aJ6 (P : Program) (rs : List ResultVar) (rets : List Kd) (ex : Ex) (F : Frm) (H : Heap) : Option (aH rets) := match ex with
 | .exit _ => none
 | _ => match mT P F H rs with
  | some vs => match aMO H (dU vs) with
   | some q => aH7 rets q
   | none => none
  | none => none
def bQ (P : Program) (E : Env) (fn : Func) (aU : Nat) (lt : Nat → Option aR) (c : Code) (args rets : List Kd) (x : aH args) : Option (aH rets) :=
 bif Nat.ble (iE args x).length fn.ntmps then sK P E fn.ntmps aU lt c (start aU 0 (iE args x)) [] (aJ6 P fn.results.toList rets) else none

theorem bA {E : Env} (hP : A8 P) (hE : aZ P E) {g : Nat} {fn : Func} (hg : P.funcs[g]? = some fn) {c : Code} (hc : fn.body = some c) {aU : Nat} {lt : Nat → Option aR} {args rets : List Kd} {f : aH args → Option (aH rets)}
  (hl : ∀ a ∈ aF c, ∀ s, lt (aG a) = some s → cL P fn.ntmps a s) (hb : ∀ x, bQ P E fn aU lt c args rets x = f x) : cO P g args rets f := by
 intro x y hy
 rw [← hb] at hy
 unfold bQ at hy
 obtain ⟨hlen, hy⟩ := aI hy
 obtain ⟨⟨ex, F', H'⟩, h1, h2⟩ := jF hE.callee hP.mixed c _ _ _ _ hl hy
 obtain ⟨vs, q, hex, hvs, hq, hd⟩ : ∃ vs q, (ex = .normal ∨ ex = .ret) ∧ mT P F' H' fn.results.toList = some vs ∧ aMO H' (dU vs) = some q ∧ aH7 rets q = some y := by
  unfold aJ6 at h1
  split at h1
  ·cases h1
  ·rename_i hne
   split at h1
   ·rename_i vs hvs
    split at h1
    ·rename_i q hq
     refine ⟨vs, q, ?_, hvs, hq, h1⟩
     cases ex with
     | normal => exact .inl rfl
     | ret => exact .inr rfl
     | exit i => exact absurd rfl (hne i)
    ·cases h1
   ·cases h1
 have hcall : ∀ {n0 G μ w us}, aW n0 G μ [] w → VRs w G μ (iE args x) us → o6 P n0 w G μ g us.toArray (dU vs) H' := by
  intro n0 G μ w us hW hv
  refine ⟨enters hg (hP.names g fn hg) (by rw [hc]; rfl) _ _, calls_of_wp hg hc ?_⟩
  have hI : I n0 w G μ fn.ntmps (start aU 0 (iE args x)) [] ⟨us.toArray ++ Array.replicate (fn.ntmps - us.toArray.size) undef, []⟩ w := ⟨G, μ, Ext.refl _ _ _ _, hW, qI (by simpa using hv) (Nat.le_of_ble_eq_true hlen)⟩
  refine wp_mono (h2 n0 w G μ _ w (fun r => hW.top r (Nat.zero_le _)) hI) ?_
  rintro e a' w' ⟨rfl, G', μ', e', hW', hF'⟩
  obtain ⟨ws, h3, h4⟩ := k9 (P := P) hW' hF' hvs
  have hres : (results fn a'.tmps).run P w' = .ok (if hh : ws.toArray.size = 1 then ws.toArray[0] else .tuple ws.toArray) w' := by
   rw [s8, Array.mapM_eq_mapM_toList]
   simp only [Sem.run_bind, Sem.run_map, h3, Result.andThen_ok, Sem.run_pure]
  have hpost : a'.defers = [] ∧ ∃ v, (results fn a'.tmps).run P w' = .ok v w' ∧ (∃ v' G'' μ'', Ending.returned v = .returned v' ∧ Ext n0 w G μ w' G'' μ'' ∧ aW n0 G'' μ'' H' w' ∧ VR w' G'' μ'' (dU vs) v') :=
   ⟨hF'.defers, _, hres, _, G', μ', rfl, e', hW', mY h4⟩
  rcases hex with rfl | rfl
  ·exact hpost
  ·exact hpost
 have hp := BO hcall (wI hq).1 (wI hq).2
 intro w G us hlt hv
 obtain ⟨h3, h4⟩ := hp w G us hlt hv
 refine ⟨h3, h4.mono ?_⟩
 rintro e w' ⟨v', G', rfl, e1, e2, e3⟩
 exact ⟨v', G', rfl, e1, e2, L0 hd e3⟩
end
end Go.PM
set_option linter.unusedSimpArgs false
set_option linter.unusedVariables false
namespace Go.PM
open Go Go.RowKit Go.ChangeShapes Go.WideShapes Go.ChangeAt Go.Joins
def WF : (t : Ty) → t.den → Prop
 | .int k, x => (Lit.int k x).wf = true
 | .bool, _ => True
 | .str, s => s.size ≤ maxLen
 | .hnd _, _ => True
 | .rows _, _ => True
 | .list t, l => l.length ≤ maxLen ∧ ∀ a ∈ l, WF t a
 | .prod a b, (x, y) => WF a x ∧ WF b y
abbrev GW (w : World) : Gd := Gd.of fun b => b < w.heap.size
def OpT (P : Program) (t : TypeId) (T : Ty) : Prop :=
 P.cellsOf t = T.size ∧ ∀ (H : Type) (en : TypeId × Value → H) (w : World) (base : Nat) (spare : Nat → Bool) (held : Bool) (fuel : Nat) (cs : List Value) (x : DataW H × List MemPlace),
  DataW.trod en P w base spare held fuel t cs = some x → ∃ a : T.den, VRs w (GW w) aM (enc T a) cs ∧ WF T a
section
variable {P : Program}
theorem aSC {w : World} {G : Gd} {p : PV} {v : Value} (h : VR w G aM p v) : VRs w G aM [p] [v] := by
 rw [VRs]; exact ⟨v, [], rfl, h, by rw [VRs]⟩
theorem aGZ {t : TypeId} {k : IntKind} (ht : P.underlying t = some (.int k)) (hc : P.cellsOf t = 1) : OpT P t (.int k) := by
 refine ⟨hc, fun H en w base spare held fuel cs x h => ?_⟩
 obtain ⟨n, rfl, -, wf⟩ := DataW.trod_int ht h
 exact ⟨n, aSC (by rw [VR]), wf⟩
theorem aU6 {t : TypeId} (ht : P.underlying t = some .bool) (hc : P.cellsOf t = 1) : OpT P t .bool := by
 refine ⟨hc, fun H en w base spare held fuel cs x h => ?_⟩
 obtain ⟨n, rfl, -⟩ := DataW.trod_bool ht h
 exact ⟨n, aSC (by rw [VR]), trivial⟩
def aFQ (P : Program) : List Field → Nat → Ty → Prop
 | [], _, _ => False
 | [f], off, T => f.offset = off ∧ OpT P f.type T
 | f :: g :: r, off, .prod a b => f.offset = off ∧ OpT P f.type a ∧ aFQ P (g :: r) (off + a.size) b
 | _ :: _ :: _, _, _ => False
theorem YK {w : World} : ∀ (fs : List Field) (off : Nat) (T : Ty) (cs : List Value), aFQ P fs off T → cs.length = off + T.size → (∀ f ∈ fs, ∀ A : Ty, OpT P f.type A → ∃ a : A.den, VRs w (GW w) aM (enc A a) ((cs.drop f.offset).take A.size) ∧ WF A a) →
  ∃ a : T.den, VRs w (GW w) aM (enc T a) (cs.drop off) ∧ WF T a
 | [], _, _, _, h, _, _ => h.elim
 | [f], off, T, cs, h, hl, hx => by
  obtain ⟨rfl, h2⟩ := h
  obtain ⟨a, h3, h4⟩ := hx f (by simp) T h2
  rw [List.take_of_length_le (by simp; omega)] at h3
  exact ⟨a, h3, h4⟩
 | f :: g :: r, off, .prod A B, cs, h, hl, hx => by
  obtain ⟨rfl, h2, h3⟩ := h
  obtain ⟨a, h4, h5⟩ := hx f (by simp) A h2
  obtain ⟨b, h6, h7⟩ := YK (g :: r) _ B cs h3 (by rw [hl, Ty.size]; omega) (fun k hk => hx k (List.mem_cons_of_mem _ hk))
  refine ⟨(a, b), ?_, h5, h7⟩
  have := VRs.append h4 h6
  rw [← List.drop_drop, List.take_append_drop] at this
  exact this
 | _ :: _ :: _, _, .int _, _, h, _, _ => h.elim
 | _ :: _ :: _, _, .bool, _, h, _, _ => h.elim
 | _ :: _ :: _, _, .str, _, h, _, _ => h.elim
 | _ :: _ :: _, _, .list _, _, h, _, _ => h.elim
theorem aKI {t : TypeId} {fs : Array Field} {T : Ty} (ht : P.underlying t = some (.struct fs)) (hc : P.cellsOf t = T.size) (hf : aFQ P fs.toList 0 T) : OpT P t T := by
 refine ⟨hc, fun H en w base spare held fuel cs x h => ?_⟩
 obtain ⟨xs, n, -, -, hl, hx, hi⟩ := DataW.trod_struct ht h
 obtain ⟨a, h1, h2⟩ := YK (w := w) fs.toList 0 T cs hf (by rw [hl, hc, Nat.zero_add]) (fun f hf A hA => by
  obtain ⟨i, hi', rfl⟩ := List.getElem_of_mem hf
  have hs : i < fs.size := by simpa using hi'
  have h3 := hi i fs[i] (by simp [hs])
  rw [List.getElem?_eq_getElem (by omega)] at h3
  have hA1 := hA.1
  simp only [Array.getElem_toList] at hA1 hA ⊢
  rw [hA1] at h3
  exact hA.2 _ _ _ _ _ _ _ _ _ h3)
 exact ⟨a, by simpa using h1, h2⟩
def Ty.arr (T : Ty) : Nat → Ty
 | 0 => T
 | n + 1 => .prod T (Ty.arr T n)
theorem aII (T : Ty) : ∀ n, (Ty.arr T n).size = (n + 1) * T.size
 | 0 => by simp [Ty.arr]
 | n + 1 => by simp only [Ty.arr, Ty.size, aII T n]; rw [Nat.add_mul (n + 1) 1]; omega
theorem aNR {w : World} {T : Ty} {cs : List Value} : ∀ (n i : Nat), cs.length = (i + n + 1) * T.size → (∀ j, i ≤ j → j < i + n + 1 → ∃ a : T.den, VRs w (GW w) aM (enc T a) ((cs.drop (j * T.size)).take T.size) ∧ WF T a) →
  ∃ a : (Ty.arr T n).den, VRs w (GW w) aM (enc (Ty.arr T n) a) (cs.drop (i * T.size)) ∧ WF (Ty.arr T n) a
 | 0, i, hl, hx => by
  obtain ⟨a, h3, h4⟩ := hx i (Nat.le_refl _) (by omega)
  rw [List.take_of_length_le (by rw [List.length_drop, hl, Nat.add_zero, Nat.add_mul, Nat.one_mul]; omega)] at h3
  exact ⟨a, h3, h4⟩
 | n + 1, i, hl, hx => by
  obtain ⟨a, h4, h5⟩ := hx i (Nat.le_refl _) (by omega)
  obtain ⟨b, h6, h7⟩ := aNR n (i + 1) (by rw [hl]; congr 1; omega) (fun j h1 h2 => hx j (by omega) (by omega))
  refine ⟨(a, b), ?_, h5, h7⟩
  have := VRs.append h4 h6
  rw [Nat.add_mul, Nat.one_mul, ← List.drop_drop, List.take_append_drop] at this
  exact this
theorem U0 {t e : TypeId} {n : Nat} {T : Ty} (ht : P.underlying t = some (.array (n + 1) e)) (hc : P.cellsOf t = (n + 1) * T.size) (he : OpT P e T) : OpT P t (Ty.arr T n) := by
 refine ⟨by rw [hc, aII], fun H en w base spare held fuel cs x h => ?_⟩
 obtain ⟨xs, m, -, -, hl, hx, hi⟩ := DataW.trod_array ht h
 rw [he.1] at hi
 obtain ⟨a, h1, h2⟩ := aNR (w := w) (T := T) (cs := cs) n 0 (by rw [hl, hc, Nat.zero_add]) (fun j _ h2 => by
  have h3 := hi j (by omega)
  rw [List.getElem?_eq_getElem (by omega)] at h3
  exact he.2 _ _ _ _ _ _ _ _ _ h3)
 exact ⟨a, by simpa using h1, h2⟩

def OpK (P : Program) (t : TypeId) (k : Kd) (W : k.den → Prop) : Prop :=
 ∀ {H : Type} {en : TypeId × Value → H} {w : World} {base b0 : Nat} {spare : Nat → Bool} {held : Bool} {r : Reach} {v : Value} {d : DataW H} {p : List MemPlace},
  Value.okWide P w r b0 t v → DataW.Trod en P w base spare held t v d p → ∃ x : k.den, VR w (GW w) aM (pO k x 0) v ∧ W x
theorem aX2 {t : TypeId} {k : IntKind} (ht : P.underlying t = some (.int k)) : OpK P t (.int k) (WF (.int k)) := by
 intro H en w base b0 spare held r v d p hv h
 obtain ⟨n, rfl, -, -, wf⟩ := open_int ht hv h
 exact ⟨n, by rw [pO, VR], wf⟩
theorem aM4 {t : TypeId} {T : Ty} (hs : ∀ (w : World) (r : Reach) (b0 : Nat) (v : Value), Value.okWide P w r b0 t v → ∃ cs, v = .agg cs) (he : OpT P t T) : OpK P t (.agg T) (WF T) := by
 intro H en w base b0 spare held r v d p hv h
 obtain ⟨cs, rfl⟩ := hs _ _ _ _ hv
 obtain ⟨fuel, hf⟩ := h
 obtain ⟨l, h1, h2⟩ := he.2 _ _ _ _ _ _ _ _ _ hf
 refine ⟨l, ?_, h2⟩
 rw [pO, VR]
 exact ⟨cs, rfl, h1⟩
theorem aKW {t : TypeId} {fs : Array Field} {T : Ty} (ht : P.underlying t = some (.struct fs)) (he : OpT P t T) : OpK P t (.agg T) (WF T) :=
 aM4 (fun w r b0 v h => by obtain ⟨cs, h1, -⟩ := okWide_struct ht h; exact ⟨cs, h1⟩) he
theorem aPL {t e : TypeId} {n : Nat} {T : Ty} (ht : P.underlying t = some (.array n e)) (he : OpT P t T) : OpK P t (.agg T) (WF T) :=
 aM4 (fun w r b0 v h => by simp only [Value.okWide, ht] at h; obtain ⟨cs, h1, -⟩ := h; exact ⟨cs, h1⟩) he

theorem aSV {g : FuncId} {args : List Kd} {f : aH args → Option (aH [.bool])} (hf : cO P g args [.bool] f) {x : aH args} (hx : f x = some (true, ())) {w : World} (hT : Lt w fun b => b < w.heap.size) {vs : Array Value} (hv : VRs w (GW w) aM (iE args x) vs.toList) :
  Calls P g vs w fun e w' => e = .returned (.bool true) ∧ Below w.heap.size w w' := by
 obtain ⟨-, h⟩ := hf x _ hx w (fun b => b < w.heap.size) vs hT hv
 refine h.mono ?_
 rintro e w' ⟨v', G', rfl, e1, -, e3⟩
 refine ⟨?_, e1.os, e1.tape, e1.output, e1.size, fun b hb => e1.old b hb (Nat.not_le.2 hb)⟩
 have e3 : VR w' (Gd.of G') aM (.lit (.bool true)) v' := e3
 rw [VR] at e3
 rw [e3]
theorem ZO {w : World} {G : Gd} {p : PV} {v : Value} {ps : List PV} {vs : List Value} (h : VR w G aM p v) (k : VRs w G aM ps vs) : VRs w G aM (p :: ps) (v :: vs) := by
 rw [VRs]; exact ⟨v, vs, rfl, h, k⟩
theorem aXN {w : World} {G : Gd} : VRs w G aM [] [] := by rw [VRs]
end
end Go.PM
set_option linter.unusedSimpArgs false
set_option linter.unusedVariables false
namespace Go.PM
open Go Go.ChangeShapes Go.WideShapes Go.ChangeAt Go.RowKit Go.Joins
theorem aD2 {H : Type} {enc : TypeId × Value → H} {P : Program} (hl : laidOutB P = true) {W W' : World} (hb : Below W.heap.size W W') :
  ∀ (ts : List TypeId) (vs : List Value) (ds : List (DataW H)) (ps : List MemPlace), (∀ t ∈ ts, P.readableRec t = true ∧ t < P.types.size) → (∀ x ∈ ps, x.block < W.heap.size) →
   DataW.TrodAll enc P W 0 (fun _ => true) true ts vs ds ps → DataW.TrodAll enc P W' 0 (fun b => decide (b < W.heap.size)) true ts vs ds ps
 | [], vs, ds, ps, _, _, h => by
  unfold DataW.TrodAll at h ⊢
  split at h <;> simp_all
 | t :: ts, vs, ds, ps, ht, hlt, h => by
  obtain ⟨v, vs', d, ds', p, q, rfl, rfl, rfl, h1, h2⟩ := trodAll_cons h
  exact ⟨p, q, Below.trod hl (ht t (by simp)).1 (ht t (by simp)).2 h1 hb (fun x hx => hlt x (by simp [hx])), aD2 hl hb ts vs' ds' q (fun t h => ht t (by simp [h])) (fun x hx => hlt x (by simp [hx])) h2, rfl⟩
theorem aIZ {P : Program} {ts : List TypeId} (h : (ts.all fun t => P.readableRec t && decide (t < P.types.size)) = true) : ∀ t ∈ ts, P.readableRec t = true ∧ t < P.types.size := by
 intro t ht
 have := List.all_eq_true.1 h t ht
 simpa using this
theorem aL3 {H : Type} {enc : TypeId × Value → H} {P : Program} {f : Func} {s : ChangeSpec} {W W' : World} {args : Array Value} {ds : List (DataW H)} {p : List MemPlace} {tb : TypeId} (hl : laidOutB P = true)
  (hts : ∀ t ∈ f.params.toList, P.readableRec t = true ∧ t < P.types.size) (hr : f.resultTypes = #[tb]) (htb : P.underlying tb = some .bool)
  (hf1 : (s.fn H (ds ++ [])).results = [.lit (.bool true)]) (hf2 : (s.fn H (ds ++ [])).args = ds) (hf3 : (s.fn H (ds ++ [])).vars = []) (hv : s.vars = [])
  (hW : DataW.Whole enc P f.params.toList s.vars false W args.toList ds [] p) (hb : Below W.heap.size W W') :
  ∃ v, Ending.returned (.bool true) = Ending.returned v ∧ s.post enc P f false true false false W args v W' := by
 have hW' := hW
 obtain ⟨q, q', hA, hV, rfl, -, -⟩ := hW
 refine ⟨_, rfl, ds, [], _, [], q, [], hW', ?_, ?_, ?_, hb.frame _, fun h => by cases h⟩
 ·rw [hf1, hr]; exact trodAll_mk1 (shut_bool htb true)
 ·rw [hf2]; exact aD2 hl hb _ _ _ _ hts (fun x hx => hW'.lt x (by simp [hx])) hA
 ·rw [hf3, hv]; rfl
end Go.PM
namespace Go.Proofs.YtjgapmocogjkmaaGreatDoor
theorem Tryz.own : ownKnob Tryz.prog.godebug = none := by kernel_rfl
theorem Tryz.laidOut : laidOutB Tryz.prog = true := by kernel_rfl
end Go.Proofs.YtjgapmocogjkmaaGreatDoor
set_option linter.unusedSimpArgs false
set_option linter.unusedVariables false
namespace Go.Proofs.YtjgapmocogjkmaaGreatDoor
open Go Go.ChangeShapes Go.WideShapes Go.ChangeAt Go.RowKit Go.Joins Go.PM
set_option maxRecDepth 100000
abbrev aH8 : List (String × DataW Unit) := [("math/bits.deBruijn32tab", Rows.laid_math_bits_deBruijn32tab), ("math/bits.deBruijn64tab", Rows.laid_math_bits_deBruijn64tab), ("internal/strconv.uint64pow10", Rows.laid_internal_strconv_uint64pow10), ("strconv.ErrRange", Rows.laid_strconv_ErrRange), ("strconv.ErrSyntax", Rows.laid_strconv_ErrSyntax)]
theorem aVI (os : Os) (args : Array Value) : laidMetH Tryz.prog aH8 ((World.doorLaid Tryz.prog 4000 os).forCall (fun _ _ => 0) ⟨#[], args, []⟩).memory :=
 laidMetH_of_parts3 (fuel := 8) (laidMet_of_run' 8 (by kernel_rfl) (by kernel_rfl)) (by kernel_rfl) (by kernel_rfl)
theorem aJV {H : Type} {enc : TypeId × Value → H} {P : Program} {w : World} {base : Nat} {sp : Nat → Bool} {fuel : Nat} {t : TypeId} {ms} {cs : List Value} {n : String} {d : DataW H} {p : List MemPlace}
  (ht : P.underlying t = some (.interface ms)) (h : DataW.trod enc P w base sp false fuel t cs = some (.iface n d, p)) : ∃ u v, cs = [.iface u v] := by
 cases fuel with
 | zero => simp [DataW.trod] at h
 | succ fuel =>
  simp only [DataW.trod, ht] at h
  split at h <;> first
   | exact ⟨_, _, rfl⟩
   | (exfalso; simp_all; done)
theorem aJE {P : Program} {w : World} {n : String} {g : Nat} {cs : Array Value} (hg : P.globalNamed n = some g) (h : w.var? P n = some cs) : ∃ t fr, w.heap[g]? = some (.cells cs t fr) := by
 unfold World.var? at h
 rw [hg] at h
 simp only [Option.bind_some] at h
 split at h
 ·rename_i c t fr e
  cases h
  exact ⟨t, fr, e⟩
 ·cases h
theorem YD {w : World} {n : String} {g : Nat} {t : TypeId} {ms} {m : String} {d : DataW Unit} (hg : Tryz.prog.globalNamed n = some g) (hty : (Tryz.prog.globals[g]?).map (·.type) = some t) (ht : Tryz.prog.underlying t = some (.interface ms))
  (h : Lib.VarReads Tryz.prog w n (.iface m d)) : XH w.heap[g]? := by
 obtain ⟨g', t', cs, fuel, p, hg', ht', hvar, hd⟩ := h
 obtain rfl := Option.some.inj (hg.symm.trans hg')
 obtain rfl := Option.some.inj (hty.symm.trans ht')
 obtain ⟨u, v, e⟩ := aJV ht hd
 obtain ⟨t2, fr, e2⟩ := aJE hg hvar
 refine ⟨u, v, t2, fr, ?_⟩
 rw [e2]
 congr 2
 exact Array.toList_inj.1 e
theorem aYQ {w : World} (h : laidMetH Tryz.prog aH8 w) : Lt w fun b => b < w.heap.size := by
 rw [MakeChecks.laidMetH_plain _ _ _ (by kernel_rfl)] at h
 have lt : ∀ {g : Nat} {q : Option Obj → Prop}, q w.heap[g]? → ¬ q none → g < w.heap.size := fun {g q} h1 h2 => by
  rcases Nat.lt_or_ge g w.heap.size with h | h
  ·exact h
  ·rw [Array.getElem?_eq_none h] at h1
   exact absurd h1 h2
 have nIf : ¬ XH none := fun ⟨_, _, _, _, e⟩ => by cases e
 refine ⟨fun _ h => h, fun p hp => ?_⟩
 have main : p.2 w.heap[p.1]? ∧ ¬ p.2 none := by
  rcases List.mem_cons.1 hp with rfl | hp
  ·refine ⟨?_, fun ⟨_, _, e⟩ => by cases e⟩
   obtain ⟨g', t', cs, fuel, q, hg', ht', hvar, hd⟩ := Lib.laidMet.reads h (n := "internal/strconv.uint64pow10") (d := Rows.laid_internal_strconv_uint64pow10) (.tail _ (.tail _ (.head _)))
   obtain rfl := Option.some.inj ((show Tryz.prog.globalNamed "internal/strconv.uint64pow10" = some 0 by kernel_rfl).symm.trans hg')
   have hd : DataW.trod (fun _ => ()) Tryz.prog w 0 (fun _ => true) false fuel t' cs.toList = some (Lib.tabData .u64 [1, 10, 100, 1000, 10000, 100000, 1000000, 10000000, 100000000, 1000000000, 10000000000, 100000000000, 1000000000000, 10000000000000, 100000000000000, 1000000000000000, 10000000000000000, 100000000000000000, 1000000000000000000, 10000000000000000000], q) := hd
   obtain ⟨t, hty⟩ : ∃ t, (Tryz.prog.globals[0]?).map (·.type) = some t := ⟨_, ht'⟩
   obtain rfl := Option.some.inj (hty.symm.trans ht')
   have hcs := Lib.cells_of_tab (P := Tryz.prog) (t := 275) (e := 162) (n := 20) Tryz.underlying275 Tryz.underlying162 (by kernel_rfl) (by kernel_rfl) (show DataW.trod (fun _ => ()) Tryz.prog w 0 (fun _ => true) false fuel 275 cs.toList = _ by
    rw [← Option.some.inj ((show (Tryz.prog.globals[0]?).map (·.type) = some 275 by kernel_rfl).symm.trans hty)] at hd
    exact hd)
   obtain ⟨t2, fr, e2⟩ := aJE (by kernel_rfl) hvar
   refine ⟨t2, fr, ?_⟩
   rw [e2]
   congr 2
   exact Array.toList_inj.1 hcs
  ·rcases List.mem_cons.1 hp with rfl | hp
   ·exact ⟨YD (n := "strconv.ErrSyntax") (t := 192) (by kernel_rfl) (by kernel_rfl) Tryz.underlying192 (Lib.laidMet.reads h (.tail _ (.tail _ (.tail _ (.tail _ (.head _)))))), nIf⟩
   ·rcases List.mem_cons.1 hp with rfl | hp
    ·exact ⟨YD (n := "strconv.ErrRange") (t := 192) (by kernel_rfl) (by kernel_rfl) Tryz.underlying192 (Lib.laidMet.reads h (.tail _ (.tail _ (.tail _ (.head _))))), nIf⟩
    ·cases hp
 exact ⟨lt main.1 main.2, main.1⟩
end Go.Proofs.YtjgapmocogjkmaaGreatDoor
set_option linter.unusedSimpArgs false
set_option linter.unusedVariables false
namespace Go.PM
open Go Go.RowKit
structure Ent where
 g : FuncId
 args : List Kd
 rets : List Kd
 f : aH args → Option (aH rets)
def Ent.OK (P : Program) (e : Ent) : Prop := cO P e.g e.args e.rets e.f
def aEC : List Ent → FuncId → List PV → Option Res
 | [], _, _ => none
 | e :: r, g, qs => bif Nat.beq e.g g then (match aNK e.args e.rets e.f qs with
   | some s => some s
   | none => aEC r g qs)
  else aEC r g qs
def bI (l : List Ent) : Env := ⟨aEC l, fun _ _ _ => none, fun _ => false⟩
theorem R1 {P : Program} : ∀ {l : List Ent}, (∀ e ∈ l, e.OK P) → ∀ g qs r, aEC l g qs = some r → ∀ y, r.val = some y → xJ P g qs (r.out y)
 | [], _, g, qs, r, h => by cases h
 | e :: l, hl, g, qs, r, h => by
  simp only [aEC] at h
  cases hb : Nat.beq e.g g with
  | true =>
   rw [hb] at h
   have := Nat.eq_of_beq_eq_true hb
   subst this
   cases hs : aNK e.args e.rets e.f qs with
   | some s =>
    rw [hs] at h
    have h := Option.some.inj h
    subst h
    exact aRV (hl e List.mem_cons_self) hs
   | none =>
    rw [hs] at h
    exact R1 (fun e he => hl e (List.mem_cons_of_mem _ he)) _ qs r h
  | false =>
   rw [hb] at h
   exact R1 (fun e he => hl e (List.mem_cons_of_mem _ he)) g qs r h
theorem aUS {P : Program} {l : List Ent} (hl : ∀ e ∈ l, e.OK P) : aZ P (bI l) where
 pure := R1 hl
 shr := fun _ _ _ _ h => by cases h

def aE9 (P : Program) : List Ent → Prop
 | [] => True
 | e :: r => e.OK P ∧ aE9 P r
theorem O7 {P : Program} : ∀ {l : List Ent}, aE9 P l → ∀ e ∈ l, e.OK P
 | [], _, e, he => by simp at he
 | a :: r, h, e, he => by
  rcases List.mem_cons.1 he with rfl | he
  ·exact h.1
  ·exact O7 h.2 e he
theorem aY {P : Program} {l : List Ent} (h : aE9 P l) : aZ P (bI l) := aUS (O7 h)
def aG1 (P : Program) (nt : Nat) (lt : Nat → Option aR) : List Code → Prop
 | [] => True
 | a :: r => (∀ s, lt (aG a) = some s → cL P nt a s) ∧ aG1 P nt lt r
theorem V8 {P : Program} {nt : Nat} {lt : Nat → Option aR} : ∀ {l : List Code}, aG1 P nt lt l → ∀ a ∈ l, ∀ s, lt (aG a) = some s → cL P nt a s
 | [], _, a, ha => by simp at ha
 | b :: r, h, a, ha => by
  rcases List.mem_cons.1 ha with rfl | ha
  ·exact h.1
  ·exact V8 h.2 a ha
theorem aE {P : Program} {nt : Nat} {lt : Nat → Option aR} {c : Code} {l : List Code} (hc : aF c = l) (h : aG1 P nt lt l) : ∀ a ∈ aF c, ∀ s, lt (aG a) = some s → cL P nt a s := by
 rw [hc]; exact V8 h
theorem cR {P : Program} {nt : Nat} {lt : Nat → Option aR} {a : Code} {i : Nat} {s0 : aR} (hf : aG a = i) (hlt : lt i = some s0) (h : cL P nt a s0) : ∀ s, lt (aG a) = some s → cL P nt a s := by
 intro s hs
 rw [hf, hlt] at hs
 cases hs
 exact h

def aT (fn : Func) : Code := match fn.body with
 | some c => c
 | none => .skip
def eD (c : Code) (i : Nat) : Code := (aF c).getD i .skip
def aV7 (l : List Func) : Bool := l.all fun f => !(f.name == "runtime.NumGoroutine")
theorem aRB {P : Program} (h1 : P.follows .mixedOrders = true) (h2 : aV7 P.funcs.toList = true) : A8 P where
 mixed := h1
 names g fn hg := by
  have hm : fn ∈ P.funcs.toList := by
   rw [← Array.getElem?_toList] at hg
   exact List.mem_of_getElem? hg
  have := List.all_eq_true.1 h2 fn hm
  simpa using this

theorem aDO {α : Type 1} {b : Bool} {x : Option α} {y : α} (h : (bif b then x else none) = some y) : b = true ∧ x = some y := by
 cases b with
 | true => exact ⟨rfl, h⟩
 | false => cases h

abbrev Shr := FuncId × (List PV → Heap → Option aKL)
def I8 (P : Program) (s : Shr) : Prop := SortOKs P s.1 s.2
where SortOKs (P : Program) (g : FuncId) (f : List PV → Heap → Option aKL) : Prop := ∀ args H r, f args H = some r → ∀ y, r.val = some y → ∀ {n0 G μ w vs}, aW n0 G μ H w → VRs w G μ args vs → o6 P n0 w G μ g vs.toArray (r.out y).1 (r.out y).2
def aWZ : List Shr → FuncId → List PV → Heap → Option aKL
 | [], _, _, _ => none
 | s :: r, g, args, H => bif Nat.beq g s.1 then s.2 args H else aWZ r g args H
def shE : List Shr → FuncId → Bool
 | [], _ => false
 | s :: r, g => bif Nat.beq g s.1 then true else shE r g
def aLN (P : Program) : List Shr → Prop
 | [] => True
 | s :: r => I8 P s ∧ aLN P r
theorem aNJ {P : Program} : ∀ {l : List Shr}, aLN P l → ∀ g args H r, aWZ l g args H = some r → ∀ y, r.val = some y → ∀ {n0 G μ w vs}, aW n0 G μ H w → VRs w G μ args vs → o6 P n0 w G μ g vs.toArray (r.out y).1 (r.out y).2
 | [], _, g, args, H, r, h => by cases h
 | s :: l, hl, g, args, H, r, h => by
  simp only [aWZ] at h
  cases hb : Nat.beq g s.1 with
  | true =>
   rw [hb] at h
   have := Nat.eq_of_beq_eq_true hb
   subst this
   exact hl.1 args H r h
  | false =>
   rw [hb] at h
   exact aNJ hl.2 g args H r h
def aGC (l : List Ent) (s : List Shr) : Env := ⟨aEC l, aWZ s, shE s⟩
theorem DD {P : Program} {l : List Ent} {s : List Shr} (h : aE9 P l) (hs : aLN P s) : aZ P (aGC l s) where
 pure := R1 (O7 h)
 shr := aNJ hs
end Go.PM
set_option linter.unusedSimpArgs false
set_option linter.unusedVariables false
namespace Go.PM
open Go Go.RowKit Go.Proofs
set_option maxRecDepth 100000
theorem aK : A8 Tryz.prog := aRB (by kernel_rfl) (by kernel_rfl)
end Go.PM
set_option linter.unusedSimpArgs false
set_option linter.unusedVariables false
namespace Go.PM
open Go Go.RowKit
def posOf : List Nat → Nat → Option Nat
 | [], _ => none
 | x :: l, r => bif Nat.beq x r then some 0 else match posOf l r with
  | some i => some (i + 1)
  | none => none
def aBR : List Nat → Bool
 | [] => true
 | x :: l => (match posOf l x with | none => true | some _ => false) && aBR l
def xB (pm : List Nat) : PV → Option PV
 | .lit v => some (.lit v)
 | .vals cs n cap => some (.vals cs n cap)
 | .iptr cs => some (.iptr cs)
 | .tl t l cap e => some (.tl t l cap e)
 | .tp t l i off e => some (.tp t l i off e)
 | .row j lo n sz => some (.row j lo n sz)
 | .rp j off => some (.rp j off)
 | .junk => some .junk
 | .hptr r off => match posOf pm r with | some i => some (.hptr i off) | none => none
 | .hs r off len cap sz => match posOf pm r with | some i => some (.hs i off len cap sz) | none => none
 | .own r sz => match posOf pm r with | some i => some (.own i sz) | none => none
 | .op r j off sz => match posOf pm r with | some i => some (.op i j off sz) | none => none
 | .win r lo n sz => match posOf pm r with | some i => some (.win i lo n sz) | none => none
 | .agg cs => match renPs pm cs with | some qs => some (.agg qs) | none => none
 | .tuple cs => match renPs pm cs with | some qs => some (.tuple qs) | none => none
 | .clo fn f c => match renPs pm f, renPs pm c with | some f', some c' => some (.clo fn f' c') | _, _ => none
where renPs (pm : List Nat) : List PV → Option (List PV)
 | [] => some []
 | p :: ps => match xB pm p, renPs pm ps with | some q, some qs => some (q :: qs) | _, _ => none
def aDD (pm : List Nat) (H : Heap) : List Nat → Option Heap
 | [] => some []
 | r :: l => match gR H r with
  | some k => match (bif k.tag.isSome then some k else match xB.renPs pm k.cells with | some cs => some { k with cells := cs } | none => none), aDD pm H l with
   | some k', some H' => some (some k' :: H')
   | _, _ => none
  | none => none
def aRR (pm : List Nat) (F : Frm) : List Nat → Option Frm
 | [] => some []
 | t :: l => match xB pm (cN F t), aRR pm F l with
  | some p, some F' => some ((t, p) :: F')
  | _, _ => none
def a2N (T pm : List Nat) : Bool := T.all fun r => match pm[r]? with
 | some s => Nat.beq s r
 | none => false
def aFD (T pm slots : List Nat) (F : Frm) (H : Heap) : Option (Frm × Heap) :=
 bif aBR pm && a2N T pm then match aDD pm H pm, aRR pm F slots with
  | some H', some F' => some (F', H')
  | _, _ => none
 else none
def fN : List (Nat × Kd) → Frm → Heap → Frm × Heap
 | [], F, H => (F, H)
 | (t, .own e ty) :: r, F, H => match cN F t with
  | .lit (.slice none m c) => bif Nat.beq m 0 && Nat.beq c 0 then fN r ((t, .own H.length ty.size) :: F) (H ++ [some ⟨aO ty [], e, true, false, some ⟨ty, []⟩⟩]) else fN r F H
  | .tl _ [] (some 0) _ => fN r ((t, .own H.length ty.size) :: F) (H ++ [some ⟨aO ty [], e, true, false, some ⟨ty, []⟩⟩])
  | _ => fN r F H
 | (t, .bown e et ty) :: r, F, H => match cN F t with
  | .hptr s _ => match gR H s with
   | some k => match k.cells with
    | [.lit (.slice none m c)] => bif Nat.beq m 0 && Nat.beq c 0 && !k.tag.isSome then fN r F ((H ++ [some ⟨aO ty [], et, true, false, some ⟨ty, []⟩⟩] : Heap).set s (some { k with cells := [.own H.length ty.size] })) else fN r F H
    | _ => fN r F H
   | none => fN r F H
  | _ => fN r F H
 | (t, .bag _ t1 et ty _) :: r, F, H => match cN F t with
  | .hptr s _ => match gR H s with
   | some k => match k.cells.drop t1.size with
    | .tl _ [] (some 0) _ :: rest => bif !k.tag.isSome then fN r F ((H ++ [some ⟨aO ty [], et, true, false, some ⟨ty, []⟩⟩] : Heap).set s (some { k with cells := k.cells.take t1.size ++ .own H.length ty.size :: rest })) else fN r F H
    | .lit (.slice none m c) :: rest => bif Nat.beq m 0 && Nat.beq c 0 && !k.tag.isSome then fN r F ((H ++ [some ⟨aO ty [], et, true, false, some ⟨ty, []⟩⟩] : Heap).set s (some { k with cells := k.cells.take t1.size ++ .own H.length ty.size :: rest })) else fN r F H
    | _ => fN r F H
   | none => fN r F H
  | _ => fN r F H
 | _ :: r, F, H => fN r F H
def qE : List (Nat × Kd) → Frm → Heap → Frm × Heap
 | [], F, H => (F, H)
 | (t, .box _ (.list _)) :: r, F, H => match cN F t with
  | .hptr s _ => match gR H s with
   | some k => match k.cells with
    | [.own u sz] => match gR H u with
     | some ku => match ku.tag with
      | some g => bif !k.tag.isSome && !Nat.beq u s then qE r F (((H.set u (some { ku with frozen := true }))).set s (some { k with cells := [zM g.t g.l none] })) else qE r F H
      | none => qE r F H
     | none => qE r F H
    | _ => qE r F H
   | none => qE r F H
  | _ => qE r F H
 | _ :: r, F, H => qE r F H
def OM : List (Nat × Kd) → Frm → Heap → Option (List Nat)
 | [], _, _ => some []
 | (t, .own _ _) :: r, F, H => match cN F t, OM r F H with
  | .own s _, some l => some (s :: l)
  | _, _ => none
 | (t, .box _ _) :: r, F, H => match cN F t, OM r F H with
  | .hptr s _, some l => some (s :: l)
  | _, _ => none
 | (t, .bown _ _ _) :: r, F, H => match cN F t, OM r F H with
  | .hptr s _, some l => match gR H s with
   | some k => match k.cells with
    | [.own u _] => some (s :: u :: l)
    | _ => none
   | none => none
  | _, _ => none
 | (t, .bag _ t1 _ _ _) :: r, F, H => match cN F t, OM r F H with
  | .hptr s _, some l => match gR H s with
   | some k => match k.cells.drop t1.size with
    | .own u _ :: _ => some (s :: u :: l)
    | _ => none
   | none => none
  | _, _ => none
 | (_, .ar _ _) :: r, F, H => match TX 0 H, OM r F H with
  | some (ra, _), some l => some (ra :: l)
  | _, _ => none
 | _ :: r, F, H => OM r F H
def pS (T : List Nat) (sh : List (Nat × Kd)) (F : Frm) (H : Heap) : Option (Shape.den sh) :=
 match qL sh F H with
 | (F0, H0) => match qE sh F0 H0 with
  | (F1, H1) => match fN sh F1 H1 with
   | (F2, H2) => match OM sh F2 H2 with
    | some pm => match aFD T pm (slotsOf sh) F2 H2 with
     | some (F', H') => bif Nat.beq H'.length (aBX sh) then aU3 sh F' H' 0 else none
     | none => none
    | none => none

section
variable {P : Program} {n0 : Nat → Prop} {w wi : World} {G Gi : Gd} {μ μi μ' : Mp} {H : Heap} {F : Frm} {a : Act} {nt : Nat}
theorem wF : ∀ {l : List Nat} {r i : Nat}, posOf l r = some i → l[i]? = some r
 | [], r, i, h => by cases h
 | x :: l, r, i, h => by
  simp only [posOf] at h
  cases hb : Nat.beq x r with
  | true =>
   rw [hb] at h
   simp only [cond_true, Option.some.injEq] at h
   subst h
   rw [Nat.eq_of_beq_eq_true hb]; rfl
  | false =>
   rw [hb] at h
   simp only [cond_false] at h
   split at h
   ·rename_i j hj
    simp only [Option.some.injEq] at h
    subst h
    simpa using wF hj
   ·cases h
theorem O0 : ∀ {l : List Nat} {r i : Nat}, posOf l r = none → l[i]? = some r → False
 | [], r, i, _, h => by simp at h
 | x :: l, r, i, hn, h => by
  simp only [posOf] at hn
  cases hb : Nat.beq x r with
  | true => rw [hb] at hn; simp at hn
  | false =>
   rw [hb] at hn
   simp only [cond_false] at hn
   split at hn
   ·cases hn
   ·rename_i hp
    cases i with
    | zero =>
     simp only [List.getElem?_cons_zero, Option.some.injEq] at h
     subst h; simp at hb
    | succ i => exact O0 hp (by simpa using h)
theorem OU : ∀ {l : List Nat} {i j r : Nat}, aBR l = true → l[i]? = some r → l[j]? = some r → i = j
 | [], i, j, r, _, h, _ => by simp at h
 | x :: l, i, j, r, hn, h1, h2 => by
  simp only [aBR, Bool.and_eq_true] at hn
  obtain ⟨hp, hn⟩ := hn
  have hx : posOf l x = none := by
   cases hq : posOf l x with
   | none => rfl
   | some k => rw [hq] at hp; cases hp
  cases i with
  | zero =>
   simp only [List.getElem?_cons_zero, Option.some.injEq] at h1
   subst h1
   cases j with
   | zero => rfl
   | succ j => exact (O0 hx (by simpa using h2)).elim
  | succ i =>
   cases j with
   | zero =>
    simp only [List.getElem?_cons_zero, Option.some.injEq] at h2
    subst h2
    exact (O0 hx (by simpa using h1)).elim
   | succ j => exact congrArg (· + 1) (OU (r := r) hn (by simpa using h1) (by simpa using h2))

def JS (μ : Mp) (pm : List Nat) : Mp := ⟨fun i => match pm[i]? with | some r => μ.loc r | none => none, fun i => match pm[i]? with | some r => μ.len r | none => none⟩
theorem lE {pm : List Nat} {i r : Nat} (h : pm[i]? = some r) : (JS μ pm).loc i = μ.loc r ∧ (JS μ pm).len i = μ.len r := by simp [JS, h]

mutual
theorem aNN {pm : List Nat} : ∀ (p q : PV) (v : Value), xB pm p = some q → VR w G μ p v → VR w G (JS μ pm) q v
 | .lit u, q, v, h, hv => by simp only [xB, Option.some.injEq] at h; subst h; rw [VR] at hv ⊢; exact hv
 | .vals .., q, v, h, hv => by simp only [xB, Option.some.injEq] at h; subst h; rw [VR] at hv ⊢; exact hv
 | .iptr _, q, v, h, hv => by simp only [xB, Option.some.injEq] at h; subst h; rw [VR] at hv ⊢; exact hv
 | .tl .., q, v, h, hv => by simp only [xB, Option.some.injEq] at h; subst h; rw [VR] at hv ⊢; exact hv
 | .tp .., q, v, h, hv => by simp only [xB, Option.some.injEq] at h; subst h; rw [VR] at hv ⊢; exact hv
 | .row .., q, v, h, hv => by simp only [xB, Option.some.injEq] at h; subst h; rw [VR] at hv ⊢; exact hv
 | .rp .., q, v, h, hv => by simp only [xB, Option.some.injEq] at h; subst h; rw [VR] at hv ⊢; exact hv
 | .junk, q, v, h, hv => by simp only [xB, Option.some.injEq] at h; subst h; rw [VR]; trivial
 | .hptr r off, q, v, h, hv => by
  simp only [xB] at h
  split at h
  ·rename_i i hi
   simp only [Option.some.injEq] at h
   subst h
   have := lE (μ := μ) (wF hi)
   rw [VR] at hv ⊢; rw [this.1]; exact hv
  ·cases h
 | .hs r off l c s, q, v, h, hv => by
  simp only [xB] at h
  split at h
  ·rename_i i hi
   simp only [Option.some.injEq] at h
   subst h
   have := lE (μ := μ) (wF hi)
   rw [VR] at hv ⊢; rw [this.1]; exact hv
  ·cases h
 | .own r s, q, v, h, hv => by
  simp only [xB] at h
  split at h
  ·rename_i i hi
   simp only [Option.some.injEq] at h
   subst h
   have := lE (μ := μ) (wF hi)
   rw [VR] at hv ⊢; rw [this.1, this.2]; exact hv
  ·cases h
 | .op r j off s, q, v, h, hv => by
  simp only [xB] at h
  split at h
  ·rename_i i hi
   simp only [Option.some.injEq] at h
   subst h
   have := lE (μ := μ) (wF hi)
   rw [VR] at hv ⊢; rw [this.1]; exact hv
  ·cases h
 | .win r lo n s, q, v, h, hv => by
  simp only [xB] at h
  split at h
  ·rename_i i hi
   simp only [Option.some.injEq] at h
   subst h
   have := lE (μ := μ) (wF hi)
   rw [VR] at hv ⊢; rw [this.1, this.2]; exact hv
  ·cases h
 | .agg cs, q, v, h, hv => by
  simp only [xB] at h
  split at h
  ·rename_i qs hq
   simp only [Option.some.injEq] at h
   subst h
   rw [VR] at hv ⊢
   obtain ⟨vs, h1, h2⟩ := hv
   exact ⟨vs, h1, AI cs qs _ hq h2⟩
  ·cases h
 | .tuple cs, q, v, h, hv => by
  simp only [xB] at h
  split at h
  ·rename_i qs hq
   simp only [Option.some.injEq] at h
   subst h
   rw [VR] at hv ⊢
   obtain ⟨vs, h1, h2⟩ := hv
   exact ⟨vs, h1, AI cs qs _ hq h2⟩
  ·cases h
 | .clo fn f c, q, v, h, hv => by
  simp only [xB] at h
  split at h
  ·rename_i f' c' hf hc
   simp only [Option.some.injEq] at h
   subst h
   rw [VR] at hv ⊢
   obtain ⟨fs, cs, h1, h2, h3⟩ := hv
   exact ⟨fs, cs, h1, AI f f' _ hf h2, AI c c' _ hc h3⟩
  ·cases h
theorem AI {pm : List Nat} : ∀ (ps qs : List PV) (vs : List Value), xB.renPs pm ps = some qs → VRs w G μ ps vs → VRs w G (JS μ pm) qs vs
 | [], qs, vs, h, hv => by
  simp only [xB.renPs, Option.some.injEq] at h
  subst h
  rw [VRs] at hv ⊢; exact hv
 | p :: ps, qs, vs, h, hv => by
  simp only [xB.renPs] at h
  split at h
  ·rename_i q qs' hq hqs
   simp only [Option.some.injEq] at h
   subst h
   rw [VRs] at hv ⊢
   obtain ⟨x, xs, h1, h2, h3⟩ := hv
   exact ⟨x, xs, h1, aNN p q x hq h2, AI ps qs' xs hqs h3⟩
  ·cases h
end
theorem aC8 {pm : List Nat} : ∀ {l : List Nat} {H' : Heap}, aDD pm H l = some H' → H'.length = l.length ∧ ∀ (i : Nat) (k' : Blk), H'[i]? = some (some k') → ∃ s k, l[i]? = some s ∧ H[s]? = some (some k) ∧ ((k.tag.isSome = true ∧ k' = k) ∨ (k.tag = none ∧ ∃ cs, xB.renPs pm k.cells = some cs ∧ k' = { k with cells := cs }))
 | [], H', h => by
  simp only [aDD, Option.some.injEq] at h
  subst h
  exact ⟨rfl, fun i k' h => by simp at h⟩
 | r :: l, H', h => by
  simp only [aDD] at h
  split at h
  ·rename_i k hk
   split at h
   ·rename_i k1 H1 h1 h2
    simp only [Option.some.injEq] at h
    subst h
    obtain ⟨e1, e2⟩ := aC8 h2
    refine ⟨by simp [e1], fun i k' hi => ?_⟩
    cases i with
    | zero =>
     simp only [List.getElem?_cons_zero, Option.some.injEq] at hi
     subst hi
     refine ⟨r, k, rfl, aN hk, ?_⟩
     cases ht : k.tag with
     | some g =>
      rw [ht] at h1
      simp only [Option.isSome_some, cond_true, Option.some.injEq] at h1
      exact .inl ⟨rfl, h1.symm⟩
     | none =>
      rw [ht] at h1
      simp only [Option.isSome_none, cond_false] at h1
      split at h1
      ·rename_i cs hcs
       simp only [Option.some.injEq] at h1
       exact .inr ⟨rfl, cs, hcs, h1.symm⟩
      ·cases h1
    | succ i =>
     obtain ⟨s, k0, a1, a2, a3⟩ := e2 i k' (by simpa using hi)
     exact ⟨s, k0, by simpa using a1, a2, a3⟩
   ·cases h
  ·cases h
theorem aPA (hW : aW n0 G μ H w) {pm : List Nat} (hn : aBR pm = true) {H' : Heap} (h : aDD pm H pm = some H') : aW n0 G (JS μ pm) H' w := by
 obtain ⟨hlen, gR⟩ := aC8 h
 refine ⟨?_, ?_, ?_, hW.lt, ?_, hW.base, hW.rows.rel (fun r s => pm[r]? = some s) (fun r r' s h1 h2 => OU hn h1 h2) (fun r k' hr => ?_)⟩
 case refine_5 =>
  obtain ⟨s, k, a1, a2, a3⟩ := gR r k' hr
  refine ⟨s, k, a1, a2, ?_⟩
  rcases a3 with ⟨_, rfl⟩ | ⟨_, cs, _, rfl⟩
  ·exact ⟨rfl, rfl, rfl, rfl, (lE a1).1⟩
  ·exact ⟨rfl, rfl, rfl, rfl, (lE a1).1⟩
 ·intro r k' b hr hb
  obtain ⟨s, k, a1, a2, a3⟩ := gR r k' hr
  rw [(lE a1).1] at hb
  obtain ⟨c, c1, c2, c3, c4⟩ := hW.blk s k b a2 hb
  rcases a3 with ⟨ht, rfl⟩ | ⟨ht, cs, hcs, rfl⟩
  ·refine ⟨c, c1, ?_, c3, c4⟩
   obtain ⟨g, hg⟩ := Option.isSome_iff_exists.1 ht
   have := (hW.tags s k' g a2 hg).1
   rw [this] at c2 ⊢
   exact kD (fJ _ _) c2
  ·obtain ⟨vs, d1, d2⟩ := c2.values
   have d3 := AI _ _ _ hcs d1
   exact ⟨c, c1, aQ.kM d3 d2, fun hg => by rw [c3 hg]; show k.cells.length = cs.length; rw [d1.length, d3.length], c4⟩
 ·intro r k' g hr hg
  obtain ⟨s, k, a1, a2, a3⟩ := gR r k' hr
  rw [(lE a1).2]
  rcases a3 with ⟨ht, rfl⟩ | ⟨ht, cs, hcs, rfl⟩
  ·exact hW.tags s k' g a2 hg
  ·dsimp only at hg; rw [ht] at hg; cases hg
 ·intro r1 r2 k1 k2 b e1 e2 f1 f2 m1 m2
  obtain ⟨s1, l1, a1, a2, a3⟩ := gR r1 k1 e1
  obtain ⟨s2, l2, b1, b2, b3⟩ := gR r2 k2 e2
  rw [(lE a1).1] at m1
  rw [(lE b1).1] at m2
  have fz : ∀ {k k' : Blk}, k'.frozen = false → ((k.tag.isSome = true ∧ k' = k) ∨ (k.tag = none ∧ ∃ cs, xB.renPs pm k.cells = some cs ∧ k' = { k with cells := cs })) → k.frozen = false := by
   rintro k k' hf (⟨_, rfl⟩ | ⟨_, cs, _, rfl⟩)
   ·exact hf
   ·exact hf
  have := hW.inj s1 s2 l1 l2 b a2 b2 (fz f1 a3) (fz f2 b3) m1 m2
  subst this
  exact OU hn a1 b1
 ·intro r hr
  have : pm[r]? = none := List.getElem?_eq_none (by omega)
  simp [JS, this]
theorem aIB {pm : List Nat} : ∀ {l : List Nat} {F' : Frm}, aRR pm F l = some F' → ∀ t, cN F' t = .junk ∨ xB pm (cN F t) = some (cN F' t)
 | [], F', h, t => by
  simp only [aRR, Option.some.injEq] at h
  subst h
  exact .inl rfl
 | s :: l, F', h, t => by
  simp only [aRR] at h
  split at h
  ·rename_i p F1 hp hl
   simp only [Option.some.injEq] at h
   subst h
   rw [dW]
   by_cases hs : t = s
   ·subst hs; rw [if_pos rfl]; exact .inr hp
   ·rw [if_neg hs]; exact aIB hl t
  ·cases h
theorem aBY {T pm slots : List Nat} {F' : Frm} {H' : Heap} (h : aFD T pm slots F H = some (F', H')) (hfl : ∀ r, ¬ r ∈ T → μi.loc r = none ∧ μi.len r = none) (hI : I n0 wi Gi μi nt F H a w) : I n0 wi Gi μi nt F' H' a w := by
 unfold aFD at h
 obtain ⟨hn, h⟩ := aI h
 simp only [Bool.and_eq_true] at hn
 obtain ⟨hn, hst⟩ := hn
 have stay : ∀ r, r ∈ T → pm[r]? = some r := by
  intro r hr
  have := List.all_eq_true.1 hst r hr
  split at this
  ·rename_i s hs
   rw [hs, Nat.eq_of_beq_eq_true this]
  ·cases this
 split at h
 ·rename_i H1 F1 h1 h2
  simp only [Option.some.injEq, Prod.mk.injEq] at h
  obtain ⟨rfl, rfl⟩ := h
  obtain ⟨G, μ, e, hW, hF⟩ := hI
  refine ⟨G, JS μ pm, ?_, aPA hW hn h1, hF.size, fun t => ?_, hF.defers⟩
  ·exact {
    good := e.good
    map := fun r b hr => by
     by_cases hT : r ∈ T
     ·rw [(lE (stay r hT)).1]; exact e.map r b hr
     ·rw [(hfl r hT).1] at hr; cases hr
    len := fun r b hr => by
     by_cases hT : r ∈ T
     ·rw [(lE (stay r hT)).2]; exact e.len r b hr
     ·rw [(hfl r hT).2] at hr; cases hr
    room := e.room
    row := e.row
    os := e.os
    tape := e.tape
    output := e.output
    size := e.size
    drawn := e.drawn
    old := e.old
    new := e.new }
  ·rcases aIB h2 t with h3 | h3
   ·rw [h3, VR]; trivial
   ·exact aNN _ _ _ h3 (hF.slot t)
 ·cases h

theorem C6 (hW : aW n0 G μ H w) {s : Nat} {k : Blk} {cs : List PV} (hs : H[s]? = some (some k)) (ht : k.tag = none) (hc : ∀ b, aQ w G μ b 0 k.cells → aQ w G μ b 0 cs ∧ cs.length = k.cells.length) :
  aW n0 G μ (H.set s (some { k with cells := cs })) w := by
 have hsl : s < H.length := (List.getElem?_eq_some_iff.1 hs).1
 have key : ∀ (r : Nat) (k' : Blk), (H.set s (some { k with cells := cs }))[r]? = some (some k') → (r = s ∧ k' = { k with cells := cs }) ∨ (r ≠ s ∧ H[r]? = some (some k')) := by
  intro r k' hr
  by_cases hrs : s = r
  ·subst hrs; rw [List.getElem?_set_self hsl] at hr; cases hr; exact .inl ⟨rfl, rfl⟩
  ·rw [List.getElem?_set_ne hrs] at hr; exact .inr ⟨Ne.symm hrs, hr⟩
 refine ⟨?_, ?_, ?_, hW.lt, fun r hr => hW.top r (by simpa using hr), hW.base, hW.rows.rel (fun r s => r = s) (fun r r' s h1 h2 => h1.trans h2.symm) (fun r k' hr => ?_)⟩
 case refine_4 =>
  rcases key r k' hr with ⟨rfl, rfl⟩ | ⟨_, hr⟩
  ·exact ⟨r, k, rfl, hs, rfl, rfl, rfl, rfl, rfl⟩
  ·exact ⟨r, k', rfl, hr, rfl, rfl, rfl, rfl, rfl⟩
 ·intro r k' b hr hb
  rcases key r k' hr with ⟨rfl, rfl⟩ | ⟨_, hr⟩
  ·obtain ⟨c, c1, c2, c3, c4⟩ := hW.blk r k b hs hb
   obtain ⟨d1, d2⟩ := hc b c2
   exact ⟨c, c1, d1, fun hg => by show c.size = cs.length; rw [d2]; exact c3 hg, c4⟩
  ·exact hW.blk r k' b hr hb
 ·intro r k' g hr hg
  rcases key r k' hr with ⟨rfl, rfl⟩ | ⟨_, hr⟩
  ·dsimp only at hg; rw [ht] at hg; cases hg
  ·exact hW.tags r k' g hr hg
 ·intro r1 r2 k1 k2 b e1 e2 f1 f2 m1 m2
  have old : ∀ (r : Nat) (k' : Blk), (H.set s (some { k with cells := cs }))[r]? = some (some k') → k'.frozen = false → ∃ k0, H[r]? = some (some k0) ∧ k0.frozen = false := by
   intro r k' hr hf
   rcases key r k' hr with ⟨rfl, rfl⟩ | ⟨_, hr⟩
   ·exact ⟨k, hs, hf⟩
   ·exact ⟨k', hr, hf⟩
  obtain ⟨l1, a1, a2⟩ := old r1 k1 e1 f1
  obtain ⟨l2, b1, b2⟩ := old r2 k2 e2 f2
  exact hW.inj r1 r2 l1 l2 b a1 b1 a2 b2 m1 m2

theorem bM : ∀ (sh : List (Nat × Kd)) (F : Frm) (H : Heap), I n0 wi Gi μi nt F H a w → I n0 wi Gi μi nt (fN sh F H).1 (fN sh F H).2 a w
 | [], F, H, hI => hI
 | (t, .own e ty) :: r, F, H, hI => by
  have skip : I n0 wi Gi μi nt (fN r F H).1 (fN r F H).2 a w := bM r F H hI
  unfold fN
  split
  ·rename_i m c ht
   cases hb : (Nat.beq m 0 && Nat.beq c 0) with
   | false => exact skip
   | true =>
    simp only [cond_true]
    simp only [Bool.and_eq_true] at hb
    have h1 := Nat.eq_of_beq_eq_true hb.1
    have h2 := Nat.eq_of_beq_eq_true hb.2
    subst h1; subst h2
    obtain ⟨G, μ, e0, hW, hF⟩ := hI
    have hs := hF.slot t
    rw [ht, VR] at hs
    obtain ⟨e1, w1⟩ := mR hW ⟨aO ty [], e, true, false, some ⟨ty, []⟩⟩ (on := some 0) (fun g hg => by cases hg; exact ⟨rfl, rfl⟩)
    refine bM r _ _ ⟨G, _, e0.trans e1, w1, eK.named (hF.mono e1.toMono) ?_⟩
    rw [VR]
    exact ⟨0, mL .., .inl ⟨rfl, none, hs⟩⟩
  ·rename_i t' e' ht
   obtain ⟨G, μ, e0, hW, hF⟩ := hI
   have hs := hF.slot t
   rw [ht] at hs
   obtain ⟨ao, hs⟩ := UA hs
   obtain ⟨e1, w1⟩ := mR hW ⟨aO ty [], e, true, false, some ⟨ty, []⟩⟩ (on := some 0) (fun g hg => by cases hg; exact ⟨rfl, rfl⟩)
   refine bM r _ _ ⟨G, _, e0.trans e1, w1, eK.named (hF.mono e1.toMono) ?_⟩
   rw [VR]
   exact ⟨0, mL .., .inl ⟨rfl, ao, hs⟩⟩
  ·exact skip
 | (t, .bown e et ty) :: r, F, H, hI => by
  have skip : I n0 wi Gi μi nt (fN r F H).1 (fN r F H).2 a w := bM r F H hI
  unfold fN
  split
  ·rename_i s off ht
   split
   ·rename_i k hk
    split
    ·rename_i m c hcs
     cases hb : (Nat.beq m 0 && Nat.beq c 0 && !k.tag.isSome) with
     | false => exact skip
     | true =>
      simp only [cond_true]
      simp only [Bool.and_eq_true, Bool.not_eq_true'] at hb
      have h1 := Nat.eq_of_beq_eq_true hb.1.1
      have h2 := Nat.eq_of_beq_eq_true hb.1.2
      subst h1; subst h2
      have htag : k.tag = none := by
       cases hq : k.tag with
       | none => rfl
       | some g => rw [hq] at hb; simp at hb
      obtain ⟨G, μ, e0, hW, hF⟩ := hI
      obtain ⟨e1, w1⟩ := mR hW ⟨aO ty [], et, true, false, some ⟨ty, []⟩⟩ (on := some 0) (fun g hg => by cases hg; exact ⟨rfl, rfl⟩)
      have hk' := aN hk
      have hsl : s < H.length := (List.getElem?_eq_some_iff.1 hk').1
      have hk2 : (H ++ [some ⟨aO ty [], et, true, false, some ⟨ty, []⟩⟩])[s]? = some (some k) := by rw [List.getElem?_append_left hsl]; exact hk'
      refine bM r _ _ ⟨G, _, e0.trans e1, C6 w1 hk2 htag ?_, hF.mono e1.toMono⟩
      intro b hc
      rw [hcs] at hc ⊢
      refine ⟨?_, rfl⟩
      rw [aQ] at hc ⊢
      obtain ⟨⟨v, v1, v2⟩, v3⟩ := hc
      refine ⟨⟨v, v1, ?_⟩, by rw [aQ]; trivial⟩
      have v4 : v = .slice none 0 0 := by simpa only [VR] using v2
      simp only [VR]
      exact ⟨0, mL .., .inl ⟨rfl, none, v4⟩⟩
    ·exact skip
   ·exact skip
  ·exact skip
 | (_, .int _) :: r, F, H, hI => bM r F H hI
 | (_, .bool) :: r, F, H, hI => bM r F H hI
 | (_, .str) :: r, F, H, hI => bM r F H hI
 | (_, .list _) :: r, F, H, hI => bM r F H hI
 | (_, .agg _) :: r, F, H, hI => bM r F H hI
 | (_, .box _ _) :: r, F, H, hI => bM r F H hI
 | (_, .ptr _) :: r, F, H, hI => bM r F H hI
 | (_, .fn _) :: r, F, H, hI => bM r F H hI
 | (_, .nil0) :: r, F, H, hI => bM r F H hI
 | (_, .val) :: r, F, H, hI => bM r F H hI
 | (_, .nilI) :: r, F, H, hI => bM r F H hI
 | (_, .clo _ _) :: r, F, H, hI => bM r F H hI
 | (_, .win _ _) :: r, F, H, hI => bM r F H hI
 | (_, .hnd _) :: r, F, H, hI => bM r F H hI
 | (_, .ar _ _) :: r, F, H, hI => bM r F H hI
 | (t, .bag e t1 et ty t2) :: r, F, H, hI => by
  have skip : I n0 wi Gi μi nt (fN r F H).1 (fN r F H).2 a w := bM r F H hI
  unfold fN
  split
  ·rename_i s off ht
   split
   ·rename_i k hk
    split
    ·rename_i t' e' rest hcs
     cases hb : (!k.tag.isSome) with
     | false => exact skip
     | true =>
      simp only [cond_true]
      have htag : k.tag = none := by
       cases hq : k.tag with
       | none => rfl
       | some g => rw [hq] at hb; simp at hb
      obtain ⟨G, μ, e0, hW, hF⟩ := hI
      obtain ⟨e1, w1⟩ := mR hW ⟨aO ty [], et, true, false, some ⟨ty, []⟩⟩ (on := some 0) (fun g hg => by cases hg; exact ⟨rfl, rfl⟩)
      have hk' := aN hk
      have hsl : s < H.length := (List.getElem?_eq_some_iff.1 hk').1
      have hk2 : (H ++ [some ⟨aO ty [], et, true, false, some ⟨ty, []⟩⟩])[s]? = some (some k) := by rw [List.getElem?_append_left hsl]; exact hk'
      refine bM r _ _ ⟨G, _, e0.trans e1, C6 w1 hk2 htag ?_, hF.mono e1.toMono⟩
      intro b hc
      obtain ⟨vs, d1, d2⟩ := hc.values
      have d3 := d1.take t1.size
      have d4 := d1.drop t1.size
      rw [hcs, VRs] at d4
      obtain ⟨v, vc, e3, d5, d6⟩ := d4
      obtain ⟨ao, d7⟩ := UA d5
      have d8 : VRs w G (upd μ H.length none (some 0)) (k.cells.take t1.size ++ .own H.length ty.size :: rest) (vs.take t1.size ++ v :: vc) := VRs.append d3 (by
       rw [VRs]
       refine ⟨v, vc, rfl, ?_, d6⟩
       rw [VR]
       exact ⟨0, mL .., .inl ⟨rfl, ao, d7⟩⟩)
      rw [← e3, List.take_append_drop] at d8
      exact ⟨aQ.kM d8 d2, by rw [d8.length, d1.length]⟩
    ·rename_i m' c' rest hcs
     cases hb : (Nat.beq m' 0 && Nat.beq c' 0 && !k.tag.isSome) with
     | false => exact skip
     | true =>
      simp only [cond_true]
      simp only [Bool.and_eq_true] at hb
      obtain ⟨⟨hm, hc⟩, hb⟩ := hb
      have hm := Nat.eq_of_beq_eq_true hm
      have hc := Nat.eq_of_beq_eq_true hc
      subst hm; subst hc
      have htag : k.tag = none := by
       cases hq : k.tag with
       | none => rfl
       | some g => rw [hq] at hb; simp at hb
      obtain ⟨G, μ, e0, hW, hF⟩ := hI
      obtain ⟨e1, w1⟩ := mR hW ⟨aO ty [], et, true, false, some ⟨ty, []⟩⟩ (on := some 0) (fun g hg => by cases hg; exact ⟨rfl, rfl⟩)
      have hk' := aN hk
      have hsl : s < H.length := (List.getElem?_eq_some_iff.1 hk').1
      have hk2 : (H ++ [some ⟨aO ty [], et, true, false, some ⟨ty, []⟩⟩])[s]? = some (some k) := by rw [List.getElem?_append_left hsl]; exact hk'
      refine bM r _ _ ⟨G, _, e0.trans e1, C6 w1 hk2 htag ?_, hF.mono e1.toMono⟩
      intro b hc
      obtain ⟨vs, d1, d2⟩ := hc.values
      have d3 := d1.take t1.size
      have d4 := d1.drop t1.size
      rw [hcs, VRs] at d4
      obtain ⟨v, vc, e3, d5, d6⟩ := d4
      rw [VR] at d5
      have d8 : VRs w G (upd μ H.length none (some 0)) (k.cells.take t1.size ++ .own H.length ty.size :: rest) (vs.take t1.size ++ v :: vc) := VRs.append d3 (by
       rw [VRs]
       refine ⟨v, vc, rfl, ?_, d6⟩
       rw [VR]
       exact ⟨0, mL .., .inl ⟨rfl, none, d5⟩⟩)
      rw [← e3, List.take_append_drop] at d8
      exact ⟨aQ.kM d8 d2, by rw [d8.length, d1.length]⟩
    ·exact skip
   ·exact skip
  ·exact skip

theorem bD : ∀ (sh : List (Nat × Kd)) (F : Frm) (H : Heap), I n0 wi Gi μi nt F H a w → I n0 wi Gi μi nt (qE sh F H).1 (qE sh F H).2 a w
 | [], F, H, hI => hI
 | (t, .box e (.list ty)) :: r, F, H, hI => by
  have skip : I n0 wi Gi μi nt (qE r F H).1 (qE r F H).2 a w := bD r F H hI
  unfold qE
  split
  ·rename_i s off ht
   split
   ·rename_i k hk
    split
    ·rename_i u sz hcs
     split
     ·rename_i ku hku
      split
      ·rename_i g hg
       cases hb : (!k.tag.isSome && !Nat.beq u s) with
       | false => exact skip
       | true =>
        simp only [cond_true]
        simp only [Bool.and_eq_true, Bool.not_eq_true'] at hb
        have htag : k.tag = none := by
         cases hq : k.tag with
         | none => rfl
         | some g => rw [hq] at hb; simp at hb
        have hne : u ≠ s := fun e => by rw [e] at hb; simp at hb
        obtain ⟨G, μ, e0, hW, hF⟩ := hI
        have hul : u < H.length := (List.getElem?_eq_some_iff.1 (aN hku)).1
        have hk2 : (H.set u (some { ku with frozen := true }))[s]? = some (some k) := by rw [List.getElem?_set_ne hne]; exact aN hk
        have hku2 : gR (H.set u (some { ku with frozen := true })) u = some { ku with frozen := true } := by
         simp only [gR, List.getElem?_set_self hul]
        have fin : ∀ {G1 : Gd} {w1 : World} {μ1 : Mp}, (∀ b, μ1.loc u = some b → G1 b) → aW n0 G1 μ1 (H.set u (some { ku with frozen := true })) w1 → aW n0 G1 μ1 ((H.set u (some { ku with frozen := true })).set s (some { k with cells := [zM g.t g.l none] })) w1 := by
         intro G1 w1 μ1 hGu hW1
         refine C6 hW1 hk2 htag fun b hc => ?_
         rw [hcs] at hc ⊢
         refine ⟨?_, rfl⟩
         rw [aQ] at hc ⊢
         obtain ⟨⟨v, v1, v2⟩, v3⟩ := hc
         exact ⟨⟨v, v1, (BG hW1 v2 hku2 hg (fun b h => h) hGu).bF⟩, by rw [aQ]; trivial⟩
        cases hfz : ku.frozen with
        | true =>
         have hsame : H.set u (some { ku with frozen := true }) = H := by
          apply List.ext_getElem?
          intro i
          by_cases hi : u = i
          ·subst hi
           rw [List.getElem?_set_self hul, aN hku]
           obtain ⟨k1, k2, k3, k4, k5⟩ := ku
           dsimp only at hfz
           rw [hfz]
          ·rw [List.getElem?_set_ne hi]
         refine bD r _ _ ⟨G, μ, e0, fin (fun b hb => ?_) (by rw [hsame]; exact hW), hF⟩
         obtain ⟨_, _, _, _, h5, _⟩ := hW.blk u ku b (aN hku) hb
         exact h5 hfz
        | false =>
         obtain ⟨e1, w1⟩ := DO hW (aN hku) hfz
         exact bD r _ _ ⟨_, μ, e0.trans e1, fin (fun b hb => .inr hb) w1, hF.mono e1.toMono⟩
      ·exact skip
     ·exact skip
    ·exact skip
   ·exact skip
  ·exact skip
 | (_, .int _) :: r, F, H, hI => bD r F H hI
 | (_, .bool) :: r, F, H, hI => bD r F H hI
 | (_, .str) :: r, F, H, hI => bD r F H hI
 | (_, .list _) :: r, F, H, hI => bD r F H hI
 | (_, .agg _) :: r, F, H, hI => bD r F H hI
 | (_, .box _ (.int _)) :: r, F, H, hI => bD r F H hI
 | (_, .box _ .bool) :: r, F, H, hI => bD r F H hI
 | (_, .box _ .str) :: r, F, H, hI => bD r F H hI
 | (_, .box _ (.hnd _)) :: r, F, H, hI => bD r F H hI
 | (_, .box _ (.rows _)) :: r, F, H, hI => bD r F H hI
 | (_, .box _ (.prod _ _)) :: r, F, H, hI => bD r F H hI
 | (_, .ptr _) :: r, F, H, hI => bD r F H hI
 | (_, .fn _) :: r, F, H, hI => bD r F H hI
 | (_, .nil0) :: r, F, H, hI => bD r F H hI
 | (_, .val) :: r, F, H, hI => bD r F H hI
 | (_, .nilI) :: r, F, H, hI => bD r F H hI
 | (_, .clo _ _) :: r, F, H, hI => bD r F H hI
 | (_, .win _ _) :: r, F, H, hI => bD r F H hI
 | (_, .hnd _) :: r, F, H, hI => bD r F H hI
 | (_, .ar _ _) :: r, F, H, hI => bD r F H hI
 | (_, .own _ _) :: r, F, H, hI => bD r F H hI
 | (_, .bown _ _ _) :: r, F, H, hI => bD r F H hI
 | (_, .bag _ _ _ _ _) :: r, F, H, hI => bD r F H hI

theorem uX {T : List Nat} {sh : List (Nat × Kd)} {x : Shape.den sh} (h : pS T sh F H = some x) (hfl : ∀ r, ¬ r ∈ T → μi.loc r = none ∧ μi.len r = none) (hI : I n0 wi Gi μi nt F H a w) : I n0 wi Gi μi nt (o8 sh x 0) (wA sh x) a w := by
 unfold pS at h
 replace hI := rK sh F H hI
 split at h
 rename_i F0 H0 hd0
 rw [hd0] at hI
 replace hI := bD sh F0 H0 hI
 split at h
 rename_i F1 H1 hd1
 rw [hd1] at hI
 replace hI := bM sh F1 H1 hI
 split at h
 rename_i F2 H2 hd2
 rw [hd2] at hI
 split at h
 ·rename_i pm hpm
  split at h
  ·rename_i F' H' ht
   obtain ⟨hb, h⟩ := aI h
   obtain ⟨G, μ, e, hW, hF⟩ := aBY ht hfl hI
   obtain ⟨h1, h2⟩ := N6 hW hF.slot sh h
   have hH : ∀ i : Nat, aML H'[i]? (wA sh x)[i]? := by
    intro i
    rcases Nat.lt_or_ge i (aBX sh) with hl | hl
    ·have := h2 i hl
     rwa [Nat.zero_add] at this
    ·have e1 := Nat.eq_of_beq_eq_true hb
     exact .inl (by rw [List.getElem?_eq_none (by omega), List.getElem?_eq_none (by rw [WD]; omega)])
   exact ⟨G, μ, e, hW.aNE hH, hF.size, h1, hF.defers⟩
  ·cases h
 ·cases h
end
end Go.PM
