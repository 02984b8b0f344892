/- Texts of one proof, joined (4). -/
import Derived.ProofKit
import Derived.Lib.SmallJoins
import Derived.Test.YtjgapmocogjkmaaGreatDoorRows
import Derived.LaidMore
import Derived.OpenShut
import Derived.Lib.LaidU8
import Derived.MakeChecks
import Derived.Test.YtjgapmocogjkmaaGreatDoorProg
import Derived.KernelRfl
import Derived.Test.YtjgapmocogjkmaaGreatDoorQB3
set_option linter.unusedSimpArgs false
set_option linter.unusedVariables false
namespace Go.PM
open Go Go.RowKit
inductive Kd where
 | int (k : IntKind)
 | bool
 | str
 | list (t : Ty)
 | agg (t : Ty)
 | own (e : TypeId) (t : Ty)
 | box (e : TypeId) (t : Ty)
 | ptr (t : Ty)
 | fn (g : FuncId)
 | nil0
 | val
 | nilI
 | clo (g : FuncId) (ts : List Ty)
 | win (j sz : Nat)
 | bown (e et : TypeId) (t : Ty)
 | bag (e : TypeId) (t1 : Ty) (et : TypeId) (t : Ty) (t2 : Option Ty)
 | hnd (sz : Nat)
 | mpk (j : Nat)
 | ar (e : TypeId) (t : Ty)
@[reducible] def aKL : Option Ty → Type
 | none => Unit
 | some t => t.den
def aOP : (t : Option Ty) → aKL t → List PV
 | none, _ => []
 | some t, x => enc t x
@[reducible] def tI : List Ty → Type
 | [] => Unit
 | t :: r => t.den × tI r
@[reducible] def Kd.den : Kd → Type
 | .int _ => Int
 | .bool => Bool
 | .str => ByteArray
 | .list t => List t.den
 | .agg t => t.den
 | .own _ t => List t.den
 | .box _ t => t.den
 | .ptr t => t.den
 | .fn _ => Unit
 | .nil0 => Unit
 | .val => Value
 | .nilI => Unit
 | .clo _ ts => tI ts
 | .win _ _ => Nat × Nat
 | .bown _ _ t => List t.den
 | .bag _ t1 _ t t2 => t1.den × List t.den × aKL t2
 | .hnd _ => Nat × Nat × Nat
 | .mpk _ => Unit
 | .ar _ t => List (List t.den)
abbrev Shape := List (Nat × Kd)
@[reducible] def Shape.den : List (Nat × Kd) → Type
 | [] => Unit
 | (_, k) :: r => k.den × Shape.den r
def Kd.pos : Kd → Nat
 | .own _ _ | .box _ _ | .ar _ _ => 1
 | .bown _ _ _ => 2
 | .bag _ _ _ _ _ => 2
 | _ => 0
def EZ : (ts : List Ty) → tI ts → List PV
 | [], _ => []
 | t :: r, (x, xs) => .iptr (enc t x) :: EZ r xs
def nX : (k : Kd) → k.den → Nat → PV
 | .int k, x, _ => .lit (.int k x)
 | .bool, x, _ => .lit (.bool x)
 | .str, x, _ => .lit (.string x)
 | .list t, l, _ => o0 t l none
 | .agg t, x, _ => .agg (enc t x)
 | .own _ t, _, n => .own n t.size
 | .box _ _, _, n => .hptr n 0
 | .ptr t, x, _ => .iptr (enc t x)
 | .fn g, _, _ => .lit (.func (.func g) #[] #[])
 | .nil0, _, _ => .lit (.slice none 0 0)
 | .val, x, _ => .lit x
 | .nilI, _, _ => .lit .nilIface
 | .clo g ts, x, _ => .clo (.func g) [] (EZ ts x)
 | .win j sz, x, _ => .win j x.1 x.2 sz
 | .bown _ _ _, _, n => .hptr n 0
 | .bag _ _ _ _ _, _, n => .hptr n 0
 | .hnd sz, x, _ => .row x.1 x.2.1 x.2.2 sz
 | .mpk j, _, _ => .mp j
 | .ar _ _, _, _ => .junk
def aU6 : (k : Kd) → k.den → Nat → Heap
 | .own e t, l, _ => [some ⟨aH t l, e, true, false, some ⟨t, l⟩⟩]
 | .box e t, x, _ => [some ⟨enc t x, e, false, false, none⟩]
 | .bown e et t, l, n => [some ⟨[.own (n + 1) t.size], e, false, false, none⟩, some ⟨aH t l, et, true, false, some ⟨t, l⟩⟩]
 | .bag e t1 et t t2, x, n => [some ⟨enc t1 x.1 ++ .own (n + 1) t.size :: aOP t2 x.2.2, e, false, false, none⟩, some ⟨aH t x.2.1, et, true, false, some ⟨t, x.2.1⟩⟩]
 | .ar e t, l, _ => [some ⟨aH (.rows t) l, e, false, false, some ⟨.rows t, l⟩⟩]
 | .int _, _, _ | .bool, _, _ | .str, _, _ | .list _, _, _ | .agg _, _, _ | .ptr _, _, _ | .fn _, _, _ | .nil0, _, _ | .val, _, _ | .nilI, _, _ | .clo _ _, _, _ | .win _ _, _, _ | .hnd _, _, _ | .mpk _, _, _ => []
def mV : (sh : List (Nat × Kd)) → Shape.den sh → Nat → Frm
 | [], _, _ => []
 | (t, k) :: r, (x, xs), n => (t, nX k x n) :: mV r xs (n + k.pos)
def aAX : (sh : List (Nat × Kd)) → Shape.den sh → Nat → Heap
 | [], _, _ => []
 | (_, k) :: r, (x, xs), n => aU6 k x n ++ aAX r xs (n + k.pos)
def uC (sh : List (Nat × Kd)) (x : Shape.den sh) : Heap := aAX sh x 0

def CP (e : TypeId) (t : Ty) (p : PV) (H : Heap) (n : Nat) : Option (List t.den) :=
 match p with
 | .own s sz => bif Nat.beq s n && Nat.beq sz t.size then match fB H n with
  | some k => match k.tag with
   | some g => match tY g.t t g.l with
    | some l => bif Nat.beq k.ty e && k.grown && !k.frozen then some l else none
    | none => none
   | none => none
  | none => none
  else none
 | _ => none
def V1 (e : TypeId) (t : Ty) (p : PV) (H : Heap) (n : Nat) : Option t.den :=
 match p with
 | .hptr s off => bif Nat.beq s n && Nat.beq off 0 then match fB H n with
  | some k => bif Nat.beq k.ty e && !k.grown && !k.frozen && !k.tag.isSome then dec t k.cells else none
  | none => none
  else none
 | _ => none
def NT (e et : TypeId) (t : Ty) (p : PV) (H : Heap) (n : Nat) : Option (List t.den) :=
 match p with
 | .hptr s off => bif Nat.beq s n && Nat.beq off 0 then match fB H n with
  | some k => bif Nat.beq k.ty e && !k.grown && !k.frozen && !k.tag.isSome then match k.cells with
   | [.own r sz] => CP et t (.own r sz) H (n + 1)
   | _ => none
   else none
  | none => none
  else none
 | _ => none
def aXH : (t : Option Ty) → List PV → Option (aKL t)
 | none, cs => match cs with
  | [] => some ()
  | _ :: _ => none
 | some t, cs => dec t cs
def YY (e : TypeId) (t1 : Ty) (et : TypeId) (t : Ty) (t2 : Option Ty) (p : PV) (H : Heap) (n : Nat) : Option (t1.den × List t.den × aKL t2) :=
 match p with
 | .hptr s off => bif Nat.beq s n && Nat.beq off 0 then match fB H n with
  | some k => bif Nat.beq k.ty e && !k.grown && !k.frozen && !k.tag.isSome then match k.cells.drop t1.size with
   | .own r sz :: rest => match dec t1 (k.cells.take t1.size), CP et t (.own r sz) H (n + 1), aXH t2 rest with
    | some a, some l, some b => some (a, l, b)
    | _, _, _ => none
   | _ => none
   else none
  | none => none
  else none
 | _ => none
def aKB (e : TypeId) (t : Ty) (H : Heap) (n : Nat) : Option (List (List t.den)) := match fB H n with
 | some k => match k.tag with
  | some g => match tY g.t (.rows t) g.l with
   | some l => bif Nat.beq k.ty e && !k.grown && !k.frozen then some l else none
   | none => none
  | none => none
 | none => none
def aH0 (t : Ty) : PV → Option t.den
 | .agg cs => dec t cs
 | _ => none
def aCK (t : Ty) : PV → Option t.den
 | .iptr cs => dec t cs
 | _ => none
def aQ1 : (ts : List Ty) → List PV → Option (tI ts)
 | [], [] => some ()
 | t :: r, p :: ps => match aCK t p with
  | some x => match aQ1 r ps with
   | some xs => some (x, xs)
   | none => none
  | none => none
 | _, _ => none
def aNK (j : Nat) : PV → Option Unit
 | .mp i => bif Nat.beq i j then some () else none
 | _ => none
def aJ4 (g : FuncId) : PV → Option Unit
 | .lit (.func (.func f) first caps) => bif Nat.beq f g && Nat.beq first.size 0 && Nat.beq caps.size 0 then some () else none
 | _ => none
def aJG : PV → Option Unit
 | .lit (.slice none o c) => bif Nat.beq o 0 && Nat.beq c 0 then some () else none
 | _ => none
def aJC : PV → Option Value
 | .lit v => some v
 | _ => none
def aCS : PV → Option Unit
 | .lit .nilIface => some ()
 | _ => none
theorem PX {p : PV} {x : Value} (h : aJC p = some x) : p = .lit x := by
 unfold aJC at h
 split at h
 ·rw [Option.some.inj h]
 ·cases h
theorem K5 {p : PV} {x : Unit} (h : aCS p = some x) : p = .lit .nilIface := by
 unfold aCS at h
 split at h
 ·rfl
 ·cases h
def aDO (g : FuncId) (ts : List Ty) : PV → Option (tI ts)
 | .clo (.func f) [] caps => bif Nat.beq f g then aQ1 ts caps else none
 | _ => none
def aJI (j sz : Nat) : PV → Option (Nat × Nat)
 | .win r lo n s => bif Nat.beq r j && Nat.beq s sz then some (lo, n) else none
 | _ => none
def UQ : (k : Kd) → PV → Heap → Nat → Option k.den
 | .int k, p, _, _ => aCZ k [p]
 | .bool, p, _, _ => VJ [p]
 | .str, p, _, _ => aDY [p]
 | .list t, p, _, _ => dec (.list t) [p]
 | .agg t, p, _, _ => aH0 t p
 | .own e t, p, H, n => CP e t p H n
 | .box e t, p, H, n => V1 e t p H n
 | .ptr t, p, _, _ => aCK t p
 | .fn g, p, _, _ => aJ4 g p
 | .nil0, p, _, _ => aJG p
 | .val, p, _, _ => aJC p
 | .nilI, p, _, _ => aCS p
 | .clo g ts, p, _, _ => aDO g ts p
 | .win j sz, p, _, _ => aJI j sz p
 | .bown e et t, p, H, n => NT e et t p H n
 | .bag e t1 et t t2, p, H, n => YY e t1 et t t2 p H n
 | .hnd sz, p, _, _ => aC3 sz [p]
 | .mpk j, p, _, _ => aNK j p
 | .ar e t, _, H, n => aKB e t H n
def aNZ : (sh : List (Nat × Kd)) → Frm → Heap → Nat → Option (Shape.den sh)
 | [], _, _, _ => some ()
 | (t, k) :: r, F, H, n => match UQ k (bV F t) H n with
  | some x => match aNZ r F H (n + k.pos) with
   | some xs => some (x, xs)
   | none => none
  | none => none
def VN : List (Nat × Kd) → List (Nat × TypeId × Option Ty)
 | [] => []
 | (t, .own e ty) :: r => (t, e, some ty) :: VN r
 | (t, .box e _) :: r => (t, e, none) :: VN r
 | (t, .ar e ty) :: r => (t, e, some (.rows ty)) :: VN r
 | _ :: r => VN r
def slotsOf : List (Nat × Kd) → List Nat
 | [] => []
 | (t, _) :: r => t :: slotsOf r
def Z6 : List (Nat × Kd) → Nat
 | [] => 0
 | (_, k) :: r => k.pos + Z6 r
def pC : List (Nat × Kd) → Frm → Heap → Frm × Heap
 | [], F, H => (F, H)
 | (t, .list _) :: r, F, H => match bV F t with
  | .own s _ => match fB H s with
   | some k => match k.tag with
    | some g => bif k.frozen then pC r ((t, o0 g.t g.l none) :: F) H else pC r ((t, o0 g.t g.l none) :: F) (H.set s (some { k with frozen := true }))
    | none => pC r F H
   | none => pC r F H
  | _ => pC r F H
 | (t, .hnd sz) :: r, F, H => match bV F t with
  | .own s sz2 => bif Nat.beq sz2 sz then match aDQ H sz s with
   | some (q, H1) => pC r ((t, q) :: F) H1
   | none => pC r F H
   else pC r F H
  | _ => pC r F H
 | _ :: r, F, H => pC r F H
def B0 (sh : List (Nat × Kd)) (F : Frm) (H : Heap) : Option (Shape.den sh) :=
 match pC sh F H with
 | (F1, H1) => match tidy ⟨slotsOf sh, VN sh, 0⟩ F1 H1 with
  | some (F', H') => bif Nat.beq H'.length (Z6 sh) then aNZ sh F' H' 0 else none
  | none => none

section
variable {P : Program} {n0 : Nat → Prop} {w wi : World} {G Gi : Gd} {μ μi μ' : Mp} {H : Heap} {F : Frm} {a : Act} {nt : Nat}
theorem pU (hW : aP n0 G μ H w) {e : TypeId} {t : Ty} {p : PV} {n : Nat} {l : List t.den} (h : CP e t p H n = some l) : p = .own n t.size ∧ H[n]? = some (some ⟨aH t l, e, true, false, some ⟨t, l⟩⟩) := by
 unfold CP at h
 split at h
 ·rename_i s sz
  replace h := aI h
  obtain ⟨hb, h⟩ := h
  simp only [Bool.and_eq_true] at hb
  have h1 := Nat.eq_of_beq_eq_true hb.1
  have h2 := Nat.eq_of_beq_eq_true hb.2
  subst h1; subst h2
  refine ⟨rfl, ?_⟩
  split at h
  ·rename_i k hk
   split at h
   ·rename_i g hg
    split at h
    ·rename_i l' hc
     obtain ⟨hb, h⟩ := aI h
     simp only [Bool.and_eq_true, Bool.not_eq_true'] at hb
     simp only [Option.some.injEq] at h
     subst h
     have hb3 := Nat.eq_of_beq_eq_true hb.1.1
     have ht := (hW.tags s k g (aL hk) hg).1
     obtain ⟨gt, gl⟩ := g
     obtain ⟨rfl, rfl⟩ := jP hc
     rw [aL hk]
     obtain ⟨k1, k2, k3, k4, k5⟩ := k
     dsimp only at ht hg hb hb3 ⊢
     rw [ht, hg, hb3, hb.1.2, hb.2]
    ·cases h
   ·cases h
  ·cases h
 ·cases h
theorem ZG (hW : aP n0 G μ H w) {e et : TypeId} {t : Ty} {p : PV} {n : Nat} {l : List t.den} (h : NT e et t p H n = some l) :
  p = .hptr n 0 ∧ H[n]? = some (some ⟨[.own (n + 1) t.size], e, false, false, none⟩) ∧ H[n + 1]? = some (some ⟨aH t l, et, true, false, some ⟨t, l⟩⟩) := by
 unfold NT at h
 split at h
 ·rename_i s off
  replace h := aI h
  obtain ⟨hb, h⟩ := h
  simp only [Bool.and_eq_true] at hb
  have h1 := Nat.eq_of_beq_eq_true hb.1
  have h2 := Nat.eq_of_beq_eq_true hb.2
  subst h1; subst h2
  refine ⟨rfl, ?_⟩
  split at h
  ·rename_i k hk
   replace h := aI h
   obtain ⟨hc, h⟩ := h
   simp only [Bool.and_eq_true, Bool.not_eq_true'] at hc
   obtain ⟨⟨⟨c1, c2⟩, c3⟩, c4⟩ := hc
   have c1 := Nat.eq_of_beq_eq_true c1
   split at h
   ·rename_i r sz hcs
    obtain ⟨h3, h4⟩ := pU hW h
    cases h3
    refine ⟨?_, h4⟩
    rw [aL hk]
    obtain ⟨k1, k2, k3, k4, k5⟩ := k
    dsimp only at c1 c2 c3 c4 hcs
    rw [hcs, c1, c2, c3]
    cases k5 with
    | none => rfl
    | some g => simp at c4
   ·cases h
  ·cases h
 ·cases h
def aQH (k k' : Blk) : Prop := k.tag = none ∧ k'.ty = k.ty ∧ k'.grown = k.grown ∧ k'.frozen = k.frozen ∧ k'.tag = none ∧ ∀ (w : World) (G : Gd) (μ : Mp) (b : Nat), aN w G μ b 0 k.cells → aN w G μ b 0 k'.cells ∧ k'.cells.length = k.cells.length
def aJH (a b : Option (Option Blk)) : Prop := a = b ∨ ∃ k k', a = some (some k) ∧ b = some (some k') ∧ aQH k k'
theorem aP.aJS (hW : aP n0 G μ H w) {H' : Heap} (h : ∀ r : Nat, aJH H[r]? H'[r]?) : aP n0 G μ H' w := by
 have key : ∀ (r : Nat) (k' : Blk), H'[r]? = some (some k') → ∃ k, H[r]? = some (some k) ∧ (k = k' ∨ aQH k k') ∧ k'.frozen = k.frozen := by
  intro r k' hr
  rcases h r with h1 | ⟨k, k2, h1, h2, h3⟩
  ·exact ⟨k', by rw [h1, hr], .inl rfl, rfl⟩
  ·rw [hr] at h2
   cases h2
   exact ⟨k, h1, .inr h3, h3.2.2.2.1⟩
 refine ⟨?_, ?_, ?_, hW.lt, ?_, hW.base, hW.rows.step (Mono.refl _ _ _) (Nat.le_refl _) (fun _ => rfl) (fun j b hj => ⟨rfl, id, fun r k' hr hf hl => ?_⟩) (fun r k' t l hr hg ht => ?_)⟩
 case refine_5 =>
  obtain ⟨k, h1, _, h3⟩ := key r k' hr
  exact ⟨r, k, h1, by rw [← h3]; exact hf, hl⟩
 case refine_6 =>
  obtain ⟨k, h1, h2, h3⟩ := key r k' hr
  rcases h2 with rfl | ⟨_, _, _, _, e4, _⟩
  ·exact ⟨k, h1, rfl, rfl, rfl, rfl⟩
  ·rw [e4] at ht; cases ht
 ·intro r k' b hr hb
  obtain ⟨k, h1, h2, h3⟩ := key r k' hr
  obtain ⟨c, a1, a2, a3, a4⟩ := hW.blk r k b h1 hb
  rcases h2 with rfl | ⟨_, e1, e2, e3, _, e5⟩
  ·exact ⟨c, a1, a2, a3, a4⟩
  ·obtain ⟨b1, b2⟩ := e5 w G μ b a2
   exact ⟨c, by rw [e1]; exact a1, b1, fun hg => by rw [b2]; exact a3 (by rw [← e2]; exact hg), by rw [e3]; exact a4⟩
 ·intro r k' g hr hg
  obtain ⟨k, h1, h2, _⟩ := key r k' hr
  rcases h2 with rfl | ⟨_, _, _, _, e4, _⟩
  ·exact hW.tags r k g h1 hg
  ·rw [e4] at hg; cases hg
 ·intro r s k l b hr hs fk fl m1 m2
  obtain ⟨k1, h1, _, h3⟩ := key r k hr
  obtain ⟨l1, h4, _, h6⟩ := key s l hs
  exact hW.inj r s k1 l1 b h1 h4 (by rw [← h3]; exact fk) (by rw [← h6]; exact fl) m1 m2
 ·intro r hr
  refine hW.top r ?_
  rcases Nat.lt_or_ge r H.length with hl | hl
  ·rcases h r with h1 | ⟨k, k', _, h2, _⟩
   ·rw [List.getElem?_eq_none hr, List.getElem?_eq_getElem hl] at h1; cases h1
   ·rw [List.getElem?_eq_none hr] at h2; cases h2
  ·exact hl
theorem aCJ {e : TypeId} {t : Ty} {p : PV} {n : Nat} {x : t.den} (h : V1 e t p H n = some x) : p = .hptr n 0 ∧ aJH H[n]? (some (some ⟨enc t x, e, false, false, none⟩)) := by
 unfold V1 at h
 split at h
 ·rename_i s off
  replace h := aI h
  obtain ⟨hb, h⟩ := h
  simp only [Bool.and_eq_true] at hb
  have h1 := Nat.eq_of_beq_eq_true hb.1
  have h2 := Nat.eq_of_beq_eq_true hb.2
  subst h1; subst h2
  refine ⟨rfl, ?_⟩
  split at h
  ·rename_i k hk
   obtain ⟨hc, h⟩ := aI h
   simp only [Bool.and_eq_true, Bool.not_eq_true'] at hc
   obtain ⟨⟨⟨c1, c2⟩, c3⟩, c4⟩ := hc
   have c1 := Nat.eq_of_beq_eq_true c1
   refine .inr ⟨k, _, aL hk, rfl, by simpa using c4, c1.symm, c2.symm, c3.symm, rfl, ?_⟩
   intro w G μ b hc
   obtain ⟨vs, d1, d2⟩ := hc.values
   have d3 := nC t μ k.cells x vs h d1
   exact ⟨aN.iC d3.aZ d2, by rw [d3.length, d1.length]⟩
  ·cases h
 ·cases h
theorem aQM (t : Option Ty) (μ : Mp) (cs : List PV) (x : aKL t) (vs : List Value) (h : aXH t cs = some x) (hv : VRs w G μ cs vs) : VRs w G aG (aOP t x) vs := by
 cases t with
 | none =>
  cases cs with
  | nil => rw [VRs] at hv; rw [aOP, VRs]; exact hv
  | cons p ps => cases h
 | some t => exact nC t μ cs x vs h hv
theorem aDM (hW : aP n0 G μ H w) {e : TypeId} {t1 : Ty} {et : TypeId} {t : Ty} {t2 : Option Ty} {p : PV} {n : Nat} {x : t1.den × List t.den × aKL t2} (h : YY e t1 et t t2 p H n = some x) :
  p = .hptr n 0 ∧ aJH H[n]? (some (some ⟨enc t1 x.1 ++ .own (n + 1) t.size :: aOP t2 x.2.2, e, false, false, none⟩)) ∧ H[n + 1]? = some (some ⟨aH t x.2.1, et, true, false, some ⟨t, x.2.1⟩⟩) := by
 unfold YY at h
 split at h
 ·rename_i s off
  replace h := aI h
  obtain ⟨hb, h⟩ := h
  simp only [Bool.and_eq_true] at hb
  have h1 := Nat.eq_of_beq_eq_true hb.1
  have h2 := Nat.eq_of_beq_eq_true hb.2
  subst h1; subst h2
  refine ⟨rfl, ?_⟩
  split at h
  ·rename_i k hk
   obtain ⟨hc, h⟩ := aI h
   simp only [Bool.and_eq_true, Bool.not_eq_true'] at hc
   obtain ⟨⟨⟨c1, c2⟩, c3⟩, c4⟩ := hc
   have c1 := Nat.eq_of_beq_eq_true c1
   split at h
   ·rename_i r sz rest hd
    split at h
    ·rename_i xa xl xb ha hl hbb
     simp only [Option.some.injEq] at h
     subst h
     obtain ⟨h3, h4⟩ := pU hW hl
     cases h3
     refine ⟨.inr ⟨k, _, aL hk, rfl, by simpa using c4, c1.symm, c2.symm, c3.symm, rfl, ?_⟩, h4⟩
     intro w G μ b hc
     obtain ⟨vs, d1, d2⟩ := hc.values
     have d3 := d1.take t1.size
     have d4 := d1.drop t1.size
     rw [hd, VRs] at d4
     obtain ⟨v, vc, e1, d5, d6⟩ := d4
     have d7 := nC t1 μ _ xa _ ha d3
     have d8 := aQM t2 μ _ xb vc hbb d6
     have d9 : VRs w G μ (enc t1 xa ++ .own (s + 1) t.size :: aOP t2 xb) (vs.take t1.size ++ v :: vc) := VRs.append d7.aZ (by rw [VRs]; exact ⟨v, vc, rfl, d5, d8.aZ⟩)
     rw [← e1, List.take_append_drop] at d9
     exact ⟨aN.iC d9 d2, by rw [d9.length, d1.length]⟩
    ·cases h
   ·cases h
  ·cases h
 ·cases h
theorem aFO {g : Tg} {b : Ty} {l' : List b.den} (h : tY g.t b g.l = some l') : g = ⟨b, l'⟩ := by
 obtain ⟨a, l⟩ := g
 unfold tY at h
 split at h
 ·rename_i e
  dsimp only at e
  subst e
  simp only [Option.some.injEq] at h
  rw [← h]
 ·cases h
theorem aEK (hW : aP n0 G μ H w) {e : TypeId} {t : Ty} {n : Nat} {l : List (List t.den)} (h : aKB e t H n = some l) : H[n]? = some (some ⟨aH (.rows t) l, e, false, false, some ⟨.rows t, l⟩⟩) := by
 unfold aKB at h
 split at h
 ·rename_i k hk
  split at h
  ·rename_i g hg
   split at h
   ·rename_i l' hc
    obtain ⟨hb, h⟩ := aI h
    simp only [Bool.and_eq_true, Bool.not_eq_true'] at hb
    simp only [Option.some.injEq] at h
    have hb3 := Nat.eq_of_beq_eq_true hb.1.1
    have ht := (hW.tags n k g (aL hk) hg).1
    have hge := aFO hc
    rw [hge] at hg ht
    rw [← h, aL hk]
    obtain ⟨k1, k2, k3, k4, k5⟩ := k
    dsimp only at ht hg hb hb3 ⊢
    rw [ht, hg, hb3, hb.1.2, hb.2]
   ·cases h
  ·cases h
 ·cases h
theorem FW {t : Ty} {p : PV} {x : t.den} {v : Value} (h : aCK t p = some x) (hv : VR w G μ p v) : VR w G aG (.iptr (enc t x)) v := by
 unfold aCK at h
 split at h
 ·rename_i cs
  rw [VR] at hv ⊢
  obtain ⟨b, off, h1, h2, h3⟩ := hv
  obtain ⟨vs, d1, d2⟩ := h3.values
  exact ⟨b, off, h1, h2, aN.iC (nC t aG cs x vs h d1) d2⟩
 ·cases h
theorem VV : ∀ (ts : List Ty) {ps : List PV} {x : tI ts} {vs : List Value}, aQ1 ts ps = some x → VRs w G μ ps vs → VRs w G aG (EZ ts x) vs
 | [], [], x, vs, h, hv => by rw [VRs] at hv; simp only [EZ]; rw [VRs]; exact hv
 | [], _ :: _, x, vs, h, hv => by cases h
 | _ :: _, [], x, vs, h, hv => by cases h
 | t :: r, p :: ps, x, vs, h, hv => by
  simp only [aQ1] at h
  split at h
  ·rename_i y hy
   split at h
   ·rename_i ys hys
    simp only [Option.some.injEq] at h
    subst h
    rw [VRs] at hv
    obtain ⟨u, us, h1, h2, h3⟩ := hv
    simp only [EZ]
    rw [VRs]
    exact ⟨u, us, h1, FW hy h2, VV r hys h3⟩
   ·cases h
  ·cases h
theorem NV {p : PV} {x : Unit} (h : aJG p = some x) : p = .lit (.slice none 0 0) := by
 unfold aJG at h
 split at h
 ·rename_i o c
  cases hb : (Nat.beq o 0 && Nat.beq c 0) with
  | false => rw [hb] at h; cases h
  | true =>
   simp only [Bool.and_eq_true] at hb
   rw [Nat.eq_of_beq_eq_true hb.1, Nat.eq_of_beq_eq_true hb.2]
 ·cases h
theorem TM {j : Nat} {p : PV} {x : Unit} (h : aNK j p = some x) : p = .mp j := by
 unfold aNK at h
 split at h
 ·rename_i i
  rw [Nat.eq_of_beq_eq_true (aI h).1]
 ·cases h
theorem JY {g : FuncId} {p : PV} {x : Unit} (h : aJ4 g p = some x) : p = .lit (.func (.func g) #[] #[]) := by
 unfold aJ4 at h
 split at h
 ·rename_i f first caps
  replace h := (aI h).1
  simp only [Bool.and_eq_true] at h
  have h1 := Nat.eq_of_beq_eq_true h.1.1
  have h2 := Array.eq_empty_of_size_eq_zero (Nat.eq_of_beq_eq_true h.1.2)
  have h3 := Array.eq_empty_of_size_eq_zero (Nat.eq_of_beq_eq_true h.2)
  rw [h1, h2, h3]
 ·cases h
theorem E6 {g : FuncId} {ts : List Ty} {p : PV} {x : tI ts} {v : Value} (h : aDO g ts p = some x) (hv : VR w G μ p v) : VR w G aG (.clo (.func g) [] (EZ ts x)) v := by
 unfold aDO at h
 split at h
 ·rename_i f caps
  have h1 := Nat.eq_of_beq_eq_true (aI h).1
  have h2 := (aI h).2
  subst h1
  rw [VR] at hv ⊢
  obtain ⟨fs, cs, e1, e2, e3⟩ := hv
  exact ⟨fs, cs, e1, by rw [VRs] at e2 ⊢; exact e2, VV ts h2 e3⟩
 ·cases h
theorem NI {j sz : Nat} {p : PV} {x : Nat × Nat} (h : aJI j sz p = some x) : p = .win j x.1 x.2 sz := by
 unfold aJI at h
 split at h
 ·replace h := aI h
  obtain ⟨hb, h⟩ := h
  simp only [Bool.and_eq_true] at hb
  have h1 := Nat.eq_of_beq_eq_true hb.1
  have h2 := Nat.eq_of_beq_eq_true hb.2
  simp only [Option.some.injEq] at h
  rw [← h, h1, h2]
 ·cases h
theorem aIG (hW : aP n0 G μ H w) : ∀ (k : Kd) {p : PV} {n : Nat} {x : k.den} {v : Value}, UQ k p H n = some x → VR w G μ p v → VR w G μ (nX k x n) v ∧ ∀ i : Nat, i < k.pos → aJH H[n + i]? (aU6 k x n)[i]?
 | .int k, p, n, x, v, h, hv => by
  have := JQ h
  simp only [List.cons.injEq, and_true] at this
  subst this
  exact ⟨hv, fun i hi => absurd hi (Nat.not_lt_zero _)⟩
 | .bool, p, n, x, v, h, hv => by
  have := EM h
  simp only [List.cons.injEq, and_true] at this
  subst this
  exact ⟨hv, fun i hi => absurd hi (Nat.not_lt_zero _)⟩
 | .str, p, n, x, v, h, hv => by
  have := I9 h
  simp only [List.cons.injEq, and_true] at this
  subst this
  exact ⟨hv, fun i hi => absurd hi (Nat.not_lt_zero _)⟩
 | .list t, p, n, x, v, h, hv => by
  have := nC (.list t) μ [p] x [v] h (by rw [VRs]; exact ⟨v, [], rfl, hv, by rw [VRs]⟩)
  refine ⟨?_, fun i hi => absurd hi (Nat.not_lt_zero _)⟩
  simp only [enc] at this
  rw [VRs] at this
  obtain ⟨y, ys, h1, h2, _⟩ := this
  cases h1
  exact h2.aZ
 | .agg t, p, n, x, v, h, hv => by
  refine ⟨?_, fun i hi => absurd hi (Nat.not_lt_zero _)⟩
  simp only [UQ] at h
  unfold aH0 at h
  split at h
  ·rename_i cs
   rw [VR] at hv
   obtain ⟨vs, rfl, h2⟩ := hv
   simp only [nX]
   rw [VR]
   exact ⟨vs, rfl, (nC t μ cs x vs.toList h h2).aZ⟩
  ·cases h
 | .own e t, p, n, x, v, h, hv => by
  obtain ⟨rfl, h2⟩ := pU hW h
  refine ⟨hv, fun i hi => ?_⟩
  simp only [Kd.pos] at hi
  have : i = 0 := by omega
  subst this
  simp only [Nat.add_zero, h2]
  exact .inl rfl
 | .box e t, p, n, x, v, h, hv => by
  obtain ⟨rfl, h2⟩ := aCJ h
  refine ⟨hv, fun i hi => ?_⟩
  simp only [Kd.pos] at hi
  have : i = 0 := by omega
  subst this
  exact h2
 | .ptr t, p, n, x, v, h, hv => ⟨(FW h hv).aZ, fun i hi => absurd hi (Nat.not_lt_zero _)⟩
 | .fn g, p, n, x, v, h, hv => by
  have := JY h
  subst this
  exact ⟨hv, fun i hi => absurd hi (Nat.not_lt_zero _)⟩
 | .mpk j, p, n, x, v, h, hv => by
  have := TM h
  subst this
  exact ⟨hv, fun i hi => absurd hi (Nat.not_lt_zero _)⟩
 | .nil0, p, n, x, v, h, hv => by
  have := NV h
  subst this
  exact ⟨hv, fun i hi => absurd hi (Nat.not_lt_zero _)⟩
 | .val, p, n, x, v, h, hv => by
  have := PX (p := p) (x := x) h
  subst this
  exact ⟨hv, fun i hi => absurd hi (Nat.not_lt_zero _)⟩
 | .nilI, p, n, x, v, h, hv => by
  have := K5 (p := p) (x := x) h
  subst this
  exact ⟨hv, fun i hi => absurd hi (Nat.not_lt_zero _)⟩
 | .clo g ts, p, n, x, v, h, hv => ⟨(E6 h hv).aZ, fun i hi => absurd hi (Nat.not_lt_zero _)⟩
 | .win j sz, p, n, x, v, h, hv => by
  have := NI h
  subst this
  exact ⟨hv, fun i hi => absurd hi (Nat.not_lt_zero _)⟩
 | .bown e et t, p, n, x, v, h, hv => by
  obtain ⟨rfl, h2, h3⟩ := ZG hW h
  refine ⟨hv, fun i hi => ?_⟩
  simp only [Kd.pos] at hi
  rcases (show i = 0 ∨ i = 1 by omega) with rfl | rfl
  ·simp only [Nat.add_zero, h2]
   exact .inl rfl
  ·simp only [h3]
   exact .inl rfl
 | .bag e t1 et t t2, p, n, x, v, h, hv => by
  obtain ⟨rfl, h2, h3⟩ := aDM hW h
  refine ⟨hv, fun i hi => ?_⟩
  simp only [Kd.pos] at hi
  rcases (show i = 0 ∨ i = 1 by omega) with rfl | rfl
  ·exact h2
  ·simp only [h3]
   exact .inl rfl
 | .hnd sz, p, n, x, v, h, hv => by
  refine ⟨?_, fun i hi => absurd hi (Nat.not_lt_zero _)⟩
  have := QO (μ := μ) (vs := [v]) h (by rw [VRs]; exact ⟨v, [], rfl, hv, by rw [VRs]⟩)
  rw [VRs] at this
  obtain ⟨y, ys, h1, h2, _⟩ := this
  cases h1
  exact h2.aZ
 | .ar e t, p, n, x, v, h, hv => by
  have h2 := aEK hW h
  refine ⟨by simp only [nX]; rw [VR]; trivial, fun i hi => ?_⟩
  simp only [Kd.pos] at hi
  have : i = 0 := by omega
  subst this
  simp only [Nat.add_zero, h2]
  exact .inl rfl
theorem B1 : ∀ (k : Kd) (x : k.den) (n : Nat), (aU6 k x n).length = k.pos
 | .int _, _, _ | .bool, _, _ | .str, _, _ | .list _, _, _ | .agg _, _, _ | .ptr _, _, _ | .fn _, _, _ | .nil0, _, _ | .val, _, _ | .nilI, _, _ | .clo _ _, _, _ | .win _ _, _, _ | .hnd _, _, _ | .mpk _, _, _ => rfl
 | .ar _ _, _, _ => rfl
 | .own _ _, _, _ => rfl
 | .box _ _, _, _ => rfl
 | .bown _ _ _, _, _ => rfl
 | .bag _ _ _ _ _, _, _ => rfl
theorem P5 : ∀ (sh : List (Nat × Kd)) (x : Shape.den sh) (n : Nat), (aAX sh x n).length = Z6 sh
 | [], _, _ => rfl
 | (_, k) :: r, (x, xs), n => by simp only [aAX, List.length_append, B1, P5 r xs, Z6]
theorem TY (sh : List (Nat × Kd)) (x : Shape.den sh) : (uC sh x).length = Z6 sh := P5 sh x 0
theorem L5 (hW : aP n0 G μ H w) (hF : ∀ t, VR w G μ (bV F t) (a.tmps.getD t undef)) : ∀ (sh : List (Nat × Kd)) {n : Nat} {x : Shape.den sh}, aNZ sh F H n = some x → (∀ t, VR w G μ (bV (mV sh x n) t) (a.tmps.getD t undef)) ∧ ∀ i : Nat, i < Z6 sh → aJH H[n + i]? (aAX sh x n)[i]?
 | [], n, x, h => ⟨fun t => by simp only [mV, bV]; rw [VR]; trivial, fun i hi => absurd hi (Nat.not_lt_zero _)⟩
 | (t, k) :: r, n, x, h => by
  simp only [aNZ] at h
  split at h
  ·rename_i y hy
   split at h
   ·rename_i ys hys
    simp only [Option.some.injEq] at h
    subst h
    obtain ⟨h1, h2⟩ := aIG hW k hy (hF t)
    obtain ⟨h3, h4⟩ := L5 hW hF r hys
    refine ⟨fun s => ?_, fun i hi => ?_⟩
    ·simp only [mV]
     rw [dD]
     by_cases hs : s = t
     ·subst hs; rw [if_pos rfl]; exact h1
     ·rw [if_neg hs]; exact h3 s
    ·simp only [aAX]
     rcases Nat.lt_or_ge i k.pos with hl | hl
     ·rw [List.getElem?_append_left (by rw [B1]; exact hl)]
      exact h2 i hl
     ·rw [List.getElem?_append_right (by rw [B1]; exact hl), B1]
      have := h4 (i - k.pos) (by simp only [Z6] at hi; omega)
      have e1 : n + k.pos + (i - k.pos) = n + i := by omega
      rwa [e1] at this
   ·cases h
  ·cases h
theorem p8 : ∀ (sh : List (Nat × Kd)) (F : Frm) (H : Heap), I n0 wi Gi μi nt F H a w → I n0 wi Gi μi nt (pC sh F H).1 (pC sh F H).2 a w
 | [], F, H, hI => hI
 | (t, k0) :: r, F, H, hI => by
  have skip : I n0 wi Gi μi nt (pC r F H).1 (pC r F H).2 a w := p8 r F H hI
  unfold pC
  split
  ·exact hI
  ·rename_i heq
   cases heq
   split
   ·rename_i s sz ht
    split
    ·rename_i k hk
     split
     ·rename_i g hg
      obtain ⟨G, μ, e, hW, hF⟩ := hI
      have hv := hF.slot t
      rw [ht] at hv
      cases hfz : k.frozen with
      | true =>
       simp only [cond_true]
       refine p8 r _ _ ⟨G, μ, e, hW, hF.named ?_⟩
       exact (AK hW hv hk hg (fun b h => h) (fun b hb => by
        obtain ⟨_, _, _, _, h5, _⟩ := hW.blk s k b (aL hk) hb
        exact h5 hfz)).aZ
      | false =>
       simp only [cond_false]
       obtain ⟨e1, w1⟩ := I4 hW (aL hk) hfz
       refine p8 r _ _ ⟨_, μ, e.trans e1, w1, (hF.mono e1.toMono).named ?_⟩
       exact (AK (G' := G.or fun x => μ.loc s = some x) hW hv hk hg (fun b h => .inl h) (fun b hb => .inr hb)).aZ
     ·exact skip
    ·exact skip
   ·exact skip
  ·rename_i heq
   cases heq
   split
   ·rename_i s sz2 ht
    cases hsz : Nat.beq sz2 _ with
    | true =>
     simp only [cond_true]
     have hsz := Nat.eq_of_beq_eq_true hsz
     subst hsz
     split
     ·rename_i q H1 hA
      obtain ⟨G, μ, e, hW, hF⟩ := hI
      have hv := hF.slot t
      rw [ht] at hv
      obtain ⟨G', μ', e1, w1, v1⟩ := PA hW hA hv
      exact p8 r _ _ ⟨G', μ', e.trans e1, w1, (hF.mono e1.toMono).named v1.aZ⟩
     ·exact skip
    | false => exact skip
   ·exact skip
  ·rename_i heq
   cases heq
   exact skip
theorem qZ {sh : List (Nat × Kd)} {x : Shape.den sh} (h : B0 sh F H = some x) (hfl : ∀ r, μi.loc r = none ∧ μi.len r = none) (hI : I n0 wi Gi μi nt F H a w) : I n0 wi Gi μi nt (mV sh x 0) (uC sh x) a w := by
 unfold B0 at h
 replace hI := p8 sh F H hI
 split at h
 rename_i F1 H1 hd
 rw [hd] at hI
 split at h
 ·rename_i F' H' ht
  obtain ⟨hb, h⟩ := aI h
  obtain ⟨⟨G, μ, e, hW, hF⟩, _⟩ := aIH ht (fun r _ => hfl r) hI
  obtain ⟨h1, h2⟩ := L5 hW hF.slot sh h
  have hH : ∀ i : Nat, aJH H'[i]? (uC sh x)[i]? := by
   intro i
   rcases Nat.lt_or_ge i (Z6 sh) with hl | hl
   ·have := h2 i hl
    rwa [Nat.zero_add] at this
   ·have e1 := Nat.eq_of_beq_eq_true hb
    exact .inl (by rw [List.getElem?_eq_none (by omega), List.getElem?_eq_none (by rw [TY]; omega)])
  exact ⟨G, μ, e, hW.aJS hH, hF.size, h1, hF.defers⟩
 ·cases h
end
end Go.PM
set_option linter.unusedSimpArgs false
set_option linter.unusedVariables false
namespace Go.PM
open Go Go.RowKit
def ask {α : Type} (b : Bool) (k : Bool → Option α) : Option α := bif b then k true else k false
def JO {α : Type} : List Bool → Option α → Option α
 | [], r => r
 | b :: l, r => bif b then JO l r else none
def aB {τ α : Type} (x : Option τ) (k : τ → Option α) : Option α := match x with
 | some x => k x
 | none => none
def jE {β γ α : Type} (z : β ⊕ γ) (f : β → Option α) (g : γ → Option α) : Option α := match z with
 | .inl a => f a
 | .inr b => g b

structure Res where
 τ : Type
 val : Option τ
 out : τ → PV
structure aGO where
 τ : Type
 val : Option τ
 out : τ → PV × Heap
structure Env where
 pure : FuncId → List PV → Option Res
 shr : FuncId → List PV → Heap → Option aGO
 sh : FuncId → Bool
def XJ (E : Env) (g : FuncId) (args : List PV) : Option PV := match E.pure g args with
 | some r => match r.val with
  | some x => some (r.out x)
  | none => none
 | none => none
def XG (E : Env) (g : FuncId) (args : List PV) (H : Heap) : Option (PV × Heap) := match E.shr g args H with
 | some r => match r.val with
  | some x => some (r.out x)
  | none => none
 | none => none
def cR (P : Program) (E : Env) : Callee := callee P E.sh (XJ E) (XG E)

section
variable {α : Type} (P : Program) (E : Env)
def aQ4 (g : FuncId) (args : List PV) (H : Heap) (k : PV → Heap → Nat → Option α) : Option α :=
 bif E.sh g then match E.shr g args H with
  | some r => aB r.val fun x => k (r.out x).1 (r.out x).2 2
  | none => none
 else bif b8.noRefs args then bif cK.noRows args then match E.pure g args with
  | some r => aB r.val fun x => k (r.out x) H 0
  | none => none
  else none
 else bif RO P g then match FR (fun p => inl false H depth p) args with
  | some qs => bif cK.noRows qs then match E.pure g qs with
   | some r => aB r.val fun x => bif flat (r.out x) then k (r.out x) H 1 else none
   | none => none
   else none
  | none => none
 else match yN H (args.flatMap (fun p => reach H depth p)) with
  | H1 => match FR (fun p => inl true H1 depth p) args with
   | some qs => bif cK.noRows qs then match E.pure g qs with
    | some r => aB r.val fun x => k (r.out x) H1 2
    | none => none
    else none
   | none => none
def aNJ : Frm → Nat → Bool → Frm
 | [], _, _ => []
 | (s, p) :: r, t, b => bif Nat.beq s t then (s, .lit (.bool b)) :: r else (s, p) :: aNJ r t b
def aIY (F : Frm) (x : Operand) (b : Bool) (k : Frm → Bool → Option α) : Option α := match x with
 | .tmp t => ask b fun b => k (aNJ F t b) b
 | _ => ask b fun b => k F b
def aC0 (F : Frm) (l : List Oper) (o : Oper) (k : Frm → Bool → Option α) : Option α :=
 match o.guard with
 | none => k F true
 | some (j, want) => match l[j]? with
  | some p => match p.dst with
   | some t => match bV F t with
    | .lit (.bool b) => ask b fun b => k (aNJ F t b) (bif b then want else !want)
    | .lit _ => k F false
    | _ => none
   | none => none
  | none => none
def aWQ (op : BinOp) (k1 : IntKind) (a b : Int) (k : Value → Option α) : Option α := match op with
 | .quo => bif eqI b 0 then none else k (.int k1 (aK k1 (a.tdiv b)))
 | .rem => bif eqI b 0 then none else k (.int k1 (a.tmod b))
 | op => match aEZ op k1 a b with
  | some v => k v
  | none => none
def isX : BinOp → Bool
 | .add | .sub | .mul | .quo | .rem | .eql | .neq | .lss | .leq | .gtr | .geq => true
 | _ => false
def aC4 : BinOp → Bool
 | .shl | .shr => true
 | _ => false
def aH3 (op : BinOp) (k : IntKind) (x y : Int) : Option Value := match op with
 | .shl => some (.int k (k.wrap (x * 2 ^ (min y.toNat k.bits))))
 | .shr => some (.int k (x.fdiv (2 ^ (min y.toNat k.bits))))
 | _ => none
def MR (F : Frm) (H : Heap) (o : Oper) (k : Frm → PV → Heap → Nat → Option α) : Option α := match opu P (cR P E) F H o with
 | some (v, H', c) => k F v H' c
 | none => none
def aOV (F : Frm) (x : Operand) (k : Frm → Option α) : Option α := match ev F x with
 | .lit (.bool b) => aIY F x b fun F _ => k F
 | _ => k F
def aB7 : List Operand → Frm → (Frm → Option α) → Option α
 | [], F, k => k F
 | x :: r, F, k => aOV F x fun F => aB7 r F k
def opK (F : Frm) (H : Heap) (o : Oper) (k : Frm → PV → Heap → Nat → Option α) : Option α :=
 bif typed P F o then match top P F H o with
  | some (cs, v, H', c) => JO cs (k F v H' c)
  | none => none
 else match o.op with
  | .binOp op _ x y _ => match ev F x, ev F y with
   | .lit (.int k1 a), .lit (.int k2 b) => bif aC4 op then (bif ltI b 0 then none else match aH3 op k1 a b with
     | some v => k F (.lit v) H 0
     | none => none)
    else bif wX k1 k2 && isX op then aWQ op k1 a b fun v => k F (.lit v) H 0 else MR P E F H o k
   | _, _ => aB7 [x, y] F fun F => MR P E F H o k
  | .unOp .. => aB7 o.op.operands.toList F fun F => MR P E F H o k
  | .pick c a b => match ev F c with
   | .lit (.bool t) => aIY F c t fun F t => k F (bif t then ev F a else ev F b) H 0
   | _ => none
  | .call c => match c.callee with
   | .value f => match ev F f with
    | .lit (.func (.func g) first caps) => aQ4 P E g (lits first ++ c.args.toList.map (ev F) ++ lits caps) H (k F)
    | .clo (.func g) first caps => aQ4 P E g (first ++ c.args.toList.map (ev F) ++ caps) H (k F)
    | _ => none
   | _ => MR P E F H o k
  | _ => MR P E F H o k
def SO : Nat → Nat → Int → (Int → Option α) → Option α
 | 0, _, _, _ => none
 | n + 1, j, v, f => bif eqI v (j : Int) then f j else SO n (j + 1) v f
def aWH (t : TypeId) : Option Nat := match P.underlying t with
 | some (.array n _) => some n
 | _ => none
def aW1 : PV → Bool
 | .hptr _ _ | .iptr _ => true
 | _ => false
def aYA : PV → Bool
 | .agg _ => true
 | _ => false
def xIdx (H : Heap) (t : TypeId) (p : PV) (i : Int) : Option (PV × Heap × Nat) := match p, P.underlying t with
 | .agg cs, some (.array n e) => match iP P e with
  | some sz => bif bD i n then p0 H (pH P e (cs.drop (i.toNat * sz))) else none
  | none => none
 | _, _ => none
def aUY (l : List Oper) (F : Frm) (H : Heap) (o : Oper) (k : Frm → PV → Heap → Nat → Option α) : Option α := match o.op with
 | .makeSlice t n c => bif VT l o.dst then (match DX P H t (ev F n) (ev F c) with
   | some (cs, v, H', c') => JO cs (k F v H' c')
   | none => none) else opK P E F H o k
 | .indexAddr t x i => match aWH P t, ev F i with
  | some n, .lit (.int _ v) => bif ZT (ev F x) then SO n 0 v (fun j => match j9 P H t (ev F x) j with
    | some (cs, p, H', c) => JO cs (k F p H' c)
    | none => none) else bif aW1 (ev F x) then SO n 0 v (fun j => match p0 H (F9 P t (ev F x) j) with
    | some (p, H', c) => k F p H' c
    | none => none) else opK P E F H o k
  | _, _ => opK P E F H o k
 | .index t x i => match aWH P t, ev F i with
  | some n, .lit (.int _ v) => bif aYA (ev F x) then SO n 0 v (fun j => match xIdx P H t (ev F x) j with
    | some (p, H', c) => k F p H' c
    | none => none) else opK P E F H o k
  | _, _ => opK P E F H o k
 | .slice t x lo hi none => match ev F x with
  | .own r sz => match aBW H r, P.underlying t with
   | some g, some (.slice e) => bif W5 g.t then (match iP P e with
    | some n => bif Nat.beq n sz then ask (Nat.beq g.l.length 0) fun z => (match U9 g H r sz (lo.map (ev F)) (hi.map (ev F)) z with
      | some (cs, v, H', c) => JO cs (k F v H' c)
      | none => none) else none
    | none => none) else opK P E F H o k
   | _, _ => opK P E F H o k
  | _ => opK P E F H o k
 | _ => opK P E F H o k
def aGR (l : List Oper) (o : Oper) (F : Frm) (H : Heap) (k : Frm → PV → Heap → Nat → Option α) : Option α :=
 aC0 F l o fun F b => bif b then (match mkData P F l o with
  | none => aUY P E l F H o k
  | some none => none
  | some (some (cs, v)) => JO cs (k F v H 0)) else k F (.lit undef) H 0
def yC (nt : Nat) (l : List Oper) : List Oper → Frm → Heap → (Frm → Heap → Option α) → Option α
 | [], F, H, k => k F H
 | o :: rest, F, H, k => aGR P E l o F H fun F v H' _ => match DM nt F o.dst v with
  | some F' => yC nt l rest F' H' k
  | none => none
def stK (nt : Nat) (m : Option Nat) (ms : List Nat) (l : List Oper) : List Oper → Nat → Frm → Heap → VO → (Frm → Heap → VO → Option α) → Option α
 | [], _, F, H, hl, k => k F H hl
 | o :: rest, j, F, H, hl, k => match wI m o j with
  | none => aGR P E l o F H fun F v H' c => bif okT m (ms.getD j 0) j (aF5 F o) c v H' then (match DM nt F o.dst v with
   | some F' => stK nt m ms l rest (j + 1) F' H' (bif Nat.beq c 0 then hl else (j, c, aF5 F o) :: hl) k
   | none => none) else none
  | some q => bif QA o then (bif b8.noRefs (o.op.operands.toList.map (ev F)) && cK.noRows (o.op.operands.toList.map (ev F)) then aGR P E l o F [] fun F v X _ => match aAC q v X H with
    | some (v, H', c) => bif okT m (ms.getD j 0) j (some q) c v H' then (match DM nt F o.dst v with
     | some F' => stK nt m ms l rest (j + 1) F' H' (bif Nat.beq c 0 then hl else (j, c, some q) :: hl) k
     | none => none) else none
    | none => none else none)
   else match stepT (some q) P (cR P E) l o F H with
   | some (v, H', c) => bif okT m (ms.getD j 0) j (some q) c v H' then (match DM nt F o.dst v with
    | some F' => stK nt m ms l rest (j + 1) F' H' ((j, 2, some q) :: hl) k
    | none => none) else none
   | none => none
def rL (nt : Nat) (ops : Array Oper) (draw : Bool) (F : Frm) (H : Heap) (k : Frm → Heap → Option α) : Option α :=
 bif draw then (bif JT ops && aB6 (FQ ops H) F H then stK P E nt (FQ ops H) (fH ops) ops.toList ops.toList 0 F (aHJ (FQ ops H) ops.toList.length H) [] fun F H hl => bif LV (fH ops) hl then k F H else none else none)
 else yC P E nt ops.toList ops.toList F H k
end
section
variable {α : Type} {P : Program} {E : Env} {z : α}
theorem PL {b : Bool} {k : Bool → Option α} (h : ask b k = some z) : k b = some z := by cases b <;> exact h
theorem r4 : ∀ {l : List Bool} {r : Option α}, JO l r = some z → sT l = true ∧ r = some z
 | [], r, h => ⟨rfl, h⟩
 | b :: l, r, h => by
  simp only [JO] at h
  obtain ⟨rfl, h⟩ := aI h
  exact r4 (l := l) h
theorem lX {τ : Type} {x : Option τ} {k : τ → Option α} (h : aB x k = some z) : ∃ y, x = some y ∧ k y = some z := by
 cases x with
 | none => cases h
 | some y => exact ⟨y, rfl, h⟩
theorem aAN {g : FuncId} {args : List PV} {H : Heap} {k : PV → Heap → Nat → Option α} (h : aQ4 P E g args H k = some z) : ∃ v H' c, cR P E g args H = some (v, H', c) ∧ k v H' c = some z := by
 unfold aQ4 at h
 unfold cR callee
 cases hsh : E.sh g with
 | true =>
  rw [hsh] at h
  simp only [cond_true] at h ⊢
  split at h
  ·rename_i r hr
   obtain ⟨x, h1, h2⟩ := lX h
   exact ⟨_, _, _, by simp only [XG, hr, h1], h2⟩
  ·cases h
 | false =>
  rw [hsh] at h
  simp only [cond_false] at h ⊢
  cases hn : b8.noRefs args with
  | true =>
   rw [hn] at h
   simp only [cond_true] at h ⊢
   obtain ⟨hnr, h⟩ := aI h
   split at h
   ·rename_i r hr
    obtain ⟨x, h1, h2⟩ := lX h
    exact ⟨_, _, _, by simp only [hnr, cond_true, XJ, hr, h1], h2⟩
   ·cases h
  | false =>
   rw [hn] at h
   simp only [cond_false] at h ⊢
   cases hf : RO P g with
   | true =>
    rw [hf] at h
    simp only [cond_true] at h ⊢
    split at h
    ·rename_i qs hq
     obtain ⟨hnr, h⟩ := aI h
     split at h
     ·rename_i r hr
      obtain ⟨x, h1, h2⟩ := lX h
      obtain ⟨h3, h2⟩ := aI h2
      exact ⟨_, _, _, by simp only [hq, hnr, XJ, hr, h1, h3, cond_true], h2⟩
     ·cases h
    ·cases h
   | false =>
    rw [hf] at h
    simp only [cond_false] at h ⊢
    split at h
    ·rename_i qs hq
     obtain ⟨hnr, h⟩ := aI h
     split at h
     ·rename_i r hr
      obtain ⟨x, h1, h2⟩ := lX h
      exact ⟨_, _, _, by simp only [hq, hnr, cond_true, XJ, hr, h1], h2⟩
     ·cases h
    ·cases h
theorem aDV {t : Nat} {b : Bool} : ∀ {F : Frm}, bV F t = .lit (.bool b) → aNJ F t b = F
 | [], _ => rfl
 | (s, p) :: r, h => by
  simp only [bV] at h
  simp only [aNJ]
  cases hs : Nat.beq s t with
  | true => rw [hs] at h; simp only [cond_true] at h ⊢; rw [h]
  | false => rw [hs] at h; simp only [cond_false] at h ⊢; rw [aDV h]
theorem DE {F : Frm} {x : Operand} {b : Bool} {k : Frm → Bool → Option α} (h : aIY F x b k = some z) (hx : ev F x = .lit (.bool b)) : k F b = some z := by
 unfold aIY at h
 split at h
 ·have := PL h
  rwa [aDV (by simpa only [ev] using hx)] at this
 ·exact PL h
theorem SV {F : Frm} {l : List Oper} {o : Oper} {k : Frm → Bool → Option α} (h : aC0 F l o k = some z) : ∃ b, guardOf F l o = some b ∧ k F b = some z := by
 unfold aC0 at h
 unfold guardOf
 cases hg : o.guard with
 | none => rw [hg] at h; exact ⟨true, rfl, h⟩
 | some g =>
  obtain ⟨j, want⟩ := g
  rw [hg] at h
  simp only at h ⊢
  cases hp : l[j]? with
  | none => rw [hp] at h; cases h
  | some p =>
   rw [hp] at h
   simp only at h ⊢
   cases ht : p.dst with
   | none => rw [ht] at h; cases h
   | some t =>
    rw [ht] at h
    simp only at h ⊢
    split at h
    ·rename_i b hb
     have := PL h
     rw [aDV hb] at this
     exact ⟨_, by rw [hb], this⟩
    ·rename_i u hu hb
     refine ⟨false, ?_, h⟩
     rw [hb]
     cases u <;> first | rfl | exact absurd rfl (hu _)
    ·cases h
theorem aLG {op : BinOp} {k1 : IntKind} {a b : Int} {k : Value → Option α} (h : aWQ op k1 a b k = some z) : ∃ v, aEZ op k1 a b = some v ∧ k v = some z := by
 unfold aWQ at h
 split at h
 ·cases hb : eqI b 0 with
  | true => rw [hb] at h; cases h
  | false => rw [hb] at h; exact ⟨_, by simp only [aEZ, hb, cond_false], h⟩
 ·cases hb : eqI b 0 with
  | true => rw [hb] at h; cases h
  | false => rw [hb] at h; exact ⟨_, by simp only [aEZ, hb, cond_false], h⟩
 ·split at h
  ·rename_i v hv; exact ⟨v, hv, h⟩
  ·cases h
theorem vN {F : Frm} {H : Heap} {o : Oper} {k : Frm → PV → Heap → Nat → Option α} (h : MR P E F H o k = some z) : ∃ v H' c, opu P (cR P E) F H o = some (v, H', c) ∧ k F v H' c = some z := by
 unfold MR at h
 split at h
 ·rename_i v H' c hc; exact ⟨v, H', c, hc, h⟩
 ·cases h
theorem aFB {F : Frm} {o : Oper} {op : BinOp} {xt yt : TypeId} {x y : Operand} {k1 k2 : IntKind} {a b : Int} {v : Value} (ho : o.op = .binOp op xt x y yt) (hx : ev F x = .lit (.int k1 a)) (hy : ev F y = .lit (.int k2 b)) (hb : ltI b 0 = false) (hv : aH3 op k1 a b = some v) : iQ P F o = some (.lit v) := by
 have hb : ¬ b < 0 := by rw [bA] at hb; exact of_decide_eq_false hb
 have h1 : valOf F x = .int k1 a := by simp [valOf, hx, TJ]
 have h2 : valOf F y = .int k2 b := by simp [valOf, hy, TJ]
 have h3 : CS F o.op.operands.toList = true := by simp [ho, Op.operands, CS, hx, hy, TJ]
 have h4 : zO o.op = false := by simp [ho, zO]
 unfold iQ
 rw [h3, h4]
 simp only [Bool.not_true, Bool.or_self, cond_false]
 cases op <;> simp only [aH3] at hv <;> try (cases hv; done)
 all_goals
  simp only [Option.some.injEq] at hv
  subst hv
  simp [execOp, ho, h1, h2, eqGuard, binOp, Op.shift, hb, zM, PZ]
  try rfl
theorem aHN {F : Frm} {x : Operand} {k : Frm → Option α} (h : aOV F x k = some z) : k F = some z := by
 unfold aOV at h
 split at h
 ·rename_i b hb; exact DE h hb
 ·exact h
theorem JA : ∀ {l : List Operand} {F : Frm} {k : Frm → Option α}, aB7 l F k = some z → k F = some z
 | [], F, k, h => h
 | x :: r, F, k, h => JA (l := r) (aHN h)
theorem JN {F : Frm} {H : Heap} {o : Oper} {k : Frm → PV → Heap → Nat → Option α} (h : opK P E F H o k = some z) : ∃ v H' c, opx P (cR P E) F H o = some (v, H', c) ∧ k F v H' c = some z := by
 unfold opK at h
 unfold opx
 cases ht : typed P F o with
 | true =>
  rw [ht] at h
  simp only [cond_true] at h ⊢
  split at h
  ·rename_i cs v H' c hc
   obtain ⟨h1, h2⟩ := r4 h
   exact ⟨v, H', c, by simp only [hc, h1, cond_true], h2⟩
  ·cases h
 | false =>
  rw [ht] at h
  simp only [cond_false] at h ⊢
  split at h
  ·rename_i op xt x y yt ho
   split at h
   ·rename_i k1 a k2 b hx hy
    cases hsh : aC4 op with
    | true =>
     rw [hsh] at h
     simp only [cond_true] at h
     cases hb : ltI b 0 with
     | true => rw [hb] at h; cases h
     | false =>
      rw [hb] at h
      simp only [cond_false] at h
      split at h
      ·rename_i v hv
       have hp := aFB (P := P) ho hx hy hb hv
       have hxb : aEZ op k1 a b = none := by cases op <;> simp only [aC4] at hsh <;> first | rfl | (cases hsh; done)
       refine ⟨_, _, _, ?_, h⟩
       simp only [opu, ho, hx, hy, hxb, hp, p0, Bool.cond_self]
      ·cases h
    | false =>
    rw [hsh] at h
    simp only [cond_false] at h
    cases hb : (wX k1 k2 && isX op) with
    | true =>
     rw [hb] at h
     simp only [cond_true] at h
     simp only [Bool.and_eq_true] at hb
     obtain ⟨v, h1, h2⟩ := aLG h
     exact ⟨_, _, _, by simp only [opu, ho, hx, hy, hb.1, cond_true, h1], h2⟩
    | false => rw [hb] at h; exact vN h
   ·exact vN (JA h)
  ·exact vN (JA h)
  ·rename_i c a b ho
   split at h
   ·rename_i t hc
    exact ⟨_, _, _, by simp only [opu, ho, hc], DE h hc⟩
   ·cases h
  ·rename_i c ho
   split at h
   ·rename_i f hc
    split at h
    ·rename_i g first caps hf
     obtain ⟨v, H', c', h1, h2⟩ := aAN h
     exact ⟨v, H', c', by simp only [opu, ho, hc, hf, h1], h2⟩
    ·rename_i g first caps hf
     obtain ⟨v, H', c', h1, h2⟩ := aAN h
     exact ⟨v, H', c', by simp only [opu, ho, hc, hf, h1], h2⟩
    ·cases h
   ·exact vN h
  ·exact vN h
theorem B9 {f : Int → Option α} {v : Int} : ∀ {n j : Nat}, SO n j v f = some z → f v = some z
 | 0, _, h => by cases h
 | n + 1, j, h => by
  unfold SO at h
  cases hb : eqI v (j : Int) with
  | true =>
   rw [hb] at h
   rw [hM, decide_eq_true_eq] at hb
   rw [hb]; exact h
  | false =>
   rw [hb] at h
   exact B9 h
theorem aR7 {p : PV} (h : aW1 p = true) : isT p = false := by cases p <;> first | rfl | cases h
theorem aKJ {l : List Oper} {F : Frm} {H : Heap} {o : Oper} {k : Frm → PV → Heap → Nat → Option α} (h : aUY P E l F H o k = some z) : ∃ v H' c, opz P (cR P E) l F H o = some (v, H', c) ∧ k F v H' c = some z := by
 unfold aUY at h
 split at h
 ·rename_i t n c ho
  cases hb : VT l o.dst with
  | false =>
   rw [hb] at h
   obtain ⟨v, H', c', h1, h2⟩ := JN h
   exact ⟨v, H', c', by simp only [opz, ho, hb, cond_false, h1], h2⟩
  | true =>
   rw [hb] at h
   simp only [cond_true] at h
   split at h
   ·rename_i cs v1 H1 k1 h1
    obtain ⟨h3, h4⟩ := r4 h
    exact ⟨_, _, _, by simp only [opz, ho, hb, cond_true, h1, h3], h4⟩
   ·cases h
 ·rename_i t x i ho
  have plain : opK P E F H o k = some z → ∃ v H' c, opz P (cR P E) l F H o = some (v, H', c) ∧ k F v H' c = some z := fun h => by
   obtain ⟨v, H', c', h1, h2⟩ := JN h
   exact ⟨v, H', c', by simp only [opz, ho, h1], h2⟩
  split at h
  ·rename_i n k1 v hn hv
   cases hb : ZT (ev F x) with
   | false =>
    rw [hb] at h
    simp only [cond_false] at h
    cases hb2 : aW1 (ev F x) with
    | false => rw [hb2] at h; exact plain h
    | true =>
     rw [hb2] at h
     simp only [cond_true] at h
     have h := B9 h
     split at h
     ·rename_i p H1 c1 h1
      refine ⟨_, _, _, ?_, h⟩
      have ht : typed P F o = false := by simp only [typed, ho, hb, aR7 hb2, Bool.or_false]
      simp only [opz, ho, opx, ht, cond_false, opu, hv, h1]
     ·cases h
   | true =>
    rw [hb] at h
    simp only [cond_true] at h
    have h := B9 h
    split at h
    ·rename_i cs p H1 c1 h1
     obtain ⟨h3, h4⟩ := r4 h
     refine ⟨_, _, _, ?_, h4⟩
     have ht : typed P F o = true := by simp only [typed, ho, hb, Bool.or_true]
     simp only [opz, ho, opx, ht, cond_true, top, hv, h1, h3]
    ·cases h
  ·exact plain h
 ·rename_i t x i ho
  have plain : opK P E F H o k = some z → ∃ v H' c, opz P (cR P E) l F H o = some (v, H', c) ∧ k F v H' c = some z := fun h => by
   obtain ⟨v, H', c', h1, h2⟩ := JN h
   exact ⟨v, H', c', by simp only [opz, ho, h1], h2⟩
  split at h
  ·rename_i n k1 v hn hv
   cases hb : aYA (ev F x) with
   | false => rw [hb] at h; exact plain h
   | true =>
    rw [hb] at h
    simp only [cond_true] at h
    have h := B9 h
    split at h
    ·rename_i p H1 c1 h1
     refine ⟨_, _, _, ?_, h⟩
     obtain ⟨cs, hcs⟩ : ∃ cs, ev F x = .agg cs := by
      revert hb
      cases ev F x <;> intro hb <;> first | exact ⟨_, rfl⟩ | cases hb
     have ht : typed P F o = false := by simp only [typed, ho, hcs, isS]
     simp only [opz, ho, opx, ht, cond_false, opu, hv, hcs]
     rw [hcs] at h1
     unfold aWH at hn
     split at hn
     ·rename_i n1 e1 hu
      unfold xIdx at h1
      simp only [hu] at h1 ⊢
      exact h1
     ·cases hn
    ·cases h
  ·exact plain h
 ·rename_i t x lo hi ho
  have plain : opK P E F H o k = some z → ∃ v H' c, opz P (cR P E) l F H o = some (v, H', c) ∧ k F v H' c = some z := fun h => by
   obtain ⟨v, H', c', h1, h2⟩ := JN h
   exact ⟨v, H', c', by simp only [opz, ho, h1], h2⟩
  split at h
  ·rename_i r sz hx
   split at h
   ·rename_i g e hg hu
    cases hb : W5 g.t with
    | false => rw [hb] at h; exact plain h
    | true =>
     rw [hb] at h
     simp only [cond_true] at h
     split at h
     ·rename_i n hn
      obtain ⟨hbn, h⟩ := aI h
      replace h := PL h
      split at h
      ·rename_i cs v H1 c1 h1
       obtain ⟨h3, h4⟩ := r4 h
       refine ⟨_, _, _, ?_, h4⟩
       have ht : typed P F o = true := by simp only [typed, ho, hx, isT, Bool.true_or]
       simp only [opz, ho, opx, ht, cond_true, top, hx, isS, cond_false, DA, hu, hn, hg, hbn, hb, Bool.true_and, h1, h3]
      ·cases h
     ·cases h
   ·exact plain h
  ·exact plain h
 ·rename_i hno hno2 hno3 hno4
  obtain ⟨v, H', c', h1, h2⟩ := JN h
  refine ⟨v, H', c', ?_, h2⟩
  unfold opz
  split
  ·rename_i t n c ho
   exact (hno t n c ho).elim
  ·exact h1
theorem NG {l : List Oper} {F : Frm} {H : Heap} {o : Oper} {k : Frm → PV → Heap → Nat → Option α} (h : aGR P E l o F H k = some z) : ∃ v H' c, lC P (cR P E) l o F H = some (v, H', c) ∧ k F v H' c = some z := by
 unfold aGR at h
 obtain ⟨b, h1, h2⟩ := SV h
 unfold lC
 cases b with
 | true =>
  simp only [h1]
  simp only [cond_true] at h2
  split at h2
  ·rename_i hm
   simp only [hm]
   exact aKJ h2
  ·cases h2
  ·rename_i cs v hm
   obtain ⟨h3, h4⟩ := r4 h2
   exact ⟨_, _, _, by simp only [hm, h3, cond_true], h4⟩
 | false => exact ⟨_, _, _, by simp only [h1], h2⟩
theorem nE {nt : Nat} {l : List Oper} {k : Frm → Heap → Option α} : ∀ {r : List Oper} {F : Frm} {H : Heap}, yC P E nt l r F H k = some z → ∃ F' H', C5 P (cR P E) nt l r F H = some (F', H') ∧ k F' H' = some z
 | [], F, H, h => ⟨F, H, rfl, h⟩
 | o :: r, F, H, h => by
  simp only [yC] at h
  obtain ⟨v, H1, c, h1, h2⟩ := NG h
  split at h2
  ·rename_i F1 hp
   obtain ⟨F', H', h3, h4⟩ := nE h2
   refine ⟨F', H', ?_, h4⟩
   simp only [C5, h1, MM, hp, tJ, Bool.cond_self, h3]
  ·cases h2
theorem ON {nt : Nat} {m : Option Nat} {ms : List Nat} {l : List Oper} {F0 : Frm} {H0 : Heap} {k : Frm → Heap → VO → Option α} : ∀ {r : List Oper} {j : Nat} {F : Frm} {H : Heap} {hl : VO}, stK P E nt m ms l r j F H hl k = some z → r = l.drop j → j ≤ l.length → KT P (cR P E) nt m ms l F0 H0 j = some (F, H, hl) → ∃ F' H' hl', KT P (cR P E) nt m ms l F0 H0 l.length = some (F', H', hl') ∧ k F' H' hl' = some z
 | [], j, F, H, hl, h, hr, hjl, hs => by
  have h1 : (l.drop j).length = 0 := by rw [← hr]; rfl
  rw [List.length_drop] at h1
  have h2 : j = l.length := by omega
  subst h2
  exact ⟨F, H, hl, hs, h⟩
 | o :: r, j, F, H, hl, h, hr, hjl, hs => by
  have hj : l[j]? = some o := by
   have : (l.drop j)[0]? = some o := by rw [← hr]; rfl
   simpa using this
  have hr' : r = l.drop (j + 1) := by
   have : (l.drop j).tail = r := by rw [← hr]; rfl
   rw [← this, List.tail_drop]
  simp only [stK] at h
  split at h
  ·rename_i hres
   obtain ⟨v, H1, c, h1, h2⟩ := NG h
   obtain ⟨hok, h2⟩ := aI h2
   split at h2
   ·rename_i F1 hp
    refine ON h2 hr' (List.getElem?_eq_some_iff.1 hj).1 ?_
    simp only [KT, hs, hj, hres, stepT, h1, hok, cond_true, MM, hp, tJ, OC]
    cases Nat.beq c 0 <;> rfl
   ·cases h2
  ·rename_i q hres
   cases hcall : QA o with
   | true =>
    rw [hcall] at h
    simp only [cond_true] at h
    obtain ⟨hnr, h⟩ := aI h
    obtain ⟨v0, X, c0, h1, h⟩ := NG h
    split at h
    ·rename_i v H1 c hct
     obtain ⟨hok, h2⟩ := aI h
     split at h2
     ·rename_i F1 hp
      refine ON h2 hr' (List.getElem?_eq_some_iff.1 hj).1 ?_
      have hop : ∃ cc, o.op = .call cc := by
       unfold QA at hcall
       split at hcall
       ·unfold SI at hcall
        split at hcall
        ·rename_i cc hcc; exact ⟨cc, hcc⟩
        ·cases hcall
       ·cases hcall
      obtain ⟨cc, hop⟩ := hop
      have hst : stepT (some q) P (cR P E) l o F H = some (v, H1, c) := by
       simp only [stepT, hop]
       rw [← hop, hnr, cond_true, h1]
       exact hct
      simp only [KT, hs, hj, hres, hst, hok, cond_true, MM, hp, tJ, OC]
      cases Nat.beq c 0 <;> rfl
     ·cases h2
    ·cases h
   | false =>
   rw [hcall] at h
   simp only [cond_false] at h
   split at h
   ·rename_i v H1 c h1
    obtain ⟨hok, h2⟩ := aI h
    split at h2
    ·rename_i F1 hp
     refine ON h2 hr' (List.getElem?_eq_some_iff.1 hj).1 ?_
     have hc : c = 2 := by
      simp only [stepT] at h1
      split at h1
      ·split at h1
       ·obtain ⟨_, h1⟩ := aI h1
        simp only [Option.some.injEq, Prod.mk.injEq] at h1
        exact h1.2.2.symm
       ·cases h1
      ·obtain ⟨_, h1⟩ := aI h1
       split at h1
       ·rcases yV h1 with ⟨_, _, _, _, _, _, h1, _⟩ | ⟨_, _, _, _, _⟩
        ·exact h1
        ·obtain ⟨_, _, _, ha⟩ := QP hres
         unfold E9 at ha
         rw [hcall, Bool.or_false] at ha
         unfold isVar at ha
         split at ha
         ·simp_all
         ·cases ha
       ·cases h1
      ·cases h1
     subst hc
     simp only [KT, hs, hj, hres, h1, hok, cond_true, MM, hp, tJ, OC]
     rfl
    ·cases h2
   ·cases h
theorem F8 {nt : Nat} {ops : Array Oper} {F : Frm} {H : Heap} {k : Frm → Heap → Option α} (h : rL P E nt ops true F H k = some z) : ∃ F' H', E3 P (cR P E) nt ops F H = some (F', H') ∧ k F' H' = some z := by
 unfold rL at h
 simp only [cond_true] at h
 obtain ⟨h1, h⟩ := aI h
 obtain ⟨F', H', hl, h2, h3⟩ := ON h (F0 := F) (H0 := aHJ (FQ ops H) ops.toList.length H) (by simp) (Nat.zero_le _) rfl
 obtain ⟨h4, h3⟩ := aI h3
 exact ⟨F', H', by simp only [E3, h1, cond_true, h2, h4], h3⟩
theorem Y6 {nt : Nat} {id : Nat} {ops : Array Oper} {draw : Bool} {F : Frm} {H : Heap} {k : Frm → Heap → Option α} (hcl : bX P (cR P E)) (hP : P.follows .mixedOrders = true) (h : rL P E nt ops draw F H k = some z) :
  ∃ F' H', k F' H' = some z ∧ ∀ {n0 wi Gi μi a w} {Q : Exit → Act → World → Prop}, I n0 wi Gi μi nt F H a w → (∀ a' w', I n0 wi Gi μi nt F' H' a' w' → Q .normal a' w') → (Code.region id ops draw).wp P Q a w := by
 cases draw with
 | true =>
  obtain ⟨F', H', h2, h3⟩ := F8 h
  exact ⟨F', H', h3, fun hI hQ => Y7 hcl hP h2 hI hQ⟩
 | false =>
  unfold rL at h
  simp only [cond_false] at h
  obtain ⟨F', H', h2, h3⟩ := nE h
  exact ⟨F', H', h3, fun hI hQ => wp_region_list (pY hcl ops.toList F H _ _ h2 hI hQ)⟩
end
end Go.PM
set_option linter.unusedSimpArgs false
set_option linter.unusedVariables false
namespace Go.PM
open Go Go.RowKit
def IN {α : Type} (m : Nat) : Frm → (Frm → α) → α
 | [], k => k []
 | (t, p) :: r, k => bif PJ m t then IN m r (fun r => k ((t, p) :: r)) else IN m r k
theorem yJ {α : Type} (m : Nat) : ∀ (F : Frm) (k : Frm → α), ∃ F', IN m F k = k F' ∧ ∀ t, bV F' t = bV F t ∨ bV F' t = .junk
 | [], k => ⟨[], rfl, fun t => .inl rfl⟩
 | (s, p) :: r, k => by
  simp only [IN]
  cases hs : PJ m s with
  | true =>
   obtain ⟨F', h1, h2⟩ := yJ m r fun r => k ((s, p) :: r)
   refine ⟨(s, p) :: F', h1, fun t => ?_⟩
   rw [dD, dD]
   by_cases hts : t = s
   ·subst hts; simp
   ·simp only [hts, if_false]; exact h2 t
  | false =>
   have key : ∀ (F : Frm) (k : Frm → α), ∃ F', IN m F k = k F' ∧ ∀ t, bV F' t = if PJ m t then bV F t else .junk := by
    intro F
    induction F with
    | nil => intro k; exact ⟨[], rfl, fun t => by simp [bV]⟩
    | cons x r ih =>
     intro k
     obtain ⟨s, p⟩ := x
     simp only [IN]
     cases hs : PJ m s with
     | true =>
      obtain ⟨F', h1, h2⟩ := ih fun r => k ((s, p) :: r)
      refine ⟨(s, p) :: F', h1, fun t => ?_⟩
      rw [dD, dD, h2 t]
      by_cases hts : t = s
      ·subst hts; simp [hs]
      ·simp [hts]
     | false =>
      obtain ⟨F', h1, h2⟩ := ih k
      refine ⟨F', h1, fun t => ?_⟩
      rw [dD, h2 t]
      by_cases hts : t = s
      ·subst hts; simp [hs]
      ·simp [hts]
   obtain ⟨F', h1, h2⟩ := key r k
   refine ⟨F', h1, fun t => ?_⟩
   rw [dD, h2 t]
   by_cases hts : t = s
   ·subst hts; simp [hs]
   ·simp only [hts, if_false]
    cases PJ m t <;> simp

@[reducible] def aT : List (Ex × List (Nat × Kd)) → Type
 | [] => Empty
 | [(_, s)] => Shape.den s
 | (_, s) :: b :: r => Shape.den s ⊕ aT (b :: r)
structure aO where
 sh : List (Nat × Kd)
 exits : List (Ex × List (Nat × Kd))
 run : Shape.den sh → Option (aT exits)
def pT : (l : List (Ex × List (Nat × Kd))) → aT l → Ex × Frm × Heap
 | [], z => Empty.elim z
 | [(e, s)], z => (e, mV s z 0, uC s z)
 | (e, s) :: b :: r, z => match z with
  | .inl x => (e, mV s x 0, uC s x)
  | .inr y => pT (b :: r) y
def aIA {α : Type} : (l : List (Ex × List (Nat × Kd))) → aT l → (Ex → Frm → Heap → Option α) → Option α
 | [], z, _ => Empty.elim z
 | [(e, s)], z, k => k e (mV s z 0) (uC s z)
 | (e, s) :: b :: r, z, k => jE z (fun x => k e (mV s x 0) (uC s x)) (fun y => aIA (b :: r) y k)
def aG3 : Ex → Ex → Bool
 | .normal, .normal => true
 | .exit i, .exit j => Nat.beq i j
 | .ret, .ret => true
 | _, _ => false
def K9 : (l : List (Ex × List (Nat × Kd))) → Ex → Frm → Heap → Option (aT l)
 | [], _, _, _ => none
 | [(e, s)], ex, F, H => bif aG3 e ex then B0 s F H else none
 | (e, s) :: b :: r, ex, F, H => bif aG3 e ex then (match B0 s F H with | some x => some (.inl x) | none => none) else (match K9 (b :: r) ex F H with | some y => some (.inr y) | none => none)

section
variable {α : Type} (P : Program) (E : Env) (nt aQ : Nat) (lt : Nat → Option aO)
def rF : Code → Frm → Heap → (Ex → Frm → Heap → Option α) → Option α
 | .skip, F, H, k => k .normal F H
 | .label _, F, H, k => k .normal F H
 | .region _ ops draw, F, H, k => rL P E nt ops draw F H fun F H => IN aQ F fun F => k .normal F H
 | .seq a b, F, H, k => rF a F H fun ex F H => match ex with
  | .normal => rF b F H k
  | .exit i => k (.exit i) F H
  | .ret => k .ret F H
 | .cond c a b, F, H, k => match ev F c with
  | .lit (.bool t) => aIY F c t fun F t => bif t then rF a F H k else rF b F H k
  | _ => none
 | .block id a, F, H, k => rF a F H fun ex F H => match ex with
  | .exit i => bif Nat.beq i id then k .normal F H else k (.exit i) F H
  | .normal => k .normal F H
  | .ret => k .ret F H
 | .loop a, F, H, k => match lt (aF a) with
  | some s => match B0 s.sh F H with
   | some x => aB (s.run x) fun z => aIA s.exits z k
   | none => none
  | none => none
 | .exit id, F, H, k => k (.exit id) F H
 | .scope a, F, H, k => rF a F H k
 | .ret, F, H, k => k .ret F H
 | _, _, _, _ => none
def YJ (sh : List (Nat × Kd)) (exits : List (Ex × List (Nat × Kd))) (ex : Ex) (F : Frm) (H : Heap) : Option (Shape.den sh ⊕ aT exits) := match ex with
 | .normal => match B0 sh F H with
  | some y => some (.inl y)
  | none => none
 | .exit i => match K9 exits (.exit i) F H with
  | some z => some (.inr z)
  | none => none
 | .ret => match K9 exits .ret F H with
  | some z => some (.inr z)
  | none => none
def eA (a : Code) (sh : List (Nat × Kd)) (exits : List (Ex × List (Nat × Kd))) (x : Shape.den sh) : Option (Shape.den sh ⊕ aT exits) :=
 rF P E nt aQ lt a (mV sh x 0) (uC sh x) (YJ sh exits)
end
def bZ {σ τ : Type} (step : σ → Option (σ ⊕ τ)) : Nat → σ → Option τ
 | 0, _ => none
 | n + 1, x => match step x with
  | some (.inl y) => bZ step n y
  | some (.inr z) => some z
  | none => none
def aE : Code → List Code
 | .seq a b => aE a ++ aE b
 | .cond _ a b => aE a ++ aE b
 | .block _ a => aE a
 | .scope a => aE a
 | .loop a => [a]
 | _ => []

section
variable {α : Type} {P : Program} {E : Env} {nt aQ : Nat} {lt : Nat → Option aO}
def aXT (P : Program) (nt : Nat) (c : Code) (F : Frm) (H : Heap) (r : Ex × Frm × Heap) : Prop :=
 ∀ (n0 : Nat → Prop) (wi : World) (Gi : Gd) (μi : Mp) (a : Act) (w : World), (∀ r, μi.loc r = none ∧ μi.len r = none) → I n0 wi Gi μi nt F H a w → aZN P n0 wi Gi μi nt c a w r
def cA (P : Program) (nt : Nat) (a : Code) (s : aO) : Prop :=
 ∀ x z, s.run x = some z → aXT P nt (.loop a) (mV s.sh x 0) (uC s.sh x) (pT s.exits z)

theorem yF : ∀ {l : List (Ex × List (Nat × Kd))} {z : aT l} {k : Ex → Frm → Heap → Option α} {y : α}, aIA l z k = some y → k (pT l z).1 (pT l z).2.1 (pT l z).2.2 = some y
 | [], z, _, _, _ => Empty.elim z
 | [(e, s)], z, k, y, h => h
 | (e, s) :: b :: r, z, k, y, h => by
  cases z with
  | inl x => exact h
  | inr x => exact yF (l := b :: r) (z := x) h
theorem VB {a b : Ex} (h : aG3 a b = true) : a = b := by
 cases a <;> cases b <;> simp only [aG3] at h <;> first | rfl | (cases h; done) | exact congrArg Ex.exit (Nat.eq_of_beq_eq_true h)
theorem JG {n0 : Nat → Prop} {wi : World} {Gi : Gd} {μi : Mp} (hfl : ∀ r, μi.loc r = none ∧ μi.len r = none) {ex : Ex} {F : Frm} {H : Heap} : ∀ {l : List (Ex × List (Nat × Kd))} {z : aT l}, K9 l ex F H = some z →
  (pT l z).1 = ex ∧ ∀ a w, I n0 wi Gi μi nt F H a w → I n0 wi Gi μi nt (pT l z).2.1 (pT l z).2.2 a w
 | [], z, _ => Empty.elim z
 | [(e, s)], z, h => by
  simp only [K9] at h
  obtain ⟨hb, h⟩ := aI h
  exact ⟨VB hb, fun a w hI => qZ h hfl hI⟩
 | (e, s) :: b :: r, z, h => by
  simp only [K9] at h
  cases hb : aG3 e ex with
  | true =>
   rw [hb] at h
   simp only [cond_true] at h
   split at h
   ·rename_i x hx
    simp only [Option.some.injEq] at h
    subst h
    exact ⟨VB hb, fun a w hI => qZ hx hfl hI⟩
   ·cases h
  | false =>
   rw [hb] at h
   simp only [cond_false] at h
   split at h
   ·rename_i x hx
    simp only [Option.some.injEq] at h
    subst h
    exact JG hfl (l := b :: r) (z := x) hx
   ·cases h

theorem gG (hcl : bX P (cR P E)) (hP : P.follows .mixedOrders = true) : ∀ (c : Code) (F : Frm) (H : Heap) (k : Ex → Frm → Heap → Option α) (z : α), (∀ a ∈ aE c, ∀ s, lt (aF a) = some s → cA P nt a s) →
  rF P E nt aQ lt c F H k = some z → ∃ r : Ex × Frm × Heap, k r.1 r.2.1 r.2.2 = some z ∧ aXT P nt c F H r
 | .skip, F, H, k, z, hl, h => ⟨(.normal, F, H), h, fun _ _ _ _ _ _ _ hI => wp_skip ⟨rfl, hI⟩⟩
 | .label l, F, H, k, z, hl, h => ⟨(.normal, F, H), h, fun _ _ _ _ _ _ _ hI => wp_label ⟨rfl, hI⟩⟩
 | .region id ops draw, F, H, k, z, hl, h => by
  simp only [rF] at h
  obtain ⟨F1, H1, h1, h2⟩ := Y6 (id := id) hcl hP h
  obtain ⟨F2, h3, h4⟩ := yJ aQ F1 fun F => k .normal F H1
  rw [h3] at h1
  exact ⟨(.normal, F2, H1), h1, fun _ _ _ _ _ _ _ hI => h2 hI fun a' w' hI' => ⟨rfl, hI'.aSM h4⟩⟩
 | .seq x y, F, H, k, z, hl, h => by
  simp only [rF] at h
  obtain ⟨⟨ex, F1, H1⟩, h1, h2⟩ := gG hcl hP x F H _ z (fun a ha => hl a (by simp [aE, ha])) h
  cases ex with
  | normal =>
   obtain ⟨r, h3, h4⟩ := gG hcl hP y F1 H1 k z (fun a ha => hl a (by simp [aE, ha])) h1
   refine ⟨r, h3, fun n0 wi Gi μi a w hfl hI => wp_seq (wp_mono (h2 n0 wi Gi μi a w hfl hI) ?_)⟩
   rintro e a' w' ⟨rfl, hI'⟩
   exact h4 n0 wi Gi μi a' w' hfl hI'
  | exit i =>
   refine ⟨(.exit i, F1, H1), h1, fun n0 wi Gi μi a w hfl hI => wp_seq (wp_mono (h2 n0 wi Gi μi a w hfl hI) ?_)⟩
   rintro e a' w' ⟨rfl, hI'⟩
   exact ⟨rfl, hI'⟩
  | ret =>
   refine ⟨(.ret, F1, H1), h1, fun n0 wi Gi μi a w hfl hI => wp_seq (wp_mono (h2 n0 wi Gi μi a w hfl hI) ?_)⟩
   rintro e a' w' ⟨rfl, hI'⟩
   exact ⟨rfl, hI'⟩
 | .cond c x y, F, H, k, z, hl, h => by
  simp only [rF] at h
  split at h
  ·rename_i t ht
   replace h := DE h ht
   have hc : ∀ {n0 wi Gi μi a w}, I n0 wi Gi μi nt F H a w → a.eval c = .bool t := fun hI => by
    obtain ⟨G, μ, e, hW, hF⟩ := hI
    have hc := bK hF c
    rwa [ht, VR] at hc
   cases t with
   | true =>
    obtain ⟨r, h3, h4⟩ := gG hcl hP x F H k z (fun a ha => hl a (by simp [aE, ha])) h
    exact ⟨r, h3, fun n0 wi Gi μi a w hfl hI => wp_cond (hc hI) (h4 n0 wi Gi μi a w hfl hI)⟩
   | false =>
    obtain ⟨r, h3, h4⟩ := gG hcl hP y F H k z (fun a ha => hl a (by simp [aE, ha])) h
    exact ⟨r, h3, fun n0 wi Gi μi a w hfl hI => wp_cond (hc hI) (h4 n0 wi Gi μi a w hfl hI)⟩
  ·cases h
 | .block id x, F, H, k, z, hl, h => by
  simp only [rF] at h
  obtain ⟨⟨ex, F1, H1⟩, h1, h2⟩ := gG hcl hP x F H _ z (fun a ha => hl a (by simp [aE, ha])) h
  cases ex with
  | normal =>
   refine ⟨(.normal, F1, H1), h1, fun n0 wi Gi μi a w hfl hI => wp_block (wp_mono (h2 n0 wi Gi μi a w hfl hI) ?_)⟩
   rintro e a' w' ⟨rfl, hI'⟩
   exact ⟨rfl, hI'⟩
  | ret =>
   refine ⟨(.ret, F1, H1), h1, fun n0 wi Gi μi a w hfl hI => wp_block (wp_mono (h2 n0 wi Gi μi a w hfl hI) ?_)⟩
   rintro e a' w' ⟨rfl, hI'⟩
   exact ⟨rfl, hI'⟩
  | exit i =>
   simp only at h1
   cases hi : Nat.beq i id with
   | true =>
    rw [hi] at h1
    have := Nat.eq_of_beq_eq_true hi
    subst this
    refine ⟨(.normal, F1, H1), h1, fun n0 wi Gi μi a w hfl hI => wp_block (wp_mono (h2 n0 wi Gi μi a w hfl hI) ?_)⟩
    rintro e a' w' ⟨rfl, hI'⟩
    simp only [Ex.to, Exit.inBlock, if_true]
    exact ⟨trivial, hI'⟩
   | false =>
    rw [hi] at h1
    have hne : ¬ i = id := fun e => by rw [e] at hi; simp at hi
    refine ⟨(.exit i, F1, H1), h1, fun n0 wi Gi μi a w hfl hI => wp_block (wp_mono (h2 n0 wi Gi μi a w hfl hI) ?_)⟩
    rintro e a' w' ⟨rfl, hI'⟩
    simp only [Ex.to, Exit.inBlock, hne, if_false]
    exact ⟨trivial, hI'⟩
 | .loop x, F, H, k, z, hl, h => by
  simp only [rF] at h
  split at h
  ·rename_i s hs
   split at h
   ·rename_i x0 hx
    obtain ⟨y, h1, h2⟩ := lX h
    exact ⟨pT s.exits y, yF h2, fun n0 wi Gi μi a w hfl hI => hl x (by simp [aE]) s hs x0 y h1 n0 wi Gi μi a w hfl (qZ hx hfl hI)⟩
   ·cases h
  ·cases h
 | .exit id, F, H, k, z, hl, h => ⟨(.exit id, F, H), h, fun _ _ _ _ _ _ _ hI => wp_exit ⟨rfl, hI⟩⟩
 | .scope x, F, H, k, z, hl, h => by
  simp only [rF] at h
  obtain ⟨⟨ex, F1, H1⟩, h1, h2⟩ := gG hcl hP x F H _ z (fun a ha => hl a (by simp [aE, ha])) h
  refine ⟨(ex, F1, H1), h1, fun n0 wi Gi μi a w hfl hI => wp_scope_straight (wp_mono (h2 n0 wi Gi μi a w hfl hI) ?_)⟩
  rintro e a' w' ⟨rfl, hI'⟩
  cases ex <;> exact ⟨rfl, hI'⟩
 | .ret, F, H, k, z, hl, h => ⟨(.ret, F, H), h, fun _ _ _ _ _ _ _ hI => wp_ret ⟨rfl, hI⟩⟩
 | .rangeFunc .., F, H, k, z, hl, h => by simp only [rF] at h; cases h
 | .goto l, F, H, k, z, hl, h => by simp only [rF] at h; cases h
 | .refuse s, F, H, k, z, hl, h => by simp only [rF] at h; cases h

theorem cN (hcl : bX P (cR P E)) (hP : P.follows .mixedOrders = true) {a : Code} {sh : List (Nat × Kd)} {exits : List (Ex × List (Nat × Kd))} {step : Shape.den sh → Option (Shape.den sh ⊕ aT exits)} (L : Nat)
  (hl : ∀ b ∈ aE a, ∀ s, lt (aF b) = some s → cA P nt b s) (hr : ∀ x, eA P E nt aQ lt a sh exits x = step x) : cA P nt a ⟨sh, exits, bZ step L⟩ := by
 intro x z hz n0 wi Gi μi act w hfl hI
 refine wp_loop_ghost (fun k a w => ∃ x, bZ step k x = some z ∧ I n0 wi Gi μi nt (mV sh x 0) (uC sh x) a w) L ⟨x, hz, hI⟩ ?_
 rintro k act w ⟨x, hz, hI⟩
 cases k with
 | zero => cases hz
 | succ k =>
  simp only [bZ] at hz
  split at hz
  ·rename_i y hs
   rw [← hr] at hs
   obtain ⟨⟨ex, F', H'⟩, h1, h2⟩ := gG hcl hP a _ _ _ _ hl hs
   refine wp_mono (h2 n0 wi Gi μi act w hfl hI) ?_
   rintro e a' w' ⟨rfl, hI'⟩
   cases ex with
   | normal =>
    simp only [YJ] at h1
    split at h1
    ·rename_i y' hy
     simp only [Option.some.injEq, Sum.inl.injEq] at h1
     subst h1
     exact ⟨k, by omega, y', hz, qZ hy hfl hI'⟩
    ·cases h1
   | exit i =>
    simp only [YJ] at h1
    split at h1
    ·simp at h1
    ·cases h1
   | ret =>
    simp only [YJ] at h1
    split at h1
    ·simp at h1
    ·cases h1
  ·rename_i y hs
   simp only [Option.some.injEq] at hz
   subst hz
   rw [← hr] at hs
   obtain ⟨⟨ex, F', H'⟩, h1, h2⟩ := gG hcl hP a _ _ _ _ hl hs
   refine wp_mono (h2 n0 wi Gi μi act w hfl hI) ?_
   rintro e a' w' ⟨rfl, hI'⟩
   cases ex with
   | normal =>
    simp only [YJ] at h1
    split at h1
    ·simp at h1
    ·cases h1
   | exit i =>
    simp only [YJ] at h1
    split at h1
    ·rename_i y' hy
     simp only [Option.some.injEq, Sum.inr.injEq] at h1
     subst h1
     obtain ⟨h3, h4⟩ := JG (nt := nt) (n0 := n0) (wi := wi) (Gi := Gi) hfl hy
     have h5 := h4 a' w' hI'
     exact ⟨by rw [h3], h5⟩
    ·cases h1
   | ret =>
    simp only [YJ] at h1
    split at h1
    ·rename_i y' hy
     simp only [Option.some.injEq, Sum.inr.injEq] at h1
     subst h1
     obtain ⟨h3, h4⟩ := JG (nt := nt) (n0 := n0) (wi := wi) (Gi := Gi) hfl hy
     have h5 := h4 a' w' hI'
     exact ⟨by rw [h3], h5⟩
    ·cases h1
  ·cases hz
end
end Go.PM
set_option linter.unusedSimpArgs false
set_option linter.unusedVariables false
namespace Go.PM
open Go Go.RowKit
@[reducible] def aJ : List Kd → Type
 | [] => Unit
 | k :: r => k.den × aJ r
def fQ : (l : List Kd) → aJ l → List PV
 | [], _ => []
 | k :: r, (x, xs) => nX k x 0 :: fQ r xs
def aD0 : (l : List Kd) → List PV → Option (aJ l)
 | [], [] => some ()
 | k :: r, p :: ps => match UQ k p [] 0 with
  | some x => match aD0 r ps with
   | some xs => some (x, xs)
   | none => none
  | none => none
 | _, _ => none
def DF : List Kd → Bool
 | [] => true
 | .own _ _ :: _ | .box _ _ :: _ | .win _ _ :: _ | .bown _ _ _ :: _ | .bag _ _ _ _ _ :: _ | .ar _ _ :: _ => false
 | _ :: r => DF r
def Kd.plain : Kd → Bool
 | .list t | .agg t | .ptr t => t.plain
 | .clo _ ts => ts.all Ty.plain
 | .hnd _ => false
 | .mpk _ => false
 | _ => true
theorem MX : ∀ (ts : List Ty) (x : tI ts), ts.all Ty.plain = true → cK.noRows (EZ ts x) = true
 | [], _, _ => rfl
 | t :: r, (x, xs), h => by
  simp only [List.all_cons, Bool.and_eq_true] at h
  simp only [EZ, cK.noRows, cK, Bool.and_eq_true]
  exact ⟨sB t x h.1, MX r xs h.2⟩
theorem aIZ : ∀ (k : Kd) (x : k.den) (n : Nat), k.plain = true → cK (nX k x n) = true
 | .int _, _, _, _ | .bool, _, _, _ | .str, _, _, _ | .own _ _, _, _, _ | .box _ _, _, _, _ | .fn _, _, _, _ | .nil0, _, _, _ | .val, _, _, _ | .nilI, _, _, _ | .win _ _, _, _, _ | .bown _ _ _, _, _, _ | .bag _ _ _ _ _, _, _, _ | .ar _ _, _, _, _ => rfl
 | .hnd _, _, _, h => by cases h
 | .mpk _, _, _, h => by cases h
 | .list t, _, _, h => h
 | .agg t, x, _, h => sB t x h
 | .ptr t, x, _, h => sB t x h
 | .clo _ ts, x, _, h => by
  simp only [nX, cK, cK.noRows, Bool.true_and]
  exact MX ts x h
theorem XX : ∀ (ks : List Kd) (x : aJ ks), ks.all Kd.plain = true → cK.noRows (fQ ks x) = true
 | [], _, _ => rfl
 | k :: r, (x, xs), h => by
  simp only [List.all_cons, Bool.and_eq_true] at h
  simp only [fQ, cK.noRows, Bool.and_eq_true]
  exact ⟨aIZ k x 0 h.1, XX r xs h.2⟩
def aCF (l : List Kd) (x : aJ l) : PV := dN (fQ l x)
def aFG : (l : List Kd) → PV → Option (aJ l)
 | [k], q => match UQ k q [] 0 with
  | some x => some (x, ())
  | none => none
 | l, .tuple qs => aD0 l qs
 | _, _ => none

section
variable {P : Program} {n0 : Nat → Prop} {w wi : World} {G Gi : Gd} {μ μi μ' : Mp} {H : Heap} {F : Frm} {a : Act} {nt : Nat}
theorem aI2 {e : TypeId} {t : Ty} {p : PV} {n : Nat} : CP e t p [] n = none := by
 unfold CP
 split
 ·cases Nat.beq _ n && Nat.beq _ t.size <;> rfl
 ·rfl
theorem aI0 {e : TypeId} {t : Ty} {p : PV} {n : Nat} : V1 e t p [] n = none := by
 unfold V1
 split
 ·cases Nat.beq _ n && Nat.beq _ 0 <;> rfl
 ·rfl
theorem aG6 {e et : TypeId} {t : Ty} {p : PV} {n : Nat} : NT e et t p [] n = none := by
 unfold NT
 split
 ·cases Nat.beq _ n && Nat.beq _ 0 <;> rfl
 ·rfl
theorem aHD {e : TypeId} {t1 : Ty} {et : TypeId} {t : Ty} {t2 : Option Ty} {p : PV} {n : Nat} : YY e t1 et t t2 p [] n = none := by
 unfold YY
 split
 ·cases Nat.beq _ n && Nat.beq _ 0 <;> rfl
 ·rfl
theorem aAL : ∀ (k : Kd) {p : PV} {x : k.den} {v : Value}, UQ k p [] 0 = some x → VR w G aG p v → VR w G aG (nX k x 0) v
 | .int k, p, x, v, h, hv => by
  have := JQ h
  simp only [List.cons.injEq, and_true] at this
  subst this
  exact hv
 | .bool, p, x, v, h, hv => by
  have := EM h
  simp only [List.cons.injEq, and_true] at this
  subst this
  exact hv
 | .str, p, x, v, h, hv => by
  have := I9 h
  simp only [List.cons.injEq, and_true] at this
  subst this
  exact hv
 | .list t, p, x, v, h, hv => by
  have := nC (.list t) aG [p] x [v] h (by rw [VRs]; exact ⟨v, [], rfl, hv, by rw [VRs]⟩)
  simp only [enc] at this
  rw [VRs] at this
  obtain ⟨y, ys, h1, h2, _⟩ := this
  cases h1
  exact h2
 | .agg t, p, x, v, h, hv => by
  simp only [UQ] at h
  unfold aH0 at h
  split at h
  ·rename_i cs
   rw [VR] at hv
   obtain ⟨vs, rfl, h2⟩ := hv
   simp only [nX]
   rw [VR]
   exact ⟨vs, rfl, nC t aG cs x vs.toList h h2⟩
  ·cases h
 | .own e t, p, x, v, h, hv => by
  simp only [UQ, aI2] at h
  cases h
 | .box e t, p, x, v, h, hv => by
  simp only [UQ, aI0] at h
  cases h
 | .ptr t, p, x, v, h, hv => FW h hv
 | .fn g, p, x, v, h, hv => by
  have := JY h
  subst this
  exact hv
 | .nil0, p, x, v, h, hv => by
  have := NV h
  subst this
  exact hv
 | .val, p, x, v, h, hv => by
  have := PX (p := p) (x := x) h
  subst this
  exact hv
 | .nilI, p, x, v, h, hv => by
  have := K5 (p := p) (x := x) h
  subst this
  exact hv
 | .clo g ts, p, x, v, h, hv => E6 h hv
 | .win j sz, p, x, v, h, hv => by
  have := NI h
  subst this
  exact hv
 | .bown e et t, p, x, v, h, hv => by
  simp only [UQ, aG6] at h
  cases h
 | .bag e t1 et t t2, p, x, v, h, hv => by
  simp only [UQ, aHD] at h
  cases h
 | .mpk j, p, x, v, h, hv => by
  have := TM h
  subst this
  exact hv
 | .hnd sz, p, x, v, h, hv => by
  have := QO (μ := aG) (vs := [v]) h (by rw [VRs]; exact ⟨v, [], rfl, hv, by rw [VRs]⟩)
  rw [VRs] at this
  obtain ⟨y, ys, h1, h2, _⟩ := this
  cases h1
  exact h2
 | .ar e t, p, x, v, h, hv => by
  simp only [UQ, aKB, PM.fB] at h
  simp at h
theorem vK : ∀ (l : List Kd) {ps : List PV} {x : aJ l} {vs : List Value}, aD0 l ps = some x → VRs w G aG ps vs → VRs w G aG (fQ l x) vs
 | [], [], x, vs, h, hv => hv
 | [], _ :: _, x, vs, h, hv => by cases h
 | _ :: _, [], x, vs, h, hv => by cases h
 | k :: r, p :: ps, x, vs, h, hv => by
  simp only [aD0] at h
  split at h
  ·rename_i y hy
   split at h
   ·rename_i ys hys
    simp only [Option.some.injEq] at h
    subst h
    rw [VRs] at hv
    obtain ⟨u, us, h1, h2, h3⟩ := hv
    simp only [fQ]
    rw [VRs]
    exact ⟨u, us, h1, aAL k hy h2, vK r hys h3⟩
   ·cases h
  ·cases h
theorem J0 {l : List Kd} {q : PV} {x : aJ l} {v : Value} (h : aFG l q = some x) (hv : VR w G aG q v) : VR w G aG (aCF l x) v := by
 unfold aFG at h
 split at h
 ·split at h
  ·rename_i k q y hy
   simp only [Option.some.injEq] at h
   subst h
   exact aAL _ hy hv
  ·cases h
 ·rename_i hne
  rw [VR] at hv
  obtain ⟨vs, rfl, h2⟩ := hv
  have h3 := vK _ h h2
  clear h
  match l, x, h3 with
  | [], x, h3 =>
   simp only [aCF, fQ, dN]
   rw [VR]
   exact ⟨vs, rfl, h3⟩
  | [k], x, h3 => exact (hne k rfl).elim
  | k :: k2 :: r, (x, y, z), h3 =>
   simp only [aCF, fQ, dN]
   rw [VR]
   exact ⟨vs, rfl, h3⟩
 ·cases h

def bW (P : Program) (g : FuncId) (args rets : List Kd) (f : aJ args → Option (aJ rets)) : Prop :=
 ∀ x y, f x = some y → wA P g (fQ args x) (aCF rets y)
def aJ2 (args rets : List Kd) (f : aJ args → Option (aJ rets)) (qs : List PV) : Option Res := match aD0 args qs with
 | some x => some ⟨aJ rets, f x, aCF rets⟩
 | none => none
theorem aQA {g : FuncId} {args rets : List Kd} {f : aJ args → Option (aJ rets)} (hf : bW P g args rets f) {qs : List PV} {r : Res} (h : aJ2 args rets f qs = some r) : ∀ y, r.val = some y → wA P g qs (r.out y) := by
 unfold aJ2 at h
 split at h
 ·rename_i x hx
  simp only [Option.some.injEq] at h
  subst h
  intro y hy w G vs hlt hv
  exact hf x y hy w G vs hlt (vK args hx hv)
 ·cases h
structure aW (P : Program) (E : Env) : Prop where
 pure : ∀ g qs r, E.pure g qs = some r → ∀ y, r.val = some y → wA P g qs (r.out y)
 shr : ∀ g args H r, E.shr g args H = some r → ∀ y, r.val = some y → ∀ {n0 G μ w vs}, aP n0 G μ H w → VRs w G μ args vs → nG P n0 w G μ g vs.toArray (r.out y).1 (r.out y).2
theorem aW.callee {E : Env} (h : aW P E) : bX P (cR P E) := by
 refine aLP ?_ ?_
 ·intro g args r hr
  unfold XJ at hr
  split at hr
  ·rename_i s hs
   split at hr
   ·rename_i x hx
    simp only [Option.some.injEq] at hr
    subst hr
    exact h.pure g args s hs x hx
   ·cases hr
  ·cases hr
 ·intro g args H r H' hr
  unfold XG at hr
  split at hr
  ·rename_i s hs
   split at hr
   ·rename_i x hx
    have hr := Option.some.inj hr
    have h1 : r = (s.out x).1 := by rw [hr]
    have h2 : H' = (s.out x).2 := by rw [hr]
    subst h1; subst h2
    intro n0 G μ w vs hW hv
    exact h.shr g args H s hs x hx hW hv
   ·cases hr
  ·cases hr

def aGH (P : Program) (rs : List ResultVar) (rets : List Kd) (ex : Ex) (F : Frm) (H : Heap) : Option (aJ rets) := match ex with
 | .exit _ => none
 | _ => match kU P F H rs with
  | some vs => match aHM H (dN vs) with
   | some q => aFG rets q
   | none => none
  | none => none
def bH (P : Program) (E : Env) (fn : Func) (aQ : Nat) (lt : Nat → Option aO) (c : Code) (args rets : List Kd) (x : aJ args) : Option (aJ rets) :=
 bif Nat.ble (fQ args x).length fn.ntmps then rF P E fn.ntmps aQ lt c (start aQ 0 (fQ args x)) [] (aGH P fn.results.toList rets) else none

theorem aX {E : Env} (hP : yS P) (hE : aW P E) {g : Nat} {fn : Func} (hg : P.funcs[g]? = some fn) {c : Code} (hc : fn.body = some c) {aQ : Nat} {lt : Nat → Option aO} {args rets : List Kd} {f : aJ args → Option (aJ rets)}
  (hl : ∀ a ∈ aE c, ∀ s, lt (aF a) = some s → cA P fn.ntmps a s) (hb : ∀ x, bH P E fn aQ lt c args rets x = f x) : bW P g args rets f := by
 intro x y hy
 rw [← hb] at hy
 unfold bH at hy
 obtain ⟨hlen, hy⟩ := aI hy
 obtain ⟨⟨ex, F', H'⟩, h1, h2⟩ := gG hE.callee hP.mixed c _ _ _ _ hl hy
 obtain ⟨vs, q, hex, hvs, hq, hd⟩ : ∃ vs q, (ex = .normal ∨ ex = .ret) ∧ kU P F' H' fn.results.toList = some vs ∧ aHM H' (dN vs) = some q ∧ aFG rets q = some y := by
  unfold aGH at h1
  split at h1
  ·cases h1
  ·rename_i hne
   split at h1
   ·rename_i vs hvs
    split at h1
    ·rename_i q hq
     refine ⟨vs, q, ?_, hvs, hq, h1⟩
     cases ex with
     | normal => exact .inl rfl
     | ret => exact .inr rfl
     | exit i => exact absurd rfl (hne i)
    ·cases h1
   ·cases h1
 have hcall : ∀ {n0 G μ w us}, aP n0 G μ [] w → VRs w G μ (fQ args x) us → nG P n0 w G μ g us.toArray (dN vs) H' := by
  intro n0 G μ w us hW hv
  refine ⟨enters hg (hP.names g fn hg) (by rw [hc]; rfl) _ _, calls_of_wp hg hc ?_⟩
  have hI : I n0 w G μ fn.ntmps (start aQ 0 (fQ args x)) [] ⟨us.toArray ++ Array.replicate (fn.ntmps - us.toArray.size) undef, []⟩ w := ⟨G, μ, Ext.refl _ _ _ _, hW, pF (by simpa using hv) (Nat.le_of_ble_eq_true hlen)⟩
  refine wp_mono (h2 n0 w G μ _ w (fun r => hW.top r (Nat.zero_le _)) hI) ?_
  rintro e a' w' ⟨rfl, G', μ', e', hW', hF'⟩
  obtain ⟨ws, h3, h4⟩ := jG (P := P) hW' hF' hvs
  have hres : (results fn a'.tmps).run P w' = .ok (if hh : ws.toArray.size = 1 then ws.toArray[0] else .tuple ws.toArray) w' := by
   rw [rP, Array.mapM_eq_mapM_toList]
   simp only [Sem.run_bind, Sem.run_map, h3, Result.andThen_ok, Sem.run_pure]
  have hpost : a'.defers = [] ∧ ∃ v, (results fn a'.tmps).run P w' = .ok v w' ∧ (∃ v' G'' μ'', Ending.returned v = .returned v' ∧ Ext n0 w G μ w' G'' μ'' ∧ aP n0 G'' μ'' H' w' ∧ VR w' G'' μ'' (dN vs) v') :=
   ⟨hF'.defers, _, hres, _, G', μ', rfl, e', hW', lF h4⟩
  rcases hex with rfl | rfl
  ·exact hpost
  ·exact hpost
 have hp := JZ hcall (yE hq).1 (yE hq).2
 intro w G us hlt hv
 obtain ⟨h3, h4⟩ := hp w G us hlt hv
 refine ⟨h3, h4.mono ?_⟩
 rintro e w' ⟨v', G', rfl, e1, e2, e3⟩
 exact ⟨v', G', rfl, e1, e2, J0 hd e3⟩
end
end Go.PM
set_option linter.unusedSimpArgs false
set_option linter.unusedVariables false
namespace Go.PM
open Go Go.RowKit Go.ChangeShapes Go.WideShapes Go.ChangeAt Go.Joins
def WF : (t : Ty) → t.den → Prop
 | .int k, x => (Lit.int k x).wf = true
 | .bool, _ => True
 | .str, s => s.size ≤ maxLen
 | .hnd _, _ => True
 | .rows _, _ => True
 | .list t, l => l.length ≤ maxLen ∧ ∀ a ∈ l, WF t a
 | .prod a b, (x, y) => WF a x ∧ WF b y
abbrev GW (w : World) : Gd := Gd.of fun b => b < w.heap.size
section
variable {P : Program}
def OpK (P : Program) (t : TypeId) (k : Kd) (W : k.den → Prop) : Prop :=
 ∀ {H : Type} {en : TypeId × Value → H} {w : World} {base b0 : Nat} {spare : Nat → Bool} {held : Bool} {r : Reach} {v : Value} {d : DataW H} {p : List MemPlace},
  Value.okWide P w r b0 t v → DataW.Trod en P w base spare held t v d p → ∃ x : k.den, VR w (GW w) aG (nX k x 0) v ∧ W x
theorem aCU {t : TypeId} {k : IntKind} (ht : P.underlying t = some (.int k)) : OpK P t (.int k) (WF (.int k)) := by
 intro H en w base b0 spare held r v d p hv h
 obtain ⟨n, rfl, -, -, wf⟩ := open_int ht hv h
 exact ⟨n, by rw [nX, VR], wf⟩
theorem aO2 {g : FuncId} {args : List Kd} {f : aJ args → Option (aJ [.bool])} (hf : bW P g args [.bool] f) {x : aJ args} (hx : f x = some (true, ())) {w : World} (hT : Lt w fun b => b < w.heap.size) {vs : Array Value} (hv : VRs w (GW w) aG (fQ args x) vs.toList) :
  Calls P g vs w fun e w' => e = .returned (.bool true) ∧ Below w.heap.size w w' := by
 obtain ⟨-, h⟩ := hf x _ hx w (fun b => b < w.heap.size) vs hT hv
 refine h.mono ?_
 rintro e w' ⟨v', G', rfl, e1, -, e3⟩
 refine ⟨?_, e1.os, e1.tape, e1.output, e1.size, fun b hb => e1.old b hb (Nat.not_le.2 hb)⟩
 have e3 : VR w' (Gd.of G') aG (.lit (.bool true)) v' := e3
 rw [VR] at e3
 rw [e3]
theorem WZ {w : World} {G : Gd} {p : PV} {v : Value} {ps : List PV} {vs : List Value} (h : VR w G aG p v) (k : VRs w G aG ps vs) : VRs w G aG (p :: ps) (v :: vs) := by
 rw [VRs]; exact ⟨v, vs, rfl, h, k⟩
theorem aSP {w : World} {G : Gd} : VRs w G aG [] [] := by rw [VRs]
end
end Go.PM
set_option linter.unusedSimpArgs false
set_option linter.unusedVariables false
namespace Go.PM
open Go Go.ChangeShapes Go.WideShapes Go.ChangeAt Go.RowKit Go.Joins
theorem aA2 {H : Type} {enc : TypeId × Value → H} {P : Program} (hl : laidOutB P = true) {W W' : World} (hb : Below W.heap.size W W') :
  ∀ (ts : List TypeId) (vs : List Value) (ds : List (DataW H)) (ps : List MemPlace), (∀ t ∈ ts, P.readableRec t = true ∧ t < P.types.size) → (∀ x ∈ ps, x.block < W.heap.size) →
   DataW.TrodAll enc P W 0 (fun _ => true) true ts vs ds ps → DataW.TrodAll enc P W' 0 (fun b => decide (b < W.heap.size)) true ts vs ds ps
 | [], vs, ds, ps, _, _, h => by
  unfold DataW.TrodAll at h ⊢
  split at h <;> simp_all
 | t :: ts, vs, ds, ps, ht, hlt, h => by
  obtain ⟨v, vs', d, ds', p, q, rfl, rfl, rfl, h1, h2⟩ := trodAll_cons h
  exact ⟨p, q, Below.trod hl (ht t (by simp)).1 (ht t (by simp)).2 h1 hb (fun x hx => hlt x (by simp [hx])), aA2 hl hb ts vs' ds' q (fun t h => ht t (by simp [h])) (fun x hx => hlt x (by simp [hx])) h2, rfl⟩
theorem aF7 {P : Program} {ts : List TypeId} (h : (ts.all fun t => P.readableRec t && decide (t < P.types.size)) = true) : ∀ t ∈ ts, P.readableRec t = true ∧ t < P.types.size := by
 intro t ht
 have := List.all_eq_true.1 h t ht
 simpa using this
theorem aI1 {H : Type} {enc : TypeId × Value → H} {P : Program} {f : Func} {s : ChangeSpec} {W W' : World} {args : Array Value} {ds : List (DataW H)} {p : List MemPlace} {tb : TypeId} (hl : laidOutB P = true)
  (hts : ∀ t ∈ f.params.toList, P.readableRec t = true ∧ t < P.types.size) (hr : f.resultTypes = #[tb]) (htb : P.underlying tb = some .bool)
  (hf1 : (s.fn H (ds ++ [])).results = [.lit (.bool true)]) (hf2 : (s.fn H (ds ++ [])).args = ds) (hf3 : (s.fn H (ds ++ [])).vars = []) (hv : s.vars = [])
  (hW : DataW.Whole enc P f.params.toList s.vars false W args.toList ds [] p) (hb : Below W.heap.size W W') :
  ∃ v, Ending.returned (.bool true) = Ending.returned v ∧ s.post enc P f false true false false W args v W' := by
 have hW' := hW
 obtain ⟨q, q', hA, hV, rfl, -, -⟩ := hW
 refine ⟨_, rfl, ds, [], _, [], q, [], hW', ?_, ?_, ?_, hb.frame _, fun h => by cases h⟩
 ·rw [hf1, hr]; exact trodAll_mk1 (shut_bool htb true)
 ·rw [hf2]; exact aA2 hl hb _ _ _ _ hts (fun x hx => hW'.lt x (by simp [hx])) hA
 ·rw [hf3, hv]; rfl
end Go.PM
namespace Go.Proofs.YtjgapmocogjkmaaGreatDoor
theorem Tryz.own : ownKnob Tryz.prog.godebug = none := by kernel_rfl
theorem Tryz.laidOut : laidOutB Tryz.prog = true := by kernel_rfl
end Go.Proofs.YtjgapmocogjkmaaGreatDoor
set_option linter.unusedSimpArgs false
set_option linter.unusedVariables false
namespace Go.Proofs.YtjgapmocogjkmaaGreatDoor
open Go Go.ChangeShapes Go.WideShapes Go.ChangeAt Go.RowKit Go.Joins Go.PM
set_option maxRecDepth 100000
abbrev aEG : List (String × DataW Unit) := [("math/bits.deBruijn32tab", Rows.laid_math_bits_deBruijn32tab), ("math/bits.deBruijn64tab", Rows.laid_math_bits_deBruijn64tab), ("internal/strconv.uint64pow10", Rows.laid_internal_strconv_uint64pow10), ("strconv.ErrRange", Rows.laid_strconv_ErrRange), ("strconv.ErrSyntax", Rows.laid_strconv_ErrSyntax)]
theorem aPF (os : Os) (args : Array Value) : laidMetH Tryz.prog aEG ((World.doorLaid Tryz.prog 4000 os).forCall (fun _ _ => 0) ⟨#[], args, []⟩).memory :=
 laidMetH_of_parts3 (fuel := 8) (laidMet_of_run' 8 (by kernel_rfl) (by kernel_rfl)) (by kernel_rfl) (by kernel_rfl)
theorem aGN {H : Type} {enc : TypeId × Value → H} {P : Program} {w : World} {base : Nat} {sp : Nat → Bool} {fuel : Nat} {t : TypeId} {ms} {cs : List Value} {n : String} {d : DataW H} {p : List MemPlace}
  (ht : P.underlying t = some (.interface ms)) (h : DataW.trod enc P w base sp false fuel t cs = some (.iface n d, p)) : ∃ u v, cs = [.iface u v] := by
 cases fuel with
 | zero => simp [DataW.trod] at h
 | succ fuel =>
  simp only [DataW.trod, ht] at h
  split at h <;> first
   | exact ⟨_, _, rfl⟩
   | (exfalso; simp_all; done)
theorem aEO {P : Program} {w : World} {n : String} {g : Nat} {cs : Array Value} (hg : P.globalNamed n = some g) (h : w.var? P n = some cs) : ∃ t fr, w.heap[g]? = some (.cells cs t fr) := by
 unfold World.var? at h
 rw [hg] at h
 simp only [Option.bind_some] at h
 split at h
 ·rename_i c t fr e
  cases h
  exact ⟨t, fr, e⟩
 ·cases h
theorem V8 {w : World} {n : String} {g : Nat} {t : TypeId} {ms} {m : String} {d : DataW Unit} (hg : Tryz.prog.globalNamed n = some g) (hty : (Tryz.prog.globals[g]?).map (·.type) = some t) (ht : Tryz.prog.underlying t = some (.interface ms))
  (h : Lib.VarReads Tryz.prog w n (.iface m d)) : VA w.heap[g]? := by
 obtain ⟨g', t', cs, fuel, p, hg', ht', hvar, hd⟩ := h
 obtain rfl := Option.some.inj (hg.symm.trans hg')
 obtain rfl := Option.some.inj (hty.symm.trans ht')
 obtain ⟨u, v, e⟩ := aGN ht hd
 obtain ⟨t2, fr, e2⟩ := aEO hg hvar
 refine ⟨u, v, t2, fr, ?_⟩
 rw [e2]
 congr 2
 exact Array.toList_inj.1 e
theorem aSZ {w : World} (h : laidMetH Tryz.prog aEG w) : Lt w fun b => b < w.heap.size := by
 rw [MakeChecks.laidMetH_plain _ _ _ (by kernel_rfl)] at h
 have lt : ∀ {g : Nat} {q : Option Obj → Prop}, q w.heap[g]? → ¬ q none → g < w.heap.size := fun {g q} h1 h2 => by
  rcases Nat.lt_or_ge g w.heap.size with h | h
  ·exact h
  ·rw [Array.getElem?_eq_none h] at h1
   exact absurd h1 h2
 have nIf : ¬ VA none := fun ⟨_, _, _, _, e⟩ => by cases e
 refine ⟨fun _ h => h, fun p hp => ?_⟩
 have main : p.2 w.heap[p.1]? ∧ ¬ p.2 none := by
  rcases List.mem_cons.1 hp with rfl | hp
  ·refine ⟨?_, fun ⟨_, _, e⟩ => by cases e⟩
   obtain ⟨g', t', cs, fuel, q, hg', ht', hvar, hd⟩ := Lib.laidMet.reads h (n := "internal/strconv.uint64pow10") (d := Rows.laid_internal_strconv_uint64pow10) (.tail _ (.tail _ (.head _)))
   obtain rfl := Option.some.inj ((show Tryz.prog.globalNamed "internal/strconv.uint64pow10" = some 0 by kernel_rfl).symm.trans hg')
   have hd : DataW.trod (fun _ => ()) Tryz.prog w 0 (fun _ => true) false fuel t' cs.toList = some (Lib.tabData .u64 [1, 10, 100, 1000, 10000, 100000, 1000000, 10000000, 100000000, 1000000000, 10000000000, 100000000000, 1000000000000, 10000000000000, 100000000000000, 1000000000000000, 10000000000000000, 100000000000000000, 1000000000000000000, 10000000000000000000], q) := hd
   obtain ⟨t, hty⟩ : ∃ t, (Tryz.prog.globals[0]?).map (·.type) = some t := ⟨_, ht'⟩
   obtain rfl := Option.some.inj (hty.symm.trans ht')
   have hcs := Lib.cells_of_tab (P := Tryz.prog) (t := 275) (e := 162) (n := 20) Tryz.underlying275 Tryz.underlying162 (by kernel_rfl) (by kernel_rfl) (show DataW.trod (fun _ => ()) Tryz.prog w 0 (fun _ => true) false fuel 275 cs.toList = _ by
    rw [← Option.some.inj ((show (Tryz.prog.globals[0]?).map (·.type) = some 275 by kernel_rfl).symm.trans hty)] at hd
    exact hd)
   obtain ⟨t2, fr, e2⟩ := aEO (by kernel_rfl) hvar
   refine ⟨t2, fr, ?_⟩
   rw [e2]
   congr 2
   exact Array.toList_inj.1 hcs
  ·rcases List.mem_cons.1 hp with rfl | hp
   ·exact ⟨V8 (n := "strconv.ErrSyntax") (t := 192) (by kernel_rfl) (by kernel_rfl) Tryz.underlying192 (Lib.laidMet.reads h (.tail _ (.tail _ (.tail _ (.tail _ (.head _)))))), nIf⟩
   ·rcases List.mem_cons.1 hp with rfl | hp
    ·exact ⟨V8 (n := "strconv.ErrRange") (t := 192) (by kernel_rfl) (by kernel_rfl) Tryz.underlying192 (Lib.laidMet.reads h (.tail _ (.tail _ (.tail _ (.head _))))), nIf⟩
    ·cases hp
 exact ⟨lt main.1 main.2, main.1⟩
end Go.Proofs.YtjgapmocogjkmaaGreatDoor
set_option linter.unusedSimpArgs false
set_option linter.unusedVariables false
namespace Go.PM
open Go Go.RowKit
structure Ent where
 g : FuncId
 args : List Kd
 rets : List Kd
 f : aJ args → Option (aJ rets)
def Ent.OK (P : Program) (e : Ent) : Prop := bW P e.g e.args e.rets e.f
def Z8 : List Ent → FuncId → List PV → Option Res
 | [], _, _ => none
 | e :: r, g, qs => bif Nat.beq e.g g then (match aJ2 e.args e.rets e.f qs with
   | some s => some s
   | none => Z8 r g qs)
  else Z8 r g qs
def bF (l : List Ent) : Env := ⟨Z8 l, fun _ _ _ => none, fun _ => false⟩
theorem NQ {P : Program} : ∀ {l : List Ent}, (∀ e ∈ l, e.OK P) → ∀ g qs r, Z8 l g qs = some r → ∀ y, r.val = some y → wA P g qs (r.out y)
 | [], _, g, qs, r, h => by cases h
 | e :: l, hl, g, qs, r, h => by
  simp only [Z8] at h
  cases hb : Nat.beq e.g g with
  | true =>
   rw [hb] at h
   have := Nat.eq_of_beq_eq_true hb
   subst this
   cases hs : aJ2 e.args e.rets e.f qs with
   | some s =>
    rw [hs] at h
    have h := Option.some.inj h
    subst h
    exact aQA (hl e List.mem_cons_self) hs
   | none =>
    rw [hs] at h
    exact NQ (fun e he => hl e (List.mem_cons_of_mem _ he)) _ qs r h
  | false =>
   rw [hb] at h
   exact NQ (fun e he => hl e (List.mem_cons_of_mem _ he)) g qs r h
theorem aOR {P : Program} {l : List Ent} (hl : ∀ e ∈ l, e.OK P) : aW P (bF l) where
 pure := NQ hl
 shr := fun _ _ _ _ h => by cases h

def aB2 (P : Program) : List Ent → Prop
 | [] => True
 | e :: r => e.OK P ∧ aB2 P r
theorem LN {P : Program} : ∀ {l : List Ent}, aB2 P l → ∀ e ∈ l, e.OK P
 | [], _, e, he => by simp at he
 | a :: r, h, e, he => by
  rcases List.mem_cons.1 he with rfl | he
  ·exact h.1
  ·exact LN h.2 e he
theorem aU {P : Program} {l : List Ent} (h : aB2 P l) : aW P (bF l) := aOR (LN h)
def aDL (P : Program) (nt : Nat) (lt : Nat → Option aO) : List Code → Prop
 | [] => True
 | a :: r => (∀ s, lt (aF a) = some s → cA P nt a s) ∧ aDL P nt lt r
theorem TO {P : Program} {nt : Nat} {lt : Nat → Option aO} : ∀ {l : List Code}, aDL P nt lt l → ∀ a ∈ l, ∀ s, lt (aF a) = some s → cA P nt a s
 | [], _, a, ha => by simp at ha
 | b :: r, h, a, ha => by
  rcases List.mem_cons.1 ha with rfl | ha
  ·exact h.1
  ·exact TO h.2 a ha
theorem aD {P : Program} {nt : Nat} {lt : Nat → Option aO} {c : Code} {l : List Code} (hc : aE c = l) (h : aDL P nt lt l) : ∀ a ∈ aE c, ∀ s, lt (aF a) = some s → cA P nt a s := by
 rw [hc]; exact TO h
theorem cT {P : Program} {nt : Nat} {lt : Nat → Option aO} {a : Code} {i : Nat} {s0 : aO} (hf : aF a = i) (hlt : lt i = some s0) (h : cA P nt a s0) : ∀ s, lt (aF a) = some s → cA P nt a s := by
 intro s hs
 rw [hf, hlt] at hs
 cases hs
 exact h

def aR (fn : Func) : Code := match fn.body with
 | some c => c
 | none => .skip
def eJ (c : Code) (i : Nat) : Code := (aE c).getD i .skip
def aRW (l : List Func) : Bool := l.all fun f => !(f.name == "runtime.NumGoroutine")
theorem aLA {P : Program} (h1 : P.follows .mixedOrders = true) (h2 : aRW P.funcs.toList = true) : yS P where
 mixed := h1
 names g fn hg := by
  have hm : fn ∈ P.funcs.toList := by
   rw [← Array.getElem?_toList] at hg
   exact List.mem_of_getElem? hg
  have := List.all_eq_true.1 h2 fn hm
  simpa using this

theorem Q7 {α : Type 1} {b : Bool} {x : Option α} {y : α} (h : (bif b then x else none) = some y) : b = true ∧ x = some y := by
 cases b with
 | true => exact ⟨rfl, h⟩
 | false => cases h

abbrev Shr := FuncId × (List PV → Heap → Option aGO)
def DH (P : Program) (s : Shr) : Prop := SortOKs P s.1 s.2
where SortOKs (P : Program) (g : FuncId) (f : List PV → Heap → Option aGO) : Prop := ∀ args H r, f args H = some r → ∀ y, r.val = some y → ∀ {n0 G μ w vs}, aP n0 G μ H w → VRs w G μ args vs → nG P n0 w G μ g vs.toArray (r.out y).1 (r.out y).2
def aSC : List Shr → FuncId → List PV → Heap → Option aGO
 | [], _, _, _ => none
 | s :: r, g, args, H => bif Nat.beq g s.1 then s.2 args H else aSC r g args H
def shE : List Shr → FuncId → Bool
 | [], _ => false
 | s :: r, g => bif Nat.beq g s.1 then true else shE r g
def aIM (P : Program) : List Shr → Prop
 | [] => True
 | s :: r => DH P s ∧ aIM P r
theorem aJ9 {P : Program} : ∀ {l : List Shr}, aIM P l → ∀ g args H r, aSC l g args H = some r → ∀ y, r.val = some y → ∀ {n0 G μ w vs}, aP n0 G μ H w → VRs w G μ args vs → nG P n0 w G μ g vs.toArray (r.out y).1 (r.out y).2
 | [], _, g, args, H, r, h => by cases h
 | s :: l, hl, g, args, H, r, h => by
  simp only [aSC] at h
  cases hb : Nat.beq g s.1 with
  | true =>
   rw [hb] at h
   have := Nat.eq_of_beq_eq_true hb
   subst this
   exact hl.1 args H r h
  | false =>
   rw [hb] at h
   exact aJ9 hl.2 g args H r h
def aBV (l : List Ent) (s : List Shr) : Env := ⟨Z8 l, aSC s, shE s⟩
theorem B8 {P : Program} {l : List Ent} {s : List Shr} (h : aB2 P l) (hs : aIM P s) : aW P (aBV l s) where
 pure := NQ (LN h)
 shr := aJ9 hs
end Go.PM
set_option linter.unusedSimpArgs false
set_option linter.unusedVariables false
namespace Go.PM
open Go Go.RowKit Go.Proofs
set_option maxRecDepth 100000
theorem aM : yS Tryz.prog := aLA (by kernel_rfl) (by kernel_rfl)
end Go.PM
set_option linter.unusedSimpArgs false
set_option linter.unusedVariables false
namespace Go.PM
open Go Go.RowKit
def posOf : List Nat → Nat → Option Nat
 | [], _ => none
 | x :: l, r => bif Nat.beq x r then some 0 else match posOf l r with
  | some i => some (i + 1)
  | none => none
def YR : List Nat → Bool
 | [] => true
 | x :: l => (match posOf l x with | none => true | some _ => false) && YR l
def uB (pm : List Nat) : PV → Option PV
 | .lit v => some (.lit v)
 | .vals cs n cap => some (.vals cs n cap)
 | .iptr cs => some (.iptr cs)
 | .tl t l cap e => some (.tl t l cap e)
 | .tp t l i off e => some (.tp t l i off e)
 | .row j lo n sz => some (.row j lo n sz)
 | .rp j off => some (.rp j off)
 | .mp j => some (.mp j)
 | .junk => some .junk
 | .hptr r off => match posOf pm r with | some i => some (.hptr i off) | none => none
 | .hs r off len cap sz => match posOf pm r with | some i => some (.hs i off len cap sz) | none => none
 | .own r sz => match posOf pm r with | some i => some (.own i sz) | none => none
 | .op r j off sz => match posOf pm r with | some i => some (.op i j off sz) | none => none
 | .win r lo n sz => match posOf pm r with | some i => some (.win i lo n sz) | none => none
 | .agg cs => match renPs pm cs with | some qs => some (.agg qs) | none => none
 | .tuple cs => match renPs pm cs with | some qs => some (.tuple qs) | none => none
 | .clo fn f c => match renPs pm f, renPs pm c with | some f', some c' => some (.clo fn f' c') | _, _ => none
where renPs (pm : List Nat) : List PV → Option (List PV)
 | [] => some []
 | p :: ps => match uB pm p, renPs pm ps with | some q, some qs => some (q :: qs) | _, _ => none
def aBM (pm : List Nat) (H : Heap) : List Nat → Option Heap
 | [] => some []
 | r :: l => match fB H r with
  | some k => match (bif k.tag.isSome then some k else match uB.renPs pm k.cells with | some cs => some { k with cells := cs } | none => none), aBM pm H l with
   | some k', some H' => some (some k' :: H')
   | _, _ => none
  | none => none
def aOA (pm : List Nat) (F : Frm) : List Nat → Option Frm
 | [] => some []
 | t :: l => match uB pm (bV F t), aOA pm F l with
  | some p, some F' => some ((t, p) :: F')
  | _, _ => none
def aW8 (T pm : List Nat) : Bool := T.all fun r => match pm[r]? with
 | some s => Nat.beq s r
 | none => false
def aCY (T pm slots : List Nat) (F : Frm) (H : Heap) : Option (Frm × Heap) :=
 bif YR pm && aW8 T pm then match aBM pm H pm, aOA pm F slots with
  | some H', some F' => some (F', H')
  | _, _ => none
 else none
def dY : List (Nat × Kd) → Frm → Heap → Frm × Heap
 | [], F, H => (F, H)
 | (t, .own e ty) :: r, F, H => match bV F t with
  | .lit (.slice none m c) => bif Nat.beq m 0 && Nat.beq c 0 then dY r ((t, .own H.length ty.size) :: F) (H ++ [some ⟨aH ty [], e, true, false, some ⟨ty, []⟩⟩]) else dY r F H
  | .tl _ [] (some 0) _ => dY r ((t, .own H.length ty.size) :: F) (H ++ [some ⟨aH ty [], e, true, false, some ⟨ty, []⟩⟩])
  | _ => dY r F H
 | (t, .bown e et ty) :: r, F, H => match bV F t with
  | .hptr s _ => match fB H s with
   | some k => match k.cells with
    | [.lit (.slice none m c)] => bif Nat.beq m 0 && Nat.beq c 0 && !k.tag.isSome then dY r F ((H ++ [some ⟨aH ty [], et, true, false, some ⟨ty, []⟩⟩] : Heap).set s (some { k with cells := [.own H.length ty.size] })) else dY r F H
    | _ => dY r F H
   | none => dY r F H
  | _ => dY r F H
 | (t, .bag _ t1 et ty _) :: r, F, H => match bV F t with
  | .hptr s _ => match fB H s with
   | some k => match k.cells.drop t1.size with
    | .tl _ [] (some 0) _ :: rest => bif !k.tag.isSome then dY r F ((H ++ [some ⟨aH ty [], et, true, false, some ⟨ty, []⟩⟩] : Heap).set s (some { k with cells := k.cells.take t1.size ++ .own H.length ty.size :: rest })) else dY r F H
    | .lit (.slice none m c) :: rest => bif Nat.beq m 0 && Nat.beq c 0 && !k.tag.isSome then dY r F ((H ++ [some ⟨aH ty [], et, true, false, some ⟨ty, []⟩⟩] : Heap).set s (some { k with cells := k.cells.take t1.size ++ .own H.length ty.size :: rest })) else dY r F H
    | _ => dY r F H
   | none => dY r F H
  | _ => dY r F H
 | _ :: r, F, H => dY r F H
def oX : List (Nat × Kd) → Frm → Heap → Frm × Heap
 | [], F, H => (F, H)
 | (t, .box _ (.list _)) :: r, F, H => match bV F t with
  | .hptr s _ => match fB H s with
   | some k => match k.cells with
    | [.own u sz] => match fB H u with
     | some ku => match ku.tag with
      | some g => bif !k.tag.isSome && !Nat.beq u s then oX r F (((H.set u (some { ku with frozen := true }))).set s (some { k with cells := [o0 g.t g.l none] })) else oX r F H
      | none => oX r F H
     | none => oX r F H
    | _ => oX r F H
   | none => oX r F H
  | _ => oX r F H
 | _ :: r, F, H => oX r F H
def L8 : List (Nat × Kd) → Frm → Heap → Option (List Nat)
 | [], _, _ => some []
 | (t, .own _ _) :: r, F, H => match bV F t, L8 r F H with
  | .own s _, some l => some (s :: l)
  | _, _ => none
 | (t, .box _ _) :: r, F, H => match bV F t, L8 r F H with
  | .hptr s _, some l => some (s :: l)
  | _, _ => none
 | (t, .bown _ _ _) :: r, F, H => match bV F t, L8 r F H with
  | .hptr s _, some l => match fB H s with
   | some k => match k.cells with
    | [.own u _] => some (s :: u :: l)
    | _ => none
   | none => none
  | _, _ => none
 | (t, .bag _ t1 _ _ _) :: r, F, H => match bV F t, L8 r F H with
  | .hptr s _, some l => match fB H s with
   | some k => match k.cells.drop t1.size with
    | .own u _ :: _ => some (s :: u :: l)
    | _ => none
   | none => none
  | _, _ => none
 | (_, .ar _ _) :: r, F, H => match OT 0 H, L8 r F H with
  | some (ra, _), some l => some (ra :: l)
  | _, _ => none
 | _ :: r, F, H => L8 r F H
def oA (T : List Nat) (sh : List (Nat × Kd)) (F : Frm) (H : Heap) : Option (Shape.den sh) :=
 match pC sh F H with
 | (F0, H0) => match oX sh F0 H0 with
  | (F1, H1) => match dY sh F1 H1 with
   | (F2, H2) => match L8 sh F2 H2 with
    | some pm => match aCY T pm (slotsOf sh) F2 H2 with
     | some (F', H') => bif Nat.beq H'.length (Z6 sh) then aNZ sh F' H' 0 else none
     | none => none
    | none => none

section
variable {P : Program} {n0 : Nat → Prop} {w wi : World} {G Gi : Gd} {μ μi μ' : Mp} {H : Heap} {F : Frm} {a : Act} {nt : Nat}
theorem uM : ∀ {l : List Nat} {r i : Nat}, posOf l r = some i → l[i]? = some r
 | [], r, i, h => by cases h
 | x :: l, r, i, h => by
  simp only [posOf] at h
  cases hb : Nat.beq x r with
  | true =>
   rw [hb] at h
   simp only [cond_true, Option.some.injEq] at h
   subst h
   rw [Nat.eq_of_beq_eq_true hb]; rfl
  | false =>
   rw [hb] at h
   simp only [cond_false] at h
   split at h
   ·rename_i j hj
    simp only [Option.some.injEq] at h
    subst h
    simpa using uM hj
   ·cases h
theorem LQ : ∀ {l : List Nat} {r i : Nat}, posOf l r = none → l[i]? = some r → False
 | [], r, i, _, h => by simp at h
 | x :: l, r, i, hn, h => by
  simp only [posOf] at hn
  cases hb : Nat.beq x r with
  | true => rw [hb] at hn; simp at hn
  | false =>
   rw [hb] at hn
   simp only [cond_false] at hn
   split at hn
   ·cases hn
   ·rename_i hp
    cases i with
    | zero =>
     simp only [List.getElem?_cons_zero, Option.some.injEq] at h
     subst h; simp at hb
    | succ i => exact LQ hp (by simpa using h)
theorem MF : ∀ {l : List Nat} {i j r : Nat}, YR l = true → l[i]? = some r → l[j]? = some r → i = j
 | [], i, j, r, _, h, _ => by simp at h
 | x :: l, i, j, r, hn, h1, h2 => by
  simp only [YR, Bool.and_eq_true] at hn
  obtain ⟨hp, hn⟩ := hn
  have hx : posOf l x = none := by
   cases hq : posOf l x with
   | none => rfl
   | some k => rw [hq] at hp; cases hp
  cases i with
  | zero =>
   simp only [List.getElem?_cons_zero, Option.some.injEq] at h1
   subst h1
   cases j with
   | zero => rfl
   | succ j => exact (LQ hx (by simpa using h2)).elim
  | succ i =>
   cases j with
   | zero =>
    simp only [List.getElem?_cons_zero, Option.some.injEq] at h2
    subst h2
    exact (LQ hx (by simpa using h1)).elim
   | succ j => exact congrArg (· + 1) (MF (r := r) hn (by simpa using h1) (by simpa using h2))

def JS (μ : Mp) (pm : List Nat) : Mp := ⟨fun i => match pm[i]? with | some r => μ.loc r | none => none, fun i => match pm[i]? with | some r => μ.len r | none => none⟩
theorem jJ {pm : List Nat} {i r : Nat} (h : pm[i]? = some r) : (JS μ pm).loc i = μ.loc r ∧ (JS μ pm).len i = μ.len r := by simp [JS, h]

mutual
theorem aJK {pm : List Nat} : ∀ (p q : PV) (v : Value), uB pm p = some q → VR w G μ p v → VR w G (JS μ pm) q v
 | .lit u, q, v, h, hv => by simp only [uB, Option.some.injEq] at h; subst h; rw [VR] at hv ⊢; exact hv
 | .vals .., q, v, h, hv => by simp only [uB, Option.some.injEq] at h; subst h; rw [VR] at hv ⊢; exact hv
 | .iptr _, q, v, h, hv => by simp only [uB, Option.some.injEq] at h; subst h; rw [VR] at hv ⊢; exact hv
 | .tl .., q, v, h, hv => by simp only [uB, Option.some.injEq] at h; subst h; rw [VR] at hv ⊢; exact hv
 | .tp .., q, v, h, hv => by simp only [uB, Option.some.injEq] at h; subst h; rw [VR] at hv ⊢; exact hv
 | .row .., q, v, h, hv => by simp only [uB, Option.some.injEq] at h; subst h; rw [VR] at hv ⊢; exact hv
 | .rp .., q, v, h, hv => by simp only [uB, Option.some.injEq] at h; subst h; rw [VR] at hv ⊢; exact hv
 | .mp _, q, v, h, hv => by simp only [uB, Option.some.injEq] at h; subst h; rw [VR] at hv ⊢; exact hv
 | .junk, q, v, h, hv => by simp only [uB, Option.some.injEq] at h; subst h; rw [VR]; trivial
 | .hptr r off, q, v, h, hv => by
  simp only [uB] at h
  split at h
  ·rename_i i hi
   simp only [Option.some.injEq] at h
   subst h
   have := jJ (μ := μ) (uM hi)
   rw [VR] at hv ⊢; rw [this.1]; exact hv
  ·cases h
 | .hs r off l c s, q, v, h, hv => by
  simp only [uB] at h
  split at h
  ·rename_i i hi
   simp only [Option.some.injEq] at h
   subst h
   have := jJ (μ := μ) (uM hi)
   rw [VR] at hv ⊢; rw [this.1]; exact hv
  ·cases h
 | .own r s, q, v, h, hv => by
  simp only [uB] at h
  split at h
  ·rename_i i hi
   simp only [Option.some.injEq] at h
   subst h
   have := jJ (μ := μ) (uM hi)
   rw [VR] at hv ⊢; rw [this.1, this.2]; exact hv
  ·cases h
 | .op r j off s, q, v, h, hv => by
  simp only [uB] at h
  split at h
  ·rename_i i hi
   simp only [Option.some.injEq] at h
   subst h
   have := jJ (μ := μ) (uM hi)
   rw [VR] at hv ⊢; rw [this.1]; exact hv
  ·cases h
 | .win r lo n s, q, v, h, hv => by
  simp only [uB] at h
  split at h
  ·rename_i i hi
   simp only [Option.some.injEq] at h
   subst h
   have := jJ (μ := μ) (uM hi)
   rw [VR] at hv ⊢; rw [this.1, this.2]; exact hv
  ·cases h
 | .agg cs, q, v, h, hv => by
  simp only [uB] at h
  split at h
  ·rename_i qs hq
   simp only [Option.some.injEq] at h
   subst h
   rw [VR] at hv ⊢
   obtain ⟨vs, h1, h2⟩ := hv
   exact ⟨vs, h1, yK cs qs _ hq h2⟩
  ·cases h
 | .tuple cs, q, v, h, hv => by
  simp only [uB] at h
  split at h
  ·rename_i qs hq
   simp only [Option.some.injEq] at h
   subst h
   rw [VR] at hv ⊢
   obtain ⟨vs, h1, h2⟩ := hv
   exact ⟨vs, h1, yK cs qs _ hq h2⟩
  ·cases h
 | .clo fn f c, q, v, h, hv => by
  simp only [uB] at h
  split at h
  ·rename_i f' c' hf hc
   simp only [Option.some.injEq] at h
   subst h
   rw [VR] at hv ⊢
   obtain ⟨fs, cs, h1, h2, h3⟩ := hv
   exact ⟨fs, cs, h1, yK f f' _ hf h2, yK c c' _ hc h3⟩
  ·cases h
theorem yK {pm : List Nat} : ∀ (ps qs : List PV) (vs : List Value), uB.renPs pm ps = some qs → VRs w G μ ps vs → VRs w G (JS μ pm) qs vs
 | [], qs, vs, h, hv => by
  simp only [uB.renPs, Option.some.injEq] at h
  subst h
  rw [VRs] at hv ⊢; exact hv
 | p :: ps, qs, vs, h, hv => by
  simp only [uB.renPs] at h
  split at h
  ·rename_i q qs' hq hqs
   simp only [Option.some.injEq] at h
   subst h
   rw [VRs] at hv ⊢
   obtain ⟨x, xs, h1, h2, h3⟩ := hv
   exact ⟨x, xs, h1, aJK p q x hq h2, yK ps qs' xs hqs h3⟩
  ·cases h
end
theorem aAM {pm : List Nat} : ∀ {l : List Nat} {H' : Heap}, aBM pm H l = some H' → H'.length = l.length ∧ ∀ (i : Nat) (k' : Blk), H'[i]? = some (some k') → ∃ s k, l[i]? = some s ∧ H[s]? = some (some k) ∧ ((k.tag.isSome = true ∧ k' = k) ∨ (k.tag = none ∧ ∃ cs, uB.renPs pm k.cells = some cs ∧ k' = { k with cells := cs }))
 | [], H', h => by
  simp only [aBM, Option.some.injEq] at h
  subst h
  exact ⟨rfl, fun i k' h => by simp at h⟩
 | r :: l, H', h => by
  simp only [aBM] at h
  split at h
  ·rename_i k hk
   split at h
   ·rename_i k1 H1 h1 h2
    simp only [Option.some.injEq] at h
    subst h
    obtain ⟨e1, e2⟩ := aAM h2
    refine ⟨by simp [e1], fun i k' hi => ?_⟩
    cases i with
    | zero =>
     simp only [List.getElem?_cons_zero, Option.some.injEq] at hi
     subst hi
     refine ⟨r, k, rfl, aL hk, ?_⟩
     cases ht : k.tag with
     | some g =>
      rw [ht] at h1
      simp only [Option.isSome_some, cond_true, Option.some.injEq] at h1
      exact .inl ⟨rfl, h1.symm⟩
     | none =>
      rw [ht] at h1
      simp only [Option.isSome_none, cond_false] at h1
      split at h1
      ·rename_i cs hcs
       simp only [Option.some.injEq] at h1
       exact .inr ⟨rfl, cs, hcs, h1.symm⟩
      ·cases h1
    | succ i =>
     obtain ⟨s, k0, a1, a2, a3⟩ := e2 i k' (by simpa using hi)
     exact ⟨s, k0, by simpa using a1, a2, a3⟩
   ·cases h
  ·cases h
theorem aLS (hW : aP n0 G μ H w) {pm : List Nat} (hn : YR pm = true) {H' : Heap} (h : aBM pm H pm = some H') : aP n0 G (JS μ pm) H' w := by
 obtain ⟨hlen, fB⟩ := aAM h
 refine ⟨?_, ?_, ?_, hW.lt, ?_, hW.base, hW.rows.rel (fun r s => pm[r]? = some s) (fun r r' s h1 h2 => MF hn h1 h2) (fun r k' hr => ?_)⟩
 case refine_5 =>
  obtain ⟨s, k, a1, a2, a3⟩ := fB r k' hr
  refine ⟨s, k, a1, a2, ?_⟩
  rcases a3 with ⟨_, rfl⟩ | ⟨_, cs, _, rfl⟩
  ·exact ⟨rfl, rfl, rfl, rfl, (jJ a1).1⟩
  ·exact ⟨rfl, rfl, rfl, rfl, (jJ a1).1⟩
 ·intro r k' b hr hb
  obtain ⟨s, k, a1, a2, a3⟩ := fB r k' hr
  rw [(jJ a1).1] at hb
  obtain ⟨c, c1, c2, c3, c4⟩ := hW.blk s k b a2 hb
  rcases a3 with ⟨ht, rfl⟩ | ⟨ht, cs, hcs, rfl⟩
  ·refine ⟨c, c1, ?_, c3, c4⟩
   obtain ⟨g, hg⟩ := Option.isSome_iff_exists.1 ht
   have := (hW.tags s k' g a2 hg).1
   rw [this] at c2 ⊢
   exact gW (dU _ _) c2
  ·obtain ⟨vs, d1, d2⟩ := c2.values
   have d3 := yK _ _ _ hcs d1
   exact ⟨c, c1, aN.iC d3 d2, fun hg => by rw [c3 hg]; show k.cells.length = cs.length; rw [d1.length, d3.length], c4⟩
 ·intro r k' g hr hg
  obtain ⟨s, k, a1, a2, a3⟩ := fB r k' hr
  rw [(jJ a1).2]
  rcases a3 with ⟨ht, rfl⟩ | ⟨ht, cs, hcs, rfl⟩
  ·exact hW.tags s k' g a2 hg
  ·dsimp only at hg; rw [ht] at hg; cases hg
 ·intro r1 r2 k1 k2 b e1 e2 f1 f2 m1 m2
  obtain ⟨s1, l1, a1, a2, a3⟩ := fB r1 k1 e1
  obtain ⟨s2, l2, b1, b2, b3⟩ := fB r2 k2 e2
  rw [(jJ a1).1] at m1
  rw [(jJ b1).1] at m2
  have fz : ∀ {k k' : Blk}, k'.frozen = false → ((k.tag.isSome = true ∧ k' = k) ∨ (k.tag = none ∧ ∃ cs, uB.renPs pm k.cells = some cs ∧ k' = { k with cells := cs })) → k.frozen = false := by
   rintro k k' hf (⟨_, rfl⟩ | ⟨_, cs, _, rfl⟩)
   ·exact hf
   ·exact hf
  have := hW.inj s1 s2 l1 l2 b a2 b2 (fz f1 a3) (fz f2 b3) m1 m2
  subst this
  exact MF hn a1 b1
 ·intro r hr
  have : pm[r]? = none := List.getElem?_eq_none (by omega)
  simp [JS, this]
theorem aEN {pm : List Nat} : ∀ {l : List Nat} {F' : Frm}, aOA pm F l = some F' → ∀ t, bV F' t = .junk ∨ uB pm (bV F t) = some (bV F' t)
 | [], F', h, t => by
  simp only [aOA, Option.some.injEq] at h
  subst h
  exact .inl rfl
 | s :: l, F', h, t => by
  simp only [aOA] at h
  split at h
  ·rename_i p F1 hp hl
   simp only [Option.some.injEq] at h
   subst h
   rw [dD]
   by_cases hs : t = s
   ·subst hs; rw [if_pos rfl]; exact .inr hp
   ·rw [if_neg hs]; exact aEN hl t
  ·cases h
theorem ZC {T pm slots : List Nat} {F' : Frm} {H' : Heap} (h : aCY T pm slots F H = some (F', H')) (hfl : ∀ r, ¬ r ∈ T → μi.loc r = none ∧ μi.len r = none) (hI : I n0 wi Gi μi nt F H a w) : I n0 wi Gi μi nt F' H' a w := by
 unfold aCY at h
 obtain ⟨hn, h⟩ := aI h
 simp only [Bool.and_eq_true] at hn
 obtain ⟨hn, hst⟩ := hn
 have stay : ∀ r, r ∈ T → pm[r]? = some r := by
  intro r hr
  have := List.all_eq_true.1 hst r hr
  split at this
  ·rename_i s hs
   rw [hs, Nat.eq_of_beq_eq_true this]
  ·cases this
 split at h
 ·rename_i H1 F1 h1 h2
  simp only [Option.some.injEq, Prod.mk.injEq] at h
  obtain ⟨rfl, rfl⟩ := h
  obtain ⟨G, μ, e, hW, hF⟩ := hI
  refine ⟨G, JS μ pm, ?_, aLS hW hn h1, hF.size, fun t => ?_, hF.defers⟩
  ·exact {
    good := e.good
    map := fun r b hr => by
     by_cases hT : r ∈ T
     ·rw [(jJ (stay r hT)).1]; exact e.map r b hr
     ·rw [(hfl r hT).1] at hr; cases hr
    len := fun r b hr => by
     by_cases hT : r ∈ T
     ·rw [(jJ (stay r hT)).2]; exact e.len r b hr
     ·rw [(hfl r hT).2] at hr; cases hr
    room := e.room
    row := e.row
    os := e.os
    tape := e.tape
    output := e.output
    size := e.size
    old := e.old
    new := e.new }
  ·rcases aEN h2 t with h3 | h3
   ·rw [h3, VR]; trivial
   ·exact aJK _ _ _ h3 (hF.slot t)
 ·cases h

theorem BZ (hW : aP n0 G μ H w) {s : Nat} {k : Blk} {cs : List PV} (hs : H[s]? = some (some k)) (ht : k.tag = none) (hc : ∀ b, aN w G μ b 0 k.cells → aN w G μ b 0 cs ∧ cs.length = k.cells.length) :
  aP n0 G μ (H.set s (some { k with cells := cs })) w := by
 have hsl : s < H.length := (List.getElem?_eq_some_iff.1 hs).1
 have key : ∀ (r : Nat) (k' : Blk), (H.set s (some { k with cells := cs }))[r]? = some (some k') → (r = s ∧ k' = { k with cells := cs }) ∨ (r ≠ s ∧ H[r]? = some (some k')) := by
  intro r k' hr
  by_cases hrs : s = r
  ·subst hrs; rw [List.getElem?_set_self hsl] at hr; cases hr; exact .inl ⟨rfl, rfl⟩
  ·rw [List.getElem?_set_ne hrs] at hr; exact .inr ⟨Ne.symm hrs, hr⟩
 refine ⟨?_, ?_, ?_, hW.lt, fun r hr => hW.top r (by simpa using hr), hW.base, hW.rows.rel (fun r s => r = s) (fun r r' s h1 h2 => h1.trans h2.symm) (fun r k' hr => ?_)⟩
 case refine_4 =>
  rcases key r k' hr with ⟨rfl, rfl⟩ | ⟨_, hr⟩
  ·exact ⟨r, k, rfl, hs, rfl, rfl, rfl, rfl, rfl⟩
  ·exact ⟨r, k', rfl, hr, rfl, rfl, rfl, rfl, rfl⟩
 ·intro r k' b hr hb
  rcases key r k' hr with ⟨rfl, rfl⟩ | ⟨_, hr⟩
  ·obtain ⟨c, c1, c2, c3, c4⟩ := hW.blk r k b hs hb
   obtain ⟨d1, d2⟩ := hc b c2
   exact ⟨c, c1, d1, fun hg => by show c.size = cs.length; rw [d2]; exact c3 hg, c4⟩
  ·exact hW.blk r k' b hr hb
 ·intro r k' g hr hg
  rcases key r k' hr with ⟨rfl, rfl⟩ | ⟨_, hr⟩
  ·dsimp only at hg; rw [ht] at hg; cases hg
  ·exact hW.tags r k' g hr hg
 ·intro r1 r2 k1 k2 b e1 e2 f1 f2 m1 m2
  have old : ∀ (r : Nat) (k' : Blk), (H.set s (some { k with cells := cs }))[r]? = some (some k') → k'.frozen = false → ∃ k0, H[r]? = some (some k0) ∧ k0.frozen = false := by
   intro r k' hr hf
   rcases key r k' hr with ⟨rfl, rfl⟩ | ⟨_, hr⟩
   ·exact ⟨k, hs, hf⟩
   ·exact ⟨k', hr, hf⟩
  obtain ⟨l1, a1, a2⟩ := old r1 k1 e1 f1
  obtain ⟨l2, b1, b2⟩ := old r2 k2 e2 f2
  exact hW.inj r1 r2 l1 l2 b a1 b1 a2 b2 m1 m2

theorem bC : ∀ (sh : List (Nat × Kd)) (F : Frm) (H : Heap), I n0 wi Gi μi nt F H a w → I n0 wi Gi μi nt (dY sh F H).1 (dY sh F H).2 a w
 | [], F, H, hI => hI
 | (t, .own e ty) :: r, F, H, hI => by
  have skip : I n0 wi Gi μi nt (dY r F H).1 (dY r F H).2 a w := bC r F H hI
  unfold dY
  split
  ·rename_i m c ht
   cases hb : (Nat.beq m 0 && Nat.beq c 0) with
   | false => exact skip
   | true =>
    simp only [cond_true]
    simp only [Bool.and_eq_true] at hb
    have h1 := Nat.eq_of_beq_eq_true hb.1
    have h2 := Nat.eq_of_beq_eq_true hb.2
    subst h1; subst h2
    obtain ⟨G, μ, e0, hW, hF⟩ := hI
    have hs := hF.slot t
    rw [ht, VR] at hs
    obtain ⟨e1, w1⟩ := kW hW ⟨aH ty [], e, true, false, some ⟨ty, []⟩⟩ (on := some 0) (fun g hg => by cases hg; exact ⟨rfl, rfl⟩)
    refine bC r _ _ ⟨G, _, e0.trans e1, w1, dF.named (hF.mono e1.toMono) ?_⟩
    rw [VR]
    exact ⟨0, kB .., .inl ⟨rfl, none, hs⟩⟩
  ·rename_i t' e' ht
   obtain ⟨G, μ, e0, hW, hF⟩ := hI
   have hs := hF.slot t
   rw [ht] at hs
   obtain ⟨ao, hs⟩ := RU hs
   obtain ⟨e1, w1⟩ := kW hW ⟨aH ty [], e, true, false, some ⟨ty, []⟩⟩ (on := some 0) (fun g hg => by cases hg; exact ⟨rfl, rfl⟩)
   refine bC r _ _ ⟨G, _, e0.trans e1, w1, dF.named (hF.mono e1.toMono) ?_⟩
   rw [VR]
   exact ⟨0, kB .., .inl ⟨rfl, ao, hs⟩⟩
  ·exact skip
 | (t, .bown e et ty) :: r, F, H, hI => by
  have skip : I n0 wi Gi μi nt (dY r F H).1 (dY r F H).2 a w := bC r F H hI
  unfold dY
  split
  ·rename_i s off ht
   split
   ·rename_i k hk
    split
    ·rename_i m c hcs
     cases hb : (Nat.beq m 0 && Nat.beq c 0 && !k.tag.isSome) with
     | false => exact skip
     | true =>
      simp only [cond_true]
      simp only [Bool.and_eq_true, Bool.not_eq_true'] at hb
      have h1 := Nat.eq_of_beq_eq_true hb.1.1
      have h2 := Nat.eq_of_beq_eq_true hb.1.2
      subst h1; subst h2
      have htag : k.tag = none := by
       cases hq : k.tag with
       | none => rfl
       | some g => rw [hq] at hb; simp at hb
      obtain ⟨G, μ, e0, hW, hF⟩ := hI
      obtain ⟨e1, w1⟩ := kW hW ⟨aH ty [], et, true, false, some ⟨ty, []⟩⟩ (on := some 0) (fun g hg => by cases hg; exact ⟨rfl, rfl⟩)
      have hk' := aL hk
      have hsl : s < H.length := (List.getElem?_eq_some_iff.1 hk').1
      have hk2 : (H ++ [some ⟨aH ty [], et, true, false, some ⟨ty, []⟩⟩])[s]? = some (some k) := by rw [List.getElem?_append_left hsl]; exact hk'
      refine bC r _ _ ⟨G, _, e0.trans e1, BZ w1 hk2 htag ?_, hF.mono e1.toMono⟩
      intro b hc
      rw [hcs] at hc ⊢
      refine ⟨?_, rfl⟩
      rw [aN] at hc ⊢
      obtain ⟨⟨v, v1, v2⟩, v3⟩ := hc
      refine ⟨⟨v, v1, ?_⟩, by rw [aN]; trivial⟩
      have v4 : v = .slice none 0 0 := by simpa only [VR] using v2
      simp only [VR]
      exact ⟨0, kB .., .inl ⟨rfl, none, v4⟩⟩
    ·exact skip
   ·exact skip
  ·exact skip
 | (_, .int _) :: r, F, H, hI => bC r F H hI
 | (_, .bool) :: r, F, H, hI => bC r F H hI
 | (_, .str) :: r, F, H, hI => bC r F H hI
 | (_, .list _) :: r, F, H, hI => bC r F H hI
 | (_, .agg _) :: r, F, H, hI => bC r F H hI
 | (_, .box _ _) :: r, F, H, hI => bC r F H hI
 | (_, .ptr _) :: r, F, H, hI => bC r F H hI
 | (_, .fn _) :: r, F, H, hI => bC r F H hI
 | (_, .nil0) :: r, F, H, hI => bC r F H hI
 | (_, .val) :: r, F, H, hI => bC r F H hI
 | (_, .nilI) :: r, F, H, hI => bC r F H hI
 | (_, .clo _ _) :: r, F, H, hI => bC r F H hI
 | (_, .win _ _) :: r, F, H, hI => bC r F H hI
 | (_, .hnd _) :: r, F, H, hI => bC r F H hI
 | (_, .mpk _) :: r, F, H, hI => bC r F H hI
 | (_, .ar _ _) :: r, F, H, hI => bC r F H hI
 | (t, .bag e t1 et ty t2) :: r, F, H, hI => by
  have skip : I n0 wi Gi μi nt (dY r F H).1 (dY r F H).2 a w := bC r F H hI
  unfold dY
  split
  ·rename_i s off ht
   split
   ·rename_i k hk
    split
    ·rename_i t' e' rest hcs
     cases hb : (!k.tag.isSome) with
     | false => exact skip
     | true =>
      simp only [cond_true]
      have htag : k.tag = none := by
       cases hq : k.tag with
       | none => rfl
       | some g => rw [hq] at hb; simp at hb
      obtain ⟨G, μ, e0, hW, hF⟩ := hI
      obtain ⟨e1, w1⟩ := kW hW ⟨aH ty [], et, true, false, some ⟨ty, []⟩⟩ (on := some 0) (fun g hg => by cases hg; exact ⟨rfl, rfl⟩)
      have hk' := aL hk
      have hsl : s < H.length := (List.getElem?_eq_some_iff.1 hk').1
      have hk2 : (H ++ [some ⟨aH ty [], et, true, false, some ⟨ty, []⟩⟩])[s]? = some (some k) := by rw [List.getElem?_append_left hsl]; exact hk'
      refine bC r _ _ ⟨G, _, e0.trans e1, BZ w1 hk2 htag ?_, hF.mono e1.toMono⟩
      intro b hc
      obtain ⟨vs, d1, d2⟩ := hc.values
      have d3 := d1.take t1.size
      have d4 := d1.drop t1.size
      rw [hcs, VRs] at d4
      obtain ⟨v, vc, e3, d5, d6⟩ := d4
      obtain ⟨ao, d7⟩ := RU d5
      have d8 : VRs w G (upd μ H.length none (some 0)) (k.cells.take t1.size ++ .own H.length ty.size :: rest) (vs.take t1.size ++ v :: vc) := VRs.append d3 (by
       rw [VRs]
       refine ⟨v, vc, rfl, ?_, d6⟩
       rw [VR]
       exact ⟨0, kB .., .inl ⟨rfl, ao, d7⟩⟩)
      rw [← e3, List.take_append_drop] at d8
      exact ⟨aN.iC d8 d2, by rw [d8.length, d1.length]⟩
    ·rename_i m' c' rest hcs
     cases hb : (Nat.beq m' 0 && Nat.beq c' 0 && !k.tag.isSome) with
     | false => exact skip
     | true =>
      simp only [cond_true]
      simp only [Bool.and_eq_true] at hb
      obtain ⟨⟨hm, hc⟩, hb⟩ := hb
      have hm := Nat.eq_of_beq_eq_true hm
      have hc := Nat.eq_of_beq_eq_true hc
      subst hm; subst hc
      have htag : k.tag = none := by
       cases hq : k.tag with
       | none => rfl
       | some g => rw [hq] at hb; simp at hb
      obtain ⟨G, μ, e0, hW, hF⟩ := hI
      obtain ⟨e1, w1⟩ := kW hW ⟨aH ty [], et, true, false, some ⟨ty, []⟩⟩ (on := some 0) (fun g hg => by cases hg; exact ⟨rfl, rfl⟩)
      have hk' := aL hk
      have hsl : s < H.length := (List.getElem?_eq_some_iff.1 hk').1
      have hk2 : (H ++ [some ⟨aH ty [], et, true, false, some ⟨ty, []⟩⟩])[s]? = some (some k) := by rw [List.getElem?_append_left hsl]; exact hk'
      refine bC r _ _ ⟨G, _, e0.trans e1, BZ w1 hk2 htag ?_, hF.mono e1.toMono⟩
      intro b hc
      obtain ⟨vs, d1, d2⟩ := hc.values
      have d3 := d1.take t1.size
      have d4 := d1.drop t1.size
      rw [hcs, VRs] at d4
      obtain ⟨v, vc, e3, d5, d6⟩ := d4
      rw [VR] at d5
      have d8 : VRs w G (upd μ H.length none (some 0)) (k.cells.take t1.size ++ .own H.length ty.size :: rest) (vs.take t1.size ++ v :: vc) := VRs.append d3 (by
       rw [VRs]
       refine ⟨v, vc, rfl, ?_, d6⟩
       rw [VR]
       exact ⟨0, kB .., .inl ⟨rfl, none, d5⟩⟩)
      rw [← e3, List.take_append_drop] at d8
      exact ⟨aN.iC d8 d2, by rw [d8.length, d1.length]⟩
    ·exact skip
   ·exact skip
  ·exact skip

theorem aY : ∀ (sh : List (Nat × Kd)) (F : Frm) (H : Heap), I n0 wi Gi μi nt F H a w → I n0 wi Gi μi nt (oX sh F H).1 (oX sh F H).2 a w
 | [], F, H, hI => hI
 | (t, .box e (.list ty)) :: r, F, H, hI => by
  have skip : I n0 wi Gi μi nt (oX r F H).1 (oX r F H).2 a w := aY r F H hI
  unfold oX
  split
  ·rename_i s off ht
   split
   ·rename_i k hk
    split
    ·rename_i u sz hcs
     split
     ·rename_i ku hku
      split
      ·rename_i g hg
       cases hb : (!k.tag.isSome && !Nat.beq u s) with
       | false => exact skip
       | true =>
        simp only [cond_true]
        simp only [Bool.and_eq_true, Bool.not_eq_true'] at hb
        have htag : k.tag = none := by
         cases hq : k.tag with
         | none => rfl
         | some g => rw [hq] at hb; simp at hb
        have hne : u ≠ s := fun e => by rw [e] at hb; simp at hb
        obtain ⟨G, μ, e0, hW, hF⟩ := hI
        have hul : u < H.length := (List.getElem?_eq_some_iff.1 (aL hku)).1
        have hk2 : (H.set u (some { ku with frozen := true }))[s]? = some (some k) := by rw [List.getElem?_set_ne hne]; exact aL hk
        have hku2 : fB (H.set u (some { ku with frozen := true })) u = some { ku with frozen := true } := by
         simp only [fB, List.getElem?_set_self hul]
        have fin : ∀ {G1 : Gd} {w1 : World} {μ1 : Mp}, (∀ b, μ1.loc u = some b → G1 b) → aP n0 G1 μ1 (H.set u (some { ku with frozen := true })) w1 → aP n0 G1 μ1 ((H.set u (some { ku with frozen := true })).set s (some { k with cells := [o0 g.t g.l none] })) w1 := by
         intro G1 w1 μ1 hGu hW1
         refine BZ hW1 hk2 htag fun b hc => ?_
         rw [hcs] at hc ⊢
         refine ⟨?_, rfl⟩
         rw [aN] at hc ⊢
         obtain ⟨⟨v, v1, v2⟩, v3⟩ := hc
         exact ⟨⟨v, v1, (AK hW1 v2 hku2 hg (fun b h => h) hGu).aZ⟩, by rw [aN]; trivial⟩
        cases hfz : ku.frozen with
        | true =>
         have hsame : H.set u (some { ku with frozen := true }) = H := by
          apply List.ext_getElem?
          intro i
          by_cases hi : u = i
          ·subst hi
           rw [List.getElem?_set_self hul, aL hku]
           obtain ⟨k1, k2, k3, k4, k5⟩ := ku
           dsimp only at hfz
           rw [hfz]
          ·rw [List.getElem?_set_ne hi]
         refine aY r _ _ ⟨G, μ, e0, fin (fun b hb => ?_) (by rw [hsame]; exact hW), hF⟩
         obtain ⟨_, _, _, _, h5, _⟩ := hW.blk u ku b (aL hku) hb
         exact h5 hfz
        | false =>
         obtain ⟨e1, w1⟩ := I4 hW (aL hku) hfz
         exact aY r _ _ ⟨_, μ, e0.trans e1, fin (fun b hb => .inr hb) w1, hF.mono e1.toMono⟩
      ·exact skip
     ·exact skip
    ·exact skip
   ·exact skip
  ·exact skip
 | (_, .int _) :: r, F, H, hI => aY r F H hI
 | (_, .bool) :: r, F, H, hI => aY r F H hI
 | (_, .str) :: r, F, H, hI => aY r F H hI
 | (_, .list _) :: r, F, H, hI => aY r F H hI
 | (_, .agg _) :: r, F, H, hI => aY r F H hI
 | (_, .box _ (.int _)) :: r, F, H, hI => aY r F H hI
 | (_, .box _ .bool) :: r, F, H, hI => aY r F H hI
 | (_, .box _ .str) :: r, F, H, hI => aY r F H hI
 | (_, .box _ (.hnd _)) :: r, F, H, hI => aY r F H hI
 | (_, .box _ (.rows _)) :: r, F, H, hI => aY r F H hI
 | (_, .box _ (.prod _ _)) :: r, F, H, hI => aY r F H hI
 | (_, .ptr _) :: r, F, H, hI => aY r F H hI
 | (_, .fn _) :: r, F, H, hI => aY r F H hI
 | (_, .nil0) :: r, F, H, hI => aY r F H hI
 | (_, .val) :: r, F, H, hI => aY r F H hI
 | (_, .nilI) :: r, F, H, hI => aY r F H hI
 | (_, .clo _ _) :: r, F, H, hI => aY r F H hI
 | (_, .win _ _) :: r, F, H, hI => aY r F H hI
 | (_, .hnd _) :: r, F, H, hI => aY r F H hI
 | (_, .mpk _) :: r, F, H, hI => aY r F H hI
 | (_, .ar _ _) :: r, F, H, hI => aY r F H hI
 | (_, .own _ _) :: r, F, H, hI => aY r F H hI
 | (_, .bown _ _ _) :: r, F, H, hI => aY r F H hI
 | (_, .bag _ _ _ _ _) :: r, F, H, hI => aY r F H hI

theorem tD {T : List Nat} {sh : List (Nat × Kd)} {x : Shape.den sh} (h : oA T sh F H = some x) (hfl : ∀ r, ¬ r ∈ T → μi.loc r = none ∧ μi.len r = none) (hI : I n0 wi Gi μi nt F H a w) : I n0 wi Gi μi nt (mV sh x 0) (uC sh x) a w := by
 unfold oA at h
 replace hI := p8 sh F H hI
 split at h
 rename_i F0 H0 hd0
 rw [hd0] at hI
 replace hI := aY sh F0 H0 hI
 split at h
 rename_i F1 H1 hd1
 rw [hd1] at hI
 replace hI := bC sh F1 H1 hI
 split at h
 rename_i F2 H2 hd2
 rw [hd2] at hI
 split at h
 ·rename_i pm hpm
  split at h
  ·rename_i F' H' ht
   obtain ⟨hb, h⟩ := aI h
   obtain ⟨G, μ, e, hW, hF⟩ := ZC ht hfl hI
   obtain ⟨h1, h2⟩ := L5 hW hF.slot sh h
   have hH : ∀ i : Nat, aJH H'[i]? (uC sh x)[i]? := by
    intro i
    rcases Nat.lt_or_ge i (Z6 sh) with hl | hl
    ·have := h2 i hl
     rwa [Nat.zero_add] at this
    ·have e1 := Nat.eq_of_beq_eq_true hb
     exact .inl (by rw [List.getElem?_eq_none (by omega), List.getElem?_eq_none (by rw [TY]; omega)])
   exact ⟨G, μ, e, hW.aJS hH, hF.size, h1, hF.defers⟩
  ·cases h
 ·cases h
end
end Go.PM
