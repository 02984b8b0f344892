/- The plain machine, open runs: code, loops, functions. No program. -/
import Derived.Test.YtjgapmocogjkmaaGreatDoorPmS
set_option linter.unusedSimpArgs false
set_option linter.unusedVariables false
namespace Go.PM
open Go Go.RowKit

def keepF {α : Type} (m : Nat) : Frm → (Frm → α) → α
  | [], k => k []
  | (t, p) :: r, k => bif bitAt m t then keepF m r (fun r => k ((t, p) :: r)) else keepF m r k
theorem keepF_frm {α : Type} (m : Nat) : ∀ (F : Frm) (k : Frm → α), ∃ F', keepF m F k = k F' ∧ ∀ t, fget F' t = fget F t ∨ fget F' t = .junk
  | [], k => ⟨[], rfl, fun t => .inl rfl⟩
  | (s, p) :: r, k => by
    simp only [keepF]
    cases hs : bitAt m s with
    | true =>
      obtain ⟨F', h1, h2⟩ := keepF_frm m r fun r => k ((s, p) :: r)
      refine ⟨(s, p) :: F', h1, fun t => ?_⟩
      rw [fget_cons, fget_cons]
      by_cases hts : t = s
      · subst hts; simp
      · simp only [hts, if_false]; exact h2 t
    | false =>
      have key : ∀ (F : Frm) (k : Frm → α), ∃ F', keepF m F k = k F' ∧ ∀ t, fget F' t = if bitAt m t then fget F t else .junk := by
        intro F
        induction F with
        | nil => intro k; exact ⟨[], rfl, fun t => by simp [fget]⟩
        | cons x r ih =>
          intro k
          obtain ⟨s, p⟩ := x
          simp only [keepF]
          cases hs : bitAt m s with
          | true =>
            obtain ⟨F', h1, h2⟩ := ih fun r => k ((s, p) :: r)
            refine ⟨(s, p) :: F', h1, fun t => ?_⟩
            rw [fget_cons, fget_cons, h2 t]
            by_cases hts : t = s
            · subst hts; simp [hs]
            · simp [hts]
          | false =>
            obtain ⟨F', h1, h2⟩ := ih k
            refine ⟨F', h1, fun t => ?_⟩
            rw [fget_cons, h2 t]
            by_cases hts : t = s
            · subst hts; simp [hs]
            · simp [hts]
      obtain ⟨F', h1, h2⟩ := key r k
      refine ⟨F', h1, fun t => ?_⟩
      rw [fget_cons, h2 t]
      by_cases hts : t = s
      · subst hts; simp [hs]
      · simp only [hts, if_false]
        cases bitAt m t <;> simp

@[reducible] def exDen : List (Ex × List (Nat × Kd)) → Type
  | [] => Empty
  | [(_, s)] => Shape.den s
  | (_, s) :: b :: r => Shape.den s ⊕ exDen (b :: r)
/-- What is known of a loop: the typed states at its head, its ends, and what it does. -/
structure LSpec where
  sh : List (Nat × Kd)
  exits : List (Ex × List (Nat × Kd))
  run : Shape.den sh → Option (exDen exits)
def outX : (l : List (Ex × List (Nat × Kd))) → exDen l → Ex × Frm × Heap
  | [], z => Empty.elim z
  | [(e, s)], z => (e, encF s z 0, encH s z)
  | (e, s) :: b :: r, z => match z with
    | .inl x => (e, encF s x 0, encH s x)
    | .inr y => outX (b :: r) y
def outK {α : Type} : (l : List (Ex × List (Nat × Kd))) → exDen l → (Ex → Frm → Heap → Option α) → Option α
  | [], z, _ => Empty.elim z
  | [(e, s)], z, k => k e (encF s z 0) (encH s z)
  | (e, s) :: b :: r, z, k => onSum z (fun x => k e (encF s x 0) (encH s x)) (fun y => outK (b :: r) y k)
def exEq : Ex → Ex → Bool
  | .normal, .normal => true
  | .exit i, .exit j => Nat.beq i j
  | .ret, .ret => true
  | _, _ => false
def decEx : (l : List (Ex × List (Nat × Kd))) → Ex → Frm → Heap → Option (exDen l)
  | [], _, _, _ => none
  | [(e, s)], ex, F, H => bif exEq e ex then decHead s F H else none
  | (e, s) :: b :: r, ex, F, H => bif exEq e ex then (match decHead s F H with | some x => some (.inl x) | none => none) else (match decEx (b :: r) ex F H with | some y => some (.inr y) | none => none)

section
variable {α : Type} (P : Program) (E : Env) (nt keep : Nat) (lt : Nat → Option LSpec)
def execK : Code → Frm → Heap → (Ex → Frm → Heap → Option α) → Option α
  | .skip, F, H, k => k .normal F H
  | .label _, F, H, k => k .normal F H
  | .region _ ops draw, F, H, k => regionK P E nt ops draw F H fun F H => keepF keep F fun F => k .normal F H
  | .seq a b, F, H, k => execK a F H fun ex F H => match ex with
    | .normal => execK b F H k
    | .exit i => k (.exit i) F H
    | .ret => k .ret F H
  | .cond c a b, F, H, k => match ev F c with
    | .lit (.bool t) => askT F c t fun F t => bif t then execK a F H k else execK b F H k
    | _ => none
  | .block id a, F, H, k => execK a F H fun ex F H => match ex with
    | .exit i => bif Nat.beq i id then k .normal F H else k (.exit i) F H
    | .normal => k .normal F H
    | .ret => k .ret F H
  | .loop a, F, H, k => match lt (firstRegion a) with
    | some s => match decHead s.sh F H with
      | some x => askO (s.run x) fun z => outK s.exits z k
      | none => none
    | none => none
  | .exit id, F, H, k => k (.exit id) F H
  | .scope a, F, H, k => execK a F H k
  | .ret, F, H, k => k .ret F H
  | _, _, _, _ => none
def leafK (sh : List (Nat × Kd)) (exits : List (Ex × List (Nat × Kd))) (ex : Ex) (F : Frm) (H : Heap) : Option (Shape.den sh ⊕ exDen exits) := match ex with
  | .normal => match decHead sh F H with
    | some y => some (.inl y)
    | none => none
  | .exit i => match decEx exits (.exit i) F H with
    | some z => some (.inr z)
    | none => none
  | .ret => match decEx exits .ret F H with
    | some z => some (.inr z)
    | none => none
/-- One round of a loop. -/
def roundK (a : Code) (sh : List (Nat × Kd)) (exits : List (Ex × List (Nat × Kd))) (x : Shape.den sh) : Option (Shape.den sh ⊕ exDen exits) :=
  execK P E nt keep lt a (encF sh x 0) (encH sh x) (leafK sh exits)
end
def loopN {σ τ : Type} (step : σ → Option (σ ⊕ τ)) : Nat → σ → Option τ
  | 0, _ => none
  | n + 1, x => match step x with
    | some (.inl y) => loopN step n y
    | some (.inr z) => some z
    | none => none
def loopsOf : Code → List Code
  | .seq a b => loopsOf a ++ loopsOf b
  | .cond _ a b => loopsOf a ++ loopsOf b
  | .block _ a => loopsOf a
  | .scope a => loopsOf a
  | .loop a => [a]
  | _ => []

section
variable {α : Type} {P : Program} {E : Env} {nt keep : Nat} {lt : Nat → Option LSpec}

/-- The code goes from this state to that end. -/
def Runs (P : Program) (nt : Nat) (c : Code) (F : Frm) (H : Heap) (r : Ex × Frm × Heap) : Prop :=
  ∀ (n0 : Nat → Prop) (wi : World) (Gi : Nat → Prop) (μi : Mp) (a : Act) (w : World), (∀ r, μi.loc r = none ∧ μi.len r = none) → I n0 wi Gi μi nt F H a w → Goes P n0 wi Gi μi nt c a w r
def SpecOK (P : Program) (nt : Nat) (a : Code) (s : LSpec) : Prop :=
  ∀ x z, s.run x = some z → Runs P nt (.loop a) (encF s.sh x 0) (encH s.sh x) (outX s.exits z)

theorem outK_some : ∀ {l : List (Ex × List (Nat × Kd))} {z : exDen l} {k : Ex → Frm → Heap → Option α} {y : α}, outK l z k = some y → k (outX l z).1 (outX l z).2.1 (outX l z).2.2 = some y
  | [], z, _, _, _ => Empty.elim z
  | [(e, s)], z, k, y, h => h
  | (e, s) :: b :: r, z, k, y, h => by
    cases z with
    | inl x => exact h
    | inr x => exact outK_some (l := b :: r) (z := x) h
theorem exEq_eq {a b : Ex} (h : exEq a b = true) : a = b := by
  cases a <;> cases b <;> simp only [exEq] at h <;> first | rfl | (cases h; done) | exact congrArg Ex.exit (Nat.eq_of_beq_eq_true h)
theorem decEx_sound {n0 : Nat → Prop} {wi : World} {Gi : Nat → Prop} {μi : Mp} (hfl : ∀ r, μi.loc r = none ∧ μi.len r = none) {ex : Ex} {F : Frm} {H : Heap} : ∀ {l : List (Ex × List (Nat × Kd))} {z : exDen l}, decEx l ex F H = some z →
    (outX l z).1 = ex ∧ ∀ a w, I n0 wi Gi μi nt F H a w → I n0 wi Gi μi nt (outX l z).2.1 (outX l z).2.2 a w
  | [], z, _ => Empty.elim z
  | [(e, s)], z, h => by
    simp only [decEx] at h
    obtain ⟨hb, h⟩ := condSome h
    exact ⟨exEq_eq hb, fun a w hI => decHead_sound h hfl hI⟩
  | (e, s) :: b :: r, z, h => by
    simp only [decEx] at h
    cases hb : exEq e ex with
    | true =>
      rw [hb] at h
      simp only [cond_true] at h
      split at h
      · rename_i x hx
        simp only [Option.some.injEq] at h
        subst h
        exact ⟨exEq_eq hb, fun a w hI => decHead_sound hx hfl hI⟩
      · cases h
    | false =>
      rw [hb] at h
      simp only [cond_false] at h
      split at h
      · rename_i x hx
        simp only [Option.some.injEq] at h
        subst h
        exact decEx_sound hfl (l := b :: r) (z := x) hx
      · cases h

theorem execK_sound (hcl : CalleeOK P (calleeE P E)) (hP : P.follows .mixedOrders = true) : ∀ (c : Code) (F : Frm) (H : Heap) (k : Ex → Frm → Heap → Option α) (z : α), (∀ a ∈ loopsOf c, ∀ s, lt (firstRegion a) = some s → SpecOK P nt a s) →
    execK P E nt keep lt c F H k = some z → ∃ r : Ex × Frm × Heap, k r.1 r.2.1 r.2.2 = some z ∧ Runs P nt c F H r
  | .skip, F, H, k, z, hl, h => ⟨(.normal, F, H), h, fun _ _ _ _ _ _ _ hI => wp_skip ⟨rfl, hI⟩⟩
  | .label l, F, H, k, z, hl, h => ⟨(.normal, F, H), h, fun _ _ _ _ _ _ _ hI => wp_label ⟨rfl, hI⟩⟩
  | .region id ops draw, F, H, k, z, hl, h => by
    simp only [execK] at h
    obtain ⟨F1, H1, h1, h2⟩ := regionK_sound (id := id) hcl hP h
    obtain ⟨F2, h3, h4⟩ := keepF_frm keep F1 fun F => k .normal F H1
    rw [h3] at h1
    exact ⟨(.normal, F2, H1), h1, fun _ _ _ _ _ _ _ hI => h2 hI fun a' w' hI' => ⟨rfl, hI'.weak h4⟩⟩
  | .seq x y, F, H, k, z, hl, h => by
    simp only [execK] at h
    obtain ⟨⟨ex, F1, H1⟩, h1, h2⟩ := execK_sound hcl hP x F H _ z (fun a ha => hl a (by simp [loopsOf, ha])) h
    cases ex with
    | normal =>
      obtain ⟨r, h3, h4⟩ := execK_sound hcl hP y F1 H1 k z (fun a ha => hl a (by simp [loopsOf, ha])) h1
      refine ⟨r, h3, fun n0 wi Gi μi a w hfl hI => wp_seq (wp_mono (h2 n0 wi Gi μi a w hfl hI) ?_)⟩
      rintro e a' w' ⟨rfl, hI'⟩
      exact h4 n0 wi Gi μi a' w' hfl hI'
    | exit i =>
      refine ⟨(.exit i, F1, H1), h1, fun n0 wi Gi μi a w hfl hI => wp_seq (wp_mono (h2 n0 wi Gi μi a w hfl hI) ?_)⟩
      rintro e a' w' ⟨rfl, hI'⟩
      exact ⟨rfl, hI'⟩
    | ret =>
      refine ⟨(.ret, F1, H1), h1, fun n0 wi Gi μi a w hfl hI => wp_seq (wp_mono (h2 n0 wi Gi μi a w hfl hI) ?_)⟩
      rintro e a' w' ⟨rfl, hI'⟩
      exact ⟨rfl, hI'⟩
  | .cond c x y, F, H, k, z, hl, h => by
    simp only [execK] at h
    split at h
    · rename_i t ht
      replace h := askT_some h ht
      have hc : ∀ {n0 wi Gi μi a w}, I n0 wi Gi μi nt F H a w → a.eval c = .bool t := fun hI => by
        obtain ⟨G, μ, e, hW, hF⟩ := hI
        have hc := ev_vr hF c
        rwa [ht, VR] at hc
      cases t with
      | true =>
        obtain ⟨r, h3, h4⟩ := execK_sound hcl hP x F H k z (fun a ha => hl a (by simp [loopsOf, ha])) h
        exact ⟨r, h3, fun n0 wi Gi μi a w hfl hI => wp_cond (hc hI) (h4 n0 wi Gi μi a w hfl hI)⟩
      | false =>
        obtain ⟨r, h3, h4⟩ := execK_sound hcl hP y F H k z (fun a ha => hl a (by simp [loopsOf, ha])) h
        exact ⟨r, h3, fun n0 wi Gi μi a w hfl hI => wp_cond (hc hI) (h4 n0 wi Gi μi a w hfl hI)⟩
    · cases h
  | .block id x, F, H, k, z, hl, h => by
    simp only [execK] at h
    obtain ⟨⟨ex, F1, H1⟩, h1, h2⟩ := execK_sound hcl hP x F H _ z (fun a ha => hl a (by simp [loopsOf, ha])) h
    cases ex with
    | normal =>
      refine ⟨(.normal, F1, H1), h1, fun n0 wi Gi μi a w hfl hI => wp_block (wp_mono (h2 n0 wi Gi μi a w hfl hI) ?_)⟩
      rintro e a' w' ⟨rfl, hI'⟩
      exact ⟨rfl, hI'⟩
    | ret =>
      refine ⟨(.ret, F1, H1), h1, fun n0 wi Gi μi a w hfl hI => wp_block (wp_mono (h2 n0 wi Gi μi a w hfl hI) ?_)⟩
      rintro e a' w' ⟨rfl, hI'⟩
      exact ⟨rfl, hI'⟩
    | exit i =>
      simp only at h1
      cases hi : Nat.beq i id with
      | true =>
        rw [hi] at h1
        have := Nat.eq_of_beq_eq_true hi
        subst this
        refine ⟨(.normal, F1, H1), h1, fun n0 wi Gi μi a w hfl hI => wp_block (wp_mono (h2 n0 wi Gi μi a w hfl hI) ?_)⟩
        rintro e a' w' ⟨rfl, hI'⟩
        simp only [Ex.to, Exit.inBlock, if_true]
        exact ⟨trivial, hI'⟩
      | false =>
        rw [hi] at h1
        have hne : ¬ i = id := fun e => by rw [e] at hi; simp at hi
        refine ⟨(.exit i, F1, H1), h1, fun n0 wi Gi μi a w hfl hI => wp_block (wp_mono (h2 n0 wi Gi μi a w hfl hI) ?_)⟩
        rintro e a' w' ⟨rfl, hI'⟩
        simp only [Ex.to, Exit.inBlock, hne, if_false]
        exact ⟨trivial, hI'⟩
  | .loop x, F, H, k, z, hl, h => by
    simp only [execK] at h
    split at h
    · rename_i s hs
      split at h
      · rename_i x0 hx
        obtain ⟨y, h1, h2⟩ := askO_some h
        exact ⟨outX s.exits y, outK_some h2, fun n0 wi Gi μi a w hfl hI => hl x (by simp [loopsOf]) s hs x0 y h1 n0 wi Gi μi a w hfl (decHead_sound hx hfl hI)⟩
      · cases h
    · cases h
  | .exit id, F, H, k, z, hl, h => ⟨(.exit id, F, H), h, fun _ _ _ _ _ _ _ hI => wp_exit ⟨rfl, hI⟩⟩
  | .scope x, F, H, k, z, hl, h => by
    simp only [execK] at h
    obtain ⟨⟨ex, F1, H1⟩, h1, h2⟩ := execK_sound hcl hP x F H _ z (fun a ha => hl a (by simp [loopsOf, ha])) h
    refine ⟨(ex, F1, H1), h1, fun n0 wi Gi μi a w hfl hI => wp_scope_straight (wp_mono (h2 n0 wi Gi μi a w hfl hI) ?_)⟩
    rintro e a' w' ⟨rfl, hI'⟩
    cases ex <;> exact ⟨rfl, hI'⟩
  | .ret, F, H, k, z, hl, h => ⟨(.ret, F, H), h, fun _ _ _ _ _ _ _ hI => wp_ret ⟨rfl, hI⟩⟩
  | .rangeFunc .., F, H, k, z, hl, h => by simp only [execK] at h; cases h
  | .goto l, F, H, k, z, hl, h => by simp only [execK] at h; cases h
  | .refuse s, F, H, k, z, hl, h => by simp only [execK] at h; cases h

/-- A loop does what its rounds do. -/
theorem loop_ok (hcl : CalleeOK P (calleeE P E)) (hP : P.follows .mixedOrders = true) {a : Code} {sh : List (Nat × Kd)} {exits : List (Ex × List (Nat × Kd))} {step : Shape.den sh → Option (Shape.den sh ⊕ exDen exits)} (L : Nat)
    (hl : ∀ b ∈ loopsOf a, ∀ s, lt (firstRegion b) = some s → SpecOK P nt b s) (hr : ∀ x, roundK P E nt keep lt a sh exits x = step x) : SpecOK P nt a ⟨sh, exits, loopN step L⟩ := by
  intro x z hz n0 wi Gi μi act w hfl hI
  refine wp_loop_ghost (fun k a w => ∃ x, loopN step k x = some z ∧ I n0 wi Gi μi nt (encF sh x 0) (encH sh x) a w) L ⟨x, hz, hI⟩ ?_
  rintro k act w ⟨x, hz, hI⟩
  cases k with
  | zero => cases hz
  | succ k =>
    simp only [loopN] at hz
    split at hz
    · rename_i y hs
      rw [← hr] at hs
      obtain ⟨⟨ex, F', H'⟩, h1, h2⟩ := execK_sound hcl hP a _ _ _ _ hl hs
      refine wp_mono (h2 n0 wi Gi μi act w hfl hI) ?_
      rintro e a' w' ⟨rfl, hI'⟩
      cases ex with
      | normal =>
        simp only [leafK] at h1
        split at h1
        · rename_i y' hy
          simp only [Option.some.injEq, Sum.inl.injEq] at h1
          subst h1
          exact ⟨k, by omega, y', hz, decHead_sound hy hfl hI'⟩
        · cases h1
      | exit i =>
        simp only [leafK] at h1
        split at h1
        · simp at h1
        · cases h1
      | ret =>
        simp only [leafK] at h1
        split at h1
        · simp at h1
        · cases h1
    · rename_i y hs
      simp only [Option.some.injEq] at hz
      subst hz
      rw [← hr] at hs
      obtain ⟨⟨ex, F', H'⟩, h1, h2⟩ := execK_sound hcl hP a _ _ _ _ hl hs
      refine wp_mono (h2 n0 wi Gi μi act w hfl hI) ?_
      rintro e a' w' ⟨rfl, hI'⟩
      cases ex with
      | normal =>
        simp only [leafK] at h1
        split at h1
        · simp at h1
        · cases h1
      | exit i =>
        simp only [leafK] at h1
        split at h1
        · rename_i y' hy
          simp only [Option.some.injEq, Sum.inr.injEq] at h1
          subst h1
          obtain ⟨h3, h4⟩ := decEx_sound (nt := nt) (n0 := n0) (wi := wi) (Gi := Gi) hfl hy
          have h5 := h4 a' w' hI'
          exact ⟨by rw [h3], h5⟩
        · cases h1
      | ret =>
        simp only [leafK] at h1
        split at h1
        · rename_i y' hy
          simp only [Option.some.injEq, Sum.inr.injEq] at h1
          subst h1
          obtain ⟨h3, h4⟩ := decEx_sound (nt := nt) (n0 := n0) (wi := wi) (Gi := Gi) hfl hy
          have h5 := h4 a' w' hI'
          exact ⟨by rw [h3], h5⟩
        · cases h1
    · cases hz
end
end Go.PM
