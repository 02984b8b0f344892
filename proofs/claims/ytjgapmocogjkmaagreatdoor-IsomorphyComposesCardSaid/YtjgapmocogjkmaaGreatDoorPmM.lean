/- The plain machine, 13: code, and functions that share the caller's heap. No program. -/
import Derived.Test.YtjgapmocogjkmaaGreatDoorPmL
import Derived.Scope
set_option linter.unusedSimpArgs false
set_option linter.unusedVariables false
namespace Go.PM
open Go Go.RowKit

inductive Ex where
  | normal
  | exit (id : Nat)
  | ret
def Ex.to : Ex → Exit
  | .normal => .normal
  | .exit id => .exit id
  | .ret => .ret

/-- What the plain machine is told of a function: its slots; those used in more regions than one, as bits and as a list; for each loop (by its first region) those that are alive at its head. -/
structure Cfg where
  nt : Nat
  keep : Nat
  slots : List Nat
  loops : List (Nat × Plan)
  floor : Nat

/-- The first n slots, as far as m has them. -/
def settle {α : Type} (m : Nat) : Nat → Frm → (Frm → α) → α
  | 0, F, k => k F
  | _ + 1, [], k => k []
  | n + 1, (t, p) :: r, k => bif bitAt m t then settle m n r (fun r => k ((t, p) :: r)) else settle m n r k
def firstRegion : Code → Nat
  | .region id _ _ => id
  | .seq a _ => firstRegion a
  | .block _ a => firstRegion a
  | .loop a => firstRegion a
  | .scope a => firstRegion a
  | .cond _ a _ => firstRegion a
  | _ => 0
def loopPlan : List (Nat × Plan) → Nat → Option Plan
  | [], _ => none
  | (i, m) :: r, id => bif Nat.beq i id then some m else loopPlan r id
def pickSlots {α : Type} (F : Frm) : List Nat → (Frm → α) → α
  | [], k => k []
  | t :: r, k => fPV (fget F t) fun p => pickSlots F r fun r => k ((t, p) :: r)
def headOf (cfg : Cfg) (id : Nat) (F : Frm) (H : Heap) (k : Frm → Heap → Option (Ex × Frm × Heap)) : Option (Ex × Frm × Heap) :=
  match loopPlan cfg.loops id with
  | none => pickSlots F cfg.slots fun F => k F H
  | some pl => bif Nat.ble cfg.floor pl.base then match tidy pl F H with
    | some (F', H') => k F' H'
    | none => none
    else none

abbrev Out := Option (Ex × Frm × Heap)
def iter (f : Frm → Heap → Out) : Nat → Frm → Heap → Out
  | 0, _, _ => none
  | n + 1, F, H => match f F H with
    | some (.normal, F', H') => iter f n F' H'
    | r => r
def exec (P : Program) (cl : Callee) (cfg : Cfg) (L : Nat) : Code → Frm → Heap → Out
  | .skip, F, H => some (.normal, F, H)
  | .label _, F, H => some (.normal, F, H)
  | .region _ ops draw, F, H => match (bif draw then runDraw P cl cfg.nt ops F H else runOps P cl cfg.nt ops.toList ops.toList F H) with
    | some (F', H') => settle cfg.keep (dsts ops.toList) F' fun F' => some (.normal, F', H')
    | none => none
  | .seq a b, F, H => match exec P cl cfg L a F H with
    | some (.normal, F', H') => exec P cl cfg L b F' H'
    | r => r
  | .cond c a b, F, H => match ev F c with
    | .lit (.bool t) => bif t then exec P cl cfg L a F H else exec P cl cfg L b F H
    | _ => none
  | .block id a, F, H => match exec P cl cfg L a F H with
    | some (.exit i, F', H') => bif Nat.beq i id then some (.normal, F', H') else some (.exit i, F', H')
    | r => r
  | .loop a, F, H => iter (fun F H => headOf cfg (firstRegion a) F H fun F H => exec P cl cfg L a F H) L F H
  | .exit id, F, H => some (.exit id, F, H)
  | .scope a, F, H => exec P cl cfg L a F H
  | .ret, F, H => some (.ret, F, H)
  | _, _, _ => none

section
variable {P : Program} {cl : Callee} {cfg : Cfg} {L : Nat} {n0 : Nat → Prop} {wi : World} {Gi : Nat → Prop} {μi : Mp}

/-- Slots that the bits of m do not name hold nothing. -/
def Off (m : Nat) (F : Frm) : Prop := ∀ t, bitAt m t = false → fget F t = .junk
theorem settle_frm {α : Type} (m : Nat) (F : Frm) : ∀ (news : Frm) (k : Frm → α), ∃ F', settle m news.length (news ++ F) k = k F' ∧ (Off m F → ∀ t, fget F' t = if bitAt m t then fget (news ++ F) t else .junk)
  | [], k => ⟨F, rfl, fun h t => by
    cases hb : bitAt m t with
    | true => simp
    | false => simpa using h t hb⟩
  | (s, p) :: news, k => by
    simp only [List.length_cons, List.cons_append, settle]
    cases hs : bitAt m s with
    | true =>
      obtain ⟨F', h1, h2⟩ := settle_frm m F news fun r => k ((s, p) :: r)
      refine ⟨(s, p) :: F', h1, fun h t => ?_⟩
      rw [fget_cons, fget_cons, h2 h t]
      by_cases hts : t = s
      · subst hts; simp [hs]
      · simp [hts]
    | false =>
      obtain ⟨F', h1, h2⟩ := settle_frm m F news k
      refine ⟨F', h1, fun h t => ?_⟩
      rw [fget_cons, h2 h t]
      by_cases hts : t = s
      · subst hts; simp [hs]
      · simp [hts]
theorem pickSlots_frm {α : Type} (F : Frm) : ∀ (l : List Nat) (k : Frm → α), ∃ F', pickSlots F l k = k F' ∧ ∀ t, fget F' t = fget F t ∨ fget F' t = .junk
  | [], k => ⟨[], rfl, fun t => .inr rfl⟩
  | s :: l, k => by
    simp only [pickSlots, fPV_eq]
    obtain ⟨F', h1, h2⟩ := pickSlots_frm F l fun r => k ((s, fget F s) :: r)
    refine ⟨(s, fget F s) :: F', h1, fun t => ?_⟩
    rw [fget_cons]
    by_cases hts : t = s
    · subst hts; simp
    · rw [if_neg hts]; exact h2 t
theorem I.weak {nt : Nat} {F F' : Frm} {H : Heap} {a : Act} {w : World} (h : I n0 wi Gi μi nt F H a w) (hF : ∀ t, fget F' t = fget F t ∨ fget F' t = .junk) : I n0 wi Gi μi nt F' H a w := by
  obtain ⟨G, μ, e, hW, hI⟩ := h
  refine ⟨G, μ, e, hW, hI.size, fun t => ?_, hI.defers⟩
  rcases hF t with h1 | h1
  · rw [h1]; exact hI.slot t
  · rw [h1, VR]; trivial

/-- The code comes to this end. -/
def Goes (P : Program) (n0 : Nat → Prop) (wi : World) (Gi : Nat → Prop) (μi : Mp) (nt : Nat) (c : Code) (a : Act) (w : World) (r : Ex × Frm × Heap) : Prop :=
  c.wp P (fun e a' w' => e = r.1.to ∧ I n0 wi Gi μi nt r.2.1 r.2.2 a' w') a w
/-- The same, and the slots off the mask stay empty. -/
def Goes2 (P : Program) (n0 : Nat → Prop) (wi : World) (Gi : Nat → Prop) (μi : Mp) (cfg : Cfg) (c : Code) (a : Act) (w : World) (r : Ex × Frm × Heap) : Prop :=
  Goes P n0 wi Gi μi cfg.nt c a w r ∧ Off cfg.keep r.2.1

theorem iter_sound {c : Code} {f : Frm → Heap → Out} (hf : ∀ F H a w r, f F H = some r → I n0 wi Gi μi cfg.nt F H a w → Off cfg.keep F → Goes2 P n0 wi Gi μi cfg c a w r) : ∀ {n : Nat} {F : Frm} {H : Heap} {a : Act} {w : World} {r : Ex × Frm × Heap},
    iter f n F H = some r → I n0 wi Gi μi cfg.nt F H a w → Off cfg.keep F → Goes2 P n0 wi Gi μi cfg (.loop c) a w r := by
  intro n F H a w r h hI hO
  constructor
  · refine wp_loop_ghost (fun k a w => ∃ F H, iter f k F H = some r ∧ I n0 wi Gi μi cfg.nt F H a w ∧ Off cfg.keep F) n ⟨F, H, h, hI, hO⟩ ?_
    rintro k a w ⟨F, H, h, hI, hO⟩
    cases k with
    | zero => cases h
    | succ k =>
      simp only [iter] at h
      split at h
      · rename_i F' H' hs
        obtain ⟨h1, h2⟩ := hf F H a w _ hs hI hO
        refine wp_mono h1 ?_
        rintro e a' w' ⟨rfl, hI'⟩
        exact ⟨k, by omega, F', H', h, hI', h2⟩
      · rename_i hno
        obtain ⟨ex, F', H'⟩ := r
        refine wp_mono (hf F H a w _ h hI hO).1 ?_
        rintro e a' w' ⟨rfl, hI'⟩
        cases ex with
        | normal => exact absurd h (hno F' H')
        | exit id => exact ⟨rfl, hI'⟩
        | ret => exact ⟨rfl, hI'⟩
  · induction n generalizing F H a w with
    | zero => cases h
    | succ n ih =>
      have h0 := h
      simp only [iter] at h
      split at h
      · rename_i F' H' hs
        obtain ⟨h1, h2⟩ := hf F H a w _ hs hI hO
        -- the state behind the round is reached in some world
        obtain ⟨e, a', w', ⟨_, hI'⟩, _⟩ := h1 default [] []
        exact ih h hI' h2
      · exact (hf F H a w _ h hI hO).2

theorem exec_sound (hcl : CalleeOK P cl) (hP : P.follows .mixedOrders = true) (hfl : ∀ r, cfg.floor ≤ r → μi.loc r = none ∧ μi.len r = none) : ∀ (c : Code) (F : Frm) (H : Heap) (a : Act) (w : World) (r : Ex × Frm × Heap), exec P cl cfg L c F H = some r → I n0 wi Gi μi cfg.nt F H a w → Off cfg.keep F → Goes2 P n0 wi Gi μi cfg c a w r
  | .skip, F, H, a, w, r, h, hI, hO => by
    simp only [exec, Option.some.injEq] at h
    subst h
    exact ⟨wp_skip ⟨rfl, hI⟩, hO⟩
  | .label l, F, H, a, w, r, h, hI, hO => by
    simp only [exec, Option.some.injEq] at h
    subst h
    exact ⟨wp_label ⟨rfl, hI⟩, hO⟩
  | .region id ops draw, F, H, a, w, r, h, hI, hO => by
    simp only [exec] at h
    split at h
    · rename_i F' H' hr
      obtain ⟨news, e1, l1⟩ : ∃ news : Frm, F' = news ++ F ∧ news.length = dsts ops.toList := by
        cases draw with
        | true => exact runDraw_grow hr
        | false => exact runOps_grow hr
      obtain ⟨F2, h2, h3⟩ := settle_frm (α := Out) cfg.keep F news fun F' => some (.normal, F', H')
      rw [← l1, e1, h2] at h
      simp only [Option.some.injEq] at h
      subst h
      have h3 := h3 hO
      refine ⟨?_, fun t ht => by rw [h3 t, ht]; rfl⟩
      have hw : ∀ t, fget F2 t = fget F' t ∨ fget F2 t = .junk := fun t => by
        rw [h3 t, e1]
        cases bitAt cfg.keep t <;> simp
      cases draw with
      | true => exact runDraw_sound hcl hP hr hI fun a' w' h' => ⟨rfl, h'.weak hw⟩
      | false => exact wp_region_list (runOps_sound hcl ops.toList F H a w hr hI fun a' w' h' => ⟨rfl, h'.weak hw⟩)
    · cases h
  | .seq x y, F, H, a, w, r, h, hI, hO => by
    simp only [exec] at h
    split at h
    · rename_i F' H' hx
      obtain ⟨h1, h2⟩ := exec_sound hcl hP hfl x F H a w _ hx hI hO
      refine ⟨wp_seq (wp_mono h1 ?_), ?_⟩
      · rintro e a' w' ⟨rfl, hI'⟩
        exact (exec_sound hcl hP hfl y F' H' a' w' r h hI' h2).1
      · obtain ⟨e, a', w', ⟨_, hI'⟩, _⟩ := h1 default [] []
        exact (exec_sound hcl hP hfl y F' H' a' w' r h hI' h2).2
    · rename_i hno
      obtain ⟨ex, F', H'⟩ := r
      obtain ⟨h1, h2⟩ := exec_sound hcl hP hfl x F H a w _ h hI hO
      refine ⟨wp_seq (wp_mono h1 ?_), h2⟩
      rintro e a' w' ⟨rfl, hI'⟩
      cases ex with
      | normal => exact absurd h (hno F' H')
      | exit id => exact ⟨rfl, hI'⟩
      | ret => exact ⟨rfl, hI'⟩
  | .cond c x y, F, H, a, w, r, h, hI, hO => by
    simp only [exec] at h
    split at h
    · rename_i t ht
      obtain ⟨G, μ, e, hW, hF⟩ := hI
      have hc := ev_vr hF c
      rw [ht, VR] at hc
      cases t with
      | true =>
        obtain ⟨h1, h2⟩ := exec_sound hcl hP hfl x F H a w r h ⟨G, μ, e, hW, hF⟩ hO
        exact ⟨wp_cond hc h1, h2⟩
      | false =>
        obtain ⟨h1, h2⟩ := exec_sound hcl hP hfl y F H a w r h ⟨G, μ, e, hW, hF⟩ hO
        exact ⟨wp_cond hc h1, h2⟩
    · cases h
  | .block id x, F, H, a, w, r, h, hI, hO => by
    simp only [exec] at h
    split at h
    · rename_i i F' H' hx
      obtain ⟨h1, h2⟩ := exec_sound hcl hP hfl x F H a w _ hx hI hO
      have hr : r = (if i = id then .normal else .exit i, F', H') := by
        cases hi : Nat.beq i id with
        | true =>
          rw [hi] at h
          simp only [cond_true, Option.some.injEq] at h
          rw [if_pos (Nat.eq_of_beq_eq_true hi), h]
        | false =>
          rw [hi] at h
          simp only [cond_false, Option.some.injEq] at h
          rw [if_neg (fun e => by rw [e] at hi; simp at hi), h]
      subst hr
      refine ⟨wp_block (wp_mono h1 ?_), h2⟩
      rintro e a' w' ⟨rfl, hI'⟩
      simp only [Ex.to, Exit.inBlock]
      split
      · exact ⟨rfl, hI'⟩
      · exact ⟨rfl, hI'⟩
    · rename_i hno
      obtain ⟨ex, F', H'⟩ := r
      obtain ⟨h1, h2⟩ := exec_sound hcl hP hfl x F H a w _ h hI hO
      refine ⟨wp_block (wp_mono h1 ?_), h2⟩
      rintro e a' w' ⟨rfl, hI'⟩
      cases ex with
      | normal => exact ⟨rfl, hI'⟩
      | exit i => exact absurd h (hno i F' H')
      | ret => exact ⟨rfl, hI'⟩
  | .loop x, F, H, a, w, r, h, hI, hO => by
    simp only [exec] at h
    refine iter_sound (fun F H a w r h hI hO => ?_) h hI hO
    unfold headOf at h
    split at h
    · obtain ⟨F', h1, h2⟩ := pickSlots_frm (α := Out) F cfg.slots fun F => exec P cl cfg L x F H
      simp only [h1] at h
      exact exec_sound hcl hP hfl x F' H a w r h (hI.weak h2) fun t ht => by
        rcases h2 t with h3 | h3
        · rw [h3]; exact hO t ht
        · exact h3
    · rename_i pl hpl
      obtain ⟨hb, h⟩ := condSome h
      split at h
      · rename_i F' H' hti
        obtain ⟨h1, h2⟩ := tidy_sound hti (fun r hr => hfl r (Nat.le_trans (Nat.le_of_ble_eq_true hb) hr)) hI
        exact exec_sound hcl hP hfl x F' H' a w r h h1 fun t ht => h2 t (hO t ht)
      · cases h
  | .exit id, F, H, a, w, r, h, hI, hO => by
    simp only [exec, Option.some.injEq] at h
    subst h
    exact ⟨wp_exit ⟨rfl, hI⟩, hO⟩
  | .scope x, F, H, a, w, r, h, hI, hO => by
    simp only [exec] at h
    obtain ⟨h1, h2⟩ := exec_sound hcl hP hfl x F H a w r h hI hO
    refine ⟨wp_scope_straight (wp_mono h1 ?_), h2⟩
    rintro e a' w' ⟨rfl, hI'⟩
    obtain ⟨ex, F', H'⟩ := r
    cases ex <;> exact ⟨rfl, hI'⟩
  | .ret, F, H, a, w, r, h, hI, hO => by
    simp only [exec, Option.some.injEq] at h
    subst h
    exact ⟨wp_ret ⟨rfl, hI⟩, hO⟩
  | .rangeFunc .., F, H, a, w, r, h, hI, hO => by simp only [exec] at h; cases h
  | .goto l, F, H, a, w, r, h, hI, hO => by simp only [exec] at h; cases h
  | .refuse s, F, H, a, w, r, h, hI, hO => by simp only [exec] at h; cases h
end

/-! Functions. -/
def xResult (P : Program) (F : Frm) (H : Heap) : ResultVar → Option PV
  | .tmp t => some (fget F t)
  | .cell t ty => match xLoad P H ty (fget F t) with | some (v, _) => some v | none => none
def xResults (P : Program) (F : Frm) (H : Heap) : List ResultVar → Option (List PV)
  | [] => some []
  | r :: rs => match xResult P F H r, xResults P F H rs with
    | some v, some vs => some (v :: vs)
    | _, _ => none
def oneOrTuple : List PV → PV
  | [v] => v
  | vs => .tuple vs
/-- The arguments, as far as the mask names their slots. -/
def start (m : Nat) : Nat → List PV → Frm
  | _, [] => []
  | i, p :: ps => bif bitAt m i then (i, p) :: start m (i + 1) ps else start m (i + 1) ps

/-- The run of a function's body, for these arguments, on this heap. -/
def runBody (P : Program) (cl : Callee) (cfg : Cfg) (L : Nat) (fn : Func) (args : List PV) (H : Heap) : Option (PV × Frm × Heap) :=
  match fn.body with
  | some c => bif Nat.ble args.length fn.ntmps && Nat.beq fn.ntmps cfg.nt then match exec P cl { cfg with floor := H.length } L c (start cfg.keep 0 args) H with
    | some (.normal, F, H') | some (.ret, F, H') => match xResults P F H' fn.results.toList with
      | some vs => some (oneOrTuple vs, F, H')
      | none => none
    | _ => none
    else none
  | none => none

section
variable {P : Program} {cl : Callee} {cfg : Cfg} {L : Nat} {n0 : Nat → Prop} {w : World} {G : Nat → Prop} {μ : Mp} {H : Heap}
theorem fget_start (m : Nat) : ∀ (ps : List PV) (i t : Nat), fget (start m i ps) t = if i ≤ t ∧ bitAt m t = true then (ps[t - i]?).getD .junk else .junk
  | [], i, t => by simp [start, fget]
  | p :: ps, i, t => by
    simp only [start]
    have ih := fget_start m ps (i + 1) t
    cases hi : bitAt m i with
    | true =>
      rw [cond_true, fget_cons, ih]
      by_cases hti : t = i
      · subst hti; simp [hi]
      · rw [if_neg hti]
        by_cases hle : i ≤ t
        · have e : t - i = (t - (i + 1)) + 1 := by omega
          have h1 : i + 1 ≤ t := by omega
          simp [hle, h1, e]
        · have h1 : ¬ i + 1 ≤ t := by omega
          simp [hle, h1]
    | false =>
      rw [cond_false, ih]
      by_cases hti : t = i
      · subst hti; simp [hi]
      · by_cases hle : i ≤ t
        · have e : t - i = (t - (i + 1)) + 1 := by omega
          have h1 : i + 1 ≤ t := by omega
          simp [hle, h1, e]
        · have h1 : ¬ i + 1 ≤ t := by omega
          simp [hle, h1]
theorem start_off (m : Nat) (ps : List PV) : Off m (start m 0 ps) := fun t ht => by rw [fget_start, ht]; simp
theorem start_finv {args : List PV} {vs : Array Value} {n m : Nat} (h : VRs w G μ args vs.toList) (hn : args.length ≤ n) : FInv w G μ n (start m 0 args) ⟨vs ++ Array.replicate (n - vs.size) undef, []⟩ where
  size := by
    have : args.length = vs.size := by simpa using h.length
    simp; omega
  slot t := by
    rw [fget_start]
    by_cases hb : bitAt m t = true
    case neg => rw [if_neg (fun h => hb h.2), VR]; trivial
    rw [if_pos ⟨Nat.zero_le _, hb⟩, Nat.sub_zero]
    cases ht : args[t]? with
    | none => simp only [Option.getD_none]; rw [VR]; trivial
    | some p =>
      obtain ⟨v, h1, h2⟩ := h.get ht
      have hv : vs[t]? = some v := by simpa using h1
      have hlt : t < vs.size := (Array.getElem?_eq_some_iff.1 hv).1
      have : (vs ++ Array.replicate (n - vs.size) undef).getD t undef = v := by
        rw [Array.getD_eq_getD_getElem?, Array.getElem?_append_left hlt, hv]; rfl
      rw [this]; exact h2
  defers := rfl
def resSem (tmps : Array Value) : ResultVar → Sem Value
  | .tmp t => pure (tmps.getD t undef)
  | .cell b t => do loadVar t (← asAddr (tmps.getD b undef))
theorem results_eq (fn : Func) (tmps : Array Value) : results fn tmps = (do let vs ← fn.results.mapM (resSem tmps); pure (if h : vs.size = 1 then vs[0] else .tuple vs)) := by
  unfold results
  refine congrArg (fun f : ResultVar → Sem Value => (do let vs ← fn.results.mapM f; pure (if h : vs.size = 1 then vs[0] else .tuple vs) : Sem Value)) (funext fun r => ?_)
  cases r <;> rfl
theorem xResult_sound {nt : Nat} {F : Frm} {a : Act} (hW : WInv n0 G μ H w) (hF : FInv w G μ nt F a) : ∀ {rs : List ResultVar} {vs : List PV}, xResults P F H rs = some vs → ∃ us : List Value, (rs.mapM (resSem a.tmps)).run P w = .ok us w ∧ VRs w G μ vs us
  | [], vs, h => by
    simp only [xResults, Option.some.injEq] at h
    subst h
    exact ⟨[], rfl, by rw [VRs]⟩
  | r :: rs, vs, h => by
    simp only [xResults] at h
    split at h
    · rename_i v vs' hv hvs
      simp only [Option.some.injEq] at h
      subst h
      obtain ⟨us, h1, h2⟩ := xResult_sound hW hF hvs
      cases r with
      | tmp t =>
        simp only [xResult, Option.some.injEq] at hv
        subst hv
        refine ⟨a.tmps.getD t undef :: us, ?_, by rw [VRs]; exact ⟨_, _, rfl, hF.slot t, h2⟩⟩
        rw [List.mapM_cons]
        simp only [resSem, Sem.run_bind, Sem.run_pure, Result.andThen_ok, h1]
      | cell b t =>
        simp only [xResult] at hv
        split at hv
        · rename_i u c hu
          simp only [Option.some.injEq] at hv
          subst hv
          obtain ⟨v', h3, h4⟩ := xLoad_sound (P := P) hW (hF.slot b) hu
          refine ⟨v' :: us, ?_, by rw [VRs]; exact ⟨_, _, rfl, h4, h2⟩⟩
          have h5 : (do loadVar t (← asAddr (a.tmps.getD b undef)) : Sem Value).run P w = .ok v' w := by
            have hs := hF.slot b
            simp only [Instr.loadAt] at h3
            cases hp : a.tmps.getD b undef <;> rw [hp] at h3 <;> simp [Instr.sureAddr] at h3
            rename_i ad
            cases ad with
            | none => simp [Instr.sureAddr] at h3
            | some ad => simpa [asAddr, Instr.sureAddr] using h3
          rw [List.mapM_cons]
          simp only [resSem, Sem.run_bind] at h5 ⊢
          simp only [h5, Sem.run_pure, Result.andThen_ok, h1]
        · cases hv
    · cases h
theorem oneOrTuple_vr {vs : List PV} {us : List Value} (h : VRs w G μ vs us) : VR w G μ (oneOrTuple vs) (if hh : us.toArray.size = 1 then us.toArray[0] else .tuple us.toArray) := by
  match vs, us, h with
  | [v], us, h =>
    rw [VRs] at h
    obtain ⟨x, xs, rfl, h1, h2⟩ := h
    rw [VRs] at h2
    subst h2
    simpa [oneOrTuple] using h1
  | [], us, h =>
    rw [VRs] at h
    subst h
    simp only [oneOrTuple]
    rw [VR]
    exact ⟨_, by simp; rfl, by simp [VRs]⟩
  | v :: v2 :: vs, us, h =>
    have hl := h.length
    simp only [List.length_cons] at hl
    have : ¬ us.toArray.size = 1 := by simp; omega
    rw [dif_neg this]
    simp only [oneOrTuple]
    rw [VR]
    exact ⟨_, rfl, by simpa using h⟩

/-- The body's run, in the world. -/
theorem runBody_sound (hcl : CalleeOK P cl) (hP : P.follows .mixedOrders = true) {g : FuncId} {fn : Func} (hg : P.funcs[g]? = some fn) {args : List PV} {vs : Array Value} {v : PV} {F : Frm} {H' : Heap} (h : runBody P cl cfg L fn args H = some (v, F, H'))
    (hW : WInv n0 G μ H w) (hv : VRs w G μ args vs.toList) : Calls P g vs w fun e w' => ∃ v' G' μ', e = .returned v' ∧ Ext n0 w G μ w' G' μ' ∧ WInv n0 G' μ' H' w' ∧ VR w' G' μ' v v' := by
  unfold runBody at h
  split at h
  · rename_i c hc
    cases hb : (Nat.ble args.length fn.ntmps && Nat.beq fn.ntmps cfg.nt) with
    | false => rw [hb] at h; cases h
    | true =>
      rw [hb] at h
      simp only [cond_true] at h
      simp only [Bool.and_eq_true] at hb
      have h1 := Nat.le_of_ble_eq_true hb.1
      have h2 := Nat.eq_of_beq_eq_true hb.2
      have hI : I n0 w G μ cfg.nt (start cfg.keep 0 args) H ⟨vs ++ Array.replicate (fn.ntmps - vs.size) undef, []⟩ w := ⟨G, μ, Ext.refl _ _ _ _, hW, by rw [← h2]; exact start_finv hv h1⟩
      refine calls_of_wp hg hc ?_
      have key : ∀ ex F1 H1, exec P cl { cfg with floor := H.length } L c (start cfg.keep 0 args) H = some (ex, F1, H1) → (match xResults P F1 H1 fn.results.toList with
          | some vs => some (oneOrTuple vs, F1, H1)
          | none => none) = some (v, F, H') → (ex = .normal ∨ ex = .ret) → Code.wp P c (bodyPost P fn fun e w' => ∃ v' G' μ', e = .returned v' ∧ Ext n0 w G μ w' G' μ' ∧ WInv n0 G' μ' H' w' ∧ VR w' G' μ' v v') ⟨vs ++ Array.replicate (fn.ntmps - vs.size) undef, []⟩ w := by
        intro ex F1 H1 hx hr hex
        split at hr
        · rename_i us hus
          simp only [Option.some.injEq, Prod.mk.injEq] at hr
          obtain ⟨rfl, rfl, rfl⟩ := hr
          refine wp_mono (exec_sound (cfg := { cfg with floor := H.length }) hcl hP (fun r hr => hW.top r hr) c _ H _ w _ hx hI (start_off _ _)).1 ?_
          rintro e a' w' ⟨rfl, G', μ', e', hW', hF'⟩
          obtain ⟨ws, h3, h4⟩ := xResult_sound (P := P) hW' hF' hus
          have hres : (results fn a'.tmps).run P w' = .ok (if hh : ws.toArray.size = 1 then ws.toArray[0] else .tuple ws.toArray) w' := by
            rw [results_eq, Array.mapM_eq_mapM_toList]
            simp only [Sem.run_bind, Sem.run_map, h3, Result.andThen_ok, Sem.run_pure]
          have hpost : a'.defers = [] ∧ ∃ v, (results fn a'.tmps).run P w' = .ok v w' ∧ (∃ v' G'' μ'', Ending.returned v = .returned v' ∧ Ext n0 w G μ w' G'' μ'' ∧ WInv n0 G'' μ'' H1 w' ∧ VR w' G'' μ'' (oneOrTuple us) v') :=
            ⟨hF'.defers, _, hres, _, G', μ', rfl, e', hW', oneOrTuple_vr h4⟩
          rcases hex with rfl | rfl
          · exact hpost
          · exact hpost
        · cases hr
      split at h
      · rename_i F1 H1 hx; exact key _ _ _ hx h (.inl rfl)
      · rename_i F1 H1 hx; exact key _ _ _ hx h (.inr rfl)
      · cases h
  · cases h
end
end Go.PM
