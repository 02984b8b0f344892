/- The plain machine, 3: what the operations on data do in the world. No program. -/
import Derived.Test.YtjgapmocogjkmaaGreatDoorPmB
set_option linter.unusedSimpArgs false
set_option linter.unusedVariables false
namespace Go.PM
open Go Go.RowKit

section
variable {P : Program} {n0 : Nat → Prop} {w : World} {G : Nat → Prop} {μ : Mp} {H : Heap} {F : Frm} {a : Act} {nt : Nat}

/-- The frame's slots hold what the plain frame says. -/
structure FInv (w : World) (G : Nat → Prop) (μ : Mp) (nt : Nat) (F : Frm) (a : Act) : Prop where
  size : a.tmps.size = nt
  slot : ∀ t, VR w G μ (fget F t) (a.tmps.getD t undef)
  defers : a.defers = []

theorem lits_vr (vs : Array Value) : VRs w G μ (lits vs) vs.toList := VRs.lits _
theorem constPV_vr (v : Value) : VR w G μ (constPV v) v := by
  cases v <;> simp only [constPV] <;> rw [VR]
  · exact ⟨_, rfl, lits_vr _⟩
  · exact ⟨_, rfl, lits_vr _⟩
theorem ev_vr (h : FInv w G μ nt F a) (x : Operand) : VR w G μ (ev F x) (a.eval x) := by
  cases x with
  | tmp t => exact h.slot t
  | const v => exact constPV_vr v
  | global g => simp only [ev]; rw [VR]; trivial
  | func f => simp only [ev]; rw [VR]; rfl
theorem nbeq_ne {m n : Nat} (h : m ≠ n) : Nat.beq m n = false := by
  cases hb : Nat.beq m n with
  | false => rfl
  | true => exact absurd (Nat.eq_of_beq_eq_true hb) h
theorem fget_fset (F : Frm) (t : Nat) (p : PV) (s : Nat) : fget (fset F t p) s = if s = t then p else fget F s := by
  induction F with
  | nil =>
    simp only [fset, fget]
    by_cases h : s = t
    · subst h; simp
    · have : Nat.beq t s = false := nbeq_ne fun e => h e.symm
      simp [this, h]
  | cons x r ih =>
    obtain ⟨u, q⟩ := x
    simp only [fset]
    by_cases hut : u = t
    · subst hut
      simp only [Nat.beq_refl, cond_true, fget]
      by_cases h : s = u
      · subst h; simp
      · have : Nat.beq u s = false := nbeq_ne fun e => h e.symm
        simp [this, h]
    · have h1 : Nat.beq u t = false := nbeq_ne hut
      simp only [h1, cond_false, fget, ih]
      by_cases h : u = s
      · subst h; simp [hut]
      · have : Nat.beq u s = false := nbeq_ne h
        simp [this]
theorem FInv.put (h : FInv w G μ nt F a) {d : Nat} (hd : d < nt) {p : PV} {v : Value} (hv : VR w G μ p v) : FInv w G μ nt (fset F d p) (a.put (some d) v) where
  size := by simp [Act.put, h.size]
  slot t := by
    rw [fget_fset]
    have hsz := h.size
    simp only [Act.put]
    by_cases htd : t = d
    · subst htd
      simp [Array.getElem?_setIfInBounds, hsz, hd]
      exact hv
    · rw [if_neg htd]
      have := h.slot t
      simp only [Array.getD_eq_getD_getElem?] at this ⊢
      rw [Array.getElem?_setIfInBounds_ne (fun e => htd e.symm)]
      exact this
  defers := h.defers
theorem fget_cons (t : Nat) (p : PV) (F : Frm) (s : Nat) : fget ((t, p) :: F) s = if s = t then p else fget F s := by
  simp only [fget]
  by_cases h : s = t
  · subst h; simp
  · rw [nbeq_ne fun e => h e.symm, cond_false, if_neg h]
theorem FInv.cons (h : FInv w G μ nt F a) {d : Nat} (hd : d < nt) {p : PV} {v : Value} (hv : VR w G μ p v) : FInv w G μ nt ((d, p) :: F) (a.put (some d) v) where
  size := by simp [Act.put, h.size]
  slot t := by
    rw [fget_cons]
    have := (h.put hd hv).slot t
    rwa [fget_fset] at this
  defers := h.defers
theorem FInv.mono {w' : World} {G' : Nat → Prop} {μ' : Mp} (h : FInv w G μ nt F a) (m : Mono w G μ w' G' μ') : FInv w' G' μ' nt F a := ⟨h.size, fun t => VR.mono m _ _ (h.slot t), h.defers⟩

theorem litVs_vrs : ∀ {ps : List PV} {vs us : List Value}, litVs ps = some vs → VRs w G μ ps us → us = vs
  | [], vs, us, h, k => by simp only [litVs, Option.some.injEq] at h; rw [VRs] at k; rw [k, ← h]
  | p :: ps, vs, us, h, k => by
    rw [VRs] at k
    obtain ⟨x, xs, rfl, h1, h2⟩ := k
    cases p <;> simp only [litVs] at h <;> try (cases h; done)
    rename_i v
    cases hl : litVs ps with
    | none => rw [hl] at h; cases h
    | some vs' =>
      rw [hl] at h
      simp only [Option.some.injEq] at h
      rw [VR] at h1
      rw [← h, h1, litVs_vrs hl h2]
theorem toVal_vr {p : PV} {v u : Value} (h : toVal p = some v) (k : VR w G μ p u) : u = v := by
  cases p <;> simp only [toVal] at h <;> try (cases h; done)
  · rw [VR] at k; rw [k]; simpa using h
  all_goals
    rename_i cs
    cases hl : litVs cs with
    | none => rw [hl] at h; cases h
    | some vs =>
      rw [hl] at h
      simp only [Option.some.injEq] at h
      rw [VR] at k
      obtain ⟨us, h1, h2⟩ := k
      rw [h1, ← h, ← litVs_vrs hl h2]
theorem evalPure_run {α : Type} {s : Sem α} {x : α} (h : evalPure P s = some x) (w : World) : s.run P w = .ok x w := by
  induction s with
  | pure a => simp only [evalPure, Option.some.injEq] at h; rw [h]; rfl
  | program k ih => exact ih P h
  | _ => simp [evalPure] at h
theorem allVal_eval (h : FInv w G μ nt F a) : ∀ {xs : List Operand}, allVal F xs = true → ∀ x ∈ xs, a.eval x = valOf F x
  | [], _, x, hx => by cases hx
  | y :: ys, hv, x, hx => by
    simp only [allVal] at hv
    cases ht : toVal (ev F y) with
    | none => rw [ht] at hv; cases hv
    | some v =>
      rw [ht] at hv
      rcases List.mem_cons.1 hx with rfl | hx
      · rw [valOf, ht]; exact toVal_vr ht (ev_vr h x)
      · exact allVal_eval h hv x hx
theorem xPure_sound (h : FInv w G μ nt F a) {o : Oper} {v : PV} (hx : xPure P F o = some v) : ∃ v', (∀ w1 : World, (execOp a.eval o).run P w1 = .ok (.value v') w1) ∧ VR w G μ v v' := by
  unfold xPure at hx
  cases h1 : (isSelect o.op || !allVal F o.op.operands.toList) with
  | true => rw [h1] at hx; cases hx
  | false =>
    rw [h1] at hx
    simp only [Bool.or_eq_false_iff, Bool.not_eq_false'] at h1
    simp only [cond_false] at hx
    have hc : execOp a.eval o = execOp (valOf F) o := execOp_congr o (fun cs b e => by simp [isSelect, e] at h1) fun x hx => allVal_eval h h1.2 x (Array.mem_toList_iff.2 hx)
    cases he : evalPure P (execOp (valOf F) o) with
    | none => rw [he] at hx; cases hx
    | some n =>
      rw [he] at hx
      cases n <;> simp only [Option.some.injEq] at hx <;> try (cases hx; done)
      rename_i u
      subst hx
      exact ⟨u, fun w1 => by rw [hc]; exact evalPure_run he w1, constPV_vr u⟩

/-- A text on data, run in the world, gives the value v; the plain heap is then H'. -/
def OpOK (P : Program) (n0 : Nat → Prop) (w : World) (G : Nat → Prop) (μ : Mp) (s : Sem Value) (v : PV) (H' : Heap) : Prop :=
  ∃ v' w' G' μ', s.run P w = .ok v' w' ∧ Ext n0 w G μ w' G' μ' ∧ WInv n0 G' μ' H' w' ∧ VR w' G' μ' v v'
theorem OpOK.same (hW : WInv n0 G μ H w) {s : Sem Value} {v : PV} {v' : Value} (h : s.run P w = .ok v' w) (hv : VR w G μ v v') : OpOK P n0 w G μ s v H := ⟨v', w, G, μ, h, Ext.refl _ _ _ _, hW, hv⟩

theorem run_info {t : TypeId} {i : TypeInfo} (h : P.info? t = some i) (w : World) : (typeInfo t).run P w = .ok i w := by
  simp [typeInfo, h]
theorem run_sizeOf {t : TypeId} {n : Nat} (h : sizeT P t = some n) (w : World) : (sizeOf t).run P w = .ok n w := by
  unfold sizeT at h
  cases hi : P.info? t with
  | none => rw [hi] at h; cases h
  | some i =>
    rw [hi] at h
    simp only [Option.some.injEq] at h
    simp [sizeOf, run_info hi, h]
theorem run_isAgg {t : TypeId} {b : Bool} (h : aggT P t = some b) (w : World) : (isAgg t).run P w = .ok b w := by
  unfold aggT at h
  cases hu : P.underlying t with
  | none => rw [hu] at h; cases h
  | some d =>
    rw [hu] at h
    simp only [isAgg, Sem.run_bind, run_underlying hu, Result.andThen_ok]
    cases d <;> simp only [Option.some.injEq] at h <;> subst h <;> rfl

theorem run_loadCellsFrom {b off : Nat} (vs : List Value) : ∀ (i : Nat) (acc : Array Value), (∀ j (hj : j < vs.length), w.cell? ⟨b, off + (i + j), none⟩ = some vs[j]) →
    (loadCellsFrom ⟨b, off, none⟩ i vs.length acc).run P w = .ok (acc ++ vs.toArray) w := by
  induction vs with
  | nil => intro i acc _; simp [loadCellsFrom]
  | cons v vs ih =>
    intro i acc h
    have h0 := h 0 (by simp)
    simp only [Nat.add_zero, List.getElem_cons_zero] at h0
    have := ih (i + 1) (acc.push v) fun j hj => by
      have := h (j + 1) (by simpa using hj)
      simp only [List.getElem_cons_succ] at this
      rw [← this]; congr 2; omega
    simp only [List.length_cons, loadCellsFrom, Sem.run_bind, run_load, Addr.add_lit, h0, Result.andThen_ok, this]
    simp
theorem run_loadCells {b off : Nat} {vs : List Value} (h : ∀ j (hj : j < vs.length), w.cell? ⟨b, off + j, none⟩ = some vs[j]) : (loadCells ⟨b, off, none⟩ vs.length).run P w = .ok vs.toArray w := by
  have := run_loadCellsFrom (P := P) (w := w) (b := b) (off := off) vs 0 #[] (fun j hj => by rw [Nat.zero_add j]; exact h j hj)
  simpa [loadCells] using this

theorem run_loadVar {t : TypeId} {cs : List PV} {v : PV} {b off : Nat} (hc : VCells w G μ b off cs) (h : xPart P t cs = some v) : ∃ v', (loadVar t ⟨b, off, none⟩).run P w = .ok v' w ∧ VR w G μ v v' := by
  unfold xPart at h
  cases ha : aggT P t with
  | none => rw [ha] at h; cases h
  | some g =>
    rw [ha] at h
    cases g with
    | false =>
      cases cs with
      | nil => cases h
      | cons c cs =>
        simp only [List.head?_cons, Option.some.injEq] at h
        subst h
        rw [VCells] at hc
        obtain ⟨⟨v', h1, h2⟩, _⟩ := hc
        exact ⟨v', by simp [loadVar, run_isAgg ha, h1], h2⟩
    | true =>
      simp only at h
      cases hs : sizeT P t with
      | none => rw [hs] at h; cases h
      | some n =>
        rw [hs] at h
        simp only at h
        cases hn : Nat.ble n cs.length with
        | false => rw [hn] at h; cases h
        | true =>
          rw [hn] at h
          simp only [cond_true, Option.some.injEq] at h
          subst h
          obtain ⟨vs, h1, h2⟩ := (hc.take n).values
          have hl := h1.length
          rw [List.length_take, Nat.min_eq_left (Nat.le_of_ble_eq_true hn)] at hl
          have := run_loadCells (P := P) h2
          rw [← hl] at this
          refine ⟨.agg vs.toArray, by simp [loadVar, run_isAgg ha, run_sizeOf hs, this], ?_⟩
          rw [VR]
          exact ⟨_, rfl, h1⟩

theorem hget_some {r : Nat} {k : Blk} (h : hget H r = some k) : H[r]? = some (some k) := by
  unfold hget at h
  split at h
  · rename_i h'; rw [h'] ; simpa using h
  · cases h

theorem xLoad_sound (hW : WInv n0 G μ H w) {t : TypeId} {p v : PV} {c : Nat} {x : Value} (hp : VR w G μ p x) (h : xLoad P H t p = some (v, c)) : ∃ v', (Instr.loadAt t x).run P w = .ok v' w ∧ VR w G μ v v' := by
  cases p <;> simp only [xLoad] at h <;> try (cases h; done)
  case iptr cs =>
    rw [VR] at hp
    obtain ⟨b, off, rfl, _, hc⟩ := hp
    split at h
    · rename_i u hu
      simp only [Option.some.injEq, Prod.mk.injEq] at h
      obtain ⟨v', h1, h2⟩ := run_loadVar hc hu
      exact ⟨v', by simp [Instr.loadAt, Instr.sureAddr, h1], h.1 ▸ h2.of_nomap⟩
    · cases h
  case hptr r off =>
    rw [VR] at hp
    obtain ⟨b, hb, rfl⟩ := hp
    split at h
    · rename_i k hk
      split at h
      · rename_i u hu
        simp only [Option.some.injEq, Prod.mk.injEq] at h
        obtain ⟨c', g2, g3, _⟩ := hW.blk r k b (hget_some hk) hb
        have hd := g3.drop off
        rw [Nat.zero_add] at hd
        obtain ⟨v', h1, h2⟩ := run_loadVar hd hu
        exact ⟨v', by simp [Instr.loadAt, Instr.sureAddr, h1], h.1 ▸ h2⟩
      · cases h
    · cases h
end
end Go.PM
