/- The plain machine, 11: regions, in the order of the text. No program. -/
import Derived.Test.YtjgapmocogjkmaaGreatDoorPmY
import Derived.Test.YtjgapmocogjkmaaGreatDoorPmXa
set_option linter.unusedSimpArgs false
set_option linter.unusedVariables false
namespace Go.PM
open Go Go.RowKit

/-- Whether a guarded operation runs. -/
def guardOf (F : Frm) (l : List Oper) (o : Oper) : Option Bool :=
  match o.guard with
  | none => some true
  | some (j, want) => match l[j]? with
    | some p => match p.dst with
      | some t => match fget F t with
        | .lit (.bool b) => some (bif b then want else !want)
        | .lit _ => some false
        | _ => none
      | none => none
    | none => none
def xPut (nt : Nat) (F : Frm) (d : Option Tmp) (v : PV) : Option Frm :=
  match d with
  | none => some F
  | some t => bif Nat.blt t nt then some ((t, v) :: F) else none
/-- Whether the slot is an argument of a Go function's call in the region. -/
def argIn (l : List Oper) : Option Tmp → Bool
  | none => false
  | some t => l.any fun o => match o.op with
    | .call c => match c.callee with
      | .value _ => c.args.toList.any fun x => match x with
        | .tmp s => Nat.beq s t
        | _ => false
      | _ => false
    | .buildSlice _ _ ps => ps.toList.any fun x => match x.2 with
      | .tmp s => Nat.beq s t
      | _ => false
    | _ => false
/-- Whether the slot is appended to in the region. -/
def baseIn (l : List Oper) : Option Tmp → Bool
  | none => false
  | some t => l.any fun o => match o.op with
    | .call c => match c.callee with
      | .builtin .append => match c.args.toList with
        | .tmp s :: _ => Nat.beq s t
        | _ => false
      | _ => false
    | _ => false
/-- What an operation does in its region. -/
def opz (P : Program) (cl : Callee) (l : List Oper) (F : Frm) (H : Heap) (o : Oper) : Option (PV × Heap × Nat) := match o.op with
  | .makeSlice t n c => bif baseIn l o.dst then (match tMakeWin P H t (ev F n) (ev F c) with
      | some (cs, v, H', k) => bif allB cs then some (v, H', k) else none
      | none => none) else opx P cl F H o
  | _ => opx P cl F H o
/-- A slice that is made as an argument is data at once. -/
def mkData (P : Program) (F : Frm) (l : List Oper) (o : Oper) : Option (Option (List Bool × PV)) := match o.op with
  | .makeSlice t n c => bif argIn l o.dst then some (tMakeData P t (ev F n) (ev F c)) else none
  | _ => none
def opStep (P : Program) (cl : Callee) (l : List Oper) (o : Oper) (F : Frm) (H : Heap) : Option (PV × Heap × Nat) :=
  match guardOf F l o with
  | some true => match mkData P F l o with
    | none => opz P cl l F H o
    | some none => none
    | some (some (cs, v)) => bif allB cs then some (v, H, 0) else none
  | some false => some (.lit undef, H, 0)
  | none => none
def runOps (P : Program) (cl : Callee) (nt : Nat) (l : List Oper) : List Oper → Frm → Heap → Option (Frm × Heap)
  | [], F, H => some (F, H)
  | o :: rest, F, H => match opStep P cl l o F H with
    | some (v, H', c) => fPV v fun v => match xPut nt F o.dst v with
      | some F' => bif Nat.beq c 2 then fHeap H' fun H' => runOps P cl nt l rest F' H' else runOps P cl nt l rest F' H'
      | none => none
    | none => none

/-- How many operations have a slot to write. -/
def dsts : List Oper → Nat
  | [] => 0
  | o :: l => match o.dst with | some _ => dsts l + 1 | none => dsts l
def dst1 : Option Tmp → Nat
  | some _ => 1
  | none => 0
theorem xPut_grow {nt : Nat} {F F' : Frm} {d : Option Tmp} {v : PV} (h : xPut nt F d v = some F') : ∃ news : Frm, F' = news ++ F ∧ news.length = dst1 d := by
  cases d with
  | none => simp only [xPut, Option.some.injEq] at h; subst h; exact ⟨[], rfl, rfl⟩
  | some t =>
    simp only [xPut] at h
    cases hb : Nat.blt t nt with
    | false => rw [hb] at h; cases h
    | true =>
      rw [hb] at h
      simp only [cond_true, Option.some.injEq] at h
      subst h
      exact ⟨[(t, v)], rfl, rfl⟩
theorem runOps_grow {P : Program} {cl : Callee} {nt : Nat} {ops : List Oper} : ∀ {l : List Oper} {F F' : Frm} {H H' : Heap}, runOps P cl nt ops l F H = some (F', H') → ∃ news : Frm, F' = news ++ F ∧ news.length = dsts l
  | [], F, F', H, H', h => by
    simp only [runOps, Option.some.injEq, Prod.mk.injEq] at h
    exact ⟨[], h.1.symm, rfl⟩
  | o :: l, F, F', H, H', h => by
    simp only [runOps] at h
    split at h
    · rename_i v H1 c hs
      rw [fPV_eq] at h
      split at h
      · rename_i F1 hp
        rw [fHeap_eq, Bool.cond_self] at h
        obtain ⟨n1, e1, l1⟩ := runOps_grow h
        obtain ⟨n2, e2, l2⟩ := xPut_grow hp
        refine ⟨n1 ++ n2, by rw [e1, e2, List.append_assoc], ?_⟩
        rw [List.length_append, l1, l2]
        simp only [dsts]
        generalize o.dst = d
        cases d <;> rfl
      · cases h
    · cases h

section
variable {P : Program} {cl : Callee} {n0 : Nat → Prop} {nt : Nat} {wi : World} {Gi : Nat → Prop} {μi : Mp} {w : World} {G : Nat → Prop} {μ : Mp} {F : Frm} {H : Heap} {a : Act}

theorem guardOf_sound (hF : FInv w G μ nt F a) {ops : Array Oper} {o : Oper} {b : Bool} (h : guardOf F ops.toList o = some b) : Region.wanted o (yielded ops a.tmps) = b := by
  unfold guardOf at h
  unfold Region.wanted
  split at h
  · rename_i hg
    simp only [Option.some.injEq] at h
    rw [hg, ← h]
  · rename_i j want hg
    rw [hg]
    simp only
    split at h
    · rename_i p hp
      have hp : ops[j]? = some p := by simpa using hp
      split at h
      · rename_i t ht
        have hs := hF.slot t
        have hy : yielded ops a.tmps j = match a.tmps[t]? with | some (.bool b) => some b | _ => none := by
          unfold yielded
          simp only [hp, Option.bind_some, ht]
          rfl
        rw [hy]
        split at h
        · rename_i c hc
          rw [hc, VR] at hs
          simp only [Option.some.injEq] at h
          have : a.tmps[t]? = some (.bool c) := by
            rcases Nat.lt_or_ge t a.tmps.size with hl | hl
            · simp only [Array.getD, hl, dif_pos] at hs
              rw [Array.getElem?_eq_getElem hl, ← hs]; rfl
            · simp only [Array.getD, Nat.not_lt.2 hl, dif_neg, not_false_iff] at hs
              cases hs
          rw [this, ← h]
          cases c <;> cases want <;> rfl
        · rename_i u hno hc
          rw [hc, VR] at hs
          simp only [Option.some.injEq] at h
          rw [← h]
          rcases Nat.lt_or_ge t a.tmps.size with hl | hl
          · have : a.tmps[t]? = some u := by
              simp only [Array.getD, hl, dif_pos] at hs
              rw [Array.getElem?_eq_getElem hl, ← hs]; rfl
            rw [this]
            cases u <;> first | rfl | exact absurd rfl (hno _)
          · rw [Array.getElem?_eq_none hl]; rfl
        · cases h
      · cases h
    · cases h

/-- The plain state and the machine's state, with what has become of the world since the call began. -/
def I (n0 : Nat → Prop) (wi : World) (Gi : Nat → Prop) (μi : Mp) (nt : Nat) (F : Frm) (H : Heap) (a : Act) (w : World) : Prop :=
  ∃ G μ, Ext n0 wi Gi μi w G μ ∧ WInv n0 G μ H w ∧ FInv w G μ nt F a

theorem FInv.xput (h : FInv w G μ nt F a) {d : Option Tmp} {p : PV} {v : Value} {F' : Frm} (hx : xPut nt F d p = some F') (hv : VR w G μ p v) : FInv w G μ nt F' (a.put d v) := by
  cases d with
  | none => simp only [xPut, Option.some.injEq] at hx; subst hx; exact h
  | some t =>
    simp only [xPut] at hx
    cases hb : Nat.blt t nt with
    | false => rw [hb] at hx; cases hx
    | true =>
      rw [hb] at hx
      simp only [cond_true, Option.some.injEq] at hx
      subst hx
      exact h.cons (by have := Nat.le_of_ble_eq_true hb; omega) hv

theorem mkData_sound (hW : WInv n0 G μ H w) (hF : FInv w G μ nt F a) {l : List Oper} {o : Oper} {cs : List Bool} {v : PV} (h : mkData P F l o = some (some (cs, v))) (hcs : allB cs = true) : OperOK P n0 w G μ o a v H := by
  unfold mkData at h
  split at h
  · rename_i t x y ho
    cases hb : argIn l o.dst with
    | false => rw [hb] at h; cases h
    | true =>
      rw [hb] at h
      simp only [cond_true, Option.some.injEq] at h
      exact .value (by simp only [execOp, ho]) (tMakeData_sound hW (ev_vr hF x) (ev_vr hF y) h hcs)
  · cases h
theorem opz_sound (hcl : CalleeOK P cl) (hW : WInv n0 G μ H w) (hF : FInv w G μ nt F a) {l : List Oper} {o : Oper} {v : PV} {H' : Heap} {k : Nat} (h : opz P cl l F H o = some (v, H', k)) : OperOK P n0 w G μ o a v H' := by
  unfold opz at h
  split at h
  · rename_i t n c ho
    cases hb : baseIn l o.dst with
    | false => rw [hb] at h; exact opx_sound hcl hW hF h
    | true =>
      rw [hb] at h
      simp only [cond_true] at h
      split at h
      · rename_i cs v1 H1 k1 h1
        obtain ⟨hcs, h⟩ := condSome h
        simp only [Option.some.injEq, Prod.mk.injEq] at h
        obtain ⟨rfl, rfl, rfl⟩ := h
        exact .value (by simp only [execOp, ho]) (tMakeWin_sound hW (ev_vr hF n) (ev_vr hF c) h1 hcs).2
      · cases h
  · exact opx_sound hcl hW hF h
theorem tMakeWin_two {t : TypeId} {p q : PV} : T2 (tMakeWin P H t p q) := by
  unfold tMakeWin
  repeat' first
    | exact T2.no
    | exact T2.yes
    | apply T2.cond
    | split
theorem opz_cls (hcl : CalleeOK P cl) {l : List Oper} {o : Oper} {v : PV} {H' : Heap} {k : Nat} (h : opz P cl l F H o = some (v, H', k)) : ClsOK k H H' v (fun H2 => opz P cl l F H2 o) := by
  unfold opz at h ⊢
  split at h
  · rename_i t n c ho
    cases hb : baseIn l o.dst with
    | false =>
      rw [hb] at h
      simp only [cond_false] at h ⊢
      exact opx_cls hcl h
    | true =>
      rw [hb] at h
      simp only [cond_true] at h
      split at h
      · rename_i cs v1 H1 k1 h1
        obtain ⟨hcs, h⟩ := condSome h
        simp only [Option.some.injEq, Prod.mk.injEq] at h
        obtain ⟨rfl, rfl, rfl⟩ := h
        have := tMakeWin_two _ _ _ _ h1
        subst this
        exact ⟨fun h => (by cases h), fun h => by cases h⟩
      · cases h
  · exact opx_cls hcl h
theorem opStep_sound (hcl : CalleeOK P cl) {ops : Array Oper} {o : Oper} {v : PV} {H' : Heap} {c : Nat} (h : opStep P cl ops.toList o F H = some (v, H', c)) (hW : WInv n0 G μ H w) (hF : FInv w G μ nt F a) :
    (Region.wanted o (yielded ops a.tmps) = true ∧ OperOK P n0 w G μ o a v H') ∨ (Region.wanted o (yielded ops a.tmps) = false ∧ v = .lit undef ∧ H' = H) := by
  unfold opStep at h
  split at h
  · rename_i hg
    split at h
    · exact .inl ⟨guardOf_sound hF hg, opz_sound hcl hW hF h⟩
    · cases h
    · rename_i cs v' hm
      cases hb : allB cs with
      | false => rw [hb] at h; cases h
      | true =>
        rw [hb] at h
        simp only [cond_true, Option.some.injEq, Prod.mk.injEq] at h
        obtain ⟨rfl, rfl, rfl⟩ := h
        exact .inl ⟨guardOf_sound hF hg, mkData_sound hW hF hm hb⟩
  · rename_i hg
    simp only [Option.some.injEq, Prod.mk.injEq] at h
    obtain ⟨rfl, rfl, rfl⟩ := h
    exact .inr ⟨guardOf_sound hF hg, rfl, rfl⟩
  · cases h

theorem runOps_sound (hcl : CalleeOK P cl) {ops : Array Oper} {Q : Exit → Act → World → Prop} {F' : Frm} {H' : Heap} : ∀ (l : List Oper) (F : Frm) (H : Heap) (a : Act) (w : World), runOps P cl nt ops.toList l F H = some (F', H') → I n0 wi Gi μi nt F H a w →
    (∀ a' w', I n0 wi Gi μi nt F' H' a' w' → Q .normal a' w') → wpList P ops Q l a w
  | [], F, H, a, w, h, hI, hQ => by
    simp only [runOps, Option.some.injEq, Prod.mk.injEq] at h
    obtain ⟨rfl, rfl⟩ := h
    exact hQ a w hI
  | o :: rest, F, H, a, w, h, hI, hQ => by
    simp only [runOps] at h
    split at h
    · rename_i v H1 c hs
      rw [fPV_eq] at h
      split at h
      · rename_i F1 hp
        rw [fHeap_eq, Bool.cond_self] at h
        obtain ⟨G, μ, e, hW, hF⟩ := hI
        unfold wpList
        rcases opStep_sound hcl hs hW hF with ⟨h1, h2⟩ | ⟨h1, rfl, rfl⟩
        · rw [if_pos h1]
          refine .inl (h2 _ _ fun v' w' G' μ' e' hW' hv => ?_)
          exact runOps_sound hcl rest F1 H1 _ _ h ⟨G', μ', e.trans e', hW', (hF.mono e'.toMono).xput hp hv⟩ hQ
        · rw [h1, if_neg (by decide)]
          exact runOps_sound hcl rest F1 H1 _ _ h ⟨G, μ, e, hW, hF.xput hp (by rw [VR])⟩ hQ
      · cases h
    · cases h
end
end Go.PM
