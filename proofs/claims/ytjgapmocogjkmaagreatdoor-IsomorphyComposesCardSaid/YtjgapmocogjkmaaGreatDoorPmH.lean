/- The plain machine, 8: what an operation does in the world. No program. -/
import Derived.Test.YtjgapmocogjkmaaGreatDoorPmG
set_option linter.unusedSimpArgs false
set_option linter.unusedVariables false
namespace Go.PM
open Go Go.RowKit

section
variable {P : Program} {n0 : Nat → Prop} {w : World} {G : Nat → Prop} {μ : Mp} {H : Heap} {F : Frm} {a : Act} {nt : Nat}

/-- A call, as those see it who called. -/
def CallOK (P : Program) (n0 : Nat → Prop) (w : World) (G : Nat → Prop) (μ : Mp) (g : FuncId) (vs : Array Value) (r : PV) (H' : Heap) : Prop :=
  (callFunc g vs).run P w = .ok (.enter g vs) w ∧ Calls P g vs w fun e w' => ∃ v' G' μ', e = .returned v' ∧ Ext n0 w G μ w' G' μ' ∧ WInv n0 G' μ' H' w' ∧ VR w' G' μ' r v'

/-- What a plain call says holds of the call. -/
structure CalleeOK (P : Program) (cl : Callee) : Prop where
  call : ∀ {g args H r H' c}, cl g args H = some (r, H', c) → ∀ {n0 G μ w vs}, WInv n0 G μ H w → VRs w G μ args vs → CallOK P n0 w G μ g vs.toArray r H'
  free : ∀ {g args H r H'}, cl g args H = some (r, H', 0) → H' = H ∧ ∀ H2, cl g args H2 = some (r, H2, 0)
  reads : ∀ {g args H r H'}, cl g args H = some (r, H', 1) → H' = H

/-- An operation, as the region sees it. -/
def OperOK (P : Program) (n0 : Nat → Prop) (w : World) (G : Nat → Prop) (μ : Mp) (o : Oper) (a : Act) (v : PV) (H' : Heap) : Prop :=
  ∀ (K : Act → World → Prop) (Q : Exit → Act → World → Prop), (∀ v' w' G' μ', Ext n0 w G μ w' G' μ' → WInv n0 G' μ' H' w' → VR w' G' μ' v v' → K (a.put o.dst v') w') → o.wp P a w K Q

theorem OperOK.value {o : Oper} {s : Sem Value} {v : PV} {H' : Heap} (hs : execOp a.eval o = (do pure (.value (← s)))) (h : OpOK P n0 w G μ s v H') : OperOK P n0 w G μ o a v H' := by
  intro K Q hK
  obtain ⟨v', w', G', μ', h1, h2, h3, h4⟩ := h
  unfold Oper.wp
  rw [hs]
  simp only [Sem.run_bind, h1, Result.andThen_ok, Sem.run_pure]
  exact hK v' w' G' μ' h2 h3 h4
theorem OperOK.pure {o : Oper} {v : PV} {v' : Value} (hW : WInv n0 G μ H w) (hs : (execOp a.eval o).run P w = .ok (.value v') w) (h : VR w G μ v v') : OperOK P n0 w G μ o a v H := by
  intro K Q hK
  unfold Oper.wp
  rw [hs]
  exact hK v' w G μ (Ext.refl _ _ _ _) hW h
theorem OperOK.xPure (hW : WInv n0 G μ H w) (hF : FInv w G μ nt F a) {o : Oper} {v : PV} {H' : Heap} {c : Nat} (h : p0 H (xPure P F o) = some (v, H', c)) : OperOK P n0 w G μ o a v H' := by
  unfold p0 at h
  split at h
  · rename_i u hu
    simp only [Option.some.injEq, Prod.mk.injEq] at h
    obtain ⟨rfl, rfl, rfl⟩ := h
    obtain ⟨v', h1, h2⟩ := xPure_sound hF hu
    exact .pure hW (h1 w) h2
  · cases h
theorem p0_some {x : Option PV} {v : PV} {H' : Heap} {c : Nat} (h : p0 H x = some (v, H', c)) : x = some v ∧ H' = H ∧ c = 0 := by
  unfold p0 at h
  split at h
  · simp only [Option.some.injEq, Prod.mk.injEq] at h
    obtain ⟨rfl, rfl, rfl⟩ := h
    exact ⟨rfl, rfl, rfl⟩
  · cases h
theorem p2_some {x : Option (PV × Heap)} {v : PV} {H' : Heap} {c : Nat} (h : p2 x = some (v, H', c)) : x = some (v, H') ∧ c = 2 := by
  unfold p2 at h
  split at h
  · simp only [Option.some.injEq, Prod.mk.injEq] at h
    obtain ⟨rfl, rfl, rfl⟩ := h
    exact ⟨rfl, rfl⟩
  · cases h

theorem evs_vrs (hF : FInv w G μ nt F a) : ∀ xs : List Operand, VRs w G μ (xs.map (ev F)) (xs.map a.eval)
  | [] => by simp [VRs]
  | x :: xs => by rw [List.map_cons, VRs]; exact ⟨_, _, rfl, ev_vr hF x, evs_vrs hF xs⟩

theorem call_oper {cl : Callee} (hcl : CalleeOK P cl) (hW : WInv n0 G μ H w) {o : Oper} {c : Call} {f : Operand} {g : FuncId} {first caps : Array Value} {args : List PV} {v : PV} {H' : Heap} {k : Nat} (ho : o.op = .call c) (hc : c.callee = .value f)
    (hf : a.eval f = .func (.func g) first caps) (hargs : VRs w G μ args (first.toList ++ c.args.toList.map a.eval ++ caps.toList)) (h : cl g args H = some (v, H', k)) : OperOK P n0 w G μ o a v H' := by
  intro K Q hK
  obtain ⟨h1, h2⟩ := hcl.call h hW hargs
  have e : (first.toList ++ c.args.toList.map a.eval ++ caps.toList).toArray = first ++ c.args.map a.eval ++ caps := by apply Array.ext'; simp
  rw [e] at h1 h2
  unfold Oper.wp
  have hx : (execOp a.eval o).run P w = .ok (.enter g (first ++ c.args.map a.eval ++ caps)) w := by
    unfold execOp
    simp only [ho, resolve, hc, hf, Deferred.ofValue, Sem.run_bind, Sem.run_pure, Result.andThen_ok, invoke, h1]
  rw [hx]
  refine h2.mono fun e w' he => ?_
  obtain ⟨v', G', μ', rfl, e1, e2, e3⟩ := he
  exact hK v' w' G' μ' e1 e2 e3

set_option maxHeartbeats 2000000 in
theorem opu_sound {cl : Callee} (hcl : CalleeOK P cl) (hW : WInv n0 G μ H w) (hF : FInv w G μ nt F a) {o : Oper} {v : PV} {H' : Heap} {k : Nat} (h : opu P cl F H o = some (v, H', k)) : OperOK P n0 w G μ o a v H' := by
  unfold opu at h
  split at h
  · rename_i x ho
    simp only [Option.some.injEq, Prod.mk.injEq] at h
    obtain ⟨rfl, rfl, rfl⟩ := h
    exact .pure hW (by simp [execOp, ho]) (ev_vr hF x)
  · rename_i x ho
    simp only [Option.some.injEq, Prod.mk.injEq] at h
    obtain ⟨rfl, rfl, rfl⟩ := h
    exact .pure hW (by simp [execOp, ho]) (ev_vr hF x)
  · rename_i c x y ho
    split at h
    · rename_i t ht
      simp only [Option.some.injEq, Prod.mk.injEq] at h
      obtain ⟨rfl, rfl, rfl⟩ := h
      have hc := ev_vr hF c
      rw [ht, VR] at hc
      refine .pure hW (v' := if t then a.eval x else a.eval y) (by simp [execOp, ho, hc, asBool]) ?_
      cases t
      · exact ev_vr hF y
      · exact ev_vr hF x
    · cases h
  · rename_i op xt x y yt ho
    split at h
    · rename_i k1 i1 k2 i2 hx hy
      cases hk : kindEq k1 k2 with
      | false => rw [hk] at h; exact .xPure hW hF h
      | true =>
        rw [hk] at h
        simp only [cond_true] at h
        have hk : k1 = k2 := kindEq_eq hk
        subst hk
        split at h
        · rename_i u hu
          simp only [Option.some.injEq, Prod.mk.injEq] at h
          obtain ⟨rfl, rfl, rfl⟩ := h
          have h1 := ev_vr hF x
          have h2 := ev_vr hF y
          rw [hx, VR] at h1
          rw [hy, VR] at h2
          refine .value (s := do eqGuard op xt x y (a.eval x) (a.eval y); binOp op xt (a.eval x) (a.eval y)) (by simp [execOp, ho]) (.same hW (v' := u) ?_ (by rw [VR]))
          rw [h1, h2]
          exact xBin_sound hu w
        · exact .xPure hW hF h
    · rename_i cs ds hx hy
      split at h
      · rename_i u hu
        simp only [Option.some.injEq, Prod.mk.injEq] at h
        obtain ⟨rfl, rfl, rfl⟩ := h
        have h1 := ev_vr hF x
        have h2 := ev_vr hF y
        rw [hx, VR] at h1
        rw [hy, VR] at h2
        obtain ⟨xs, e1, h1⟩ := h1
        obtain ⟨ys, e2, h2⟩ := h2
        obtain ⟨v', g1, g2⟩ := xAgg_sound (P := P) (p := x) (q := y) h1 h2 hu w
        exact .value (s := do eqGuard op xt x y (a.eval x) (a.eval y); binOp op xt (a.eval x) (a.eval y)) (by simp [execOp, ho]) (.same hW (v' := v') (by rw [e1, e2]; exact g1) g2)
      · exact .xPure hW hF h
    · exact .xPure hW hF h
  · rename_i t x ho
    split at h
    · rename_i u c hu
      simp only [Option.some.injEq, Prod.mk.injEq] at h
      obtain ⟨rfl, rfl, rfl⟩ := h
      obtain ⟨v', h1, h2⟩ := xLoad_sound hW (ev_vr hF x) hu
      exact .value (by simp only [execOp, ho]) (.same hW h1 h2)
    · cases h
  · rename_i t x y ho
    split at h
    · rename_i H2 hu
      simp only [Option.some.injEq, Prod.mk.injEq] at h
      obtain ⟨rfl, rfl, rfl⟩ := h
      obtain ⟨w', h1, h2, h3⟩ := xStore_sound hW (ev_vr hF x) (ev_vr hF y) hu
      intro K Q hK
      unfold Oper.wp
      have hx : (execOp a.eval o).run P w = .ok .skip w' := by simp [execOp, ho, h1]
      rw [hx]
      exact hK undef w' G μ h2 h3 (by rw [VR])
    · cases h
  · rename_i t x ho
    split at h
    · rename_i cs hcs
      replace h := p2_some h; obtain ⟨h, rfl⟩ := h
      simp only [Option.some.injEq] at h
      have hn := new_sound (P := P) hW (t := t) (cellsP_vrs hcs (ev_vr hF x))
      rw [h] at hn
      exact .value (s := Instr.box t (a.eval x)) (by simp only [execOp, ho]) hn
    · cases h
  · rename_i t ho
    split at h
    · rename_i z hz
      replace h := p2_some h; obtain ⟨h, rfl⟩ := h
      simp only [Option.some.injEq] at h
      have hn := new_sound (P := P) hW (t := t) (lits_vr (w := w) (G := G) (μ := μ) z.cells)
      rw [h] at hn
      refine .value (s := Instr.alloc t true (.tuple #[])) (by simp only [execOp, ho]) ?_
      obtain ⟨v', w', G', μ', a1, a2⟩ := hn
      refine ⟨v', w', G', μ', ?_, a2⟩
      have hzv : (zeroValue t).run P w = .ok z w := by
        unfold zeroT at hz
        split at hz
        · rename_i i hi
          simp [zeroValue, run_info hi, hz]
        · cases hz
      simp only [Instr.alloc, Sem.run_bind, hzv, Result.andThen_ok, newVar]
      simpa using a1
    · cases h
  · rename_i s x f ho
    replace h := p0_some h; obtain ⟨h, rfl, rfl⟩ := h
    obtain ⟨v', h1, h2⟩ := xFieldAddr_sound (ev_vr hF x) h
    exact .value (by simp only [execOp, ho]) (.same hW h1 h2)
  · rename_i t x i ho
    split at h
    · rename_i k1 i1 hi
      replace h := p0_some h; obtain ⟨h, rfl, rfl⟩ := h
      have h3 := ev_vr hF i
      rw [hi, VR] at h3
      obtain ⟨v', h1, h2⟩ := xIndexAddr_sound (k := k1) (ev_vr hF x) h
      exact .value (s := Instr.indexAt t (a.eval x) (a.eval i)) (by simp only [execOp, ho]) (.same hW (by rw [h3]; exact h1) h2)
    · cases h
  · rename_i x ho
    split at h
    · rename_i cs hx
      simp only [Option.some.injEq, Prod.mk.injEq] at h
      obtain ⟨rfl, rfl, rfl⟩ := h
      have h1 := ev_vr hF x
      rw [hx] at h1
      have h2 := h1
      rw [VR] at h2
      obtain ⟨b, off, h3, _⟩ := h2
      exact .pure hW (v' := a.eval x) (by simp [execOp, ho, h3]) h1
    · rename_i r off hx
      simp only [Option.some.injEq, Prod.mk.injEq] at h
      obtain ⟨rfl, rfl, rfl⟩ := h
      have h1 := ev_vr hF x
      rw [hx] at h1
      have h2 := h1
      rw [VR] at h2
      obtain ⟨b, _, h3⟩ := h2
      exact .pure hW (v' := a.eval x) (by simp [execOp, ho, h3]) h1
    · rename_i f p q hx
      simp only [Option.some.injEq, Prod.mk.injEq] at h
      obtain ⟨rfl, rfl, rfl⟩ := h
      have h1 := ev_vr hF x
      rw [hx] at h1
      have h2 := h1
      rw [VR] at h2
      obtain ⟨fs, cs, h3, _⟩ := h2
      exact .pure hW (v' := a.eval x) (by simp [execOp, ho, h3]) h1
    · exact .xPure hW hF h
  · rename_i s x f ho
    split at h
    · rename_i cs hx
      split at h
      · rename_i fd hfd
        replace h := p0_some h; obtain ⟨h, rfl, rfl⟩ := h
        have h1 := ev_vr hF x
        rw [hx] at h1
        obtain ⟨v', h2, h3⟩ := xField_sound (P := P) h1 hfd h w
        exact .value (by simp only [execOp, ho]) (.same hW h2 h3)
      · cases h
    · exact .xPure hW hF h
  · rename_i t x i ho
    split at h
    · rename_i cs k1 i1 n e hx hi hu
      split at h
      · rename_i sz hs
        cases hc : idxOk i1 n with
        | false => rw [hc] at h; cases h
        | true =>
          rw [hc] at h
          simp only [cond_true] at h
          replace h := p0_some h; obtain ⟨h, rfl, rfl⟩ := h
          have h1 := ev_vr hF x
          rw [hx] at h1
          have h4 := ev_vr hF i
          rw [hi, VR] at h4
          obtain ⟨v', h2, h3⟩ := xIndex_sound (P := P) (k := k1) h1 hu hs hc h w
          exact .value (s := Instr.index t (a.eval x) (a.eval i)) (by simp only [execOp, ho]) (.same hW (by rw [h4]; exact h2) h3)
      · cases h
    · exact .xPure hW hF h
  · rename_i x i ho
    split at h
    · rename_i vs hx
      replace h := p0_some h; obtain ⟨h, rfl, rfl⟩ := h
      have h1 := ev_vr hF x
      rw [hx] at h1
      obtain ⟨v', h2, h3⟩ := xExtract_sound (P := P) h1 h w
      exact .value (by simp only [execOp, ho]) (.same hW h2 h3)
    · exact .xPure hW hF h
  · rename_i t parts ho
    replace h := p0_some h; obtain ⟨h, rfl, rfl⟩ := h
    obtain ⟨v', h2, h3⟩ := xBuild_sound hF h w
    exact .value (by simp only [execOp, ho]) (.same hW h2 h3)
  · rename_i t n parts ho
    split at h
    · rename_i v1 h1
      simp only [Option.some.injEq, Prod.mk.injEq] at h
      obtain ⟨rfl, rfl, rfl⟩ := h
      exact .value (by simp only [execOp, ho]) (xBuildSlice_sound hW hF h1)
    · replace h := p2_some h; obtain ⟨h, rfl⟩ := h
      exact .value (by simp only [execOp, ho]) (xBuildSliceH_sound hW hF h)
  · rename_i t l c ho
    replace h := p2_some h; obtain ⟨h, rfl⟩ := h
    exact .value (by simp only [execOp, ho]) (xMakeSlice_sound hW (ev_vr hF l) (ev_vr hF c) h)
  · rename_i fn first caps ho
    simp only [Option.some.injEq, Prod.mk.injEq] at h
    obtain ⟨rfl, rfl, rfl⟩ := h
    refine .pure hW (v' := .func fn (first.map a.eval) (caps.map a.eval)) (by simp [execOp, ho, Instr.makeFunc]) ?_
    rw [VR]
    exact ⟨_, _, rfl, by simpa using evs_vrs hF first.toList, by simpa using evs_vrs hF caps.toList⟩
  · rename_i t x lo hi ho
    split at h
    · exact .xPure hW hF h
    · replace h := p0_some h; obtain ⟨h, rfl, rfl⟩ := h
      obtain ⟨v', h2, h3⟩ := xSlice_sound hF (ev_vr hF x) h w
      exact .value (by simp only [execOp, ho]; rfl) (.same hW h2 h3)
  · rename_i c ho
    split at h
    · rename_i hc
      split at h
      · exact .xPure hW hF h
      · cases hsz : Nat.beq c.args.size 1 with
        | false => rw [hsz] at h; cases h
        | true =>
          rw [hsz] at h
          simp only [cond_true] at h
          replace h := p0_some h; obtain ⟨h, rfl, rfl⟩ := h
          have hsz := Nat.eq_of_beq_eq_true hsz
          obtain ⟨x, hx⟩ : ∃ x, c.args = #[x] := by
            have h1 : 0 < c.args.size := by omega
            refine ⟨c.args[0], ?_⟩
            apply Array.ext
            · simp [hsz]
            · intro i h2 h3
              have : i = 0 := by omega
              subst this; rfl
          rw [hx] at h
          obtain ⟨v', h2, h3⟩ := xLen_sound (P := P) (ty := o.type) (ev_vr hF x) h w
          refine .value (s := Builtin.len_ c.argTypes o.type #[a.eval x]) ?_ (.same hW h2 h3)
          simp [execOp, ho, resolve, hc, hx, invoke, builtin]
    · rename_i hc
      split at h
      · rename_i s x hx
        have hx : c.args = #[s, x] := by apply Array.ext'; simpa using hx
        replace h := p2_some h; obtain ⟨h, rfl⟩ := h
        refine .value (s := Builtin.append_ c.argTypes o.type #[a.eval s, a.eval x]) ?_ (xAppend_sound hW (ev_vr hF s) (ev_vr hF x) h)
        simp [execOp, ho, resolve, hc, hx, invoke, builtin]
      · cases h
    · rename_i hc
      split at h
      · rename_i s x hx
        have hx : c.args = #[s, x] := by apply Array.ext'; simpa using hx
        replace h := p2_some h; obtain ⟨h, rfl⟩ := h
        refine .value (s := Builtin.copy_ c.argTypes o.type #[a.eval s, a.eval x]) ?_ (xCopy_sound hW (ev_vr hF s) (ev_vr hF x) h)
        simp [execOp, ho, resolve, hc, hx, invoke, builtin]
      · cases h
    · rename_i hc
      split at h
      · rename_i s hx
        have hx : c.args = #[s] := by apply Array.ext'; simpa using hx
        replace h := p2_some h; obtain ⟨h, rfl⟩ := h
        refine .value (s := Builtin.clear_ c.argTypes o.type #[a.eval s]) ?_ (xClear_sound hW (ev_vr hF s) h)
        simp [execOp, ho, resolve, hc, hx, invoke, builtin]
      · cases h
    · exact .xPure hW hF h
    · rename_i f hc
      split at h
      · rename_i g first caps hf
        have h1 := ev_vr hF f
        rw [hf, VR] at h1
        exact call_oper hcl hW ho hc h1 (((lits_vr _).append (evs_vrs hF _)).append (lits_vr _)) h
      · rename_i g first caps hf
        have h1 := ev_vr hF f
        rw [hf, VR] at h1
        obtain ⟨fs, cs, h2, h3, h4⟩ := h1
        exact call_oper hcl hW ho hc h2 ((h3.append (evs_vrs hF _)).append h4) h
      · cases h
    · cases h
  · exact .xPure hW hF h
end
end Go.PM
