/- The plain machine, 9: which operations look at the heap; an operation looks at its operands alone. No program. -/
import Derived.Test.YtjgapmocogjkmaaGreatDoorPmH
set_option linter.unusedSimpArgs false
set_option linter.unusedVariables false
namespace Go.PM
open Go Go.RowKit

section
variable {P : Program} {F : Frm} {H : Heap}

theorem p0_cls {x : Option PV} {v : PV} {H' : Heap} {k : Nat} (h : p0 H x = some (v, H', k)) : H' = H ∧ k = 0 ∧ ∀ H2, p0 H2 x = some (v, H2, 0) := by
  obtain ⟨rfl, rfl, rfl⟩ := p0_some h
  exact ⟨rfl, rfl, fun H2 => rfl⟩

def ClsOK (k : Nat) (H H' : Heap) (v : PV) (f : Heap → Option (PV × Heap × Nat)) : Prop := (k = 0 → H' = H ∧ ∀ H2, f H2 = some (v, H2, 0)) ∧ (k = 1 → H' = H)
theorem ClsOK.p0 {x : Option PV} {v : PV} {H' : Heap} {k : Nat} {f : Heap → Option (PV × Heap × Nat)} (h : p0 H x = some (v, H', k)) (hf : ∀ H2, f H2 = PM.p0 H2 x) : ClsOK k H H' v f := by
  obtain ⟨rfl, rfl, h3⟩ := p0_cls h
  exact ⟨fun _ => ⟨rfl, fun H2 => by rw [hf]; exact h3 H2⟩, fun _ => rfl⟩
theorem ClsOK.two {H' : Heap} {v : PV} {f : Heap → Option (PV × Heap × Nat)} {k : Nat} (h : k = 2) : ClsOK k H H' v f := by subst h; exact ⟨fun h => (by cases h), fun h => (by cases h)⟩
theorem ClsOK.callee {cl : Callee} (hcl : CalleeOK P cl) {g : FuncId} {args : List PV} {v : PV} {H' : Heap} {k : Nat} {f : Heap → Option (PV × Heap × Nat)} (h : cl g args H = some (v, H', k)) (hf : ∀ H2, f H2 = cl g args H2) : ClsOK k H H' v f := by
  constructor
  · rintro rfl
    obtain ⟨h1, h2⟩ := hcl.free h
    exact ⟨h1, fun H2 => by rw [hf]; exact h2 H2⟩
  · rintro rfl
    exact hcl.reads h

set_option maxHeartbeats 1000000 in
theorem opu_cls {cl : Callee} (hcl : CalleeOK P cl) {o : Oper} {v : PV} {H' : Heap} {k : Nat} (h : opu P cl F H o = some (v, H', k)) : ClsOK k H H' v (fun H2 => opu P cl F H2 o) := by
  have one : ∀ {x : PV} {f : Heap → Option (PV × Heap × Nat)}, some (x, H, 0) = some (v, H', k) → (∀ H2, f H2 = some (x, H2, 0)) → ClsOK k H H' v f := by
    intro x f h hf
    simp only [Option.some.injEq, Prod.mk.injEq] at h
    obtain ⟨rfl, rfl, rfl⟩ := h
    exact ⟨fun _ => ⟨rfl, hf⟩, fun _ => rfl⟩
  unfold opu at h
  split at h
  · rename_i x ho; exact one h fun H2 => by simp only [opu, ho]
  · rename_i x ho; exact one h fun H2 => by simp only [opu, ho]
  · rename_i c x y ho
    split at h
    · rename_i t ht; exact one h fun H2 => by simp only [opu, ho, ht]
    · cases h
  · rename_i op xt x y yt ho
    split at h
    · rename_i k1 i1 k2 i2 hx hy
      cases hk : kindEq k1 k2 with
      | false => rw [hk] at h; exact .p0 h fun H2 => by simp only [opu, ho, hx, hy, hk, cond_false]
      | true =>
        rw [hk] at h
        simp only [cond_true] at h
        split at h
        · rename_i u hu; exact one h fun H2 => by simp only [opu, ho, hx, hy, hk, cond_true, hu]
        · rename_i hu; exact .p0 h fun H2 => by simp only [opu, ho, hx, hy, hk, cond_true, hu]
    · rename_i cs ds hx hy
      split at h
      · rename_i u hu; exact one h fun H2 => by simp only [opu, ho, hx, hy, hu]
      · rename_i hu; exact .p0 h fun H2 => by simp only [opu, ho, hx, hy, hu]
    · rename_i hno
      refine .p0 h fun H2 => ?_
      simp only [opu, ho]
  · rename_i t x ho
    split at h
    · rename_i u c hu
      simp only [Option.some.injEq, Prod.mk.injEq] at h
      obtain ⟨rfl, rfl, rfl⟩ := h
      refine ⟨?_, fun _ => rfl⟩
      rintro rfl
      refine ⟨rfl, fun H2 => ?_⟩
      have : xLoad P H2 t (ev F x) = some (u, 0) := by
        cases hx : ev F x <;> rw [hx] at hu <;> simp only [xLoad] at hu ⊢ <;> try (cases hu; done)
        · exact hu
        · split at hu
          · split at hu <;> cases hu
          · cases hu
      simp only [opu, ho, this]
    · cases h
  · rename_i t x y ho
    split at h
    · simp only [Option.some.injEq, Prod.mk.injEq] at h; exact .two h.2.2.symm
    · cases h
  · rename_i t x ho
    split at h
    · exact .two (p2_some h).2
    · cases h
  · rename_i t ho
    split at h
    · exact .two (p2_some h).2
    · cases h
  · rename_i s x f ho; exact .p0 h fun H2 => by simp only [opu, ho]
  · rename_i t x i ho
    split at h
    · rename_i k1 i1 hi; exact .p0 h fun H2 => by simp only [opu, ho, hi]
    · cases h
  · rename_i x ho
    split at h
    · rename_i cs hx; exact one h fun H2 => by simp only [opu, ho, hx]
    · rename_i r off hx; exact one h fun H2 => by simp only [opu, ho, hx]
    · rename_i f p q hx; exact one h fun H2 => by simp only [opu, ho, hx]
    · rename_i n1 n2 n3
      refine .p0 h fun H2 => ?_
      simp only [opu, ho]
  · rename_i s x f ho
    split at h
    · rename_i cs hx
      split at h
      · rename_i fd hfd; exact .p0 h fun H2 => by simp only [opu, ho, hx, hfd]
      · cases h
    · refine .p0 h fun H2 => ?_
      simp only [opu, ho]
  · rename_i t x i ho
    split at h
    · rename_i cs k1 i1 n e hx hi hu
      split at h
      · rename_i sz hs
        cases hc : idxOk i1 n with
        | false => rw [hc] at h; cases h
        | true => rw [hc] at h; exact .p0 h fun H2 => by simp only [opu, ho, hx, hi, hu, hs, hc, cond_true]
      · cases h
    · refine .p0 h fun H2 => ?_
      simp only [opu, ho]
  · rename_i x i ho
    split at h
    · rename_i vs hx; exact .p0 h fun H2 => by simp only [opu, ho, hx]
    · refine .p0 h fun H2 => ?_
      simp only [opu, ho]
  · rename_i t parts ho; exact .p0 h fun H2 => by simp only [opu, ho]
  · rename_i t n parts ho
    split at h
    · rename_i v1 h1
      exact one h fun H2 => by simp only [opu, ho, h1]
    · exact .two (p2_some h).2
  · exact .two (p2_some h).2
  · rename_i fn first caps ho; exact one h fun H2 => by simp only [opu, ho]
  · rename_i t x lo hi ho
    split at h
    · rename_i u hx; exact .p0 h fun H2 => by simp only [opu, ho, hx]
    · refine .p0 h fun H2 => ?_
      simp only [opu, ho]
  · rename_i c ho
    split at h
    · rename_i hc
      split at h
      · rename_i u hx; exact .p0 h fun H2 => by simp only [opu, ho, hc, hx]
      · cases hsz : Nat.beq c.args.size 1 with
        | false => rw [hsz] at h; cases h
        | true =>
          rw [hsz] at h
          refine .p0 h fun H2 => ?_
          simp only [opu, ho, hc, hsz, cond_true]
    · split at h
      · exact .two (p2_some h).2
      · cases h
    · split at h
      · exact .two (p2_some h).2
      · cases h
    · split at h
      · exact .two (p2_some h).2
      · cases h
    · rename_i hc
      refine .p0 h fun H2 => ?_
      simp only [opu, ho, hc]
    · rename_i f hc
      split at h
      · rename_i g first caps hf; exact .callee hcl h fun H2 => by simp only [opu, ho, hc, hf]
      · rename_i g first caps hf; exact .callee hcl h fun H2 => by simp only [opu, ho, hc, hf]
      · cases h
    · cases h
  · refine .p0 h fun H2 => ?_
    simp only [opu]
end
end Go.PM
