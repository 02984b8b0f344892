/- The plain machine: functions with ranges over funcs whose answer is an owned slice. No program. -/
import Derived.Test.YtjgapmocogjkmaaGreatDoorPnR
import Derived.Test.YtjgapmocogjkmaaGreatDoorPnV
set_option linter.unusedSimpArgs false
set_option linter.unusedVariables false
namespace Go.PM
open Go Go.RowKit
section
variable {P : Program}
def bodyOR (P : Program) (E : Env) (fn : Func) (keep : Nat) (lt rt : Nat → Option LSpec) (c : Code) (args : List Kd) (t : Nat) (e : TypeId) (ty : Ty) (x : denK args) : Option (List ty.den) :=
  bif Nat.ble (encA args x).length fn.ntmps then execR P E fn.ntmps keep lt rt false [] c (start keep 0 (encA args x)) [] (endO t e ty) else none
theorem fun_ownR {E : Env} (hP : ProgOK P) (hE : EnvOK P E) {g : Nat} {fn : Func} (hg : P.funcs[g]? = some fn) {c : Code} (hc : fn.body = some c) {keep : Nat} {lt rt : Nat → Option LSpec} {args : List Kd} {t : Nat} (hr : fn.results.toList = [.tmp t]) {e : TypeId} {ty : Ty} {f : denK args → Option (List ty.den)}
    (hl : ∀ a ∈ subsOf c, SubOK P fn.ntmps lt rt false [] a) (hb : ∀ x, bodyOR P E fn keep lt rt c args t e ty x = f x) : FnOwn P g args e ty f := by
  intro x l hy n0 G μ w us hW hv
  rw [← hb] at hy
  unfold bodyOR at hy
  obtain ⟨hlen, hy⟩ := condSome hy
  obtain ⟨⟨ex, F', H'⟩, h1, h2⟩ := execR_sound hE.callee hP.mixed c _ _ _ _ hl hy
  obtain ⟨y, hex, hd, hyl⟩ : ∃ y, (ex = .normal ∨ ex = .ret) ∧ decHead [(t, .own e ty)] F' H' = some y ∧ y.1 = l := by
    unfold endO at h1
    split at h1
    · cases h1
    · rename_i hne
      split at h1
      · rename_i y hy
        simp only [Option.some.injEq] at h1
        refine ⟨y, ?_, hy, h1⟩
        cases ex with
        | normal => exact .inl rfl
        | ret => exact .inr rfl
        | exit i => exact absurd rfl (hne i)
      · cases h1
  obtain ⟨yl, ⟨⟩⟩ := y
  dsimp only at hyl
  subst hyl
  refine ⟨enters hg (hP.names g fn hg) (by rw [hc]; rfl) _ _, (callsIn_wide (n := 0)).1 (callsIn_of_wp_marks hg hc trivial ?_)⟩
  have hI : I n0 w G μ fn.ntmps (start keep 0 (encA args x)) [] ⟨us.toArray ++ Array.replicate (fn.ntmps - us.toArray.size) undef, []⟩ w := ⟨G, μ, Ext.refl _ _ _ _, hW, start_finv (by simpa using hv) (Nat.le_of_ble_eq_true hlen)⟩
  refine wpIn_mono (h2 none 0 n0 w G μ _ w (fun _ => rfl) (fun r _ => hW.top r (Nat.zero_le _)) hI.toIM) ?_
  rintro e0 ⟨tm, ds⟩ w' ⟨rfl, hI', _⟩
  have hend : ∀ w', IM n0 w G μ fn.ntmps F' H' { tmps := tm, defers := [] } w' → LeavesIn Fence.wide 0 P fn tm (fun en w' => ∃ v' G'' μ'', en = .returned v' ∧ Ext n0 w G μ w' G'' μ'' ∧ WInv n0 G'' μ'' (encH [(t, .own e ty)] (yl, ())) w' ∧ VR w' G'' μ'' (.own 0 ty.size) v') [] .returning w' := by
    rintro w' ⟨G0, μ0, e0', hW0, hF0, _⟩
    obtain ⟨G', μ', e', hW', hF'⟩ := decHead_sound hd (fun r => hW.top r (Nat.zero_le _)) ⟨G0, μ0, e0', hW0, hF0⟩
    have hvs : xResults P (encF [(t, .own e ty)] (yl, ()) 0) (encH [(t, .own e ty)] (yl, ())) fn.results.toList = some [.own 0 ty.size] := by
      rw [hr]
      simp [xResults, xResult, encF, encK, fget]
    obtain ⟨ws, h3, h4⟩ := xResult_sound (P := P) hW' hF' hvs
    have hres : (results fn tm).run P w' = .ok (if hh : ws.toArray.size = 1 then ws.toArray[0] else .tuple ws.toArray) w' := by
      rw [results_eq, Array.mapM_eq_mapM_toList]
      simp only [Sem.run_bind, Sem.run_map, h3, Result.andThen_ok, Sem.run_pure]
    exact ⟨_, hres, _, G', μ', rfl, e', hW', oneOrTuple_vr h4⟩
  rcases hex with rfl | rfl
  · exact leaves_marks (fun b hb => hW.base b hb) hend ds w' hI'
  · exact leaves_marks (fun b hb => hW.base b hb) hend ds w' hI'
end
end Go.PM
