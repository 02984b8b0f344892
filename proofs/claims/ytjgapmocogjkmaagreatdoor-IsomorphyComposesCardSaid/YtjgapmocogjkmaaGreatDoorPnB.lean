/- The plain machine, open runs: functions on typed data. No program. -/
import Derived.Test.YtjgapmocogjkmaaGreatDoorPnA
set_option linter.unusedSimpArgs false
set_option linter.unusedVariables false
namespace Go.PM
open Go Go.RowKit

@[reducible] def denK : List Kd → Type
  | [] => Unit
  | k :: r => k.den × denK r
def encA : (l : List Kd) → denK l → List PV
  | [], _ => []
  | k :: r, (x, xs) => encK k x 0 :: encA r xs
def decA : (l : List Kd) → List PV → Option (denK l)
  | [], [] => some ()
  | k :: r, p :: ps => match decK k p [] 0 with
    | some x => match decA r ps with
      | some xs => some (x, xs)
      | none => none
    | none => none
  | _, _ => none
/-- Kinds of data. -/
def dataK : List Kd → Bool
  | [] => true
  | .own _ _ :: _ | .box _ _ :: _ | .win _ _ :: _ | .bown _ _ _ :: _ | .bag _ _ _ _ _ :: _ => false
  | _ :: r => dataK r
/-- Results as they are yielded. -/
def encR (l : List Kd) (x : denK l) : PV := oneOrTuple (encA l x)
def decR : (l : List Kd) → PV → Option (denK l)
  | [k], q => match decK k q [] 0 with
    | some x => some (x, ())
    | none => none
  | l, .tuple qs => decA l qs
  | _, _ => none

section
variable {P : Program} {n0 : Nat → Prop} {w wi : World} {G Gi : Nat → Prop} {μ μi μ' : Mp} {H : Heap} {F : Frm} {a : Act} {nt : Nat}

theorem decOwn_nil {e : TypeId} {t : Ty} {p : PV} {n : Nat} : decOwn e t p [] n = none := by
  unfold decOwn
  split
  · cases Nat.beq _ n && Nat.beq _ t.size <;> rfl
  · rfl
theorem decBox_nil {e : TypeId} {t : Ty} {p : PV} {n : Nat} : decBox e t p [] n = none := by
  unfold decBox
  split
  · cases Nat.beq _ n && Nat.beq _ 0 <;> rfl
  · rfl
theorem decBown_nil {e et : TypeId} {t : Ty} {p : PV} {n : Nat} : decBown e et t p [] n = none := by
  unfold decBown
  split
  · cases Nat.beq _ n && Nat.beq _ 0 <;> rfl
  · rfl
theorem decBag_nil {e : TypeId} {t1 : Ty} {et : TypeId} {t t2 : Ty} {p : PV} {n : Nat} : decBag e t1 et t t2 p [] n = none := by
  unfold decBag
  split
  · cases Nat.beq _ n && Nat.beq _ 0 <;> rfl
  · rfl
theorem decK_data : ∀ (k : Kd) {p : PV} {x : k.den} {v : Value}, decK k p [] 0 = some x → VR w G nomap p v → VR w G nomap (encK k x 0) v
  | .int k, p, x, v, h, hv => by
    have := decInt_some h
    simp only [List.cons.injEq, and_true] at this
    subst this
    exact hv
  | .bool, p, x, v, h, hv => by
    have := decBool_some h
    simp only [List.cons.injEq, and_true] at this
    subst this
    exact hv
  | .str, p, x, v, h, hv => by
    have := decStr_some h
    simp only [List.cons.injEq, and_true] at this
    subst this
    exact hv
  | .list t, p, x, v, h, hv => by
    have := dec_vr (.list t) nomap [p] x [v] h (by rw [VRs]; exact ⟨v, [], rfl, hv, by rw [VRs]⟩)
    simp only [enc] at this
    rw [VRs] at this
    obtain ⟨y, ys, h1, h2, _⟩ := this
    cases h1
    exact h2
  | .agg t, p, x, v, h, hv => by
    simp only [decK] at h
    unfold decAgg at h
    split at h
    · rename_i cs
      rw [VR] at hv
      obtain ⟨vs, rfl, h2⟩ := hv
      simp only [encK]
      rw [VR]
      exact ⟨vs, rfl, dec_vr t nomap cs x vs.toList h h2⟩
    · cases h
  | .own e t, p, x, v, h, hv => by
    simp only [decK, decOwn_nil] at h
    cases h
  | .box e t, p, x, v, h, hv => by
    simp only [decK, decBox_nil] at h
    cases h
  | .ptr t, p, x, v, h, hv => decPtr_sound h hv
  | .fn g, p, x, v, h, hv => by
    have := decFn_sound h
    subst this
    exact hv
  | .nil0, p, x, v, h, hv => by
    have := decNil_sound h
    subst this
    exact hv
  | .val, p, x, v, h, hv => by
    have := decVal_sound (p := p) (x := x) h
    subst this
    exact hv
  | .nilI, p, x, v, h, hv => by
    have := decNilI_sound (p := p) (x := x) h
    subst this
    exact hv
  | .clo g ts, p, x, v, h, hv => decClo_sound h hv
  | .win j sz, p, x, v, h, hv => by
    have := decWin_sound h
    subst this
    exact hv
  | .bown e et t, p, x, v, h, hv => by
    simp only [decK, decBown_nil] at h
    cases h
  | .bag e t1 et t t2, p, x, v, h, hv => by
    simp only [decK, decBag_nil] at h
    cases h
theorem decA_vrs : ∀ (l : List Kd) {ps : List PV} {x : denK l} {vs : List Value}, decA l ps = some x → VRs w G nomap ps vs → VRs w G nomap (encA l x) vs
  | [], [], x, vs, h, hv => hv
  | [], _ :: _, x, vs, h, hv => by cases h
  | _ :: _, [], x, vs, h, hv => by cases h
  | k :: r, p :: ps, x, vs, h, hv => by
    simp only [decA] at h
    split at h
    · rename_i y hy
      split at h
      · rename_i ys hys
        simp only [Option.some.injEq] at h
        subst h
        rw [VRs] at hv
        obtain ⟨u, us, h1, h2, h3⟩ := hv
        simp only [encA]
        rw [VRs]
        exact ⟨u, us, h1, decK_data k hy h2, decA_vrs r hys h3⟩
      · cases h
    · cases h
theorem decR_vr {l : List Kd} {q : PV} {x : denK l} {v : Value} (h : decR l q = some x) (hv : VR w G nomap q v) : VR w G nomap (encR l x) v := by
  unfold decR at h
  split at h
  · split at h
    · rename_i k q y hy
      simp only [Option.some.injEq] at h
      subst h
      exact decK_data _ hy hv
    · cases h
  · rename_i hne
    rw [VR] at hv
    obtain ⟨vs, rfl, h2⟩ := hv
    have h3 := decA_vrs _ h h2
    clear h
    match l, x, h3 with
    | [], x, h3 =>
      simp only [encR, encA, oneOrTuple]
      rw [VR]
      exact ⟨vs, rfl, h3⟩
    | [k], x, h3 => exact (hne k rfl).elim
    | k :: k2 :: r, (x, y, z), h3 =>
      simp only [encR, encA, oneOrTuple]
      rw [VR]
      exact ⟨vs, rfl, h3⟩
  · cases h

/-- The function does on typed data what f does. -/
def FnOK (P : Program) (g : FuncId) (args rets : List Kd) (f : denK args → Option (denK rets)) : Prop :=
  ∀ x y, f x = some y → PureCall P g (encA args x) (encR rets y)
/-- An entry of the table of functions. -/
def resOf (args rets : List Kd) (f : denK args → Option (denK rets)) (qs : List PV) : Option Res := match decA args qs with
  | some x => some ⟨denK rets, f x, encR rets⟩
  | none => none
theorem resOf_ok {g : FuncId} {args rets : List Kd} {f : denK args → Option (denK rets)} (hf : FnOK P g args rets f) {qs : List PV} {r : Res} (h : resOf args rets f qs = some r) : ∀ y, r.val = some y → PureCall P g qs (r.out y) := by
  unfold resOf at h
  split at h
  · rename_i x hx
    simp only [Option.some.injEq] at h
    subst h
    intro y hy w G vs hlt hv
    exact hf x y hy w G vs hlt (decA_vrs args hx hv)
  · cases h
/-- What the table says holds. -/
structure EnvOK (P : Program) (E : Env) : Prop where
  pure : ∀ g qs r, E.pure g qs = some r → ∀ y, r.val = some y → PureCall P g qs (r.out y)
  shr : ∀ g args H r, E.shr g args H = some r → ∀ y, r.val = some y → ∀ {n0 G μ w vs}, WInv n0 G μ H w → VRs w G μ args vs → CallOK P n0 w G μ g vs.toArray (r.out y).1 (r.out y).2
theorem EnvOK.callee {E : Env} (h : EnvOK P E) : CalleeOK P (calleeE P E) := by
  refine callee_ok ?_ ?_
  · intro g args r hr
    unfold pureOf at hr
    split at hr
    · rename_i s hs
      split at hr
      · rename_i x hx
        simp only [Option.some.injEq] at hr
        subst hr
        exact h.pure g args s hs x hx
      · cases hr
    · cases hr
  · intro g args H r H' hr
    unfold sharedOf at hr
    split at hr
    · rename_i s hs
      split at hr
      · rename_i x hx
        have hr := Option.some.inj hr
        have h1 : r = (s.out x).1 := by rw [hr]
        have h2 : H' = (s.out x).2 := by rw [hr]
        subst h1; subst h2
        intro n0 G μ w vs hW hv
        exact h.shr g args H s hs x hx hW hv
      · cases hr
    · cases hr

/-- The end of a body: its results, typed. -/
def endK (P : Program) (rs : List ResultVar) (rets : List Kd) (ex : Ex) (F : Frm) (H : Heap) : Option (denK rets) := match ex with
  | .exit _ => none
  | _ => match xResults P F H rs with
    | some vs => match inl false H depth (oneOrTuple vs) with
      | some q => decR rets q
      | none => none
    | none => none
def bodyK (P : Program) (E : Env) (fn : Func) (keep : Nat) (lt : Nat → Option LSpec) (c : Code) (args rets : List Kd) (x : denK args) : Option (denK rets) :=
  bif Nat.ble (encA args x).length fn.ntmps then execK P E fn.ntmps keep lt c (start keep 0 (encA args x)) [] (endK P fn.results.toList rets) else none

theorem fun_ok {E : Env} (hP : ProgOK P) (hE : EnvOK P E) {g : Nat} {fn : Func} (hg : P.funcs[g]? = some fn) {c : Code} (hc : fn.body = some c) {keep : Nat} {lt : Nat → Option LSpec} {args rets : List Kd} {f : denK args → Option (denK rets)}
    (hl : ∀ a ∈ loopsOf c, ∀ s, lt (firstRegion a) = some s → SpecOK P fn.ntmps a s) (hb : ∀ x, bodyK P E fn keep lt c args rets x = f x) : FnOK P g args rets f := by
  intro x y hy
  rw [← hb] at hy
  unfold bodyK at hy
  obtain ⟨hlen, hy⟩ := condSome hy
  obtain ⟨⟨ex, F', H'⟩, h1, h2⟩ := execK_sound hE.callee hP.mixed c _ _ _ _ hl hy
  obtain ⟨vs, q, hex, hvs, hq, hd⟩ : ∃ vs q, (ex = .normal ∨ ex = .ret) ∧ xResults P F' H' fn.results.toList = some vs ∧ inl false H' depth (oneOrTuple vs) = some q ∧ decR rets q = some y := by
    unfold endK at h1
    split at h1
    · cases h1
    · rename_i hne
      split at h1
      · rename_i vs hvs
        split at h1
        · rename_i q hq
          refine ⟨vs, q, ?_, hvs, hq, h1⟩
          cases ex with
          | normal => exact .inl rfl
          | ret => exact .inr rfl
          | exit i => exact absurd rfl (hne i)
        · cases h1
      · cases h1
  have hcall : ∀ {n0 G μ w us}, WInv n0 G μ [] w → VRs w G μ (encA args x) us → CallOK P n0 w G μ g us.toArray (oneOrTuple vs) H' := by
    intro n0 G μ w us hW hv
    refine ⟨enters hg (hP.names g fn hg) (by rw [hc]; rfl) _ _, calls_of_wp hg hc ?_⟩
    have hI : I n0 w G μ fn.ntmps (start keep 0 (encA args x)) [] ⟨us.toArray ++ Array.replicate (fn.ntmps - us.toArray.size) undef, []⟩ w := ⟨G, μ, Ext.refl _ _ _ _, hW, start_finv (by simpa using hv) (Nat.le_of_ble_eq_true hlen)⟩
    refine wp_mono (h2 n0 w G μ _ w (fun r => hW.top r (Nat.zero_le _)) hI) ?_
    rintro e a' w' ⟨rfl, G', μ', e', hW', hF'⟩
    obtain ⟨ws, h3, h4⟩ := xResult_sound (P := P) hW' hF' hvs
    have hres : (results fn a'.tmps).run P w' = .ok (if hh : ws.toArray.size = 1 then ws.toArray[0] else .tuple ws.toArray) w' := by
      rw [results_eq, Array.mapM_eq_mapM_toList]
      simp only [Sem.run_bind, Sem.run_map, h3, Result.andThen_ok, Sem.run_pure]
    have hpost : a'.defers = [] ∧ ∃ v, (results fn a'.tmps).run P w' = .ok v w' ∧ (∃ v' G'' μ'', Ending.returned v = .returned v' ∧ Ext n0 w G μ w' G'' μ'' ∧ WInv n0 G'' μ'' H' w' ∧ VR w' G'' μ'' (oneOrTuple vs) v') :=
      ⟨hF'.defers, _, hres, _, G', μ', rfl, e', hW', oneOrTuple_vr h4⟩
    rcases hex with rfl | rfl
    · exact hpost
    · exact hpost
  have hp := pure_of_shared hcall hq
  intro w G us hlt hv
  obtain ⟨h3, h4⟩ := hp w G us hlt hv
  refine ⟨h3, h4.mono ?_⟩
  rintro e w' ⟨v', G', rfl, e1, e2, e3⟩
  exact ⟨v', G', rfl, e1, e2, decR_vr hd e3⟩
end
end Go.PM
