/- The plain machine: a call on an empty heap, seen by a caller with a heap: what it made is the caller's. No program. -/
import Derived.Test.YtjgapmocogjkmaaGreatDoorPnU
set_option linter.unusedSimpArgs false
set_option linter.unusedVariables false
namespace Go.PM
open Go Go.RowKit

section
variable {P : Program} {n0 : Nat → Prop} {w w' : World} {G G' : Nat → Prop} {μ μ1 : Mp} {H H1 : Heap}

def joinMp (μ μ1 : Mp) (h : Nat) : Mp := ⟨fun r => if r < h then μ.loc r else μ1.loc (r - h), fun r => if r < h then μ.len r else μ1.len (r - h)⟩
theorem joinMp_lt {h r : Nat} (hr : r < h) : (joinMp μ μ1 h).loc r = μ.loc r ∧ (joinMp μ μ1 h).len r = μ.len r := by simp [joinMp, hr]
theorem joinMp_ge {h r : Nat} (hr : h ≤ r) : (joinMp μ μ1 h).loc r = μ1.loc (r - h) ∧ (joinMp μ μ1 h).len r = μ1.len (r - h) := by
  have : ¬ r < h := by omega
  simp [joinMp, this]
theorem join_ext (hW : WInv n0 G μ H w) (e : Ext (Fresh w) w G nomap w' G' μ1) : Ext n0 w G μ w' G' (joinMp μ μ1 H.length) := {
  good := e.good
  map := fun r b hr => by
    rcases Nat.lt_or_ge r H.length with hl | hl
    · rw [(joinMp_lt hl).1]; exact hr
    · rw [(hW.top r hl).1] at hr; cases hr
  len := fun r b hr => by
    rcases Nat.lt_or_ge r H.length with hl | hl
    · rw [(joinMp_lt hl).2]; exact hr
    · rw [(hW.top r hl).2] at hr; cases hr
  room := e.room
  os := e.os
  tape := e.tape
  output := e.output
  size := e.size
  drawn := e.drawn
  old := fun b hb _ => e.old b hb (Nat.not_le.2 hb)
  new := fun b hb => by
    rcases e.new b hb with h | h
    · exact .inl h
    · exact .inr (hW.base b h) }
theorem join_winv (hW : WInv n0 G μ H w) (e : Ext (Fresh w) w G nomap w' G' μ1) (h1 : WInv (Fresh w) G' μ1 H1 w') (ht : tagsOk H1 = true) : WInv n0 G' (joinMp μ μ1 H.length) (H ++ H1) w' := by
  have e' := join_ext hW e
  have key : ∀ (r : Nat) (k : Blk), (H ++ H1)[r]? = some (some k) → (r < H.length ∧ H[r]? = some (some k)) ∨ (H.length ≤ r ∧ H1[r - H.length]? = some (some k)) := by
    intro r k hr
    rcases Nat.lt_or_ge r H.length with hl | hl
    · rw [List.getElem?_append_left hl] at hr; exact .inl ⟨hl, hr⟩
    · rw [List.getElem?_append_right hl] at hr; exact .inr ⟨hl, hr⟩
  refine ⟨?_, ?_, ?_, h1.lt, ?_, fun b hb => hW.base b (Nat.le_trans e.size hb)⟩
  · intro r k b hr hb
    rcases key r k hr with ⟨hl, hr⟩ | ⟨hl, hr⟩
    · rw [(joinMp_lt hl).1] at hb
      obtain ⟨c, a1, a2, a3, a4, a5⟩ := hW.blk r k b hr hb
      have hlt := hW.loc_lt hr hb
      have ho := e.old b hlt (Nat.not_le.2 hlt)
      refine ⟨c, ho.trans a1, VCells.mono e'.toMono ho 0 _ a2, a3, fun hf => (e.good b (a4 hf)).1, fun hf => ⟨(a5 hf).1, fun hg => ?_⟩⟩
      rcases e.new b hg with h | h
      · exact (a5 hf).2 h
      · omega
    · rw [(joinMp_ge hl).1] at hb
      obtain ⟨c, a1, a2, a3, a4, a5⟩ := h1.blk _ k b hr hb
      refine ⟨c, a1, ?_, a3, a4, fun hf => ⟨hW.base b (a5 hf).1, (a5 hf).2⟩⟩
      rcases tagsOk_get ht hr with hg | hg
      · obtain ⟨g, hg⟩ := Option.isSome_iff_exists.1 hg
        have := (h1.tags _ k g hr hg).1
        rw [this] at a2 ⊢
        exact noRefs_cells (encAll_noRefs _ _) a2
      · exact noRefs_cells hg a2
  · intro r k g hr hg
    rcases key r k hr with ⟨hl, hr⟩ | ⟨hl, hr⟩
    · rw [(joinMp_lt hl).2]; exact hW.tags r k g hr hg
    · rw [(joinMp_ge hl).2]; exact h1.tags _ k g hr hg
  · intro r s k l b hr hs fk fl m1 m2
    rcases key r k hr with ⟨hl, hr⟩ | ⟨hl, hr⟩ <;> rcases key s l hs with ⟨hl2, hs⟩ | ⟨hl2, hs⟩
    · rw [(joinMp_lt hl).1] at m1
      rw [(joinMp_lt hl2).1] at m2
      exact hW.inj r s k l b hr hs fk fl m1 m2
    · rw [(joinMp_lt hl).1] at m1
      rw [(joinMp_ge hl2).1] at m2
      obtain ⟨_, _, _, _, _, a5⟩ := h1.blk _ l b hs m2
      have := hW.loc_lt hr m1
      have := (a5 fl).1
      omega
    · rw [(joinMp_ge hl).1] at m1
      rw [(joinMp_lt hl2).1] at m2
      obtain ⟨_, _, _, _, _, a5⟩ := h1.blk _ k b hr m1
      have := hW.loc_lt hs m2
      have := (a5 fk).1
      omega
    · rw [(joinMp_ge hl).1] at m1
      rw [(joinMp_ge hl2).1] at m2
      have := h1.inj _ _ k l b hr hs fk fl m1 m2
      omega
  · intro r hr
    simp only [List.length_append] at hr
    have hl : H.length ≤ r := by omega
    rw [(joinMp_ge hl).1, (joinMp_ge hl).2]
    exact h1.top _ (by omega)
theorem join_own {r sz : Nat} {v : Value} (h : VR w' G' μ1 (.own r sz) v) : VR w' G' (joinMp μ μ1 H.length) (.own (H.length + r) sz) v := by
  have e := joinMp_ge (μ := μ) (μ1 := μ1) (h := H.length) (r := H.length + r) (by omega)
  rw [VR] at h ⊢
  rw [e.1, e.2, Nat.add_sub_cancel_left]
  exact h

/-- A function on data whose answer is a fresh slice that the caller owns. -/
def FnOwn (P : Program) (g : FuncId) (args : List Kd) (e : TypeId) (ty : Ty) (f : denK args → Option (List ty.den)) : Prop :=
  ∀ x l, f x = some l → ∀ {n0 G μ w us}, WInv n0 G μ [] w → VRs w G μ (encA args x) us → CallOK P n0 w G μ g us.toArray (.own 0 ty.size) [some ⟨encAll ty l, e, true, false, some ⟨ty, l⟩⟩]
def endO (t : Nat) (e : TypeId) (ty : Ty) (ex : Ex) (F : Frm) (H : Heap) : Option (List ty.den) := match ex with
  | .exit _ => none
  | _ => match decHead [(t, .own e ty)] F H with
    | some x => some x.1
    | none => none
def bodyO (P : Program) (E : Env) (fn : Func) (keep : Nat) (lt : Nat → Option LSpec) (c : Code) (args : List Kd) (t : Nat) (e : TypeId) (ty : Ty) (x : denK args) : Option (List ty.den) :=
  bif Nat.ble (encA args x).length fn.ntmps then execK P E fn.ntmps keep lt c (start keep 0 (encA args x)) [] (endO t e ty) else none
theorem fun_own {E : Env} (hP : ProgOK P) (hE : EnvOK P E) {g : Nat} {fn : Func} (hg : P.funcs[g]? = some fn) {c : Code} (hc : fn.body = some c) {keep : Nat} {lt : Nat → Option LSpec} {args : List Kd} {t : Nat} (hr : fn.results.toList = [.tmp t]) {e : TypeId} {ty : Ty} {f : denK args → Option (List ty.den)}
    (hl : ∀ a ∈ loopsOf c, ∀ s, lt (firstRegion a) = some s → SpecOK P fn.ntmps a s) (hb : ∀ x, bodyO P E fn keep lt c args t e ty x = f x) : FnOwn P g args e ty f := by
  intro x l hy n0 G μ w us hW hv
  rw [← hb] at hy
  unfold bodyO at hy
  obtain ⟨hlen, hy⟩ := condSome hy
  obtain ⟨⟨ex, F', H'⟩, h1, h2⟩ := execK_sound hE.callee hP.mixed c _ _ _ _ hl hy
  obtain ⟨y, hex, hd, hyl⟩ : ∃ y, (ex = .normal ∨ ex = .ret) ∧ decHead [(t, .own e ty)] F' H' = some y ∧ y.1 = l := by
    unfold endO at h1
    split at h1
    · cases h1
    · rename_i hne
      split at h1
      · rename_i y hy
        simp only [Option.some.injEq] at h1
        refine ⟨y, ?_, hy, h1⟩
        cases ex with
        | normal => exact .inl rfl
        | ret => exact .inr rfl
        | exit i => exact absurd rfl (hne i)
      · cases h1
  obtain ⟨yl, ⟨⟩⟩ := y
  dsimp only at hyl
  subst hyl
  refine ⟨enters hg (hP.names g fn hg) (by rw [hc]; rfl) _ _, calls_of_wp hg hc ?_⟩
  have hI : I n0 w G μ fn.ntmps (start keep 0 (encA args x)) [] ⟨us.toArray ++ Array.replicate (fn.ntmps - us.toArray.size) undef, []⟩ w := ⟨G, μ, Ext.refl _ _ _ _, hW, start_finv (by simpa using hv) (Nat.le_of_ble_eq_true hlen)⟩
  refine wp_mono (h2 n0 w G μ _ w (fun r => hW.top r (Nat.zero_le _)) hI) ?_
  rintro e0 a' w' ⟨rfl, hI'⟩
  obtain ⟨G', μ', e', hW', hF'⟩ := decHead_sound hd (fun r => hW.top r (Nat.zero_le _)) hI'
  have hvs : xResults P (encF [(t, .own e ty)] (yl, ()) 0) (encH [(t, .own e ty)] (yl, ())) fn.results.toList = some [.own 0 ty.size] := by
    rw [hr]
    simp [xResults, xResult, encF, encK, fget]
  obtain ⟨ws, h3, h4⟩ := xResult_sound (P := P) hW' hF' hvs
  have hres : (results fn a'.tmps).run P w' = .ok (if hh : ws.toArray.size = 1 then ws.toArray[0] else .tuple ws.toArray) w' := by
    rw [results_eq, Array.mapM_eq_mapM_toList]
    simp only [Sem.run_bind, Sem.run_map, h3, Result.andThen_ok, Sem.run_pure]
  have hpost : a'.defers = [] ∧ ∃ v, (results fn a'.tmps).run P w' = .ok v w' ∧ (∃ v' G'' μ'', Ending.returned v = .returned v' ∧ Ext n0 w G μ w' G'' μ'' ∧ WInv n0 G'' μ'' (encH [(t, .own e ty)] (yl, ())) w' ∧ VR w' G'' μ'' (.own 0 ty.size) v') :=
    ⟨hF'.defers, _, hres, _, G', μ', rfl, e', hW', oneOrTuple_vr h4⟩
  rcases hex with rfl | rfl
  · exact hpost
  · exact hpost

/-- The caller's view. -/
def ownH (args : List Kd) (e : TypeId) (ty : Ty) (f : denK args → Option (List ty.den)) (qs : List PV) (H : Heap) : Option ResH :=
  bif noRef.noRefs qs then match decA args qs with
    | some x => some ⟨List ty.den, f x, fun l => (.own H.length ty.size, H ++ [some ⟨encAll ty l, e, true, false, some ⟨ty, l⟩⟩])⟩
    | none => none
  else none
theorem ownH_ok {g : FuncId} {args : List Kd} {e : TypeId} {ty : Ty} {f : denK args → Option (List ty.den)} (hf : FnOwn P g args e ty f) : ShrOK P (g, ownH args e ty f) := by
  intro qs H r h y hy n0 G μ w vs hW hv
  dsimp only at h
  unfold ownH at h
  obtain ⟨hn, h⟩ := condSome1 h
  split at h
  · rename_i x hx
    have h := Option.some.inj h
    subst h
    have hW0 : WInv (Fresh w) G nomap [] w := ⟨fun r k b h => by simp at h, fun r k g h => by simp at h, fun r s k l b h => by simp at h, hW.lt, fun _ _ => ⟨rfl, rfl⟩, fun _ h => h⟩
    obtain ⟨h1, h2⟩ := hf x y hy hW0 (decA_vrs args hx (noRefs_vrs _ _ hn hv))
    refine ⟨h1, h2.mono ?_⟩
    rintro e' w' ⟨v', G', μ1, rfl, e1, e2, e3⟩
    refine ⟨v', G', joinMp μ μ1 H.length, rfl, join_ext hW e1, join_winv hW e1 e2 rfl, ?_⟩
    have := join_own (H := H) (μ := μ) e3
    simpa using this
  · cases h
end
end Go.PM
