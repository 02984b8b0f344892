/- The plain machine, open runs: functions that take an owned slice of the caller's, and answer data. No program. -/
import Derived.Test.YthbfchehcgnkpaaPnV
set_option linter.unusedSimpArgs false
set_option linter.unusedVariables false
namespace Go.PM
open Go Go.RowKit

section
variable {P : Program} {n0 : Nat → Prop} {w w' : World} {G G' : Nat → Prop} {μ μ1 : Mp} {H H1 : Heap}

theorem encP_noRefs : ∀ (ts : List Ty) (x : denT ts), noRef.noRefs (encP ts x) = true
  | [], _ => rfl
  | t :: r, (x, xs) => by simp only [encP, noRef.noRefs, noRef, encP_noRefs r xs, Bool.and_self]
theorem encK_noRef : ∀ (k : Kd) (x : k.den) (r : List Kd), dataK (k :: r) = true → noRef (encK k x 0) = true ∧ dataK r = true
  | .int _, _, _, h => ⟨rfl, h⟩
  | .bool, _, _, h => ⟨rfl, h⟩
  | .str, _, _, h => ⟨rfl, h⟩
  | .list _, _, _, h => ⟨rfl, h⟩
  | .agg t, x, _, h => ⟨by simp only [encK, noRef]; exact enc_noRefs t x, h⟩
  | .own _ _, _, _, h => by simp only [dataK] at h; cases h
  | .box _ _, _, _, h => by simp only [dataK] at h; cases h
  | .win _ _, _, _, h => by simp only [dataK] at h; cases h
  | .bown _ _ _, _, _, h => by simp only [dataK] at h; cases h
  | .ptr _, _, _, h => ⟨rfl, h⟩
  | .fn _, _, _, h => ⟨rfl, h⟩
  | .nil0, _, _, h => ⟨rfl, h⟩
  | .clo _ ts, x, _, h => ⟨by simp only [encK, noRef, noRef.noRefs, encP_noRefs ts x, Bool.and_self], h⟩
theorem encA_noRefs : ∀ (l : List Kd) (x : denK l), dataK l = true → noRef.noRefs (encA l x) = true
  | [], _, _ => rfl
  | k :: r, (x, xs), h => by
    obtain ⟨h1, h2⟩ := encK_noRef k x r h
    simp only [encA, noRef.noRefs, h1, encA_noRefs r xs h2, Bool.and_self]

/-- A function that takes an owned slice and data, and answers data; the slice is the caller's no more. -/
def FnTake (P : Program) (g : FuncId) (e : TypeId) (t : Ty) (args rets : List Kd) (f : List t.den → denK args → Option (denK rets)) : Prop :=
  ∀ l x y, f l x = some y → ∀ {n0 G μ H w us r k}, WInv n0 G μ H w → hget H r = some k → k.ty = e → k.grown = true → k.frozen = false → k.tag = some ⟨t, l⟩ → VRs w G μ (.own r t.size :: encA args x) us → CallOK P n0 w G μ g us.toArray (encR rets y) (H.set r none)
def bodyT (P : Program) (E : Env) (fn : Func) (keep : Nat) (lt : Nat → Option LSpec) (c : Code) (e : TypeId) (t : Ty) (args rets : List Kd) (l : List t.den) (x : denK args) : Option (denK rets) :=
  bif Nat.ble (encA args x).length.succ fn.ntmps then execK P E fn.ntmps keep lt c (start keep 0 (.own 0 t.size :: encA args x)) [some ⟨encAll t l, e, true, false, some ⟨t, l⟩⟩] (endK P fn.results.toList rets) else none
/-- The one block that is taken. -/
def oneMp (b n : Option Nat) : Mp := ⟨fun r => if r = 0 then b else none, fun r => if r = 0 then n else none⟩
theorem fun_take {E : Env} (hP : ProgOK P) (hE : EnvOK P E) {g : Nat} {fn : Func} (hg : P.funcs[g]? = some fn) {c : Code} (hc : fn.body = some c) {keep : Nat} {lt : Nat → Option LSpec} {e : TypeId} {t : Ty} {args rets : List Kd} {f : List t.den → denK args → Option (denK rets)}
    (hd : dataK args = true) (hl : ∀ a ∈ loopsOf c, ∀ s, lt (firstRegion a) = some s → SpecOK P fn.ntmps a s) (hb : ∀ l x, bodyT P E fn keep lt c e t args rets l x = f l x) : FnTake P g e t args rets f := by
  intro l x y hy n0 G μ H w us r k hW hk hke hkg hkf hkt hv
  rw [← hb] at hy
  unfold bodyT at hy
  obtain ⟨hlen, hy⟩ := condSome hy
  obtain ⟨⟨ex, F', H'⟩, h1, h2⟩ := execK_sound hE.callee hP.mixed c _ _ _ _ hl hy
  obtain ⟨vs, q, hex, hvs, hq, hdq⟩ : ∃ vs q, (ex = .normal ∨ ex = .ret) ∧ xResults P F' H' fn.results.toList = some vs ∧ inl false H' depth (oneOrTuple vs) = some q ∧ decR rets q = some y := by
    unfold endK at h1
    split at h1
    · cases h1
    · rename_i hne
      split at h1
      · rename_i vs hvs
        split at h1
        · rename_i q hq
          refine ⟨vs, q, ?_, hvs, hq, h1⟩
          cases ex with
          | normal => exact .inl rfl
          | ret => exact .inr rfl
          | exit i => exact absurd rfl (hne i)
        · cases h1
      · cases h1
  -- the call's own view: one block
  obtain ⟨ht1, ht2⟩ := hW.tags r k _ (hget_some hk) hkt
  have hkk : k = ⟨encAll t l, e, true, false, some ⟨t, l⟩⟩ := by
    obtain ⟨k1, k2, k3, k4, k5⟩ := k
    dsimp only at ht1 hke hkg hkf hkt
    rw [ht1, hke, hkg, hkf, hkt]
  have hmine : ∀ b, μ.loc r = some b → n0 b ∧ ¬ G b := fun b hb => by
    obtain ⟨_, _, _, _, _, h6⟩ := hW.blk r k b (hget_some hk) hb
    exact h6 hkf
  have hm1 : (oneMp (μ.loc r) (μ.len r)).loc 0 = μ.loc r := rfl
  have hm2 : (oneMp (μ.loc r) (μ.len r)).len 0 = μ.len r := rfl
  have hW1 : WInv (fun b => w.heap.size ≤ b ∨ μ.loc r = some b) G (oneMp (μ.loc r) (μ.len r)) [some ⟨encAll t l, e, true, false, some ⟨t, l⟩⟩] w := by
    have at0 : ∀ (s : Nat) (k1 : Blk), ([some ⟨encAll t l, e, true, false, some ⟨t, l⟩⟩] : Heap)[s]? = some (some k1) → s = 0 ∧ k1 = ⟨encAll t l, e, true, false, some ⟨t, l⟩⟩ := by
      intro s k1 hs
      cases s with
      | zero => simp only [List.getElem?_cons_zero, Option.some.injEq] at hs; exact ⟨rfl, hs.symm⟩
      | succ s => simp at hs
    refine ⟨?_, ?_, ?_, hW.lt, ?_, fun b hb => .inl hb⟩
    · intro s k1 b hs hb
      obtain ⟨rfl, rfl⟩ := at0 s k1 hs
      rw [hm1] at hb
      obtain ⟨cc, a1, a2, a3, _, a5⟩ := hW.blk r k b (hget_some hk) hb
      rw [hkk] at a1 a2 a3
      refine ⟨cc, a1, ?_, a3, (fun h => (by cases h)), (fun _ => ⟨.inr hb, (hmine b hb).2⟩)⟩
      exact noRefs_cells (encAll_noRefs _ _) a2
    · intro s k1 gg hs hg
      obtain ⟨rfl, rfl⟩ := at0 s k1 hs
      cases hg
      exact ⟨rfl, by rw [hm2]; exact ht2⟩
    · intro s1 s2 k1 k2 b e1 e2 _ _ _ _
      rw [(at0 s1 k1 e1).1, (at0 s2 k2 e2).1]
    · intro s hs
      have : s ≠ 0 := by rintro rfl; simp at hs
      exact ⟨by simp [oneMp, this], by simp [oneMp, this]⟩
  have hv1 : VRs w G (oneMp (μ.loc r) (μ.len r)) (.own 0 t.size :: encA args x) us := by
    rw [VRs] at hv; rw [VRs]
    obtain ⟨u, us', rfl, q1, q2⟩ := hv
    refine ⟨u, us', rfl, ?_, VRs.of_nomap (noRefs_vrs _ _ (encA_noRefs args x hd) q2)⟩
    rw [VR] at q1; rw [VR]
    rw [hm1, hm2]
    exact q1
  have e0 : Ext (fun b => w.heap.size ≤ b ∨ μ.loc r = some b) w G nomap w G (oneMp (μ.loc r) (μ.len r)) :=
    ⟨nomap_mono, rfl, rfl, rfl, Nat.le_refl _, Nat.le_refl _, fun _ _ _ => rfl, fun _ h => .inl h⟩
  refine ⟨enters hg (hP.names g fn hg) (by rw [hc]; rfl) _ _, calls_of_wp hg hc ?_⟩
  have hI : I (fun b => w.heap.size ≤ b ∨ μ.loc r = some b) w G nomap fn.ntmps (start keep 0 (.own 0 t.size :: encA args x)) [some ⟨encAll t l, e, true, false, some ⟨t, l⟩⟩] ⟨us.toArray ++ Array.replicate (fn.ntmps - us.toArray.size) undef, []⟩ w :=
    ⟨G, _, e0, hW1, start_finv (by simpa using hv1) (by have := Nat.le_of_ble_eq_true hlen; simpa using this)⟩
  refine wp_mono (h2 _ w G nomap _ w (fun r => ⟨rfl, rfl⟩) hI) ?_
  rintro e1 a' w' ⟨rfl, G1, μ1, ee, hW', hF'⟩
  obtain ⟨ws, h3, h4⟩ := xResult_sound (P := P) hW' hF' hvs
  have hres : (results fn a'.tmps).run P w' = .ok (if hh : ws.toArray.size = 1 then ws.toArray[0] else .tuple ws.toArray) w' := by
    rw [results_eq, Array.mapM_eq_mapM_toList]
    simp only [Sem.run_bind, Sem.run_map, h3, Result.andThen_ok, Sem.run_pure]
  have hG2 : ∀ b, (G1 b ∨ ∃ s k1, H'[s]? = some (some k1) ∧ μ1.loc s = some b) → G b ∨ w.heap.size ≤ b ∨ μ.loc r = some b := by
    rintro b (hb | ⟨s, k1, hs, hb⟩)
    · exact ee.new b hb
    · obtain ⟨_, _, _, _, g5, g6⟩ := hW'.blk s k1 b hs hb
      cases hf : k1.frozen with
      | true => exact ee.new b (g5 hf)
      | false => exact .inr (g6 hf).1
  have e2 : Ext n0 w G μ w' (fun b => G1 b ∨ ∃ s k1, H'[s]? = some (some k1) ∧ μ1.loc s = some b) μ := {
    good := fun b hb => ⟨.inl (ee.good b hb).1, (ee.good b hb).2⟩
    map := fun _ _ h => h
    len := fun _ _ h => h
    room := ee.room
    os := ee.os
    tape := ee.tape
    output := ee.output
    size := ee.size
    drawn := ee.drawn
    old := fun b hb hn => ee.old b hb (by
      rintro (h | h)
      · exact Nat.not_le.2 hb h
      · exact hn (hmine b h).1)
    new := fun b hb => by
      rcases hG2 b hb with h | h | h
      · exact .inl h
      · exact .inr (hW.base b h)
      · exact .inr (hmine b h).1 }
  have hW2 : WInv n0 (fun b => G1 b ∨ ∃ s k1, H'[s]? = some (some k1) ∧ μ1.loc s = some b) μ (H.set r none) w' := by
    refine (kill_winv hW r).keep e2 ?_ ?_
    · intro s k1 b hs hb
      obtain ⟨hs, hsr⟩ := set_none hs
      have hlt := hW.loc_lt hs hb
      have hne : μ.loc r ≠ some b := by
        intro hrb
        cases hf : k1.frozen with
        | false => exact hsr (hW.inj s r k1 k b hs (hget_some hk) hf hkf hb hrb)
        | true =>
          obtain ⟨_, _, _, _, h5, _⟩ := hW.blk s k1 b hs hb
          exact (hmine b hrb).2 (h5 hf)
      refine ⟨ee.old b hlt (by rintro (h | h); exact Nat.not_le.2 hlt h; exact hne h), fun hb2 => ?_⟩
      rcases hG2 b hb2 with h | h | h
      · exact h
      · omega
      · exact absurd h hne
    · rintro b (hb | ⟨s, k1, hs, hb⟩)
      · exact hW'.lt b hb
      · exact hW'.loc_lt hs hb
  have hval : VR w' (fun b => G1 b ∨ ∃ s k1, H'[s]? = some (some k1) ∧ μ1.loc s = some b) nomap (encR rets y) (if hh : ws.toArray.size = 1 then ws.toArray[0] else .tuple ws.toArray) :=
    decR_vr hdq (inl_sound hW' (fun b hb => .inl hb) (fun s k1 b hs _ hb => .inr ⟨s, k1, hs, hb⟩) depth _ q _ hq (oneOrTuple_vr h4))
  have hpost : a'.defers = [] ∧ ∃ v, (results fn a'.tmps).run P w' = .ok v w' ∧ (∃ v' G'' μ'', Ending.returned v = .returned v' ∧ Ext n0 w G μ w' G'' μ'' ∧ WInv n0 G'' μ'' (H.set r none) w' ∧ VR w' G'' μ'' (encR rets y) v') :=
    ⟨hF'.defers, _, hres, _, _, μ, rfl, e2, hW2, hval.of_nomap⟩
  rcases hex with rfl | rfl
  · exact hpost
  · exact hpost
/-- The entry of such a function. -/
def takeH (e : TypeId) (t : Ty) (args rets : List Kd) (f : List t.den → denK args → Option (denK rets)) (qs : List PV) (H : Heap) : Option ResH := match qs with
  | .own r sz :: ps => match hget H r with
    | some k => match k.tag with
      | some g => match castL g.t t g.l with
        | some l => match decA args ps with
          | some x => bif Nat.beq k.ty e && k.grown && !k.frozen && Nat.beq sz t.size && noRef.noRefs ps then some ⟨denK rets, f l x, fun y => (encR rets y, H.set r none)⟩ else none
          | none => none
        | none => none
      | none => none
    | none => none
  | _ => none
theorem takeH_ok {g : FuncId} {e : TypeId} {t : Ty} {args rets : List Kd} {f : List t.den → denK args → Option (denK rets)} (hf : FnTake P g e t args rets f) : ShrOK P (g, takeH e t args rets f) := by
  intro qs H rh h y hy n0 G μ w vs hW hv
  change takeH e t args rets f qs H = some rh at h
  show CallOK P n0 w G μ g vs.toArray (rh.out y).1 (rh.out y).2
  unfold takeH at h
  split at h
  · rename_i r sz ps
    split at h
    · rename_i k hk
      split at h
      · rename_i gg hg
        split at h
        · rename_i l hl
          split at h
          · rename_i x hx
            obtain ⟨hb, h⟩ := condSome1 h
            simp only [Option.some.injEq] at h
            subst h
            simp only [Bool.and_eq_true, Bool.not_eq_true'] at hb
            obtain ⟨⟨⟨⟨b1, b2⟩, b3⟩, b4⟩, b5⟩ := hb
            have b1 := Nat.eq_of_beq_eq_true b1
            have b4 := Nat.eq_of_beq_eq_true b4
            subst b4
            obtain ⟨gt, gl⟩ := gg
            obtain ⟨rfl, rfl⟩ := castL_some hl
            rw [VRs] at hv
            obtain ⟨u, us, rfl, q1, q2⟩ := hv
            have q3 : VRs w G μ (encA args x) us := (decA_vrs args hx (noRefs_vrs _ _ b5 q2)).of_nomap
            exact hf gl x y hy hW hk b1 b2 b3 hg (by rw [VRs]; exact ⟨u, us, rfl, q1, q3⟩)
          · cases h
        · cases h
      · cases h
    · cases h
  · cases h
end
end Go.PM
