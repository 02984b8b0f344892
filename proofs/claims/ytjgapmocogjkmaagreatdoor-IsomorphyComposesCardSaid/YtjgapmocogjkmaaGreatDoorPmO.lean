/- The plain machine, 15: calls, and the whole run. No program. -/
import Derived.Test.YtjgapmocogjkmaaGreatDoorPmN
set_option linter.unusedSimpArgs false
set_option linter.unusedVariables false
namespace Go.PM
open Go Go.RowKit

def reach (H : Heap) : Nat → PV → List Nat
  | n + 1, .hs r _ _ _ _ => r :: (match hget H r with | some k => k.cells.flatMap (fun p => reach H n p) | none => [])
  | n + 1, .hptr r _ => r :: (match hget H r with | some k => k.cells.flatMap (fun p => reach H n p) | none => [])
  | _, .own r _ => [r]
  | _, .op r _ _ _ => [r]
  | _, .win r _ _ _ => [r]
  | n + 1, .agg cs => cs.flatMap (fun p => reach H n p)
  | n + 1, .tuple cs => cs.flatMap (fun p => reach H n p)
  | n + 1, .clo _ f c => f.flatMap (fun p => reach H n p) ++ c.flatMap (fun p => reach H n p)
  | _, _ => []
/-- How deep values refer to values. -/
def depth : Nat := 16
/-- Whether results of this type are data alone. -/
def flatT (P : Program) (t : TypeId) : Bool := match P.info? t with
  | some i => !i.hasPointers || (match P.underlying t with | some .string => true | _ => false)
  | none => false
def flatFn (P : Program) (g : FuncId) : Bool := match P.funcs[g]? with
  | some fn => fn.resultTypes.toList.all (flatT P)
  | none => false

/-- A call: by what is known of the function on data; else on the caller's heap (those functions that 'sh' names). -/
def callee (P : Program) (sh : FuncId → Bool) (pure : FuncId → List PV → Option PV) (shared : FuncId → List PV → Heap → Option (PV × Heap)) : Callee := fun g args H =>
  bif sh g then match shared g args H with
    | some (r, H') => some (r, H', 2)
    | none => none
  else bif noRef.noRefs args then match pure g args with
    | some r => some (r, H, 0)
    | none => none
  else bif flatFn P g then match mapO (fun p => inl false H depth p) args with
    | some qs => match pure g qs with
      | some r => bif flat r then some (r, H, 1) else none
      | none => none
    | none => none
  else match freezeList H (args.flatMap (fun p => reach H depth p)) with
    | H1 => match mapO (fun p => inl true H1 depth p) args with
      | some qs => match pure g qs with
        | some r => some (r, H1, 2)
        | none => none
      | none => none

section
variable {P : Program} {n0 : Nat → Prop} {w : World} {G : Nat → Prop} {μ : Mp} {H : Heap}

theorem CallOK.trans {g : FuncId} {vs : Array Value} {r : PV} {H' : Heap} {G1 : Nat → Prop} (e : Ext n0 w G μ w G1 μ) (h : CallOK P n0 w G1 μ g vs r H') : CallOK P n0 w G μ g vs r H' := by
  refine ⟨h.1, h.2.mono ?_⟩
  rintro x w' ⟨v', G', μ', rfl, e1, e2, e3⟩
  exact ⟨v', G', μ', rfl, e.trans e1, e2, e3⟩

theorem callee_ok {sh : FuncId → Bool} {pure : FuncId → List PV → Option PV} {shared : FuncId → List PV → Heap → Option (PV × Heap)} (hp : ∀ g args r, pure g args = some r → PureCall P g args r)
    (hs : ∀ g args H r H', shared g args H = some (r, H') → ∀ {n0 G μ w vs}, WInv n0 G μ H w → VRs w G μ args vs → CallOK P n0 w G μ g vs.toArray r H') : CalleeOK P (callee P sh pure shared) where
  call := by
    intro g args H r H' c h n0 G μ w vs hW hv
    unfold callee at h
    cases hsh : sh g with
    | true =>
      rw [hsh] at h
      simp only [cond_true] at h
      split at h
      · rename_i r1 H1 hr
        simp only [Option.some.injEq, Prod.mk.injEq] at h
        obtain ⟨rfl, rfl, rfl⟩ := h
        exact hs g args H r1 H1 hr hW hv
      · cases h
    | false =>
      rw [hsh] at h
      simp only [cond_false] at h
      cases hn : noRef.noRefs args with
      | true =>
        rw [hn] at h
        simp only [cond_true] at h
        split at h
        · rename_i r1 hr
          simp only [Option.some.injEq, Prod.mk.injEq] at h
          obtain ⟨rfl, rfl, rfl⟩ := h
          obtain ⟨h1, h2⟩ := hp g args r1 hr w G vs.toArray hW.lt (by simpa using noRefs_vrs _ _ hn hv)
          refine ⟨h1, h2.mono ?_⟩
          rintro e w' ⟨v', G', rfl, e1, e2, e3⟩
          obtain ⟨e4, e5⟩ := pure_keep (G' := G') hW (G0 := G) (fun b h => h) (fun b h => .inl h) e1 e2 (fun b hb => by
            rcases e1.new b hb with h | h
            · exact .inl h
            · exact .inr ⟨h, e2 b hb⟩) (fun b hb => (e1.good b hb).1)
          exact ⟨v', G', μ, rfl, e4, e5, e3.of_nomap⟩
        · cases h
      | false =>
        rw [hn] at h
        simp only [cond_false] at h
        cases hf : flatFn P g with
        | true =>
          rw [hf] at h
          simp only [cond_true] at h
          split at h
          · rename_i qs hq
            split at h
            · rename_i r1 hr
              cases hfl : flat r1 with
              | true =>
                rw [hfl] at h
                simp only [cond_true, Option.some.injEq, Prod.mk.injEq] at h
                obtain ⟨rfl, rfl, rfl⟩ := h
                exact pure_flat hW (hp g qs r1 hr) hq hfl hv
              | false => rw [hfl] at h; cases h
            · cases h
          · cases h
        | false =>
          rw [hf] at h
          simp only [cond_false] at h
          split at h
          · rename_i qs hq
            split at h
            · rename_i r1 hr
              simp only [Option.some.injEq, Prod.mk.injEq] at h
              obtain ⟨rfl, rfl, rfl⟩ := h
              obtain ⟨G1, e1, hW1⟩ := freezeList_winv (args.flatMap (fun p => reach H depth p)) H G hW
              exact (pure_data hW1 (hp g qs r1 hr) hq (VRs.mono e1.toMono _ _ hv)).trans e1
            · cases h
          · cases h
  free := by
    intro g args H r H' h
    unfold callee at h ⊢
    cases hsh : sh g with
    | true =>
      rw [hsh] at h
      simp only [cond_true] at h
      split at h
      · simp only [Option.some.injEq, Prod.mk.injEq] at h
        exact absurd h.2.2 (by decide)
      · cases h
    | false =>
      rw [hsh] at h
      simp only [cond_false] at h ⊢
      cases hn : noRef.noRefs args with
      | true =>
        rw [hn] at h
        simp only [cond_true] at h ⊢
        split at h
        · rename_i r1 hr
          simp only [Option.some.injEq, Prod.mk.injEq] at h
          obtain ⟨rfl, rfl, _⟩ := h
          exact ⟨rfl, fun H2 => rfl⟩
        · cases h
      | false =>
        rw [hn] at h
        simp only [cond_false] at h
        cases hf : flatFn P g with
        | true =>
          rw [hf] at h
          simp only [cond_true] at h
          split at h
          · split at h
            · rename_i r1 hr
              cases hfl : flat r1 with
              | true =>
                rw [hfl] at h
                simp only [cond_true, Option.some.injEq, Prod.mk.injEq] at h
                exact absurd h.2.2 (by decide)
              | false => rw [hfl] at h; cases h
            · cases h
          · cases h
        | false =>
          rw [hf] at h
          simp only [cond_false] at h
          split at h
          · split at h
            · simp only [Option.some.injEq, Prod.mk.injEq] at h
              exact absurd h.2.2 (by decide)
            · cases h
          · cases h
  reads := by
    intro g args H r H' h
    unfold callee at h
    cases hsh : sh g with
    | true =>
      rw [hsh] at h
      simp only [cond_true] at h
      split at h
      · simp only [Option.some.injEq, Prod.mk.injEq] at h
        exact absurd h.2.2 (by decide)
      · cases h
    | false =>
      rw [hsh] at h
      simp only [cond_false] at h
      cases hn : noRef.noRefs args with
      | true =>
        rw [hn] at h
        simp only [cond_true] at h
        split at h
        · simp only [Option.some.injEq, Prod.mk.injEq] at h
          exact absurd h.2.2 (by decide)
        · cases h
      | false =>
        rw [hn] at h
        simp only [cond_false] at h
        cases hf : flatFn P g with
        | true =>
          rw [hf] at h
          simp only [cond_true] at h
          split at h
          · split at h
            · rename_i r1 hr
              cases hfl : flat r1 with
              | true =>
                rw [hfl] at h
                simp only [cond_true, Option.some.injEq, Prod.mk.injEq] at h
                exact h.2.1.symm
              | false => rw [hfl] at h; cases h
            · cases h
          · cases h
        | false =>
          rw [hf] at h
          simp only [cond_false] at h
          split at h
          · split at h
            · simp only [Option.some.injEq, Prod.mk.injEq] at h
              exact absurd h.2.2 (by decide)
            · cases h
          · cases h

/-- A function that shares the heap, called on none, is a function on data. -/
theorem pure_of_shared {g : FuncId} {args : List PV} {v q : PV} {H' : Heap} {n : Nat} (hs : ∀ {n0 G μ w vs}, WInv n0 G μ [] w → VRs w G μ args vs → CallOK P n0 w G μ g vs.toArray v H') (hq : inl false H' n v = some q) : PureCall P g args q := by
  intro w G vs hlt hv
  have hW : WInv (Fresh w) G nomap [] w := ⟨fun r k b h => by simp at h, fun r k g h => by simp at h, fun r s k l b h => by simp at h, hlt, fun _ _ => ⟨rfl, rfl⟩, fun _ h => h⟩
  obtain ⟨h1, h2⟩ := hs hW hv
  have hvs : vs.toList.toArray = vs := by simp
  rw [hvs] at h1 h2
  refine ⟨h1, h2.mono ?_⟩
  rintro e w' ⟨v', G1, μ1, rfl, e1, e2, e3⟩
  refine ⟨v', fun b => G1 b ∨ ∃ r k, H'[r]? = some (some k) ∧ μ1.loc r = some b, rfl, ?_, ?_, ?_⟩
  · exact {
      good := fun b hb => ⟨.inl (e1.good b hb).1, (e1.good b hb).2⟩
      map := fun _ _ h => h
      len := fun _ _ h => h
      room := e1.room
      os := e1.os
      tape := e1.tape
      output := e1.output
      size := e1.size
      drawn := e1.drawn
      old := e1.old
      new := fun b hb => by
        rcases hb with hb | ⟨r, k, hr, hb⟩
        · exact e1.new b hb
        · obtain ⟨c, _, _, _, g5, g6⟩ := e2.blk r k b hr hb
          cases hf : k.frozen with
          | true => exact e1.new b (g5 hf)
          | false => exact .inr (g6 hf).1 }
  · rintro b (hb | ⟨r, k, hr, hb⟩)
    · exact e2.lt b hb
    · exact e2.loc_lt hr hb
  · exact inl_sound e2 (fun b hb => .inl hb) (fun r k b hr _ hb => .inr ⟨r, k, hr, hb⟩) n v q v' hq e3

theorem enters {g : Nat} {fn : Func} (h : P.funcs[g]? = some fn) (hn : (fn.name == "runtime.NumGoroutine") = false) (hb : fn.body.isNone = false) (xs : Array Value) (w : World) : (callFunc g xs).run P w = .ok (.enter g xs) w := by
  unfold callFunc
  simp only [Sem.run_bind, program, Sem.run, Result.andThen_ok, h, hn, hb, Bool.false_eq_true, if_false]
  rfl
end

/-- The whole run, n calls deep; prim: what is known of functions on data. -/
def runS (P : Program) (cfgs : FuncId → Cfg) (sh : FuncId → Bool) (prim : FuncId → List PV → Option PV) (L : Nat) : Nat → FuncId → List PV → Heap → Option (PV × Heap)
  | 0, _, _, _ => none
  | n + 1, g, args, H => match P.funcs[g]? with
    | some fn => match runBody P (callee P sh (fun g as => match prim g as with
        | some r => some r
        | none => match runS P cfgs sh prim L n g as [] with
          | some (v, H') => inl false H' depth v
          | none => none) (fun g as H => runS P cfgs sh prim L n g as H)) (cfgs g) L fn args H with
      | some (v, _, H') => some (v, H')
      | none => none
    | none => none
/-- The run of a function on data. -/
def runP (P : Program) (cfgs : FuncId → Cfg) (sh : FuncId → Bool) (prim : FuncId → List PV → Option PV) (L n : Nat) (g : FuncId) (args : List PV) : Option PV :=
  match runS P cfgs sh prim L n g args [] with
  | some (v, H') => inl false H' depth v
  | none => none
/-- What the program must be. -/
structure ProgOK (P : Program) : Prop where
  mixed : P.follows .mixedOrders = true
  names : ∀ (g : Nat) (fn : Func), P.funcs[g]? = some fn → (fn.name == "runtime.NumGoroutine") = false

section
variable {P : Program} {cfgs : FuncId → Cfg} {sh : FuncId → Bool} {prim : FuncId → List PV → Option PV} {L : Nat}
theorem runS_sound (hP : ProgOK P) (hprim : ∀ g args r, prim g args = some r → PureCall P g args r) : ∀ (n : Nat) (g : FuncId) (args : List PV) (H : Heap) (r : PV) (H' : Heap), runS P cfgs sh prim L n g args H = some (r, H') →
    ∀ {n0 G μ w vs}, WInv n0 G μ H w → VRs w G μ args vs → CallOK P n0 w G μ g vs.toArray r H' := by
  intro n
  induction n with
  | zero => intro g args H r H' h; cases h
  | succ n ih =>
    intro g args H r H' h n0 G μ w vs hW hv
    simp only [runS] at h
    split at h
    · rename_i fn hg
      split at h
      · rename_i v F H1 hb
        simp only [Option.some.injEq, Prod.mk.injEq] at h
        obtain ⟨rfl, rfl⟩ := h
        refine ⟨enters hg (hP.names g fn hg) ?_ _ _, ?_⟩
        · unfold runBody at hb
          split at hb
          · rename_i c hc; rw [hc]; rfl
          · cases hb
        · refine runBody_sound (callee_ok ?_ ?_) hP.mixed hg hb hW (by simpa using hv)
          · intro g' args' r' h'
            split at h'
            · rename_i r1 hr
              cases h'
              exact hprim g' args' r' hr
            · split at h'
              · rename_i v1 H2 hr
                exact pure_of_shared (fun hW hv => ih g' args' [] v1 H2 hr hW hv) h'
              · cases h'
          · intro g' args' H0 r' H2 h'
            exact ih g' args' H0 r' H2 h'
      · cases h
    · cases h
theorem runP_sound (hP : ProgOK P) (hprim : ∀ g args r, prim g args = some r → PureCall P g args r) {n : Nat} {g : FuncId} {args : List PV} {r : PV} (h : runP P cfgs sh prim L n g args = some r) : PureCall P g args r := by
  unfold runP at h
  split at h
  · rename_i v H' hr
    exact pure_of_shared (fun hW hv => runS_sound hP hprim n g args [] v H' hr hW hv) h
  · cases h
end
end Go.PM
