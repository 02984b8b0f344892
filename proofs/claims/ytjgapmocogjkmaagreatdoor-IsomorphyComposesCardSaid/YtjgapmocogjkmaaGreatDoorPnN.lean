/- The plain machine, open runs with unrolled loops: for code whose loops make few rounds; a number in a slot may be asked for, one by one, behind a region. No program. -/
import Derived.Test.YtjgapmocogjkmaaGreatDoorPnB
set_option linter.unusedSimpArgs false
set_option linter.unusedVariables false
namespace Go.PM
open Go Go.RowKit

section
variable {α : Type} (P : Program) (E : Env) (nt keep : Nat) (hs : Nat → Option (Nat × Nat))
/-- A slot's number becomes known. -/
def pickU (t n : Nat) (F : Frm) (k : Frm → Option α) : Option α := match fget F t with
  | .lit (.int d v) => splitI n 0 v fun j => k ((t, .lit (.int d j)) :: F)
  | _ => none
def execU : Nat → Code → Frm → Heap → (Ex → Frm → Heap → Option α) → Option α
  | 0, _, _, _, _ => none
  | _ + 1, .skip, F, H, k => k .normal F H
  | _ + 1, .label _, F, H, k => k .normal F H
  | _ + 1, .region id ops draw, F, H, k => regionK P E nt ops draw F H fun F H => keepF keep F fun F => match hs id with
    | some (t, n) => pickU t n F fun F => k .normal F H
    | none => k .normal F H
  | m + 1, .seq a b, F, H, k => execU m a F H fun ex F H => match ex with
    | .normal => execU m b F H k
    | .exit i => k (.exit i) F H
    | .ret => k .ret F H
  | m + 1, .cond c a b, F, H, k => match ev F c with
    | .lit (.bool t) => askT F c t fun F t => bif t then execU m a F H k else execU m b F H k
    | _ => none
  | m + 1, .block id a, F, H, k => execU m a F H fun ex F H => match ex with
    | .exit i => bif Nat.beq i id then k .normal F H else k (.exit i) F H
    | .normal => k .normal F H
    | .ret => k .ret F H
  | m + 1, .loop a, F, H, k => execU m a F H fun ex F H => match ex with
    | .normal => execU m (.loop a) F H k
    | .exit i => k (.exit i) F H
    | .ret => k .ret F H
  | _ + 1, .exit id, F, H, k => k (.exit id) F H
  | m + 1, .scope a, F, H, k => execU m a F H k
  | _ + 1, .ret, F, H, k => k .ret F H
  | _ + 1, _, _, _, _ => none
end

section
variable {α : Type} {P : Program} {E : Env} {nt keep : Nat} {hs : Nat → Option (Nat × Nat)}
/-- Rounds of a loop, one behind the other. -/
def Chain (P : Program) (nt : Nat) (a : Code) (r : Ex × Frm × Heap) : Nat → Frm → Heap → Prop
  | 0, _, _ => False
  | k + 1, F, H => (r.1 ≠ .normal ∧ Runs P nt a F H r) ∨ ∃ F1 H1, Runs P nt a F H (.normal, F1, H1) ∧ Chain P nt a r k F1 H1
theorem chain_runs {a : Code} {r : Ex × Frm × Heap} {n : Nat} {F : Frm} {H : Heap} (h : Chain P nt a r n F H) : Runs P nt (.loop a) F H r := by
  intro n0 wi Gi μi act w hfl hI
  refine wp_loop_ghost (fun k a1 w1 => ∃ F H, Chain P nt a r k F H ∧ I n0 wi Gi μi nt F H a1 w1) n ⟨F, H, h, hI⟩ ?_
  rintro k act w ⟨F, H, h, hI⟩
  cases k with
  | zero => exact h.elim
  | succ k =>
    rcases h with ⟨hne, h⟩ | ⟨F1, H1, h, hc⟩
    · refine wp_mono (h n0 wi Gi μi act w hfl hI) ?_
      obtain ⟨ex, F', H'⟩ := r
      rintro e a' w' ⟨rfl, hI'⟩
      cases ex with
      | normal => exact absurd rfl hne
      | exit i => exact ⟨rfl, hI'⟩
      | ret => exact ⟨rfl, hI'⟩
    · refine wp_mono (h n0 wi Gi μi act w hfl hI) ?_
      rintro e a' w' ⟨rfl, hI'⟩
      exact ⟨k, Nat.lt_succ_self k, F1, H1, hc, hI'⟩
/-- What a run of a loop ends with, and how it came there. -/
theorem loop_chain {a : Code} {r : Ex × Frm × Heap} {F F1 : Frm} {H H1 : Heap} (h : Runs P nt a F H (.normal, F1, H1)) {n : Nat} (hc : Chain P nt a r n F1 H1) : Chain P nt a r (n + 1) F H := .inr ⟨F1, H1, h, hc⟩

theorem pickU_some {z : α} {t n : Nat} {F : Frm} {k : Frm → Option α} (h : pickU t n F k = some z) : ∃ F', k F' = some z ∧ ∀ s, fget F' s = fget F s := by
  unfold pickU at h
  split at h
  · rename_i d v hv
    have h := splitI_some h
    refine ⟨_, h, fun s => ?_⟩
    rw [fget_cons]
    by_cases hs : s = t
    · subst hs; rw [if_pos rfl, hv]
    · rw [if_neg hs]
  · cases h
theorem execU_sound (hcl : CalleeOK P (calleeE P E)) (hP : P.follows .mixedOrders = true) : ∀ (n : Nat) (c : Code) (F : Frm) (H : Heap) (k : Ex → Frm → Heap → Option α) (z : α),
    execU P E nt keep hs n c F H k = some z → ∃ r : Ex × Frm × Heap, k r.1 r.2.1 r.2.2 = some z ∧ Runs P nt c F H r ∧ ∀ a, c = .loop a → ∃ m, Chain P nt a r m F H := by
  intro n
  induction n with
  | zero => intro c F H k z h; cases h
  | succ n ih =>
    intro c F H k z h
    cases c with
    | skip => exact ⟨(.normal, F, H), h, fun _ _ _ _ _ _ _ hI => wp_skip ⟨rfl, hI⟩, fun a e => by cases e⟩
    | label l => exact ⟨(.normal, F, H), h, fun _ _ _ _ _ _ _ hI => wp_label ⟨rfl, hI⟩, fun a e => by cases e⟩
    | region id ops draw =>
      simp only [execU] at h
      obtain ⟨F1, H1, h1, h2⟩ := regionK_sound (id := id) hcl hP h
      obtain ⟨F2, h3, h4⟩ := keepF_frm keep F1 fun F => match hs id with
        | some (t, n) => pickU t n F fun F => k .normal F H1
        | none => k .normal F H1
      rw [h3] at h1
      split at h1
      · obtain ⟨F3, h5, h6⟩ := pickU_some h1
        exact ⟨(.normal, F3, H1), h5, fun _ _ _ _ _ _ _ hI => h2 hI fun a' w' hI' => ⟨rfl, (hI'.weak h4).congr h6⟩, fun a e => by cases e⟩
      · exact ⟨(.normal, F2, H1), h1, fun _ _ _ _ _ _ _ hI => h2 hI fun a' w' hI' => ⟨rfl, hI'.weak h4⟩, fun a e => by cases e⟩
    | seq x y =>
      simp only [execU] at h
      obtain ⟨⟨ex, F1, H1⟩, h1, h2, -⟩ := ih x F H _ z h
      cases ex with
      | normal =>
        obtain ⟨r, h3, h4, -⟩ := ih y F1 H1 k z h1
        refine ⟨r, h3, fun n0 wi Gi μi a w hfl hI => wp_seq (wp_mono (h2 n0 wi Gi μi a w hfl hI) ?_), fun a e => by cases e⟩
        rintro e a' w' ⟨rfl, hI'⟩
        exact h4 n0 wi Gi μi a' w' hfl hI'
      | exit i =>
        refine ⟨(.exit i, F1, H1), h1, fun n0 wi Gi μi a w hfl hI => wp_seq (wp_mono (h2 n0 wi Gi μi a w hfl hI) ?_), fun a e => by cases e⟩
        rintro e a' w' ⟨rfl, hI'⟩
        exact ⟨rfl, hI'⟩
      | ret =>
        refine ⟨(.ret, F1, H1), h1, fun n0 wi Gi μi a w hfl hI => wp_seq (wp_mono (h2 n0 wi Gi μi a w hfl hI) ?_), fun a e => by cases e⟩
        rintro e a' w' ⟨rfl, hI'⟩
        exact ⟨rfl, hI'⟩
    | cond c x y =>
      simp only [execU] at h
      split at h
      · rename_i t ht
        replace h := askT_some h ht
        have hc : ∀ {n0 wi Gi μi a w}, I n0 wi Gi μi nt F H a w → a.eval c = .bool t := fun hI => by
          obtain ⟨G, μ, e, hW, hF⟩ := hI
          have hc := ev_vr hF c
          rwa [ht, VR] at hc
        cases t with
        | true =>
          obtain ⟨r, h3, h4, -⟩ := ih x F H k z h
          exact ⟨r, h3, fun n0 wi Gi μi a w hfl hI => wp_cond (hc hI) (h4 n0 wi Gi μi a w hfl hI), fun a e => by cases e⟩
        | false =>
          obtain ⟨r, h3, h4, -⟩ := ih y F H k z h
          exact ⟨r, h3, fun n0 wi Gi μi a w hfl hI => wp_cond (hc hI) (h4 n0 wi Gi μi a w hfl hI), fun a e => by cases e⟩
      · cases h
    | block id x =>
      simp only [execU] at h
      obtain ⟨⟨ex, F1, H1⟩, h1, h2, -⟩ := ih x F H _ z h
      cases ex with
      | normal =>
        refine ⟨(.normal, F1, H1), h1, fun n0 wi Gi μi a w hfl hI => wp_block (wp_mono (h2 n0 wi Gi μi a w hfl hI) ?_), fun a e => by cases e⟩
        rintro e a' w' ⟨rfl, hI'⟩
        exact ⟨rfl, hI'⟩
      | ret =>
        refine ⟨(.ret, F1, H1), h1, fun n0 wi Gi μi a w hfl hI => wp_block (wp_mono (h2 n0 wi Gi μi a w hfl hI) ?_), fun a e => by cases e⟩
        rintro e a' w' ⟨rfl, hI'⟩
        exact ⟨rfl, hI'⟩
      | exit i =>
        simp only at h1
        cases hi : Nat.beq i id with
        | true =>
          rw [hi] at h1
          have := Nat.eq_of_beq_eq_true hi
          subst this
          refine ⟨(.normal, F1, H1), h1, fun n0 wi Gi μi a w hfl hI => wp_block (wp_mono (h2 n0 wi Gi μi a w hfl hI) ?_), fun a e => by cases e⟩
          rintro e a' w' ⟨rfl, hI'⟩
          simp only [Ex.to, Exit.inBlock, if_true]
          exact ⟨trivial, hI'⟩
        | false =>
          rw [hi] at h1
          have hne : ¬ i = id := fun e => by rw [e] at hi; simp at hi
          refine ⟨(.exit i, F1, H1), h1, fun n0 wi Gi μi a w hfl hI => wp_block (wp_mono (h2 n0 wi Gi μi a w hfl hI) ?_), fun a e => by cases e⟩
          rintro e a' w' ⟨rfl, hI'⟩
          simp only [Ex.to, Exit.inBlock, hne, if_false]
          exact ⟨trivial, hI'⟩
    | loop x =>
      simp only [execU] at h
      obtain ⟨⟨ex, F1, H1⟩, h1, h2, -⟩ := ih x F H _ z h
      obtain ⟨r, h3, m, hm⟩ : ∃ r : Ex × Frm × Heap, k r.1 r.2.1 r.2.2 = some z ∧ ∃ m, Chain P nt x r m F H := by
        cases ex with
        | normal =>
          obtain ⟨r, h3, h4, h5⟩ := ih (.loop x) F1 H1 k z h1
          obtain ⟨m, hm⟩ := h5 x rfl
          exact ⟨r, h3, m + 1, .inr ⟨F1, H1, h2, hm⟩⟩
        | exit i => exact ⟨(.exit i, F1, H1), h1, 1, .inl ⟨fun e => (by cases e), h2⟩⟩
        | ret => exact ⟨(.ret, F1, H1), h1, 1, .inl ⟨fun e => (by cases e), h2⟩⟩
      exact ⟨r, h3, chain_runs hm, fun a e => by cases e; exact ⟨m, hm⟩⟩
    | exit id => exact ⟨(.exit id, F, H), h, fun _ _ _ _ _ _ _ hI => wp_exit ⟨rfl, hI⟩, fun a e => by cases e⟩
    | scope x =>
      simp only [execU] at h
      obtain ⟨⟨ex, F1, H1⟩, h1, h2, -⟩ := ih x F H k z h
      refine ⟨(ex, F1, H1), h1, fun n0 wi Gi μi a w hfl hI => wp_scope_straight (wp_mono (h2 n0 wi Gi μi a w hfl hI) ?_), fun a e => by cases e⟩
      rintro e a' w' ⟨rfl, hI'⟩
      cases ex <;> exact ⟨rfl, hI'⟩
    | ret => exact ⟨(.ret, F, H), h, fun _ _ _ _ _ _ _ hI => wp_ret ⟨rfl, hI⟩, fun a e => by cases e⟩
    | rangeFunc => simp only [execU] at h; cases h
    | goto l => simp only [execU] at h; cases h
    | refuse s => simp only [execU] at h; cases h

def bodyU (P : Program) (E : Env) (fn : Func) (keep : Nat) (hs : Nat → Option (Nat × Nat)) (n : Nat) (c : Code) (args rets : List Kd) (x : denK args) : Option (denK rets) :=
  bif Nat.ble (encA args x).length fn.ntmps then execU P E fn.ntmps keep hs n c (start keep 0 (encA args x)) [] (endK P fn.results.toList rets) else none
theorem fun_okU {E : Env} (hP : ProgOK P) (hE : EnvOK P E) {g : Nat} {fn : Func} (hg : P.funcs[g]? = some fn) {c : Code} (hc : fn.body = some c) {keep n : Nat} {hs : Nat → Option (Nat × Nat)} {args rets : List Kd} {f : denK args → Option (denK rets)}
    (hb : ∀ x, bodyU P E fn keep hs n c args rets x = f x) : FnOK P g args rets f := by
  intro x y hy
  rw [← hb] at hy
  unfold bodyU at hy
  obtain ⟨hlen, hy⟩ := condSome hy
  obtain ⟨⟨ex, F', H'⟩, h1, h2, -⟩ := execU_sound hE.callee hP.mixed n c _ _ _ _ hy
  obtain ⟨vs, q, hex, hvs, hq, hd⟩ : ∃ vs q, (ex = .normal ∨ ex = .ret) ∧ xResults P F' H' fn.results.toList = some vs ∧ inl false H' depth (oneOrTuple vs) = some q ∧ decR rets q = some y := by
    unfold endK at h1
    split at h1
    · cases h1
    · rename_i hne
      split at h1
      · rename_i vs hvs
        split at h1
        · rename_i q hq
          refine ⟨vs, q, ?_, hvs, hq, h1⟩
          cases ex with
          | normal => exact .inl rfl
          | ret => exact .inr rfl
          | exit i => exact absurd rfl (hne i)
        · cases h1
      · cases h1
  have hcall : ∀ {n0 G μ w us}, WInv n0 G μ [] w → VRs w G μ (encA args x) us → CallOK P n0 w G μ g us.toArray (oneOrTuple vs) H' := by
    intro n0 G μ w us hW hv
    refine ⟨enters hg (hP.names g fn hg) (by rw [hc]; rfl) _ _, calls_of_wp hg hc ?_⟩
    have hI : I n0 w G μ fn.ntmps (start keep 0 (encA args x)) [] ⟨us.toArray ++ Array.replicate (fn.ntmps - us.toArray.size) undef, []⟩ w := ⟨G, μ, Ext.refl _ _ _ _, hW, start_finv (by simpa using hv) (Nat.le_of_ble_eq_true hlen)⟩
    refine wp_mono (h2 n0 w G μ _ w (fun r => hW.top r (Nat.zero_le _)) hI) ?_
    rintro e a' w' ⟨rfl, G', μ', e', hW', hF'⟩
    obtain ⟨ws, h3, h4⟩ := xResult_sound (P := P) hW' hF' hvs
    have hres : (results fn a'.tmps).run P w' = .ok (if hh : ws.toArray.size = 1 then ws.toArray[0] else .tuple ws.toArray) w' := by
      rw [results_eq, Array.mapM_eq_mapM_toList]
      simp only [Sem.run_bind, Sem.run_map, h3, Result.andThen_ok, Sem.run_pure]
    have hpost : a'.defers = [] ∧ ∃ v, (results fn a'.tmps).run P w' = .ok v w' ∧ (∃ v' G'' μ'', Ending.returned v = .returned v' ∧ Ext n0 w G μ w' G'' μ'' ∧ WInv n0 G'' μ'' H' w' ∧ VR w' G'' μ'' (oneOrTuple vs) v') :=
      ⟨hF'.defers, _, hres, _, G', μ', rfl, e', hW', oneOrTuple_vr h4⟩
    rcases hex with rfl | rfl
    · exact hpost
    · exact hpost
  have hp := pure_of_shared hcall hq
  intro w G us hlt hv
  obtain ⟨h3, h4⟩ := hp w G us hlt hv
  refine ⟨h3, h4.mono ?_⟩
  rintro e w' ⟨v', G', rfl, e1, e2, e3⟩
  exact ⟨v', G', rfl, e1, e2, decR_vr hd e3⟩
end
end Go.PM
