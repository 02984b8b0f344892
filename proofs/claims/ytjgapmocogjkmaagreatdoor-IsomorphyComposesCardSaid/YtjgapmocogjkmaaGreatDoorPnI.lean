/- The plain machine: iterators (funcs that call yield) by runs. No program. -/
import Derived.Test.YtjgapmocogjkmaaGreatDoorPnQ
set_option linter.unusedSimpArgs false
set_option linter.unusedVariables false
namespace Go.PM
open Go Go.RowKit

/-- What a loop that yields comes to. -/
structure LSpecI (Y : Type) where
  sh : List (Nat × Kd)
  exits : List (Ex × List (Nat × Kd))
  run : Shape.den sh → Option (List Y × exDen exits)
def isYld (o : Oper) : Bool := match o.op with
  | .call c => match c.callee with
    | .value (.tmp _) => true
    | _ => false
  | _ => false
def yldIn : List Oper → Nat → Option Nat
  | [], _ => none
  | o :: r, i => bif isYld o then some i else yldIn r (i + 1)
def outs {Y α : Type} (l : List Y) : Option (List Y × α) → Option (List Y × α)
  | some (m, z) => some (l ++ m, z)
  | none => none
/-- Behind a loop that yields. -/
def bindI {Y τ α : Type} (r : Option (List Y × τ)) (k : τ → Option (List Y × α)) : Option (List Y × α) := match r with
  | some (l, z) => outs l (k z)
  | none => none
def fstI {Y : Type} : Option (List Y × Unit) → Option (List Y)
  | some (l, _) => some l
  | none => none
section
variable {α : Type} (P : Program) (E : Env) (nt keep : Nat) (lt : Nat → Option LSpec) (ks : List Kd) (li : Nat → Option (LSpecI (Value × denK ks)))
/-- The operation that calls yield, and those behind it. -/
def yldK (ops : Array Oper) (o : Oper) (rest : List Oper) (F : Frm) (H : Heap) (k : Frm → Heap → Option (List (Value × denK ks) × α)) (kx : Frm → Heap → Option Unit) : Option (List (Value × denK ks) × α) :=
  guardK F ops.toList o fun F b => bif b then (match o.op with
    | .call c => match c.callee with
      | .value f => match ev F f with
        | .lit yv => bif noRef.noRefs (c.args.toList.map (ev F)) then (match decA ks (c.args.toList.map (ev F)) with
          | some e => match xPut nt F o.dst (.lit (.bool true)), xPut nt F o.dst (.lit (.bool false)) with
            | some F1, some F2 => match runOpsK P E nt ops.toList rest F2 H kx with
              | some _ => outs [(yv, e)] (runOpsK P E nt ops.toList rest F1 H k)
              | none => none
            | _, _ => none
          | none => none) else none
        | _ => none
      | _ => none
    | _ => none) else match xPut nt F o.dst (.lit undef) with
      | some F1 => runOpsK P E nt ops.toList rest F1 H k
      | none => none
def execI : Code → Frm → Heap → (Ex → Frm → Heap → Option (List (Value × denK ks) × α)) → (Ex → Frm → Heap → Option Unit) → Option (List (Value × denK ks) × α)
  | .skip, F, H, k, _ => k .normal F H
  | .label _, F, H, k, _ => k .normal F H
  | .region _ ops draw, F, H, k, kx => match yldIn ops.toList 0 with
    | none => bif noDefer ops then regionK P E nt ops draw F H fun F H => keepF keep F fun F => k .normal F H else none
    | some s => bif splitOk ops s then match ops.toList.drop s with
      | o :: rest => bif rest.all (fun o => !isDefer o.op) then
          (bif draw then regionK P E nt (ops.toList.take s).toArray true F H else runOpsK P E nt ops.toList (ops.toList.take s) F H) fun F H =>
            yldK P E nt ks ops o rest F H (fun F H => keepF keep F fun F => k .normal F H) (fun F H => kx .normal F H)
        else none
      | [] => none
      else none
  | .seq a b, F, H, k, kx => execI a F H (fun ex F H => match ex with
    | .normal => execI b F H k kx
    | .exit i => k (.exit i) F H
    | .ret => k .ret F H) (fun ex F H => match ex with
    | .normal => execR P E nt keep lt (fun _ => none) true [] b F H kx
    | .exit i => kx (.exit i) F H
    | .ret => kx .ret F H)
  | .cond c a b, F, H, k, kx => match ev F c with
    | .lit (.bool t) => askT F c t fun F t => bif t then execI a F H k kx else execI b F H k kx
    | _ => none
  | .block id a, F, H, k, kx => execI a F H (fun ex F H => match ex with
    | .exit i => bif Nat.beq i id then k .normal F H else k (.exit i) F H
    | .normal => k .normal F H
    | .ret => k .ret F H) (fun ex F H => match ex with
    | .exit i => bif Nat.beq i id then kx .normal F H else kx (.exit i) F H
    | .normal => kx .normal F H
    | .ret => kx .ret F H)
  | .loop a, F, H, k, _ => match li (firstRegion a) with
    | some s => match decHeadR [] s.sh F H with
      | some x => bindI (s.run x) fun z => outK s.exits z k
      | none => none
    | none => match lt (firstRegion a) with
      | some s => match decHeadR [] s.sh F H with
        | some x => askO (s.run x) fun z => outK s.exits z k
        | none => none
      | none => none
  | .exit id, F, H, k, _ => k (.exit id) F H
  | .ret, F, H, k, _ => k .ret F H
  | _, _, _, _, _ => none
end
def retX : Ex → Frm → Heap → Option Unit := fun ex _ _ => match ex with
  | .ret => some ()
  | _ => none
def leafI {Y : Type} (sh : List (Nat × Kd)) (exits : List (Ex × List (Nat × Kd))) (ex : Ex) (F : Frm) (H : Heap) : Option (List Y × (Shape.den sh ⊕ exDen exits)) := match leafR [] sh exits ex F H with
  | some z => some ([], z)
  | none => none
/-- One round of a loop that yields. -/
def roundI (P : Program) (E : Env) (nt keep : Nat) (lt : Nat → Option LSpec) (ks : List Kd) (li : Nat → Option (LSpecI (Value × denK ks))) (a : Code) (sh : List (Nat × Kd)) (exits : List (Ex × List (Nat × Kd))) (x : Shape.den sh) : Option (List (Value × denK ks) × (Shape.den sh ⊕ exDen exits)) :=
  execI P E nt keep lt ks li a (encF sh x 0) (encH sh x) (leafI sh exits) retX
def loopI {Y σ τ : Type} (step : σ → Option (List Y × (σ ⊕ τ))) : Nat → σ → Option (List Y × τ)
  | 0, _ => none
  | n + 1, x => match step x with
    | some (l, .inl y) => outs l (loopI step n y)
    | some (l, .inr z) => some (l, z)
    | none => none

theorem outs_some {Y α : Type} {l : List Y} {r : Option (List Y × α)} {m : List Y} {z : α} (h : outs l r = some (m, z)) : ∃ m', r = some (m', z) ∧ m = l ++ m' := by
  cases r with
  | none => cases h
  | some p =>
    obtain ⟨m', z'⟩ := p
    simp only [outs, Option.some.injEq, Prod.mk.injEq] at h
    obtain ⟨h1, h2⟩ := h
    subst h2
    exact ⟨m', rfl, h1.symm⟩

section
variable {P : Program} {E : Env} {nt keep : Nat} {lt : Nat → Option LSpec} {ks : List Kd} {li : Nat → Option (LSpecI (Value × denK ks))}
variable {Φ : (Nat → Prop) → (Nat → Prop) → World → Prop} {G0 G G' : Nat → Prop} {μ μ' : Mp} {H H' : Heap} {A A' W : World} {F F' : Frm} {n : Nat} {a : Act}

/-- The names are forgotten. -/
theorem Sg.open0 (h : Sg Φ G0 G μ H A) : ∃ n0, WInv n0 G μ H A ∧ (∀ b, G0 b → G b) ∧ ∀ A' G' μ' H', Ext n0 A G nomap A' G' μ' → WInv n0 G' μ' H' A' → Sg Φ G0 G' μ' H' A' := by
  obtain ⟨T, X, B, GB, μB, h1, h2, h3, h4, h5, h6, h7⟩ := h
  refine ⟨_, h7, fun b hb => (h6.good b (h5 b hb)).1, fun A' G' μ' H' e w => ⟨T, X, B, GB, nomap, h1, h2, h3, h4, h5, ?_, w⟩⟩
  have h6' : Ext (fun b => X b ∨ B.heap.size ≤ b) B GB nomap A G nomap := h6.plain
  exact h6'.trans e
/-- Code that does not yield, while an iterator runs. -/
theorem sg_runs {c : Code} {r : Ex × Frm × Heap} (h : RunsR P nt true [] c F H r) {Q : Exit → Act → World → Prop} (hS : Sg Φ G0 G μ H A) (hF : FInv A G μ nt F a)
    (hQ : ∀ G' μ' a' A', Sg Φ G0 G' μ' r.2.2 A' → FInv A' G' μ' nt r.2.1 a' → Q r.1.to a' A') : c.wpIn Fence.wide n P Q a A := by
  obtain ⟨n0, hW, _, hS2⟩ := hS.open0
  have e0 : Ext n0 A G nomap A G μ := { good := fun _ h => ⟨h, rfl⟩, map := fun _ _ h => (by cases h), len := fun _ _ h => (by cases h), room := fun _ _ h => h, os := rfl, tape := rfl, output := rfl, size := Nat.le_refl _, drawn := Nat.le_refl _, old := fun _ _ _ => rfl, new := fun _ h => .inl h }
  refine wpIn_mono (h none n n0 A G nomap a A (fun h => (by cases h)) (fun r _ => ⟨rfl, rfl⟩) ⟨G, μ, e0, hW, hF.same, by rw [hF.defers]; trivial⟩) ?_
  rintro e a' w' ⟨rfl, ⟨G', μ', e', hW', hF', _⟩, hd⟩
  refine hQ G' μ' a' w' (hS2 _ _ _ _ e' hW') ⟨hF'.size, hF'.slot, ?_⟩
  rw [hd rfl]; exact hF.defers

/-- What a round of the loop over the iterator promises. -/
def YHyp (P : Program) (ks : List Kd) (l : Nat) (G0 : Nat → Prop) (all : List (denK ks)) (J Jx : List (denK ks) → (Nat → Prop) → (Nat → Prop) → World → Prop) : Prop :=
  ∀ pre e post T X B T' X' A us Gx m', all = pre ++ e :: post → J pre T X B → Stp X B A → (∀ b, T' b → (T b ∨ B.heap.size ≤ b) ∧ b < A.heap.size) → (∀ b, X' b → T' b ∧ (X b ∨ B.heap.size ≤ b)) →
      (∀ b, Gx b → (G0 b ∨ T' b) ∧ ¬ X' b) → VRs A Gx nomap (encA ks e) us →
      YieldAt Fence.wide m' P l us.toArray A fun en C =>
        ((∀ b, b < A.heap.size → G0 b ∨ T' b → C.heap[b]? = A.heap[b]?) ∧ (∀ b n, Room A b n → Room C b n) ∧ A.heap.size ≤ C.heap.size ∧ A.drawn ≤ C.drawn) ∧ ((en = .returned (.bool true) ∧ J (pre ++ [e]) T' X' C) ∨ (en = .returned (.bool false) ∧ Jx (pre ++ [e]) T' X' C))
/-- The code goes from this state to that end, and yields these on its way; or it is stopped at one of them. -/
def RunsI (P : Program) (nt : Nat) (ks : List Kd) (c : Code) (F : Frm) (H : Heap) (ys : List (Value × denK ks)) (r : Ex × Frm × Heap) (kx : Ex → Frm → Heap → Option Unit) : Prop :=
  ∀ (l : Nat) (yv : Value), yv = .func (.yield l) #[] #[] → ∀ (G0 : Nat → Prop) (all : List (denK ks)) (J Jx : List (denK ks) → (Nat → Prop) → (Nat → Prop) → World → Prop), YHyp P ks l G0 all J Jx →
    ∀ (pre post : List (denK ks)) (n : Nat) (a : Act) (A : World) (G : Nat → Prop) (μ : Mp), all = pre ++ (ys.map (·.2) ++ post) → (∀ y ∈ ys, y.1 = yv) → Sg (J pre) G0 G μ H A → FInv A G μ nt F a →
    c.wpIn Fence.wide n P (fun e a' A' => (e = r.1.to ∧ ∃ G' μ', Sg (J (pre ++ ys.map (·.2))) G0 G' μ' r.2.2 A' ∧ FInv A' G' μ' nt r.2.1 a') ∨
      (∃ ex' F' H' pre' G' μ', kx ex' F' H' = some () ∧ e = ex'.to ∧ Sg (Jx pre') G0 G' μ' H' A' ∧ FInv A' G' μ' nt F' a')) a A
/-- A loop that yields. -/
def SpecI (P : Program) (nt : Nat) (ks : List Kd) (a : Code) (s : LSpecI (Value × denK ks)) : Prop :=
  ∀ x ys z, s.run x = some (ys, z) → RunsI P nt ks (.loop a) (encF s.sh x 0) (encH s.sh x) ys (outX s.exits z) retX
def SubsI (P : Program) (nt : Nat) (lt : Nat → Option LSpec) (ks : List Kd) (li : Nat → Option (LSpecI (Value × denK ks))) : Code → Prop
  | .loop a => (∀ s, lt (firstRegion a) = some s → SpecR P nt true [] (.loop a) s) ∧ (∀ s, li (firstRegion a) = some s → SpecI P nt ks a s)
  | _ => True

theorem runsI_of {c : Code} {r : Ex × Frm × Heap} {kx : Ex → Frm → Heap → Option Unit} (h : RunsR P nt true [] c F H r) : RunsI P nt ks c F H [] r kx := by
  intro l yv hyv G0 all J Jx hY pre post n a A G μ hall hys hS hF
  refine sg_runs h hS hF fun G' μ' a' A' hS' hF' => .inl ⟨rfl, G', μ', ?_, hF'⟩
  rw [List.map_nil, List.append_nil]; exact hS'
theorem runsR_region (hcl : CalleeOK P (calleeE P E)) (hP : P.follows .mixedOrders = true) {α : Type} {id : Nat} {ops : Array Oper} {draw : Bool} {k : Ex → Frm → Heap → Option α} {z : α} (h : regionK P E nt ops draw F H (fun F H => keepF keep F fun F => k .normal F H) = some z) (hd : noDefer ops = true) :
    ∃ r : Ex × Frm × Heap, k r.1 r.2.1 r.2.2 = some z ∧ RunsR P nt true [] (.region id ops draw) F H r := by
  obtain ⟨F1, H1, h1, h2⟩ := regionK_in (id := id) hcl hP hd h
  obtain ⟨F2, h3, h4⟩ := keepF_frm keep F1 fun F => k .normal F H1
  rw [h3] at h1
  exact ⟨(.normal, F2, H1), h1, fun _ _ _ _ _ _ _ _ _ _ hI => h2 hI fun a' w' hd' hI' => ⟨rfl, hI'.weak h4, fun _ => hd'⟩⟩
/-- Further operations of a region. -/
theorem sg_restG (hcl : CalleeOK P (calleeE P E)) {ops : Array Oper} {l : List Oper} (hrun : runOps P (calleeE P E) nt ops.toList l F H = some (F', H')) (hnd : (l.all fun o => !isDefer o.op) = true) {Q : Exit → Act → World → Prop}
    (hS : Sg Φ G0 G μ H A) (hF : FInv A G μ nt F a) (hQ : ∀ G' μ' a' A', Sg Φ G0 G' μ' H' A' → FInv A' G' μ' nt F' a' → Q .normal a' A') : wpListIn Fence.wide n P ops Q l a A := by
  obtain ⟨n0, hW, _, hS2⟩ := hS.open_
  have h1 := runOps_sound (Q := fun e a' w' => e = .normal ∧ I n0 A G μ nt F' H' a' w') hcl l F H a A hrun ⟨G, μ, Ext.refl _ _ _ _, hW, hF⟩ (fun a' w' h => ⟨rfl, h⟩)
  have h2 := list_in (ro := none) (n := n) (ds := []) (Q' := Q) (fun a w h => by cases h.1) (fun e a' w' h => by
    obtain ⟨rfl, G', μ', e, hW', hF'⟩ := h
    have e1 : addD [] a' = a' := by simp [addD]
    rw [e1]
    exact hQ G' μ' a' w' (hS2 _ _ _ _ e hW') hF') (fun o ho c hc => by
    have := List.all_eq_true.1 hnd o ho
    rw [hc] at this
    cases this) h1
  have e1 : addD [] a = a := by simp [addD]
  rw [e1] at h2
  exact h2
/-- The first part of a region. -/
theorem sg_splitG (hcl : CalleeOK P (calleeE P E)) (hP : P.follows .mixedOrders = true) {α : Type} {id s : Nat} {ops : Array Oper} {draw : Bool} (hsp : splitOk ops s = true) {k : Frm → Heap → Option α} {z : α}
    (h : (bif draw then regionK P E nt (ops.toList.take s).toArray true F H else runOpsK P E nt ops.toList (ops.toList.take s) F H) k = some z) :
    ∃ F1 H1, k F1 H1 = some z ∧ ∀ {Φ : (Nat → Prop) → (Nat → Prop) → World → Prop} {G0 G : Nat → Prop} {μ : Mp} {A : World} {a : Act} {n : Nat} {Q : Exit → Act → World → Prop}, Sg Φ G0 G μ H A → FInv A G μ nt F a →
      (∀ G' μ' a' A', Sg Φ G0 G' μ' H1 A' → FInv A' G' μ' nt F1 a' → wpListIn Fence.wide n P ops Q (ops.toList.drop s) a' A') → (Code.region id ops draw).wpIn Fence.wide n P Q a A := by
  obtain ⟨F1, H1, hrun, hk⟩ : ∃ F1 H1, (bif draw then runDraw P (calleeE P E) nt (ops.toList.take s).toArray F H else runOps P (calleeE P E) nt ops.toList (ops.toList.take s) F H) = some (F1, H1) ∧ k F1 H1 = some z := by
    cases draw with
    | true =>
      simp only [cond_true] at h ⊢
      exact regionK_draw h
    | false =>
      simp only [cond_false] at h ⊢
      obtain ⟨F1, H1, h2, h3⟩ := runOpsK_some h
      exact ⟨F1, H1, h2, h3⟩
  refine ⟨F1, H1, hk, ?_⟩
  intro Φ G0 G μ A a n Q hS hF hQ
  obtain ⟨n0, hW, _, hS2⟩ := hS.open_
  have := region_split (ro := none) (n := n) (ds := []) (Q := Q) hcl hP (id := id) hsp hrun (n0 := n0) (wi := A) (Gi := G) (μi := μ) (a := a) (w := A) ⟨G, μ, Ext.refl _ _ _ _, hW, hF⟩ (fun a' w' h => by
    obtain ⟨G', μ', e, hW', hF'⟩ := h
    have e1 : addD [] a' = a' := by simp [addD]
    rw [e1]
    exact hQ G' μ' a' w' (hS2 _ _ _ _ e hW') hF')
  have e1 : addD [] a = a := by simp [addD]
  rw [e1] at this
  exact this
theorem vrs_eval {l : List Operand} (hF : FInv A G μ nt F a) : VRs A G μ (l.map (ev F)) (l.map a.eval) := by
  induction l with
  | nil => rw [List.map_nil, List.map_nil, VRs]
  | cons x l ih =>
    rw [List.map_cons, List.map_cons, VRs]
    exact ⟨_, _, rfl, ev_vr hF x, ih⟩

theorem execI_sound {α : Type} (hcl : CalleeOK P (calleeE P E)) (hP : P.follows .mixedOrders = true) : ∀ (c : Code) (F : Frm) (H : Heap) (k : Ex → Frm → Heap → Option (List (Value × denK ks) × α)) (kx : Ex → Frm → Heap → Option Unit) (ys : List (Value × denK ks)) (z : α),
    (∀ F H, kx .ret F H = some ()) → (∀ a ∈ subsOf c, SubsI P nt lt ks li a) → execI P E nt keep lt ks li c F H k kx = some (ys, z) →
    ∃ ys1 ys2 r, k r.1 r.2.1 r.2.2 = some (ys2, z) ∧ ys = ys1 ++ ys2 ∧ RunsI P nt ks c F H ys1 r kx
  | .skip, F, H, k, kx, ys, z, hx, hl, h => ⟨[], ys, (.normal, F, H), h, rfl, runsI_of fun _ _ _ _ _ _ _ _ _ _ hI => wpIn_skip ⟨rfl, hI, fun _ => rfl⟩⟩
  | .label l, F, H, k, kx, ys, z, hx, hl, h => ⟨[], ys, (.normal, F, H), h, rfl, runsI_of fun _ _ _ _ _ _ _ _ _ _ hI => wpIn_label ⟨rfl, hI, fun _ => rfl⟩⟩
  | .exit id, F, H, k, kx, ys, z, hx, hl, h => ⟨[], ys, (.exit id, F, H), h, rfl, runsI_of fun _ _ _ _ _ _ _ _ _ _ hI => wpIn_exit ⟨rfl, hI, fun _ => rfl⟩⟩
  | .ret, F, H, k, kx, ys, z, hx, hl, h => ⟨[], ys, (.ret, F, H), h, rfl, runsI_of fun _ _ _ _ _ _ _ _ _ _ hI => wpIn_ret ⟨rfl, hI, fun _ => rfl⟩⟩
  | .region id ops draw, F, H, k, kx, ys, z, hx, hl, h => by
    simp only [execI] at h
    split at h
    · obtain ⟨hd, h⟩ := condSome h
      obtain ⟨r, h1, h2⟩ := runsR_region (id := id) hcl hP h hd
      exact ⟨[], ys, r, h1, rfl, runsI_of h2⟩
    · rename_i s hs
      obtain ⟨hsp, h⟩ := condSome h
      split at h
      · rename_i o rest hdrop
        obtain ⟨hnd, h⟩ := condSome h
        obtain ⟨F1, H1, hk, hsplit⟩ := sg_splitG (id := id) hcl hP hsp h
        unfold yldK at hk
        obtain ⟨b, hg, hk⟩ := guardK_some hk
        cases b with
        | true =>
          simp only [cond_true] at hk
          split at hk
          · rename_i c hoc
            split at hk
            · rename_i f hcf
              split at hk
              · rename_i yv hyv
                obtain ⟨hnr, hk⟩ := condSome hk
                split at hk
                · rename_i e he
                  split at hk
                  · rename_i F2 F3 hp2 hp3
                    split at hk
                    · rename_i u hstop
                      obtain ⟨ys2, hlive, rfl⟩ := outs_some hk
                      obtain ⟨F4, H4, hrun4, hk4⟩ := runOpsK_some hlive
                      obtain ⟨F5, H5, hrun5, hk5⟩ := runOpsK_some hstop
                      obtain ⟨F6, h6, h7⟩ := keepF_frm keep F4 fun F => k .normal F H4
                      rw [h6] at hk4
                      refine ⟨[(yv, e)], ys2, (.normal, F6, H4), hk4, rfl, ?_⟩
                      intro l yv' hyv' G0 all J Jx hY pre post n a A G μ hall hys hS hF
                      have hyy := hys _ (List.mem_singleton.2 rfl)
                      dsimp only at hyy
                      subst hyy
                      refine hsplit hS hF fun G1 μ1 a1 A1 hS1 hF1 => ?_
                      rw [hdrop]
                      have hw := guardOf_sound hF1 hg
                      have hv := vrs_eval (l := c.args.toList) hF1
                      have hv0 := noRefs_vrs _ _ hnr hv
                      have hve := decA_vrs ks he hv0
                      have hfe := ev_vr hF1 f
                      rw [hyv, VR] at hfe
                      have hall' : all = pre ++ e :: post := by rw [hall]; rfl
                      refine op_yield hoc hcf hw (hfe.trans hyv') (us := (c.args.toList.map a1.eval).toArray) (by rw [← Array.toList_map]) (fun m' => hS1.yield hY hall' hve m') ?_
                      rintro en C ⟨hmo, hout⟩
                      rcases hout with ⟨rfl, hS2⟩ | ⟨rfl, hS2⟩
                      · refine ⟨_, rfl, sg_restG hcl hrun4 hnd hS2 ((hF1.mono hmo).xput hp2 (by rw [VR])) fun G2 μ2 a2 A2 hS3 hF3 => .inl ⟨rfl, G2, μ2, hS3, ?_⟩⟩
                        exact ⟨hF3.size, fun t => by
                          rcases h7 t with h8 | h8
                          · rw [h8]; exact hF3.slot t
                          · rw [h8, VR]; trivial, hF3.defers⟩
                      · exact ⟨_, rfl, sg_restG hcl hrun5 hnd hS2 ((hF1.mono hmo).xput hp3 (by rw [VR])) fun G2 μ2 a2 A2 hS3 hF3 => .inr ⟨.normal, F5, H5, _, G2, μ2, hk5, rfl, hS3, hF3⟩⟩
                    · cases hk
                  · cases hk
                · cases hk
              · cases hk
            · cases hk
          · cases hk
        | false =>
          simp only [cond_false] at hk
          split at hk
          · rename_i F2 hp2
            obtain ⟨F4, H4, hrun4, hk4⟩ := runOpsK_some hk
            obtain ⟨F6, h6, h7⟩ := keepF_frm keep F4 fun F => k .normal F H4
            rw [h6] at hk4
            refine ⟨[], ys, (.normal, F6, H4), hk4, rfl, ?_⟩
            intro l yv' hyv' G0 all J Jx hY pre post n a A G μ hall hys hS hF
            refine hsplit hS hF fun G1 μ1 a1 A1 hS1 hF1 => ?_
            rw [hdrop]
            refine op_skip (guardOf_sound hF1 hg) (sg_restG hcl hrun4 hnd hS1 (hF1.xput hp2 (by rw [VR])) fun G2 μ2 a2 A2 hS3 hF3 => .inl ⟨rfl, G2, μ2, ?_, ?_⟩)
            · rw [List.map_nil, List.append_nil]; exact hS3
            · exact ⟨hF3.size, fun t => by
                rcases h7 t with h8 | h8
                · rw [h8]; exact hF3.slot t
                · rw [h8, VR]; trivial, hF3.defers⟩
          · cases hk
      · cases h
  | .seq x y, F, H, k, kx, ys, z, hx, hl, h => by
    simp only [execI] at h
    obtain ⟨ys1, ys2, ⟨ex, F1, H1⟩, h1, rfl, h2⟩ := execI_sound hcl hP x F H _ _ ys z (by intro F H; exact hx F H) (fun a ha => hl a (by simp [subsOf, ha])) h
    have stop : ∀ {l : Nat} {yv : Value} {G0 : Nat → Prop} {all : List (denK ks)} {J Jx : List (denK ks) → (Nat → Prop) → (Nat → Prop) → World → Prop} {n : Nat} {R : Exit → Act → World → Prop},
        (∀ e a' A', (∃ ex' F' H' pre' G' μ', kx ex' F' H' = some () ∧ e = ex'.to ∧ Sg (Jx pre') G0 G' μ' H' A' ∧ FInv A' G' μ' nt F' a') → R e a' A') → ∀ ex' F' H' pre' G' μ' a' A',
        (match ex' with
          | Ex.normal => execR P E nt keep lt (fun _ => none) true [] y F' H' kx
          | Ex.exit i => kx (Ex.exit i) F' H'
          | Ex.ret => kx Ex.ret F' H') = some () → Sg (Jx pre') G0 G' μ' H' A' → FInv A' G' μ' nt F' a' →
        Exit.then (y.wpIn Fence.wide n P R) R ex'.to a' A' := by
      intro l yv G0 all J Jx n R hR ex' F' H' pre' G' μ' a' A' hm hS hF
      cases ex' with
      | normal =>
        obtain ⟨r, h3, h4⟩ := execR_sound hcl hP y F' H' kx () (fun a ha => by
          have := hl a (by simp [subsOf, ha])
          cases a with
          | loop b => exact this.1
          | rangeFunc g ps as b => intro h; cases h
          | _ => trivial) hm
        refine sg_runs h4 hS hF fun G2 μ2 a2 A2 hS2 hF2 => hR _ _ _ ⟨r.1, r.2.1, r.2.2, pre', G2, μ2, h3, rfl, hS2, hF2⟩
      | exit i => exact hR _ _ _ ⟨.exit i, F', H', pre', G', μ', hm, rfl, hS, hF⟩
      | ret => exact hR _ _ _ ⟨.ret, F', H', pre', G', μ', hm, rfl, hS, hF⟩
    cases ex with
    | normal =>
      obtain ⟨ys3, ys4, r, h3, rfl, h4⟩ := execI_sound hcl hP y F1 H1 k kx ys2 z hx (fun a ha => hl a (by simp [subsOf, ha])) h1
      refine ⟨ys1 ++ ys3, ys4, r, h3, by rw [List.append_assoc], ?_⟩
      intro l yv hyv G0 all J Jx hY pre post n a A G μ hall hys hS hF
      refine wpIn_seq (wpIn_mono (h2 l yv hyv G0 all J Jx hY pre (ys3.map (·.2) ++ post) n a A G μ (by rw [hall, List.map_append, List.append_assoc]) (fun y hy => hys y (List.mem_append_left _ hy)) hS hF) ?_)
      rintro e a' w' (⟨rfl, G', μ', hS', hF'⟩ | ⟨ex', F', H', pre', G', μ', hm, rfl, hS', hF'⟩)
      · refine wpIn_mono (h4 l yv hyv G0 all J Jx hY (pre ++ ys1.map (·.2)) post n a' w' G' μ' (by rw [hall, List.map_append, List.append_assoc, List.append_assoc]) (fun y hy => hys y (List.mem_append_right _ hy)) hS' hF') ?_
        rintro e a'' w'' (⟨rfl, G2, μ2, hS2, hF2⟩ | hst)
        · refine .inl ⟨rfl, G2, μ2, ?_, hF2⟩
          rw [List.map_append, ← List.append_assoc]; exact hS2
        · exact .inr hst
      · exact stop (l := l) (yv := yv) (all := all) (J := J) (fun e a' A' h => Or.inr h) ex' F' H' pre' G' μ' a' w' hm hS' hF'
    | exit i =>
      refine ⟨ys1, ys2, (.exit i, F1, H1), h1, rfl, ?_⟩
      intro l yv hyv G0 all J Jx hY pre post n a A G μ hall hys hS hF
      refine wpIn_seq (wpIn_mono (h2 l yv hyv G0 all J Jx hY pre post n a A G μ hall hys hS hF) ?_)
      rintro e a' w' (⟨rfl, G', μ', hS', hF'⟩ | ⟨ex', F', H', pre', G', μ', hm, rfl, hS', hF'⟩)
      · exact .inl ⟨rfl, G', μ', hS', hF'⟩
      · exact stop (l := l) (yv := yv) (all := all) (J := J) (fun e a' A' h => Or.inr h) ex' F' H' pre' G' μ' a' w' hm hS' hF'
    | ret =>
      refine ⟨ys1, ys2, (.ret, F1, H1), h1, rfl, ?_⟩
      intro l yv hyv G0 all J Jx hY pre post n a A G μ hall hys hS hF
      refine wpIn_seq (wpIn_mono (h2 l yv hyv G0 all J Jx hY pre post n a A G μ hall hys hS hF) ?_)
      rintro e a' w' (⟨rfl, G', μ', hS', hF'⟩ | ⟨ex', F', H', pre', G', μ', hm, rfl, hS', hF'⟩)
      · exact .inl ⟨rfl, G', μ', hS', hF'⟩
      · exact stop (l := l) (yv := yv) (all := all) (J := J) (fun e a' A' h => Or.inr h) ex' F' H' pre' G' μ' a' w' hm hS' hF'
  | .cond c x y, F, H, k, kx, ys, z, hx, hl, h => by
    simp only [execI] at h
    split at h
    · rename_i t ht
      replace h := askT_some h ht
      have hc : ∀ {A : World} {G : Nat → Prop} {μ : Mp} {a : Act}, FInv A G μ nt F a → a.eval c = .bool t := fun {A G μ a} hF => by
        have hc := ev_vr hF c
        rw [ht, VR] at hc
        exact hc
      cases t with
      | true =>
        obtain ⟨ys1, ys2, r, h3, h4, h5⟩ := execI_sound hcl hP x F H k kx ys z hx (fun a ha => hl a (by simp [subsOf, ha])) h
        exact ⟨ys1, ys2, r, h3, h4, fun l yv hyv G0 all J Jx hY pre post n a A G μ hall hys hS hF => wpIn_cond (hc hF) (h5 l yv hyv G0 all J Jx hY pre post n a A G μ hall hys hS hF)⟩
      | false =>
        obtain ⟨ys1, ys2, r, h3, h4, h5⟩ := execI_sound hcl hP y F H k kx ys z hx (fun a ha => hl a (by simp [subsOf, ha])) h
        exact ⟨ys1, ys2, r, h3, h4, fun l yv hyv G0 all J Jx hY pre post n a A G μ hall hys hS hF => wpIn_cond (hc hF) (h5 l yv hyv G0 all J Jx hY pre post n a A G μ hall hys hS hF)⟩
    · cases h
  | .block id x, F, H, k, kx, ys, z, hx, hl, h => by
    simp only [execI] at h
    obtain ⟨ys1, ys2, ⟨ex, F1, H1⟩, h1, rfl, h2⟩ := execI_sound hcl hP x F H _ _ ys z (by intro F H; exact hx F H) (fun a ha => hl a (by simp [subsOf, ha])) h
    have stop : ∀ (ex' : Ex) (F' : Frm) (H' : Heap), (match ex' with
          | Ex.exit i => bif Nat.beq i id then kx .normal F' H' else kx (.exit i) F' H'
          | Ex.normal => kx Ex.normal F' H'
          | Ex.ret => kx Ex.ret F' H') = some () → ∃ ex2 : Ex, kx ex2 F' H' = some () ∧ ∀ (Q : Exit → Act → World → Prop) a w, Q ex2.to a w → ex'.to.inBlock id Q a w := by
      intro ex' F' H' hm
      cases ex' with
      | normal => exact ⟨.normal, hm, fun Q a w h => h⟩
      | ret => exact ⟨.ret, hm, fun Q a w h => h⟩
      | exit i =>
        simp only at hm
        cases hi : Nat.beq i id with
        | true =>
          rw [hi] at hm
          have := Nat.eq_of_beq_eq_true hi
          subst this
          exact ⟨.normal, hm, fun Q a w h => by simp only [Ex.to, Exit.inBlock, if_true]; exact h⟩
        | false =>
          rw [hi] at hm
          have hne : ¬ i = id := fun e => by rw [e] at hi; simp at hi
          exact ⟨.exit i, hm, fun Q a w h => by simp only [Ex.to, Exit.inBlock, hne, if_false]; exact h⟩
    have live : ∃ ex2 : Ex, k ex2 F1 H1 = some (ys2, z) ∧ ∀ (Q : Exit → Act → World → Prop) a w, Q ex2.to a w → ex.to.inBlock id Q a w := by
      cases ex with
      | normal => exact ⟨.normal, h1, fun Q a w h => h⟩
      | ret => exact ⟨.ret, h1, fun Q a w h => h⟩
      | exit i =>
        simp only at h1
        cases hi : Nat.beq i id with
        | true =>
          rw [hi] at h1
          have := Nat.eq_of_beq_eq_true hi
          subst this
          exact ⟨.normal, h1, fun Q a w h => by simp only [Ex.to, Exit.inBlock, if_true]; exact h⟩
        | false =>
          rw [hi] at h1
          have hne : ¬ i = id := fun e => by rw [e] at hi; simp at hi
          exact ⟨.exit i, h1, fun Q a w h => by simp only [Ex.to, Exit.inBlock, hne, if_false]; exact h⟩
    obtain ⟨ex2, hk2, hex2⟩ := live
    refine ⟨ys1, ys2, (ex2, F1, H1), hk2, rfl, ?_⟩
    intro l yv hyv G0 all J Jx hY pre post n a A G μ hall hys hS hF
    refine wpIn_block (wpIn_mono (h2 l yv hyv G0 all J Jx hY pre post n a A G μ hall hys hS hF) ?_)
    rintro e a' w' (⟨rfl, G', μ', hS', hF'⟩ | ⟨ex', F', H', pre', G', μ', hm, rfl, hS', hF'⟩)
    · exact hex2 _ _ _ (Or.inl ⟨rfl, G', μ', hS', hF'⟩)
    · obtain ⟨ex3, h3, h4⟩ := stop ex' F' H' hm
      exact h4 _ _ _ (Or.inr ⟨ex3, F', H', pre', G', μ', h3, rfl, hS', hF'⟩)
  | .loop x, F, H, k, kx, ys, z, hx, hl, h => by
    simp only [execI] at h
    have hsub := hl (.loop x) (by simp [subsOf])
    split at h
    · rename_i s hs
      split at h
      · rename_i x0 hx0
        unfold bindI at h
        split at h
        · rename_i ys1 z1 hr
          obtain ⟨ys2, h1, rfl⟩ := outs_some h
          refine ⟨ys1, ys2, outX s.exits z1, outK_some h1, rfl, ?_⟩
          intro l yv hyv G0 all J Jx hY pre post n a A G μ hall hys hS hF
          obtain ⟨n0, hW, _, hS2⟩ := hS.open0
          have e0 : Ext n0 A G nomap A G μ := { good := fun _ h => ⟨h, rfl⟩, map := fun _ _ h => (by cases h), len := fun _ _ h => (by cases h), room := fun _ _ h => h, os := rfl, tape := rfl, output := rfl, size := Nat.le_refl _, drawn := Nat.le_refl _, old := fun _ _ _ => rfl, new := fun _ h => .inl h }
          obtain ⟨G1, μ1, e1, hW1, hF1⟩ := decHeadR_sound hx0 (fun r _ => ⟨rfl, rfl⟩) (⟨G, μ, e0, hW, hF⟩ : I n0 A G nomap nt F H a A)
          refine wpIn_mono (hsub.2 s hs x0 ys1 z1 hr l yv hyv G0 all J Jx hY pre post n a A G1 μ1 hall hys (hS2 _ _ _ _ e1 hW1) hF1) ?_
          rintro e a' w' (h | ⟨ex', F', H', pre', G', μ', hm, rfl, hS', hF'⟩)
          · exact .inl h
          · refine .inr ⟨ex', F', H', pre', G', μ', ?_, rfl, hS', hF'⟩
            cases ex' with
            | ret => exact hx F' H'
            | normal => cases hm
            | exit i => cases hm
        · cases h
      · cases h
    · split at h
      · rename_i s hs
        split at h
        · rename_i x0 hx0
          obtain ⟨y, h1, h2⟩ := askO_some h
          refine ⟨[], ys, outX s.exits y, outK_some h2, rfl, runsI_of fun ro n n0 wi Gi μi a w hro hfl hI => ?_⟩
          exact hsub.1 s hs x0 y h1 ro n n0 wi Gi μi a w hro hfl (hI.dec hfl hx0)
        · cases h
      · cases h
  | .scope x, F, H, k, kx, ys, z, hx, hl, h => by simp only [execI] at h; cases h
  | .rangeFunc g ps as x, F, H, k, kx, ys, z, hx, hl, h => by simp only [execI] at h; cases h
  | .goto l, F, H, k, kx, ys, z, hx, hl, h => by simp only [execI] at h; cases h
  | .refuse s, F, H, k, kx, ys, z, hx, hl, h => by simp only [execI] at h; cases h

theorem leafI_out {Y : Type} {sh : List (Nat × Kd)} {exits : List (Ex × List (Nat × Kd))} {ex : Ex} {F : Frm} {H : Heap} {l : List Y} {y : Shape.den sh ⊕ exDen exits} (h : leafI sh exits ex F H = some (l, y)) : l = [] ∧ leafR [] sh exits ex F H = some y := by
  unfold leafI at h
  split at h
  · rename_i z hz
    simp only [Option.some.injEq, Prod.mk.injEq] at h
    obtain ⟨h1, h2⟩ := h
    subst h2
    exact ⟨h1.symm, hz⟩
  · cases h
/-- The state in another form. -/
theorem sg_same {F1 : Frm} {H1 : Heap} (hs : ∀ {n0 : Nat → Prop}, I n0 A G nomap nt F H a A → I n0 A G nomap nt F1 H1 a A) (hS : Sg Φ G0 G μ H A) (hF : FInv A G μ nt F a) : ∃ G' μ', Sg Φ G0 G' μ' H1 A ∧ FInv A G' μ' nt F1 a := by
  obtain ⟨n0, hW, _, hS2⟩ := hS.open0
  have e0 : Ext n0 A G nomap A G μ := { good := fun _ h => ⟨h, rfl⟩, map := fun _ _ h => (by cases h), len := fun _ _ h => (by cases h), room := fun _ _ h => h, os := rfl, tape := rfl, output := rfl, size := Nat.le_refl _, drawn := Nat.le_refl _, old := fun _ _ _ => rfl, new := fun _ h => .inl h }
  obtain ⟨G1, μ1, e1, hW1, hF1⟩ := hs ⟨G, μ, e0, hW, hF⟩
  exact ⟨G1, μ1, hS2 _ _ _ _ e1 hW1, hF1⟩
theorem decExR_sound : ∀ {l : List (Ex × List (Nat × Kd))} {z : exDen l} {ex : Ex}, decExR [] l ex F H = some z → (outX l z).1 = ex ∧ ∀ {n0 : Nat → Prop}, I n0 A G nomap nt F H a A → I n0 A G nomap nt (outX l z).2.1 (outX l z).2.2 a A := by
  intro l z ex h
  obtain ⟨h1, sh, x, h2, h3, h4⟩ := decExR_shape h
  refine ⟨h1, fun hI => ?_⟩
  rw [h3, h4]
  exact decHeadR_sound h2 (fun r _ => ⟨rfl, rfl⟩) hI
/-- A loop that yields does what its rounds do. -/
theorem loop_okI (hcl : CalleeOK P (calleeE P E)) (hP : P.follows .mixedOrders = true) {b : Code} {sh : List (Nat × Kd)} {exits : List (Ex × List (Nat × Kd))} {step : Shape.den sh → Option (List (Value × denK ks) × (Shape.den sh ⊕ exDen exits))} (L : Nat)
    (hl : ∀ a ∈ subsOf b, SubsI P nt lt ks li a) (hr : ∀ x, roundI P E nt keep lt ks li b sh exits x = step x) : SpecI P nt ks b ⟨sh, exits, loopI step L⟩ := by
  intro x ys z hz l yv hyv G0 all J Jx hY pre post n a A G μ hall hys hS hF
  refine wpIn_loop_ghost (fun k a A => ∃ pre1 ys1 x G μ, loopI step k x = some (ys1, z) ∧ pre ++ ys.map (·.2) = pre1 ++ ys1.map (·.2) ∧ (∀ y ∈ ys1, y.1 = yv) ∧ Sg (J pre1) G0 G μ (encH sh x) A ∧ FInv A G μ nt (encF sh x 0) a) L ⟨pre, ys, x, G, μ, hz, rfl, hys, hS, hF⟩ ?_
  rintro k a1 A1 ⟨pre1, ys1, x, G, μ, hz, hpre, hys1, hS, hF⟩
  cases k with
  | zero => cases hz
  | succ k =>
    simp only [loopI] at hz
    have hall1 : all = pre1 ++ (ys1.map (·.2) ++ post) := by rw [hall, ← List.append_assoc, hpre, List.append_assoc]
    split at hz
    · rename_i m y hs
      obtain ⟨m2, hz2, rfl⟩ := outs_some hz
      rw [← hr] at hs
      obtain ⟨y1, y2, ⟨ex, F', H'⟩, h1, h2, h3⟩ := execI_sound hcl hP b _ _ _ retX m _ (fun _ _ => rfl) hl hs
      obtain ⟨e1, h4⟩ := leafI_out h1
      clear h1
      subst e1
      rw [List.append_nil] at h2
      subst h2
      refine wpIn_mono (h3 l yv hyv G0 all J Jx hY pre1 (m2.map (·.2) ++ post) n a1 A1 G μ (by rw [hall1, List.map_append, List.append_assoc]) (fun y hy => hys1 y (List.mem_append_left _ hy)) hS hF) ?_
      rintro e a' A' (⟨rfl, G', μ', hS', hF'⟩ | ⟨ex', F', H', pre', G', μ', hm, rfl, hS', hF'⟩)
      · rcases leafR_out h4 with ⟨y', e1, e2, e3⟩ | ⟨z', e1, _, _⟩
        · cases e1
          dsimp only at e2
          subst e2
          obtain ⟨G2, μ2, hS2, hF2⟩ := sg_same (fun hI => decHeadR_sound e3 (fun r _ => ⟨rfl, rfl⟩) hI) hS' hF'
          exact ⟨k, by omega, _, m2, y, G2, μ2, hz2, by rw [hpre, List.map_append, List.append_assoc], fun y hy => hys1 y (List.mem_append_right _ hy), hS2, hF2⟩
        · cases e1
      · cases ex' with
        | ret => exact .inr ⟨.ret, F', H', pre', G', μ', rfl, rfl, hS', hF'⟩
        | normal => cases hm
        | exit i => cases hm
    · rename_i m y hs
      simp only [Option.some.injEq, Prod.mk.injEq] at hz
      obtain ⟨rfl, rfl⟩ := hz
      rw [← hr] at hs
      obtain ⟨y1, y2, ⟨ex, F', H'⟩, h1, h2, h3⟩ := execI_sound hcl hP b _ _ _ retX m _ (fun _ _ => rfl) hl hs
      obtain ⟨e1, h4⟩ := leafI_out h1
      clear h1
      subst e1
      rw [List.append_nil] at h2
      subst h2
      refine wpIn_mono (h3 l yv hyv G0 all J Jx hY pre1 post n a1 A1 G μ hall1 hys1 hS hF) ?_
      rintro e a' A' (⟨rfl, G', μ', hS', hF'⟩ | ⟨ex', F', H', pre', G', μ', hm, rfl, hS', hF'⟩)
      · rcases leafR_out h4 with ⟨y', e1, e2, e3⟩ | ⟨z', e1, e2, e3⟩
        · cases e1
        · cases e1
          dsimp only at e2 e3
          obtain ⟨h5, h6⟩ := decExR_sound (A := A') (G := G') (a := a') (nt := nt) e3
          obtain ⟨G2, μ2, hS2, hF2⟩ := sg_same (fun hI => h6 hI) hS' hF'
          have hout : (Exit.normal ≠ ex.to → True) := fun _ => trivial
          cases ex with
          | normal => exact absurd rfl e2
          | exit i => exact .inl ⟨by rw [h5], G2, μ2, by rw [hpre]; exact hS2, hF2⟩
          | ret => exact .inl ⟨by rw [h5], G2, μ2, by rw [hpre]; exact hS2, hF2⟩
      · cases ex' with
        | ret => exact .inr ⟨.ret, F', H', pre', G', μ', rfl, rfl, hS', hF'⟩
        | normal => cases hm
        | exit i => cases hm
    · cases hz

/-- The whole iterator. -/
def bodyI (P : Program) (E : Env) (fn : Func) (keep : Nat) (lt : Nat → Option LSpec) (ks : List Kd) (li : Nat → Option (LSpecI (Value × denK ks))) (c : Code) (ts : List Ty) (yv : Value) (x : denT ts) : Option (List (Value × denK ks)) :=
  bif Nat.ble (1 + (encP ts x).length) fn.ntmps then fstI (execI P E fn.ntmps keep lt ks li c (start keep 0 (.lit yv :: encP ts x)) [] (fun ex _ _ => match ex with
    | .exit _ => none
    | _ => some ([], ())) (fun ex _ _ => match ex with
    | .exit _ => none
    | _ => some ())) else none
/-- A func that calls yield, by runs. -/
theorem iter_ok (hP : ProgOK P) (hE : EnvOK P E) {g : Nat} {fn : Func} (hg : P.funcs[g]? = some fn) {c : Code} (hc : fn.body = some c) (hres : fn.results = #[]) {ts : List Ty} {f : denT ts → Option (List (denK ks))}
    (hl : ∀ a ∈ subsOf c, SubsI P fn.ntmps lt ks li a) (hb : ∀ yv x all, f x = some all → bodyI P E fn keep lt ks li c ts yv x = some (all.map fun e => (yv, e))) : IterOK P g ts ks f := by
  intro x all hall m l W G vs hlt hvs J Jx hY hJ
  obtain ⟨yv, hyv⟩ : ∃ yv : Value, yv = .func (.yield l) #[] #[] := ⟨_, rfl⟩
  have hbx := hb yv x all hall
  unfold bodyI at hbx
  obtain ⟨hlen, hbx⟩ := condSome hbx
  unfold fstI at hbx
  split at hbx
  · rename_i l0 u hex
    have hl0 := Option.some.inj hbx
    obtain ⟨ys1, ys2, ⟨ex, F', H'⟩, h1, h2, h3⟩ := execI_sound hE.callee hP.mixed c _ _ _ _ _ _ (fun _ _ => rfl) hl hex
    have hex : (ex = .normal ∨ ex = .ret) ∧ ys2 = [] := by
      cases ex with
      | exit i => cases h1
      | normal =>
        simp only [Option.some.injEq, Prod.mk.injEq] at h1
        exact ⟨.inl rfl, h1.1.symm⟩
      | ret =>
        simp only [Option.some.injEq, Prod.mk.injEq] at h1
        exact ⟨.inr rfl, h1.1.symm⟩
    obtain ⟨hex, rfl⟩ := hex
    rw [List.append_nil] at h2
    subst h2
    have hys : ∀ y ∈ l0, y.1 = yv := by
      intro y hy
      rw [hl0] at hy
      obtain ⟨e, -, rfl⟩ := List.mem_map.1 hy
      rfl
    have hmap : l0.map (·.2) = all := by
      rw [hl0, List.map_map]
      exact List.map_id all
    refine callsIn_of_wp hg hc trivial ?_ rfl
    have hargs : VRs W G nomap (.lit yv :: encP ts x) ((#[.func (.yield l) #[] #[]] : Array Value) ++ vs.toArray).toList := by
      rw [← hyv]
      simp only [Array.toList_append, List.cons_append, List.nil_append]
      rw [VRs]
      exact ⟨yv, vs, rfl, by rw [VR], hvs⟩
    have hF0 := start_finv (m := keep) (n := fn.ntmps) hargs (by simpa [Nat.add_comm] using Nat.le_of_ble_eq_true hlen)
    have hS0 : Sg (J []) G G nomap [] W := Sg.start hlt hJ
    have post : ∀ (ex : Exit) (a : Act) (A : World), (ex = .normal ∨ ex = .ret) → a.defers = [] → ∀ (T X : Nat → Prop) (B : World), Stp X B A → (J all T X B ∨ ∃ pre, Jx pre T X B) →
        bodyPost P fn (fun en C => (∃ v, en = .returned v) ∧ ∃ T X B, Stp X B C ∧ (J all T X B ∨ ∃ pre, Jx pre T X B)) ex a A := by
      intro ex a A hex hd T X B hst hj
      have hr : (results fn a.tmps).run P A = .ok (.tuple #[]) A := by simp [results, hres]
      rcases hex with rfl | rfl
      · exact ⟨hd, _, hr, ⟨_, rfl⟩, T, X, B, hst, hj⟩
      · exact ⟨hd, _, hr, ⟨_, rfl⟩, T, X, B, hst, hj⟩
    refine wpIn_mono (h3 l yv hyv G all J Jx hY [] [] m _ W G nomap (by rw [hmap]; simp) hys hS0 hF0) ?_
    rintro e a' A' (⟨rfl, G', μ', hS', hF'⟩ | ⟨ex', F', H', pre', G', μ', hm, rfl, hS', hF'⟩)
    · obtain ⟨T, X, B, hst, hj⟩ := hS'.stp
      rw [List.nil_append, hmap] at hj
      refine post _ a' A' ?_ hF'.defers T X B hst (.inl hj)
      rcases hex with rfl | rfl
      · exact .inl rfl
      · exact .inr rfl
    · obtain ⟨T, X, B, hst, hj⟩ := hS'.stp
      refine post _ a' A' ?_ hF'.defers T X B hst (.inr ⟨_, hj⟩)
      cases ex' with
      | normal => exact .inl rfl
      | ret => exact .inr rfl
      | exit i => cases hm
  · cases hbx
theorem subI_loop {a : Code} {i : Nat} {s0 : LSpec} (hf : firstRegion a = i) (hlt : lt i = some s0) (hli : li i = none) (h : SpecR P nt true [] (.loop a) s0) : SubsI P nt lt ks li (.loop a) := by
  refine ⟨fun s hs => ?_, fun s hs => ?_⟩
  · rw [hf, hlt] at hs
    cases hs
    exact h
  · rw [hf, hli] at hs
    cases hs
theorem subI_yld {a : Code} {i : Nat} {s0 : LSpecI (Value × denK ks)} (hf : firstRegion a = i) (hlt : lt i = none) (hli : li i = some s0) (h : SpecI P nt ks a s0) : SubsI P nt lt ks li (.loop a) := by
  refine ⟨fun s hs => ?_, fun s hs => ?_⟩
  · rw [hf, hlt] at hs
    cases hs
  · rw [hf, hli] at hs
    cases hs
    exact h
def subsAllI (P : Program) (nt : Nat) (lt : Nat → Option LSpec) (ks : List Kd) (li : Nat → Option (LSpecI (Value × denK ks))) : List Code → Prop
  | [] => True
  | c :: r => SubsI P nt lt ks li c ∧ subsAllI P nt lt ks li r
theorem subsAllI_mem : ∀ {l : List Code}, subsAllI P nt lt ks li l → ∀ a ∈ l, SubsI P nt lt ks li a
  | [], _, a, ha => by cases ha
  | c :: r, h, a, ha => by
    rcases List.mem_cons.1 ha with rfl | ha
    · exact h.1
    · exact subsAllI_mem h.2 a ha
theorem subsI_ok {c : Code} {l : List Code} (hc : subsOf c = l) (h : subsAllI P nt lt ks li l) : ∀ a ∈ subsOf c, SubsI P nt lt ks li a := by
  rw [hc]; exact subsAllI_mem h
end
end Go.PM
