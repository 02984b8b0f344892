/- Texts of one proof, joined (6). -/
import Derived.Test.YtjgapmocogjkmaaGreatDoorQF5
set_option linter.unusedSimpArgs false
set_option linter.unusedVariables false
namespace Go.PM
open Go Go.RowKit
structure EF (Y : Type) where
 sh : List (Nat × Kd)
 exits : List (Ex × List (Nat × Kd))
 run : Shape.den sh → Option (List Y × aU exits)
def a3B (o : Oper) : Bool := match o.op with
 | .call c => match c.callee with
  | .value (.tmp _) => true
  | _ => false
 | _ => false
def aXN : List Oper → Nat → Option Nat
 | [], _ => none
 | o :: r, i => bif a3B o then some i else aXN r (i + 1)
def outs {Y α : Type} (l : List Y) : Option (List Y × α) → Option (List Y × α)
 | some (m, z) => some (l ++ m, z)
 | none => none
def aI2 {Y τ α : Type} (r : Option (List Y × τ)) (k : τ → Option (List Y × α)) : Option (List Y × α) := match r with
 | some (l, z) => outs l (k z)
 | none => none
def aRB {Y : Type} : Option (List Y × Unit) → Option (List Y)
 | some (l, _) => some l
 | none => none
section
variable {α : Type} (P : Program) (E : Env) (nt aT : Nat) (lt : Nat → Option aR) (ks : List Kd) (li : Nat → Option (EF (Value × aH ks)))
def a2S (ops : Array Oper) (o : Oper) (rest : List Oper) (F : Frm) (H : Heap) (k : Frm → Heap → Option (List (Value × aH ks) × α)) (kx : Frm → Heap → Option Unit) : Option (List (Value × aH ks) × α) :=
 aEQ F ops.toList o fun F b => bif b then (match o.op with
  | .call c => match c.callee with
   | .value f => match ev F f with
    | .lit yv => bif cY.noRefs (c.args.toList.map (ev F)) && ks.all Kd.plain then (match aE0 ks (c.args.toList.map (ev F)) with
     | some e => match E3 nt F o.dst (.lit (.bool true)), E3 nt F o.dst (.lit (.bool false)) with
      | some F1, some F2 => match zG P E nt ops.toList rest F2 H kx with
       | some _ => outs [(yv, e)] (zG P E nt ops.toList rest F1 H k)
       | none => none
      | _, _ => none
     | none => none) else none
    | _ => none
   | _ => none
  | _ => none) else match E3 nt F o.dst (.lit undef) with
   | some F1 => zG P E nt ops.toList rest F1 H k
   | none => none
def xT : Code → Frm → Heap → (Ex → Frm → Heap → Option (List (Value × aH ks) × α)) → (Ex → Frm → Heap → Option Unit) → Option (List (Value × aH ks) × α)
 | .skip, F, H, k, _ => k .normal F H
 | .label _, F, H, k, _ => k .normal F H
 | .region _ ops draw, F, H, k, kx => match aXN ops.toList 0 with
  | none => bif HT ops then qW P E nt ops draw F H fun F H => IF aT F fun F => k .normal F H else none
  | some s => bif WV ops s then match ops.toList.drop s with
   | o :: rest => bif rest.all (fun o => !aFF o.op) then
     (bif draw then qW P E nt (ops.toList.take s).toArray true F H else zG P E nt ops.toList (ops.toList.take s) F H) fun F H =>
      a2S P E nt ks ops o rest F H (fun F H => IF aT F fun F => k .normal F H) (fun F H => kx .normal F H)
    else none
   | [] => none
   else none
 | .seq a b, F, H, k, kx => xT a F H (fun ex F H => match ex with
  | .normal => xT b F H k kx
  | .exit i => k (.exit i) F H
  | .ret => k .ret F H) (fun ex F H => match ex with
  | .normal => rI P E nt aT lt (fun _ => none) true [] b F H kx
  | .exit i => kx (.exit i) F H
  | .ret => kx .ret F H)
 | .cond c a b, F, H, k, kx => match ev F c with
  | .lit (.bool t) => aI5 F c t fun F t => bif t then xT a F H k kx else xT b F H k kx
  | _ => none
 | .block id a, F, H, k, kx => xT a F H (fun ex F H => match ex with
  | .exit i => bif Nat.beq i id then k .normal F H else k (.exit i) F H
  | .normal => k .normal F H
  | .ret => k .ret F H) (fun ex F H => match ex with
  | .exit i => bif Nat.beq i id then kx .normal F H else kx (.exit i) F H
  | .normal => kx .normal F H
  | .ret => kx .ret F H)
 | .loop a, F, H, k, _ => match li (aG a) with
  | some s => match pF [] s.sh F H with
   | some x => aI2 (s.run x) fun z => aKF s.exits z k
   | none => none
  | none => match lt (aG a) with
   | some s => match pF [] s.sh F H with
    | some x => aB (s.run x) fun z => aKF s.exits z k
    | none => none
   | none => none
 | .exit id, F, H, k, _ => k (.exit id) F H
 | .ret, F, H, k, _ => k .ret F H
 | _, _, _, _, _ => none
end
def aWC : Ex → Frm → Heap → Option Unit := fun ex _ _ => match ex with
 | .ret => some ()
 | _ => none
def aRZ {Y : Type} (sh : List (Nat × Kd)) (exits : List (Ex × List (Nat × Kd))) (ex : Ex) (F : Frm) (H : Heap) : Option (List Y × (Shape.den sh ⊕ aU exits)) := match VJ [] sh exits ex F H with
 | some z => some ([], z)
 | none => none
def aK5 (P : Program) (E : Env) (nt aT : Nat) (lt : Nat → Option aR) (ks : List Kd) (li : Nat → Option (EF (Value × aH ks))) (a : Code) (sh : List (Nat × Kd)) (exits : List (Ex × List (Nat × Kd))) (x : Shape.den sh) : Option (List (Value × aH ks) × (Shape.den sh ⊕ aU exits)) :=
 xT P E nt aT lt ks li a (oY sh x 0) (vR sh x) (aRZ sh exits) aWC
def QY {Y σ τ : Type} (step : σ → Option (List Y × (σ ⊕ τ))) : Nat → σ → Option (List Y × τ)
 | 0, _ => none
 | n + 1, x => match step x with
  | some (l, .inl y) => outs l (QY step n y)
  | some (l, .inr z) => some (l, z)
  | none => none

theorem SN {Y α : Type} {l : List Y} {r : Option (List Y × α)} {m : List Y} {z : α} (h : outs l r = some (m, z)) : ∃ m', r = some (m', z) ∧ m = l ++ m' := by
 cases r with
 | none => cases h
 | some p =>
  obtain ⟨m', z'⟩ := p
  simp only [outs, Option.some.injEq, Prod.mk.injEq] at h
  obtain ⟨h1, h2⟩ := h
  subst h2
  exact ⟨m', rfl, h1.symm⟩

section
variable {P : Program} {E : Env} {nt aT : Nat} {lt : Nat → Option aR} {ks : List Kd} {li : Nat → Option (EF (Value × aH ks))}
variable {Φ : (Nat → Prop) → (Nat → Prop) → World → Prop} {G0 G G' : Gd} {μ μ' : Mp} {H H' : Heap} {A A' W : World} {F F' : Frm} {n : Nat} {a : Act}
theorem Sg.aUA (h : Sg Φ G0 G μ H A) : ∃ n0, aV n0 G μ H A ∧ (∀ b, G0 b → G b) ∧ ∀ A' G' μ' H', Ext n0 A G aK A' G' μ' → aV n0 G' μ' H' A' → Sg Φ G0 G' μ' H' A' := by
 obtain ⟨T, X, B, GB, μB, h1, h2, h3, h4, h5, h6, h7⟩ := h
 refine ⟨_, h7, fun b hb => (h6.good b (h5 b hb)).1, fun A' G' μ' H' e w => ⟨T, X, B, GB, aK, h1, h2, h3, h4, h5, ?_, w⟩⟩
 have h6' : Ext (fun b => X b ∨ B.heap.size ≤ b) B GB aK A G aK := h6.plain
 exact h6'.trans e
theorem aMP {c : Code} {r : Ex × Frm × Heap} (h : aHD P nt true [] c F H r) {Q : Exit → Act → World → Prop} (hS : Sg Φ G0 G μ H A) (hF : eF A G μ nt F a)
  (hQ : ∀ G' μ' a' A', Sg Φ G0 G' μ' r.2.2 A' → eF A' G' μ' nt r.2.1 a' → Q r.1.to a' A') : c.wpIn Fence.wide n P Q a A := by
 obtain ⟨n0, hW, _, hS2⟩ := hS.aUA
 have e0 : Ext n0 A G aK A G μ := { good := fun _ h => ⟨h, rfl⟩, map := fun _ _ h => (by cases h), len := fun _ _ h => (by cases h), room := fun _ _ h => h, row := fun _ _ h => h, os := rfl, tape := rfl, output := rfl, size := Nat.le_refl _, drawn := Nat.le_refl _, old := fun _ _ _ => rfl, new := fun _ h => .inl h }
 refine wpIn_mono (h none n n0 A G aK a A (fun h => (by cases h)) (fun r _ => ⟨rfl, rfl⟩) ⟨G, μ, e0, hW, hF.same, by rw [hF.defers]; trivial⟩) ?_
 rintro e a' w' ⟨rfl, ⟨G', μ', e', hW', hF', _⟩, hd⟩
 refine hQ G' μ' a' w' (hS2 _ _ _ _ e' hW') ⟨hF'.size, hF'.slot, ?_⟩
 rw [hd rfl]; exact hF.defers

def a5A (P : Program) (ks : List Kd) (l : Nat) (G0 : Gd) (all : List (aH ks)) (J Jx : List (aH ks) → (Nat → Prop) → (Nat → Prop) → World → Prop) : Prop :=
 ∀ pre e post T X B T' X' A us Gx m', all = pre ++ e :: post → J pre T X B → Stp X B A → (∀ b, T' b → (T b ∨ B.heap.size ≤ b) ∧ b < A.heap.size) → (∀ b, X' b → T' b ∧ (X b ∨ B.heap.size ≤ b)) →
   (∀ b, Gx b → (G0 b ∨ T' b) ∧ ¬ X' b) → VRs A (Gd.of Gx) aK (hX ks e) us →
   YieldAt Fence.wide m' P l us.toArray A fun en C =>
    ((∀ b, b < A.heap.size → G0 b ∨ T' b → C.heap[b]? = A.heap[b]?) ∧ (∀ b n, Room A b n → Room C b n) ∧ A.heap.size ≤ C.heap.size ∧ A.drawn ≤ C.drawn) ∧ ((en = .returned (.bool true) ∧ J (pre ++ [e]) T' X' C) ∨ (en = .returned (.bool false) ∧ Jx (pre ++ [e]) T' X' C))
def aSD (P : Program) (nt : Nat) (ks : List Kd) (c : Code) (F : Frm) (H : Heap) (ys : List (Value × aH ks)) (r : Ex × Frm × Heap) (kx : Ex → Frm → Heap → Option Unit) : Prop :=
 ∀ (l : Nat) (yv : Value), yv = .func (.yield l) #[] #[] → ∀ (G0 : Gd) (all : List (aH ks)) (J Jx : List (aH ks) → (Nat → Prop) → (Nat → Prop) → World → Prop), a5A P ks l G0 all J Jx →
  ∀ (pre post : List (aH ks)) (n : Nat) (a : Act) (A : World) (G : Gd) (μ : Mp), all = pre ++ (ys.map (·.2) ++ post) → (∀ y ∈ ys, y.1 = yv) → Sg (J pre) G0 G μ H A → eF A G μ nt F a →
  c.wpIn Fence.wide n P (fun e a' A' => (e = r.1.to ∧ ∃ G' μ', Sg (J (pre ++ ys.map (·.2))) G0 G' μ' r.2.2 A' ∧ eF A' G' μ' nt r.2.1 a') ∨
   (∃ ex' F' H' pre' G' μ', kx ex' F' H' = some () ∧ e = ex'.to ∧ Sg (Jx pre') G0 G' μ' H' A' ∧ eF A' G' μ' nt F' a')) a A
def aG9 (P : Program) (nt : Nat) (ks : List Kd) (a : Code) (s : EF (Value × aH ks)) : Prop :=
 ∀ x ys z, s.run x = some (ys, z) → aSD P nt ks (.loop a) (oY s.sh x 0) (vR s.sh x) ys (qY s.exits z) aWC
def UI (P : Program) (nt : Nat) (lt : Nat → Option aR) (ks : List Kd) (li : Nat → Option (EF (Value × aH ks))) : Code → Prop
 | .loop a => (∀ s, lt (aG a) = some s → uR P nt true [] (.loop a) s) ∧ (∀ s, li (aG a) = some s → aG9 P nt ks a s)
 | _ => True

theorem FM {c : Code} {r : Ex × Frm × Heap} {kx : Ex → Frm → Heap → Option Unit} (h : aHD P nt true [] c F H r) : aSD P nt ks c F H [] r kx := by
 intro l yv hyv G0 all J Jx hY pre post n a A G μ hall hys hS hF
 refine aMP h hS hF fun G' μ' a' A' hS' hF' => .inl ⟨rfl, G', μ', ?_, hF'⟩
 rw [List.map_nil, List.append_nil]; exact hS'
theorem aFI (hcl : cN P (dF P E)) (hP : P.follows .mixedOrders = true) {α : Type} {id : Nat} {ops : Array Oper} {draw : Bool} {k : Ex → Frm → Heap → Option α} {z : α} (h : qW P E nt ops draw F H (fun F H => IF aT F fun F => k .normal F H) = some z) (hd : HT ops = true) :
  ∃ r : Ex × Frm × Heap, k r.1 r.2.1 r.2.2 = some z ∧ aHD P nt true [] (.region id ops draw) F H r := by
 obtain ⟨F1, H1, h1, h2⟩ := YD (id := id) hcl hP hd h
 obtain ⟨F2, h3, h4⟩ := vZ aT F1 fun F => k .normal F H1
 rw [h3] at h1
 exact ⟨(.normal, F2, H1), h1, fun _ _ _ _ _ _ _ _ _ _ hI => h2 hI fun a' w' hd' hI' => ⟨rfl, hI'.aN1 h4, fun _ => hd'⟩⟩
theorem Y0 (hcl : cN P (dF P E)) {ops : Array Oper} {l : List Oper} (hrun : EC P (dF P E) nt ops.toList l F H = some (F', H')) (hnd : (l.all fun o => !aFF o.op) = true) {Q : Exit → Act → World → Prop}
  (hS : Sg Φ G0 G μ H A) (hF : eF A G μ nt F a) (hQ : ∀ G' μ' a' A', Sg Φ G0 G' μ' H' A' → eF A' G' μ' nt F' a' → Q .normal a' A') : wpListIn Fence.wide n P ops Q l a A := by
 obtain ⟨n0, hW, _, hS2⟩ := hS.open_
 have h1 := qX (Q := fun e a' w' => e = .normal ∧ I n0 A G μ nt F' H' a' w') hcl l F H a A hrun ⟨G, μ, Ext.refl _ _ _ _, hW, hF⟩ (fun a' w' h => ⟨rfl, h⟩)
 have h2 := PD (ro := none) (n := n) (ds := []) (Q' := Q) (fun a w h => by cases h.1) (fun e a' w' h => by
  obtain ⟨rfl, G', μ', e, hW', hF'⟩ := h
  have e1 : mZ [] a' = a' := by simp [mZ]
  rw [e1]
  exact hQ G' μ' a' w' (hS2 _ _ _ _ e hW') hF') (fun o ho c hc => by
  have := List.all_eq_true.1 hnd o ho
  rw [hc] at this
  cases this) h1
 have e1 : mZ [] a = a := by simp [mZ]
 rw [e1] at h2
 exact h2
theorem aOA (hcl : cN P (dF P E)) (hP : P.follows .mixedOrders = true) {α : Type} {id s : Nat} {ops : Array Oper} {draw : Bool} (hsp : WV ops s = true) {k : Frm → Heap → Option α} {z : α}
  (h : (bif draw then qW P E nt (ops.toList.take s).toArray true F H else zG P E nt ops.toList (ops.toList.take s) F H) k = some z) :
  ∃ F1 H1, k F1 H1 = some z ∧ ∀ {Φ : (Nat → Prop) → (Nat → Prop) → World → Prop} {G0 G : Gd} {μ : Mp} {A : World} {a : Act} {n : Nat} {Q : Exit → Act → World → Prop}, Sg Φ G0 G μ H A → eF A G μ nt F a →
   (∀ G' μ' a' A', Sg Φ G0 G' μ' H1 A' → eF A' G' μ' nt F1 a' → wpListIn Fence.wide n P ops Q (ops.toList.drop s) a' A') → (Code.region id ops draw).wpIn Fence.wide n P Q a A := by
 obtain ⟨F1, H1, hrun, hk⟩ : ∃ F1 H1, (bif draw then HH P (dF P E) nt (ops.toList.take s).toArray F H else EC P (dF P E) nt ops.toList (ops.toList.take s) F H) = some (F1, H1) ∧ k F1 H1 = some z := by
  cases draw with
  | true =>
   simp only [cond_true] at h ⊢
   exact GY h
  | false =>
   simp only [cond_false] at h ⊢
   obtain ⟨F1, H1, h2, h3⟩ := oR h
   exact ⟨F1, H1, h2, h3⟩
 refine ⟨F1, H1, hk, ?_⟩
 intro Φ G0 G μ A a n Q hS hF hQ
 obtain ⟨n0, hW, _, hS2⟩ := hS.open_
 have := aDR (ro := none) (n := n) (ds := []) (Q := Q) hcl hP (id := id) hsp hrun (n0 := n0) (wi := A) (Gi := G) (μi := μ) (a := a) (w := A) ⟨G, μ, Ext.refl _ _ _ _, hW, hF⟩ (fun a' w' h => by
  obtain ⟨G', μ', e, hW', hF'⟩ := h
  have e1 : mZ [] a' = a' := by simp [mZ]
  rw [e1]
  exact hQ G' μ' a' w' (hS2 _ _ _ _ e hW') hF')
 have e1 : mZ [] a = a := by simp [mZ]
 rw [e1] at this
 exact this
theorem aTY {l : List Operand} (hF : eF A G μ nt F a) : VRs A G μ (l.map (ev F)) (l.map a.eval) := by
 induction l with
 | nil => rw [List.map_nil, List.map_nil, VRs]
 | cons x l ih =>
  rw [List.map_cons, List.map_cons, VRs]
  exact ⟨_, _, rfl, cF hF x, ih⟩

theorem oM {α : Type} (hcl : cN P (dF P E)) (hP : P.follows .mixedOrders = true) : ∀ (c : Code) (F : Frm) (H : Heap) (k : Ex → Frm → Heap → Option (List (Value × aH ks) × α)) (kx : Ex → Frm → Heap → Option Unit) (ys : List (Value × aH ks)) (z : α),
  (∀ F H, kx .ret F H = some ()) → (∀ a ∈ cC c, UI P nt lt ks li a) → xT P E nt aT lt ks li c F H k kx = some (ys, z) →
  ∃ ys1 ys2 r, k r.1 r.2.1 r.2.2 = some (ys2, z) ∧ ys = ys1 ++ ys2 ∧ aSD P nt ks c F H ys1 r kx
 | .skip, F, H, k, kx, ys, z, hx, hl, h => ⟨[], ys, (.normal, F, H), h, rfl, FM fun _ _ _ _ _ _ _ _ _ _ hI => wpIn_skip ⟨rfl, hI, fun _ => rfl⟩⟩
 | .label l, F, H, k, kx, ys, z, hx, hl, h => ⟨[], ys, (.normal, F, H), h, rfl, FM fun _ _ _ _ _ _ _ _ _ _ hI => wpIn_label ⟨rfl, hI, fun _ => rfl⟩⟩
 | .exit id, F, H, k, kx, ys, z, hx, hl, h => ⟨[], ys, (.exit id, F, H), h, rfl, FM fun _ _ _ _ _ _ _ _ _ _ hI => wpIn_exit ⟨rfl, hI, fun _ => rfl⟩⟩
 | .ret, F, H, k, kx, ys, z, hx, hl, h => ⟨[], ys, (.ret, F, H), h, rfl, FM fun _ _ _ _ _ _ _ _ _ _ hI => wpIn_ret ⟨rfl, hI, fun _ => rfl⟩⟩
 | .region id ops draw, F, H, k, kx, ys, z, hx, hl, h => by
  simp only [xT] at h
  split at h
  ·obtain ⟨hd, h⟩ := aI h
   obtain ⟨r, h1, h2⟩ := aFI (id := id) hcl hP h hd
   exact ⟨[], ys, r, h1, rfl, FM h2⟩
  ·rename_i s hs
   obtain ⟨hsp, h⟩ := aI h
   split at h
   ·rename_i o rest hdrop
    obtain ⟨hnd, h⟩ := aI h
    obtain ⟨F1, H1, hk, hsplit⟩ := aOA (id := id) hcl hP hsp h
    unfold a2S at hk
    obtain ⟨b, hg, hk⟩ := UT hk
    cases b with
    | true =>
     simp only [cond_true] at hk
     split at hk
     ·rename_i c hoc
      split at hk
      ·rename_i f hcf
       split at hk
       ·rename_i yv hyv
        obtain ⟨hnr, hk⟩ := aI hk
        rw [Bool.and_eq_true] at hnr
        obtain ⟨hnr, hplk⟩ := hnr
        split at hk
        ·rename_i e he
         split at hk
         ·rename_i F2 F3 hp2 hp3
          split at hk
          ·rename_i u hstop
           obtain ⟨ys2, hlive, rfl⟩ := SN hk
           obtain ⟨F4, H4, hrun4, hk4⟩ := oR hlive
           obtain ⟨F5, H5, hrun5, hk5⟩ := oR hstop
           obtain ⟨F6, h6, h7⟩ := vZ aT F4 fun F => k .normal F H4
           rw [h6] at hk4
           refine ⟨[(yv, e)], ys2, (.normal, F6, H4), hk4, rfl, ?_⟩
           intro l yv' hyv' G0 all J Jx hY pre post n a A G μ hall hys hS hF
           have hyy := hys _ (List.mem_singleton.2 rfl)
           dsimp only at hyy
           subst hyy
           refine hsplit hS hF fun G1 μ1 a1 A1 hS1 hF1 => ?_
           rw [hdrop]
           have hw := pL hF1 hg
           have hv := aTY (l := c.args.toList) hF1
           have hv0 := cK _ _ hnr hv
           have hve := wS ks he hv0
           have hfe := cF hF1 f
           rw [hyv, VR] at hfe
           have hall' : all = pre ++ e :: post := by rw [hall]; rfl
           refine aRS hoc hcf hw (hfe.trans hyv') (us := (c.args.toList.map a1.eval).toArray) (by rw [← Array.toList_map]) (fun m' => hS1.yield hY hall' hve (aAK ks e hplk) m') ?_
           rintro en C ⟨hmo, hout⟩
           rcases hout with ⟨rfl, hS2⟩ | ⟨rfl, hS2⟩
           ·refine ⟨_, rfl, Y0 hcl hrun4 hnd hS2 ((hF1.mono hmo).XP hp2 (by rw [VR])) fun G2 μ2 a2 A2 hS3 hF3 => .inl ⟨rfl, G2, μ2, hS3, ?_⟩⟩
            exact ⟨hF3.size, fun t => by
             rcases h7 t with h8 | h8
             ·rw [h8]; exact hF3.slot t
             ·rw [h8, VR]; trivial, hF3.defers⟩
           ·exact ⟨_, rfl, Y0 hcl hrun5 hnd hS2 ((hF1.mono hmo).XP hp3 (by rw [VR])) fun G2 μ2 a2 A2 hS3 hF3 => .inr ⟨.normal, F5, H5, _, G2, μ2, hk5, rfl, hS3, hF3⟩⟩
          ·cases hk
         ·cases hk
        ·cases hk
       ·cases hk
      ·cases hk
     ·cases hk
    | false =>
     simp only [cond_false] at hk
     split at hk
     ·rename_i F2 hp2
      obtain ⟨F4, H4, hrun4, hk4⟩ := oR hk
      obtain ⟨F6, h6, h7⟩ := vZ aT F4 fun F => k .normal F H4
      rw [h6] at hk4
      refine ⟨[], ys, (.normal, F6, H4), hk4, rfl, ?_⟩
      intro l yv' hyv' G0 all J Jx hY pre post n a A G μ hall hys hS hF
      refine hsplit hS hF fun G1 μ1 a1 A1 hS1 hF1 => ?_
      rw [hdrop]
      refine aWJ (pL hF1 hg) (Y0 hcl hrun4 hnd hS1 (hF1.XP hp2 (by rw [VR])) fun G2 μ2 a2 A2 hS3 hF3 => .inl ⟨rfl, G2, μ2, ?_, ?_⟩)
      ·rw [List.map_nil, List.append_nil]; exact hS3
      ·exact ⟨hF3.size, fun t => by
        rcases h7 t with h8 | h8
        ·rw [h8]; exact hF3.slot t
        ·rw [h8, VR]; trivial, hF3.defers⟩
     ·cases hk
   ·cases h
 | .seq x y, F, H, k, kx, ys, z, hx, hl, h => by
  simp only [xT] at h
  obtain ⟨ys1, ys2, ⟨ex, F1, H1⟩, h1, rfl, h2⟩ := oM hcl hP x F H _ _ ys z (by intro F H; exact hx F H) (fun a ha => hl a (by simp [cC, ha])) h
  have stop : ∀ {l : Nat} {yv : Value} {G0 : Gd} {all : List (aH ks)} {J Jx : List (aH ks) → (Nat → Prop) → (Nat → Prop) → World → Prop} {n : Nat} {R : Exit → Act → World → Prop},
    (∀ e a' A', (∃ ex' F' H' pre' G' μ', kx ex' F' H' = some () ∧ e = ex'.to ∧ Sg (Jx pre') G0 G' μ' H' A' ∧ eF A' G' μ' nt F' a') → R e a' A') → ∀ ex' F' H' pre' G' μ' a' A',
    (match ex' with
     | Ex.normal => rI P E nt aT lt (fun _ => none) true [] y F' H' kx
     | Ex.exit i => kx (Ex.exit i) F' H'
     | Ex.ret => kx Ex.ret F' H') = some () → Sg (Jx pre') G0 G' μ' H' A' → eF A' G' μ' nt F' a' →
    Exit.then (y.wpIn Fence.wide n P R) R ex'.to a' A' := by
   intro l yv G0 all J Jx n R hR ex' F' H' pre' G' μ' a' A' hm hS hF
   cases ex' with
   | normal =>
    obtain ⟨r, h3, h4⟩ := jE hcl hP y F' H' kx () (fun a ha => by
     have := hl a (by simp [cC, ha])
     cases a with
     | loop b => exact this.1
     | rangeFunc g ps as1 b => intro h; cases h
     | _ => trivial) hm
    refine aMP h4 hS hF fun G2 μ2 a2 A2 hS2 hF2 => hR _ _ _ ⟨r.1, r.2.1, r.2.2, pre', G2, μ2, h3, rfl, hS2, hF2⟩
   | exit i => exact hR _ _ _ ⟨.exit i, F', H', pre', G', μ', hm, rfl, hS, hF⟩
   | ret => exact hR _ _ _ ⟨.ret, F', H', pre', G', μ', hm, rfl, hS, hF⟩
  cases ex with
  | normal =>
   obtain ⟨ys3, ys4, r, h3, rfl, h4⟩ := oM hcl hP y F1 H1 k kx ys2 z hx (fun a ha => hl a (by simp [cC, ha])) h1
   refine ⟨ys1 ++ ys3, ys4, r, h3, by rw [List.append_assoc], ?_⟩
   intro l yv hyv G0 all J Jx hY pre post n a A G μ hall hys hS hF
   refine wpIn_seq (wpIn_mono (h2 l yv hyv G0 all J Jx hY pre (ys3.map (·.2) ++ post) n a A G μ (by rw [hall, List.map_append, List.append_assoc]) (fun y hy => hys y (List.mem_append_left _ hy)) hS hF) ?_)
   rintro e a' w' (⟨rfl, G', μ', hS', hF'⟩ | ⟨ex', F', H', pre', G', μ', hm, rfl, hS', hF'⟩)
   ·refine wpIn_mono (h4 l yv hyv G0 all J Jx hY (pre ++ ys1.map (·.2)) post n a' w' G' μ' (by rw [hall, List.map_append, List.append_assoc, List.append_assoc]) (fun y hy => hys y (List.mem_append_right _ hy)) hS' hF') ?_
    rintro e a'' w'' (⟨rfl, G2, μ2, hS2, hF2⟩ | hst)
    ·refine .inl ⟨rfl, G2, μ2, ?_, hF2⟩
     rw [List.map_append, ← List.append_assoc]; exact hS2
    ·exact .inr hst
   ·exact stop (l := l) (yv := yv) (all := all) (J := J) (fun e a' A' h => Or.inr h) ex' F' H' pre' G' μ' a' w' hm hS' hF'
  | exit i =>
   refine ⟨ys1, ys2, (.exit i, F1, H1), h1, rfl, ?_⟩
   intro l yv hyv G0 all J Jx hY pre post n a A G μ hall hys hS hF
   refine wpIn_seq (wpIn_mono (h2 l yv hyv G0 all J Jx hY pre post n a A G μ hall hys hS hF) ?_)
   rintro e a' w' (⟨rfl, G', μ', hS', hF'⟩ | ⟨ex', F', H', pre', G', μ', hm, rfl, hS', hF'⟩)
   ·exact .inl ⟨rfl, G', μ', hS', hF'⟩
   ·exact stop (l := l) (yv := yv) (all := all) (J := J) (fun e a' A' h => Or.inr h) ex' F' H' pre' G' μ' a' w' hm hS' hF'
  | ret =>
   refine ⟨ys1, ys2, (.ret, F1, H1), h1, rfl, ?_⟩
   intro l yv hyv G0 all J Jx hY pre post n a A G μ hall hys hS hF
   refine wpIn_seq (wpIn_mono (h2 l yv hyv G0 all J Jx hY pre post n a A G μ hall hys hS hF) ?_)
   rintro e a' w' (⟨rfl, G', μ', hS', hF'⟩ | ⟨ex', F', H', pre', G', μ', hm, rfl, hS', hF'⟩)
   ·exact .inl ⟨rfl, G', μ', hS', hF'⟩
   ·exact stop (l := l) (yv := yv) (all := all) (J := J) (fun e a' A' h => Or.inr h) ex' F' H' pre' G' μ' a' w' hm hS' hF'
 | .cond c x y, F, H, k, kx, ys, z, hx, hl, h => by
  simp only [xT] at h
  split at h
  ·rename_i t ht
   replace h := AG h ht
   have hc : ∀ {A : World} {G : Gd} {μ : Mp} {a : Act}, eF A G μ nt F a → a.eval c = .bool t := fun {A G μ a} hF => by
    have hc := cF hF c
    rw [ht, VR] at hc
    exact hc
   cases t with
   | true =>
    obtain ⟨ys1, ys2, r, h3, h4, h5⟩ := oM hcl hP x F H k kx ys z hx (fun a ha => hl a (by simp [cC, ha])) h
    exact ⟨ys1, ys2, r, h3, h4, fun l yv hyv G0 all J Jx hY pre post n a A G μ hall hys hS hF => wpIn_cond (hc hF) (h5 l yv hyv G0 all J Jx hY pre post n a A G μ hall hys hS hF)⟩
   | false =>
    obtain ⟨ys1, ys2, r, h3, h4, h5⟩ := oM hcl hP y F H k kx ys z hx (fun a ha => hl a (by simp [cC, ha])) h
    exact ⟨ys1, ys2, r, h3, h4, fun l yv hyv G0 all J Jx hY pre post n a A G μ hall hys hS hF => wpIn_cond (hc hF) (h5 l yv hyv G0 all J Jx hY pre post n a A G μ hall hys hS hF)⟩
  ·cases h
 | .block id x, F, H, k, kx, ys, z, hx, hl, h => by
  simp only [xT] at h
  obtain ⟨ys1, ys2, ⟨ex, F1, H1⟩, h1, rfl, h2⟩ := oM hcl hP x F H _ _ ys z (by intro F H; exact hx F H) (fun a ha => hl a (by simp [cC, ha])) h
  have stop : ∀ (ex' : Ex) (F' : Frm) (H' : Heap), (match ex' with
     | Ex.exit i => bif Nat.beq i id then kx .normal F' H' else kx (.exit i) F' H'
     | Ex.normal => kx Ex.normal F' H'
     | Ex.ret => kx Ex.ret F' H') = some () → ∃ ex2 : Ex, kx ex2 F' H' = some () ∧ ∀ (Q : Exit → Act → World → Prop) a w, Q ex2.to a w → ex'.to.inBlock id Q a w := by
   intro ex' F' H' hm
   cases ex' with
   | normal => exact ⟨.normal, hm, fun Q a w h => h⟩
   | ret => exact ⟨.ret, hm, fun Q a w h => h⟩
   | exit i =>
    simp only at hm
    cases hi : Nat.beq i id with
    | true =>
     rw [hi] at hm
     have := Nat.eq_of_beq_eq_true hi
     subst this
     exact ⟨.normal, hm, fun Q a w h => by simp only [Ex.to, Exit.inBlock, if_true]; exact h⟩
    | false =>
     rw [hi] at hm
     have hne : ¬ i = id := fun e => by rw [e] at hi; simp at hi
     exact ⟨.exit i, hm, fun Q a w h => by simp only [Ex.to, Exit.inBlock, hne, if_false]; exact h⟩
  have live : ∃ ex2 : Ex, k ex2 F1 H1 = some (ys2, z) ∧ ∀ (Q : Exit → Act → World → Prop) a w, Q ex2.to a w → ex.to.inBlock id Q a w := by
   cases ex with
   | normal => exact ⟨.normal, h1, fun Q a w h => h⟩
   | ret => exact ⟨.ret, h1, fun Q a w h => h⟩
   | exit i =>
    simp only at h1
    cases hi : Nat.beq i id with
    | true =>
     rw [hi] at h1
     have := Nat.eq_of_beq_eq_true hi
     subst this
     exact ⟨.normal, h1, fun Q a w h => by simp only [Ex.to, Exit.inBlock, if_true]; exact h⟩
    | false =>
     rw [hi] at h1
     have hne : ¬ i = id := fun e => by rw [e] at hi; simp at hi
     exact ⟨.exit i, h1, fun Q a w h => by simp only [Ex.to, Exit.inBlock, hne, if_false]; exact h⟩
  obtain ⟨ex2, hk2, hex2⟩ := live
  refine ⟨ys1, ys2, (ex2, F1, H1), hk2, rfl, ?_⟩
  intro l yv hyv G0 all J Jx hY pre post n a A G μ hall hys hS hF
  refine wpIn_block (wpIn_mono (h2 l yv hyv G0 all J Jx hY pre post n a A G μ hall hys hS hF) ?_)
  rintro e a' w' (⟨rfl, G', μ', hS', hF'⟩ | ⟨ex', F', H', pre', G', μ', hm, rfl, hS', hF'⟩)
  ·exact hex2 _ _ _ (Or.inl ⟨rfl, G', μ', hS', hF'⟩)
  ·obtain ⟨ex3, h3, h4⟩ := stop ex' F' H' hm
   exact h4 _ _ _ (Or.inr ⟨ex3, F', H', pre', G', μ', h3, rfl, hS', hF'⟩)
 | .loop x, F, H, k, kx, ys, z, hx, hl, h => by
  simp only [xT] at h
  have hsub := hl (.loop x) (by simp [cC])
  split at h
  ·rename_i s hs
   split at h
   ·rename_i x0 hx0
    unfold aI2 at h
    split at h
    ·rename_i ys1 z1 hr
     obtain ⟨ys2, h1, rfl⟩ := SN h
     refine ⟨ys1, ys2, qY s.exits z1, AD h1, rfl, ?_⟩
     intro l yv hyv G0 all J Jx hY pre post n a A G μ hall hys hS hF
     obtain ⟨n0, hW, _, hS2⟩ := hS.aUA
     have e0 : Ext n0 A G aK A G μ := { good := fun _ h => ⟨h, rfl⟩, map := fun _ _ h => (by cases h), len := fun _ _ h => (by cases h), room := fun _ _ h => h, row := fun _ _ h => h, os := rfl, tape := rfl, output := rfl, size := Nat.le_refl _, drawn := Nat.le_refl _, old := fun _ _ _ => rfl, new := fun _ h => .inl h }
     obtain ⟨G1, μ1, e1, hW1, hF1⟩ := uU hx0 (fun r _ => ⟨rfl, rfl⟩) (⟨G, μ, e0, hW, hF⟩ : I n0 A G aK nt F H a A)
     refine wpIn_mono (hsub.2 s hs x0 ys1 z1 hr l yv hyv G0 all J Jx hY pre post n a A G1 μ1 hall hys (hS2 _ _ _ _ e1 hW1) hF1) ?_
     rintro e a' w' (h | ⟨ex', F', H', pre', G', μ', hm, rfl, hS', hF'⟩)
     ·exact .inl h
     ·refine .inr ⟨ex', F', H', pre', G', μ', ?_, rfl, hS', hF'⟩
      cases ex' with
      | ret => exact hx F' H'
      | normal => cases hm
      | exit i => cases hm
    ·cases h
   ·cases h
  ·split at h
   ·rename_i s hs
    split at h
    ·rename_i x0 hx0
     obtain ⟨y, h1, h2⟩ := nQ h
     refine ⟨[], ys, qY s.exits y, AD h2, rfl, FM fun ro n n0 wi Gi μi a w hro hfl hI => ?_⟩
     exact hsub.1 s hs x0 y h1 ro n n0 wi Gi μi a w hro hfl (hI.dec hfl hx0)
    ·cases h
   ·cases h
 | .scope x, F, H, k, kx, ys, z, hx, hl, h => by simp only [xT] at h; cases h
 | .rangeFunc g ps as1 x, F, H, k, kx, ys, z, hx, hl, h => by simp only [xT] at h; cases h
 | .goto l, F, H, k, kx, ys, z, hx, hl, h => by simp only [xT] at h; cases h
 | .refuse s, F, H, k, kx, ys, z, hx, hl, h => by simp only [xT] at h; cases h

theorem aDJ {Y : Type} {sh : List (Nat × Kd)} {exits : List (Ex × List (Nat × Kd))} {ex : Ex} {F : Frm} {H : Heap} {l : List Y} {y : Shape.den sh ⊕ aU exits} (h : aRZ sh exits ex F H = some (l, y)) : l = [] ∧ VJ [] sh exits ex F H = some y := by
 unfold aRZ at h
 split at h
 ·rename_i z hz
  simp only [Option.some.injEq, Prod.mk.injEq] at h
  obtain ⟨h1, h2⟩ := h
  subst h2
  exact ⟨h1.symm, hz⟩
 ·cases h
theorem aMN {F1 : Frm} {H1 : Heap} (hs : ∀ {n0 : Nat → Prop}, I n0 A G aK nt F H a A → I n0 A G aK nt F1 H1 a A) (hS : Sg Φ G0 G μ H A) (hF : eF A G μ nt F a) : ∃ G' μ', Sg Φ G0 G' μ' H1 A ∧ eF A G' μ' nt F1 a := by
 obtain ⟨n0, hW, _, hS2⟩ := hS.aUA
 have e0 : Ext n0 A G aK A G μ := { good := fun _ h => ⟨h, rfl⟩, map := fun _ _ h => (by cases h), len := fun _ _ h => (by cases h), room := fun _ _ h => h, row := fun _ _ h => h, os := rfl, tape := rfl, output := rfl, size := Nat.le_refl _, drawn := Nat.le_refl _, old := fun _ _ _ => rfl, new := fun _ h => .inl h }
 obtain ⟨G1, μ1, e1, hW1, hF1⟩ := hs ⟨G, μ, e0, hW, hF⟩
 exact ⟨G1, μ1, hS2 _ _ _ _ e1 hW1, hF1⟩
theorem aE6 : ∀ {l : List (Ex × List (Nat × Kd))} {z : aU l} {ex : Ex}, D3 [] l ex F H = some z → (qY l z).1 = ex ∧ ∀ {n0 : Nat → Prop}, I n0 A G aK nt F H a A → I n0 A G aK nt (qY l z).2.1 (qY l z).2.2 a A := by
 intro l z ex h
 obtain ⟨h1, sh, x, h2, h3, h4⟩ := zD h
 refine ⟨h1, fun hI => ?_⟩
 rw [h3, h4]
 exact uU h2 (fun r _ => ⟨rfl, rfl⟩) hI
theorem aGZ (hcl : cN P (dF P E)) (hP : P.follows .mixedOrders = true) {b : Code} {sh : List (Nat × Kd)} {exits : List (Ex × List (Nat × Kd))} {step : Shape.den sh → Option (List (Value × aH ks) × (Shape.den sh ⊕ aU exits))} (L : Nat)
  (hl : ∀ a ∈ cC b, UI P nt lt ks li a) (hr : ∀ x, aK5 P E nt aT lt ks li b sh exits x = step x) : aG9 P nt ks b ⟨sh, exits, QY step L⟩ := by
 intro x ys z hz l yv hyv G0 all J Jx hY pre post n a A G μ hall hys hS hF
 refine wpIn_loop_ghost (fun k a A => ∃ pre1 ys1 x G μ, QY step k x = some (ys1, z) ∧ pre ++ ys.map (·.2) = pre1 ++ ys1.map (·.2) ∧ (∀ y ∈ ys1, y.1 = yv) ∧ Sg (J pre1) G0 G μ (vR sh x) A ∧ eF A G μ nt (oY sh x 0) a) L ⟨pre, ys, x, G, μ, hz, rfl, hys, hS, hF⟩ ?_
 rintro k a1 A1 ⟨pre1, ys1, x, G, μ, hz, hpre, hys1, hS, hF⟩
 cases k with
 | zero => cases hz
 | succ k =>
  simp only [QY] at hz
  have hall1 : all = pre1 ++ (ys1.map (·.2) ++ post) := by rw [hall, ← List.append_assoc, hpre, List.append_assoc]
  split at hz
  ·rename_i m y hs
   obtain ⟨m2, hz2, rfl⟩ := SN hz
   rw [← hr] at hs
   obtain ⟨y1, y2, ⟨ex, F', H'⟩, h1, h2, h3⟩ := oM hcl hP b _ _ _ aWC m _ (fun _ _ => rfl) hl hs
   obtain ⟨e1, h4⟩ := aDJ h1
   clear h1
   subst e1
   rw [List.append_nil] at h2
   subst h2
   refine wpIn_mono (h3 l yv hyv G0 all J Jx hY pre1 (m2.map (·.2) ++ post) n a1 A1 G μ (by rw [hall1, List.map_append, List.append_assoc]) (fun y hy => hys1 y (List.mem_append_left _ hy)) hS hF) ?_
   rintro e a' A' (⟨rfl, G', μ', hS', hF'⟩ | ⟨ex', F', H', pre', G', μ', hm, rfl, hS', hF'⟩)
   ·rcases EM h4 with ⟨y', e1, e2, e3⟩ | ⟨z', e1, _, _⟩
    ·cases e1
     dsimp only at e2
     subst e2
     obtain ⟨G2, μ2, hS2, hF2⟩ := aMN (fun hI => uU e3 (fun r _ => ⟨rfl, rfl⟩) hI) hS' hF'
     exact ⟨k, by omega, _, m2, y, G2, μ2, hz2, by rw [hpre, List.map_append, List.append_assoc], fun y hy => hys1 y (List.mem_append_right _ hy), hS2, hF2⟩
    ·cases e1
   ·cases ex' with
    | ret => exact .inr ⟨.ret, F', H', pre', G', μ', rfl, rfl, hS', hF'⟩
    | normal => cases hm
    | exit i => cases hm
  ·rename_i m y hs
   simp only [Option.some.injEq, Prod.mk.injEq] at hz
   obtain ⟨rfl, rfl⟩ := hz
   rw [← hr] at hs
   obtain ⟨y1, y2, ⟨ex, F', H'⟩, h1, h2, h3⟩ := oM hcl hP b _ _ _ aWC m _ (fun _ _ => rfl) hl hs
   obtain ⟨e1, h4⟩ := aDJ h1
   clear h1
   subst e1
   rw [List.append_nil] at h2
   subst h2
   refine wpIn_mono (h3 l yv hyv G0 all J Jx hY pre1 post n a1 A1 G μ hall1 hys1 hS hF) ?_
   rintro e a' A' (⟨rfl, G', μ', hS', hF'⟩ | ⟨ex', F', H', pre', G', μ', hm, rfl, hS', hF'⟩)
   ·rcases EM h4 with ⟨y', e1, e2, e3⟩ | ⟨z', e1, e2, e3⟩
    ·cases e1
    ·cases e1
     dsimp only at e2 e3
     obtain ⟨h5, h6⟩ := aE6 (A := A') (G := G') (a := a') (nt := nt) e3
     obtain ⟨G2, μ2, hS2, hF2⟩ := aMN (fun hI => h6 hI) hS' hF'
     have hout : (Exit.normal ≠ ex.to → True) := fun _ => trivial
     cases ex with
     | normal => exact absurd rfl e2
     | exit i => exact .inl ⟨by rw [h5], G2, μ2, by rw [hpre]; exact hS2, hF2⟩
     | ret => exact .inl ⟨by rw [h5], G2, μ2, by rw [hpre]; exact hS2, hF2⟩
   ·cases ex' with
    | ret => exact .inr ⟨.ret, F', H', pre', G', μ', rfl, rfl, hS', hF'⟩
    | normal => cases hm
    | exit i => cases hm
  ·cases hz

def aMV (P : Program) (E : Env) (fn : Func) (aT : Nat) (lt : Nat → Option aR) (ks : List Kd) (li : Nat → Option (EF (Value × aH ks))) (c : Code) (ts : List Ty) (yv : Value) (x : uC ts) : Option (List (Value × aH ks)) :=
 bif Nat.ble (1 + (G9 ts x).length) fn.ntmps then aRB (xT P E fn.ntmps aT lt ks li c (start aT 0 (.lit yv :: G9 ts x)) [] (fun ex _ _ => match ex with
  | .exit _ => none
  | _ => some ([], ())) (fun ex _ _ => match ex with
  | .exit _ => none
  | _ => some ())) else none
theorem aMX (hP : CC P) (hE : aY P E) {g : Nat} {fn : Func} (hg : P.funcs[g]? = some fn) {c : Code} (hc : fn.body = some c) (hres : fn.results = #[]) {ts : List Ty} {f : uC ts → Option (List (aH ks))}
  (hl : ∀ a ∈ cC c, UI P fn.ntmps lt ks li a) (hb : ∀ yv x all, f x = some all → aMV P E fn aT lt ks li c ts yv x = some (all.map fun e => (yv, e))) : OX P g ts ks f := by
 intro x all hall m l W G vs hlt hvs J Jx hY hJ
 obtain ⟨yv, hyv⟩ : ∃ yv : Value, yv = .func (.yield l) #[] #[] := ⟨_, rfl⟩
 have hbx := hb yv x all hall
 unfold aMV at hbx
 obtain ⟨hlen, hbx⟩ := aI hbx
 unfold aRB at hbx
 split at hbx
 ·rename_i l0 u hex
  have hl0 := Option.some.inj hbx
  obtain ⟨ys1, ys2, ⟨ex, F', H'⟩, h1, h2, h3⟩ := oM hE.callee hP.mixed c _ _ _ _ _ _ (fun _ _ => rfl) hl hex
  have hex : (ex = .normal ∨ ex = .ret) ∧ ys2 = [] := by
   cases ex with
   | exit i => cases h1
   | normal =>
    simp only [Option.some.injEq, Prod.mk.injEq] at h1
    exact ⟨.inl rfl, h1.1.symm⟩
   | ret =>
    simp only [Option.some.injEq, Prod.mk.injEq] at h1
    exact ⟨.inr rfl, h1.1.symm⟩
  obtain ⟨hex, rfl⟩ := hex
  rw [List.append_nil] at h2
  subst h2
  have hys : ∀ y ∈ l0, y.1 = yv := by
   intro y hy
   rw [hl0] at hy
   obtain ⟨e, -, rfl⟩ := List.mem_map.1 hy
   rfl
  have hmap : l0.map (·.2) = all := by
   rw [hl0, List.map_map]
   exact List.map_id all
  refine callsIn_of_wp hg hc trivial ?_ rfl
  have hargs : VRs W (Gd.of G) aK (.lit yv :: G9 ts x) ((#[.func (.yield l) #[] #[]] : Array Value) ++ vs.toArray).toList := by
   rw [← hyv]
   simp only [Array.toList_append, List.cons_append, List.nil_append]
   rw [VRs]
   exact ⟨yv, vs, rfl, by rw [VR], hvs⟩
  have hF0 := qL (m := aT) (n := fn.ntmps) hargs (by simpa [Nat.add_comm] using Nat.le_of_ble_eq_true hlen)
  have hS0 : Sg (J []) (Gd.of G) (Gd.of G) aK [] W := Sg.start hlt hJ
  have post : ∀ (ex : Exit) (a : Act) (A : World), (ex = .normal ∨ ex = .ret) → a.defers = [] → ∀ (T X : Nat → Prop) (B : World), Stp X B A → (J all T X B ∨ ∃ pre, Jx pre T X B) →
    bodyPost P fn (fun en C => (∃ v, en = .returned v) ∧ ∃ T X B, Stp X B C ∧ (J all T X B ∨ ∃ pre, Jx pre T X B)) ex a A := by
   intro ex a A hex hd T X B hst hj
   have hr : (results fn a.tmps).run P A = .ok (.tuple #[]) A := by simp [results, hres]
   rcases hex with rfl | rfl
   ·exact ⟨hd, _, hr, ⟨_, rfl⟩, T, X, B, hst, hj⟩
   ·exact ⟨hd, _, hr, ⟨_, rfl⟩, T, X, B, hst, hj⟩
  refine wpIn_mono (h3 l yv hyv (Gd.of G) all J Jx hY [] [] m _ W (Gd.of G) aK (by rw [hmap]; simp) hys hS0 hF0) ?_
  rintro e a' A' (⟨rfl, G', μ', hS', hF'⟩ | ⟨ex', F', H', pre', G', μ', hm, rfl, hS', hF'⟩)
  ·obtain ⟨T, X, B, hst, hj⟩ := hS'.stp
   rw [List.nil_append, hmap] at hj
   refine post _ a' A' ?_ hF'.defers T X B hst (.inl hj)
   rcases hex with rfl | rfl
   ·exact .inl rfl
   ·exact .inr rfl
  ·obtain ⟨T, X, B, hst, hj⟩ := hS'.stp
   refine post _ a' A' ?_ hF'.defers T X B hst (.inr ⟨_, hj⟩)
   cases ex' with
   | normal => exact .inl rfl
   | ret => exact .inr rfl
   | exit i => cases hm
 ·cases hbx
theorem aN6 {a : Code} {i : Nat} {s0 : aR} (hf : aG a = i) (hlt : lt i = some s0) (hli : li i = none) (h : uR P nt true [] (.loop a) s0) : UI P nt lt ks li (.loop a) := by
 refine ⟨fun s hs => ?_, fun s hs => ?_⟩
 ·rw [hf, hlt] at hs
  cases hs
  exact h
 ·rw [hf, hli] at hs
  cases hs
theorem aHV {a : Code} {i : Nat} {s0 : EF (Value × aH ks)} (hf : aG a = i) (hlt : lt i = none) (hli : li i = some s0) (h : aG9 P nt ks a s0) : UI P nt lt ks li (.loop a) := by
 refine ⟨fun s hs => ?_, fun s hs => ?_⟩
 ·rw [hf, hlt] at hs
  cases hs
 ·rw [hf, hli] at hs
  cases hs
  exact h
def X8 (P : Program) (nt : Nat) (lt : Nat → Option aR) (ks : List Kd) (li : Nat → Option (EF (Value × aH ks))) : List Code → Prop
 | [] => True
 | c :: r => UI P nt lt ks li c ∧ X8 P nt lt ks li r
theorem QD : ∀ {l : List Code}, X8 P nt lt ks li l → ∀ a ∈ l, UI P nt lt ks li a
 | [], _, a, ha => by cases ha
 | c :: r, h, a, ha => by
  rcases List.mem_cons.1 ha with rfl | ha
  ·exact h.1
  ·exact QD h.2 a ha
theorem PA {c : Code} {l : List Code} (hc : cC c = l) (h : X8 P nt lt ks li l) : ∀ a ∈ cC c, UI P nt lt ks li a := by
 rw [hc]; exact QD h
end
end Go.PM
set_option linter.unusedSimpArgs false
set_option linter.unusedVariables false
namespace Go.PM
open Go Go.RowKit Go.Proofs
set_option maxRecDepth 100000
set_option maxHeartbeats 4000000
/-! schisma/isomorphy.turns$1 -/
abbrev LM : List (Nat × Kd) := [(0, .val), (1, .ptr (.list TyF)), (4, .box 27 TyB), (5, .bool), (8, .int .i64), (26, .list TyF), (27, .int .i64), (28, .int .i64)]
abbrev RO : List (Ex × List (Nat × Kd)) := [(.exit 2, [(0, .val), (1, .ptr (.list TyF)), (4, .box 27 TyB), (5, .bool), (8, .int .i64)])]
def aCC (x : Shape.den LM) : Option (Shape.den LM ⊕ aU RO) := match x with
 | (v0, v1, v4, v5, v8, v26, v27, v28, ()) =>
  bif ltI v28 v27 then
   bif aQ v28 v26.length then bif v5 then
    aB (f63 (v1, ((aL .i64 ((aL .i64 (v4.1 * ((v26.getD v28.toNat (0, 0)).1))) + (aL .i64 (v4.2.1 * ((v26.getD v28.toNat (0, 0)).2))))), (aL .i64 ((aL .i64 (v4.2.2.1 * ((v26.getD v28.toNat (0, 0)).1))) + (aL .i64 (v4.2.2.2 * ((v26.getD v28.toNat (0, 0)).2)))))), ())) fun y2 =>
    some (.inl (v0, v1, v4, y2.1, v8, v26, v27, (aL .i64 (v28 + 1)), ()))
   else some (.inl (v0, v1, v4, false, v8, v26, v27, (aL .i64 (v28 + 1)), ())) else none
  else some (.inr ((v0, v1, v4, v5, v8, ())))
def T7 (x : Shape.den LM) : Option (aU RO) := bU aCC (2 ^ 64) x
abbrev LJ : List (Nat × Kd) := [(0, .val), (1, .ptr (.list TyF)), (8, .int .i64)]
abbrev P5 : List (Ex × List (Nat × Kd)) := [(.exit 0, [])]
def aCX (x : Shape.den LJ) : Option (List (Value × aH [.agg TyB]) × (Shape.den LJ ⊕ aU P5)) := match x with
 | (v0, v1, v8, ()) =>
  bif ltI v8 81 then
   aB (T7 (v0, v1, ((aL .i64 ((aL .i64 (v8.tdiv 27)) - 1)), ((aL .i64 (((aL .i64 (v8.tdiv 9)).tmod 3) - 1)), ((aL .i64 (((aL .i64 (v8.tdiv 3)).tmod 3) - 1)), (aL .i64 ((v8.tmod 3) - 1))))), true, v8, v1, (v1.length : Int), 0, ())) fun z4 =>
   bif z4.2.2.2.1 then
    bif !(eqI (aL .i64 ((aL .i64 (z4.2.2.1.1 * z4.2.2.1.2.2.2)) - (aL .i64 (z4.2.2.1.2.1 * z4.2.2.1.2.2.1)))) 0) then
     outs [(z4.1, (z4.2.2.1, ()))] (some ([], .inl (z4.1, z4.2.1, (aL .i64 (z4.2.2.2.2.1 + 1)), ())))
    else some ([], .inl (z4.1, z4.2.1, (aL .i64 (z4.2.2.2.2.1 + 1)), ()))
   else some ([], .inl (z4.1, z4.2.1, (aL .i64 (z4.2.2.2.2.1 + 1)), ()))
  else some ([], .inr ((())))
def TL (x : Shape.den LJ) : Option (List (Value × aH [.agg TyB]) × aU P5) := QY aCX (2 ^ 64) x
def aVA (v0 : Value) (x : uC [(.list TyF)]) : Option (List (Value × aH [.agg TyB])) := match x with
 | (v1, ()) =>
  aRB (aI2 (TL (v0, v1, 0, ())) fun z5 =>
  some ([], ()))
noncomputable def aUF : Code := aS Tryz.f62
abbrev aW4 : Env := aD1 [e63] []
theorem aET : aY Tryz.prog aW4 := CU ⟨aYT, trivial⟩ trivial
noncomputable def T0 : Code := inLoop (KF aUF 0)
noncomputable def XK : Code := inLoop (KF T0 0)
def aMB (id : Nat) : Option aR := bif Nat.beq id 6 then some ⟨LM, RO, T7⟩ else none
def aQ4 (id : Nat) : Option (EF (Value × aH [.agg TyB])) := bif Nat.beq id 1 then some ⟨LJ, P5, TL⟩ else none
theorem aK8 : aG XK = 6 := by kernel_rfl
theorem aVB : cC XK = [] := by kernel_rfl
theorem aKX : ∀ x, Y9 Tryz.prog aW4 83 (aC Tryz.f62) aMB (fun _ => none) true [] XK LM RO x = aCC x := by
 rintro ⟨v0, v1, v4, v5, v8, v26, v27, v28, ⟨⟩⟩
 kernel_rfl
theorem aNX : uR Tryz.prog 83 true [] (.loop XK) ⟨LM, RO, T7⟩ := by
 exact P1 aET.callee aJ.mixed _ (nC aVB trivial) aKX
theorem aLD : aG T0 = 1 := by kernel_rfl
theorem aW1 : cC T0 = [.loop XK] := by kernel_rfl
theorem aJX : ∀ x, aK5 Tryz.prog aW4 83 (aC Tryz.f62) aMB [.agg TyB] aQ4 T0 LJ P5 x = aCX x := by
 rintro ⟨v0, v1, v8, ⟨⟩⟩
 kernel_rfl
theorem aO6 : aG9 Tryz.prog 83 [.agg TyB] T0 ⟨LJ, P5, TL⟩ := by
 exact aGZ aET.callee aJ.mixed _ (PA aW1 ⟨aN6 aK8 rfl rfl aNX, trivial⟩) aJX
theorem aTP : cC aUF = [.loop T0] := by kernel_rfl
theorem aVS : ∀ v0 x, aMV Tryz.prog aW4 Tryz.f62 (aC Tryz.f62) aMB [.agg TyB] aQ4 aUF [(.list TyF)] v0 x = aVA v0 x := by
 rintro v0 ⟨v1, ⟨⟩⟩
 kernel_rfl
theorem aUM {f : uC [(.list TyF)] → Option (List (aH [.agg TyB]))} (h : ∀ yv x all, f x = some all → aVA yv x = some (all.map fun e => (yv, e))) : OX Tryz.prog 62 [(.list TyF)] [.agg TyB] f := by
 exact aMX aJ aET Tryz.func62 (c := aUF) (by kernel_rfl) (by kernel_rfl) (aT := aC Tryz.f62) (lt := aMB) (li := aQ4) (PA aTP ⟨aHV aLD rfl rfl aO6, trivial⟩) (fun yv x all hx => (aVS yv x).trans (h yv x all hx))

/-! the neighbours and the symmetries, in order -/
abbrev S4 : Type := Int × Int × Int × Int
def aMK : List (Int × Int) := [(1, 0), ((-1), 0), (0, 1), (0, (-1))]
def aMG : List (Int × Int) := [(1, 0), ((-1), 0), (0, 1), (0, (-1)), (1, (-1)), ((-1), 1)]
def OH : List S4 := [((-1), 0, 0, (-1)), ((-1), 0, 0, 1), (0, (-1), (-1), 0), (0, (-1), 1, 0), (0, 1, (-1), 0), (0, 1, 1, 0), (1, 0, 0, (-1)), (1, 0, 0, 1)]
def NV : List S4 := [((-1), (-1), 0, 1), ((-1), (-1), 1, 0), ((-1), 0, 0, (-1)), ((-1), 0, 1, 1), (0, (-1), (-1), 0), (0, (-1), 1, 1), (0, 1, (-1), (-1)), (0, 1, 1, 0), (1, 0, (-1), (-1)), (1, 0, 0, 1), (1, 1, (-1), 0), (1, 1, 0, (-1))]
def eqK : List (Int × Int) → List (Int × Int) → Bool
 | [], [] => true
 | a :: l, b :: m => bif eqI a.1 b.1 && eqI a.2 b.2 then eqK l m else false
 | _, _ => false
theorem aJ0 : ∀ {l m : List (Int × Int)}, eqK l m = true → l = m
 | [], [], _ => rfl
 | [], _ :: _, h => by cases h
 | _ :: _, [], h => by cases h
 | (a1, a2) :: l, (b1, b2) :: m, h => by
  simp only [eqK, eV] at h
  by_cases h1 : a1 = b1
  ·by_cases h2 : a2 = b2
   ·simp [h1, h2] at h
    rw [h1, h2, aJ0 h]
   ·simp [h2] at h
  ·simp [h1] at h
def GD (x : uC [(.list TyF)]) : Option (List (aH [.agg TyB])) := match x with
 | (near, ()) => bif eqK near aMK then some (OH.map fun g => (g, ())) else bif eqK near aMG then some (NV.map fun g => (g, ())) else none
theorem a5H (yv : Value) : aVA yv (aMK, ()) = some ((OH.map fun g => (g, ())).map fun e => (yv, e)) := by kernel_rfl
theorem a4Y (yv : Value) : aVA yv (aMG, ()) = some ((NV.map fun g => (g, ())).map fun e => (yv, e)) := by kernel_rfl
theorem aWM : OX Tryz.prog 62 [(.list TyF)] [.agg TyB] GD := by
 refine aUM ?_
 rintro yv ⟨near, ⟨⟩⟩ all h
 unfold GD at h
 dsimp only at h
 cases h4 : eqK near aMK with
 | true =>
  rw [h4, cond_true] at h
  rw [aJ0 h4, a5H, Option.some.inj h]
 | false =>
  rw [h4, cond_false] at h
  cases h6 : eqK near aMG with
  | true =>
   rw [h6, cond_true] at h
   rw [aJ0 h6, a4Y, Option.some.inj h]
  | false => rw [h6, cond_false] at h; cases h
end Go.PM
set_option linter.unusedSimpArgs false
set_option linter.unusedVariables false
namespace Go.PM
open Go Go.RowKit
abbrev arB (ae : TypeId) (t : Ty) (A : List (List t.den)) : Blk := ⟨aN (.rows t) A, ae, false, false, some ⟨.rows t, A⟩⟩
abbrev owB (e : TypeId) (t : Ty) (l : List t.den) : Blk := ⟨aN t l, e, true, false, some ⟨t, l⟩⟩
abbrev OwA := Option (Nat × Blk)
def CT : OwA → Heap → Heap
 | none, H => H
 | some (r, _), H => H.set r none
def xZ : OwA → Heap
 | none => []
 | some (_, k) => [some k]
def a3F (μ : Mp) : OwA → Option Nat
 | none => none
 | some (r, _) => μ.loc r
def a5T (μ : Mp) : OwA → Option Nat
 | none => none
 | some (r, _) => μ.len r
def wrA (w : World) (G : Gd) (μ : Mp) (ow : OwA) : Nat → Prop := fun b => w.heap.size ≤ b ∨ a3F μ ow = some b ∨ ∃ j, G.row j = some b
def mpA (μ : Mp) (ow : OwA) (n : Nat) : Mp := ⟨fun q => if q < (xZ ow).length then a3F μ ow else none, fun q => if q < (xZ ow).length then a5T μ ow else if q = (xZ ow).length then some n else none⟩
structure aNF (H : Heap) (ow : OwA) : Prop where
 at_ : ∀ r k, ow = some (r, k) → H[r]? = some (some k) ∧ k.grown = true ∧ k.frozen = false ∧ k.tag.isSome = true

section
variable {P : Program} {n0 : Nat → Prop} {w w' : World} {G G1 G2 : Gd} {μ μ2 : Mp} {H H' : Heap} {ae : TypeId} {t : Ty} {A B : List (List t.den)}
theorem aP5 {ow : OwA} {s : Nat} {k : Blk} (h : (CT ow H)[s]? = some (some k)) : H[s]? = some (some k) ∧ ∀ r k', ow = some (r, k') → s ≠ r := by
 cases ow with
 | none => exact ⟨h, fun r k' e => by cases e⟩
 | some p =>
  obtain ⟨r, k'⟩ := p
  obtain ⟨h1, h2⟩ := lE h
  exact ⟨h1, fun r' k2 e => by cases e; exact h2⟩
theorem aDQ {ow : OwA} : (CT ow H).length = H.length := by
 cases ow with
 | none => rfl
 | some p => simp [CT]
theorem a0M (hW : aV n0 G μ H w) {ow : OwA} (ho : aNF H ow) : ∀ b, wrA w G μ ow b → n0 b := by
 rintro b (h | h | ⟨j, h⟩)
 ·exact hW.base b h
 ·cases ow with
  | none => cases h
  | some p =>
   obtain ⟨r, k⟩ := p
   obtain ⟨h1, _, h3, _⟩ := ho.at_ r k rfl
   obtain ⟨_, _, _, _, _, h6⟩ := hW.blk r k b h1 h
   exact (h6 h3).1
 ·exact (hW.rows.sep j b h).2.1
theorem aOR (hW : aV n0 G μ H w) {ow : OwA} (ho : aNF H ow) {s : Nat} {k : Blk} {b : Nat} (hs : H[s]? = some (some k)) (hne : ∀ r k', ow = some (r, k') → s ≠ r) (hb : μ.loc s = some b) : ¬ wrA w G μ ow b := by
 rintro (h | h | ⟨j, h⟩)
 ·exact Nat.not_lt.2 h (hW.j3 hs hb)
 ·cases ow with
  | none => cases h
  | some p =>
   obtain ⟨r, k'⟩ := p
   obtain ⟨h1, _, h3, _⟩ := ho.at_ r k' rfl
   cases hf : k.frozen with
   | false => exact hne r k' rfl (hW.inj s r k k' b hs h1 hf h3 hb h)
   | true =>
    obtain ⟨_, _, _, _, h5, _⟩ := hW.blk s k b hs hb
    obtain ⟨_, _, _, _, _, h6⟩ := hW.blk r k' b h1 h
    exact (h6 h3).2 (h5 hf)
 ·obtain ⟨_, _, a3, a4⟩ := hW.rows.sep j b h
  cases hf : k.frozen with
  | false => exact a4 s k hs hf hb
  | true =>
   obtain ⟨_, _, _, _, h5, _⟩ := hW.blk s k b hs hb
   exact a3 (h5 hf)
theorem QJ (hW : aV n0 G μ H w) {ow : OwA} (ho : aNF H ow) {ra : Nat} (har : H[ra]? = some (some (arB ae t A))) :
  aV (wrA w G μ ow) G (mpA μ ow A.length) (xZ ow ++ [some (arB ae t A)]) w := by
 have key : ∀ (s : Nat) (k : Blk), (xZ ow ++ [some (arB ae t A)])[s]? = some (some k) → (s < (xZ ow).length ∧ ∃ r, ow = some (r, k) ∧ s = 0) ∨ (s = (xZ ow).length ∧ k = arB ae t A) := by
  intro s k hs
  rcases ET (H := xZ ow) s k hs with ⟨h1, h2⟩ | ⟨h1, h2⟩
  ·exact .inr ⟨h1, h2⟩
  ·left
   refine ⟨h1, ?_⟩
   cases ow with
   | none => simp [xZ] at h1
   | some p =>
    obtain ⟨r, k'⟩ := p
    simp only [xZ, List.length_cons, List.length_nil] at h1
    have : s = 0 := by omega
    subst this
    simp only [xZ, List.getElem?_cons_zero, Option.some.injEq] at h2
    subst h2
    exact ⟨r, rfl, rfl⟩
 refine ⟨?_, ?_, ?_, hW.lt, ?_, fun b hb => .inl hb, ?_⟩
 ·intro s k b hs hb
  rcases key s k hs with ⟨h1, r, rfl, rfl⟩ | ⟨h1, rfl⟩
  ·have hb : μ.loc r = some b := by
    have : (mpA μ (some (r, k)) A.length).loc 0 = μ.loc r := rfl
    rw [this] at hb; exact hb
   obtain ⟨q1, q2, q3, q4⟩ := ho.at_ r k rfl
   obtain ⟨c, a1, a2, a3, a4, a5⟩ := hW.blk r k b q1 hb
   refine ⟨c, a1, ?_, a3, a4, fun hf => ⟨.inr (.inl hb), (a5 hf).2⟩⟩
   obtain ⟨g, hg⟩ := Option.isSome_iff_exists.1 q4
   rw [(hW.tags r k g q1 hg).1] at a2 ⊢
   exact j6 (fH _ _) a2
  ·subst h1
   simp only [mpA, Nat.lt_irrefl, if_false] at hb
   cases hb
 ·intro s k g hs hg
  rcases key s k hs with ⟨h1, r, rfl, rfl⟩ | ⟨h1, rfl⟩
  ·obtain ⟨q1, _⟩ := ho.at_ r k rfl
   obtain ⟨a1, a2⟩ := hW.tags r k g q1 hg
   exact ⟨a1, a2⟩
  ·cases hg
   subst h1
   refine ⟨rfl, ?_⟩
   simp only [mpA, Nat.lt_irrefl, if_false, if_true]
 ·intro s1 s2 k1 k2 b h1 h2 f1 f2 m1 m2
  rcases key s1 k1 h1 with ⟨p1, r1, e1, rfl⟩ | ⟨p1, rfl⟩
  ·rcases key s2 k2 h2 with ⟨p2, r2, e2, rfl⟩ | ⟨p2, rfl⟩
   ·rfl
   ·subst p2
    simp only [mpA, Nat.lt_irrefl, if_false] at m2
    cases m2
  ·subst p1
   simp only [mpA, Nat.lt_irrefl, if_false] at m1
   cases m1
 ·intro s hs
  rw [List.length_append] at hs
  simp only [List.length_cons, List.length_nil] at hs
  have h1 : ¬ s < (xZ ow).length := by omega
  have h2 : ¬ s = (xZ ow).length := by omega
  simp only [mpA, h1, h2, if_false, and_self]
 ·refine (hW.rows.rel (fun s s' => (s < (xZ ow).length ∧ ∃ r k, ow = some (r, k) ∧ s' = r) ∨ (s = (xZ ow).length ∧ s' = ra)) ?_ ?_).QV fun j b hj _ => .inr (.inr ⟨j, hj⟩)
  ·rintro s s2 q (⟨h1, r, k, h3, h4⟩ | ⟨h1, h3⟩) (⟨h2, r2, k2, h5, h6⟩ | ⟨h2, h5⟩)
   ·have : (xZ ow).length ≤ 1 := by rw [h3]; simp [xZ]
    omega
   ·exfalso
    obtain ⟨q1, q2, _⟩ := ho.at_ r k h3
    rw [← h4, h5, har] at q1
    cases q1
    cases q2
   ·exfalso
    obtain ⟨q1, q2, _⟩ := ho.at_ r2 k2 h5
    rw [← h6, h3, har] at q1
    cases q1
    cases q2
   ·rw [h1, h2]
  ·intro s k' hs
   rcases key s k' hs with ⟨h1, r, rfl, rfl⟩ | ⟨h1, rfl⟩
   ·exact ⟨r, k', .inl ⟨h1, r, k', rfl, rfl⟩, (ho.at_ r k' rfl).1, rfl, rfl, rfl, rfl, rfl⟩
   ·refine ⟨ra, _, .inr ⟨h1, rfl⟩, har, rfl, rfl, rfl, rfl, ?_⟩
    subst h1
    simp only [mpA, Nat.lt_irrefl, if_false]
    exact (hW.rows.arn ra _ t A har rfl rfl).1.symm

abbrev OsA := Option (Nat × Blk × Blk)
def aLL : OsA → Heap
 | none => []
 | some (_, _, k) => [some k]
def aU0 (μ : Mp) : OsA → Option Nat
 | none => none
 | some (r, _, _) => μ.loc r
def aQX : OsA → Option Nat
 | none => none
 | some (_, _, k) => match k.tag with
  | some g => some g.l.length
  | none => none
structure a1T (H : Heap) (os : OsA) : Prop where
 at_ : ∀ r k k', os = some (r, k, k') → H[r]? = some (some k) ∧ k'.grown = true ∧ k.frozen = false ∧ k'.frozen = false ∧ k'.ty = k.ty ∧ ∃ g n, k'.tag = some g ∧ k'.cells = aN g.t g.l ∧ k'.cells = k.cells.take n
def nV (μ μ2 : Mp) (N n : Nat) (os : OsA) : Mp := ⟨fun q => if q < N then μ.loc q else if q = N + 1 then aU0 μ2 os else none, fun q => if q < N then μ.len q else if q = N then some n else if q = N + 1 then aQX os else none⟩
theorem WZ (hW : aV n0 G μ H w) {ow : OwA} (ho : aNF H ow) {ra : Nat} (har : H[ra]? = some (some (arB ae t A))) (ee : Ext (wrA w G μ ow) w G aK w' G1 μ2) (hW' : aV (wrA w G μ ow) G1 μ2 H' w')
  {rb : Nat} (hrb : H'[rb]? = some (some (arB ae t B))) {os : OsA} (hos : a1T H' os) (hrow : ∀ j, G2.row j = G1.row j) (h12 : ∀ b, G1 b → G2 b)
  (h21 : ∀ b, G2 b → G1 b ∨ ∃ s k, H'[s]? = some (some k) ∧ k.frozen = false ∧ μ2.loc s = some b ∧ ∀ r k' k2, os = some (r, k', k2) → s ≠ r) :
  Ext n0 w G μ w' G2 (nV μ μ2 H.length B.length os) ∧ aV n0 G2 (nV μ μ2 H.length B.length os) (((CT ow H).set ra none) ++ (some (arB ae t B) :: aLL os)) w' := by
 have hwr := a0M hW ho
 have hblk : ∀ s k b, H'[s]? = some (some k) → k.frozen = false → μ2.loc s = some b → wrA w G μ ow b := fun s k b hs hf hb => by
  obtain ⟨_, _, _, _, _, h6⟩ := hW'.blk s k b hs hb
  exact (h6 hf).1
 have hG2 : ∀ b, G2 b → G b ∨ wrA w G μ ow b := fun b hb => by
  rcases h21 b hb with h | ⟨s, k, h1, h2, h3, _⟩
  ·exact ee.new b h
  ·exact .inr (hblk s k b h1 h2 h3)
 have hlt2 : Lt w' G2.ok := hW'.lt.step (fun b hb => ⟨h12 b hb, rfl⟩) fun b hb => by
  rcases h21 b hb with h | ⟨s, k, h1, _, h3, _⟩
  ·exact hW'.lt b h
  ·exact hW'.j3 h1 h3
 have e2 : Ext n0 w G μ w' G2 (nV μ μ2 H.length B.length os) := {
  good := fun b hb => ⟨h12 b (ee.good b hb).1, (ee.good b hb).2⟩
  map := fun r b hr => by
   have : r < H.length := by
    rcases Nat.lt_or_ge r H.length with h | h
    ·exact h
    ·rw [(hW.top r h).1] at hr; cases hr
   simp only [nV, this, if_true]; exact hr
  len := fun r b hr => by
   have : r < H.length := by
    rcases Nat.lt_or_ge r H.length with h | h
    ·exact h
    ·rw [(hW.top r h).2] at hr; cases hr
   simp only [nV, this, if_true]; exact hr
  room := ee.room
  row := fun j b hj => by rw [hrow]; exact ee.row j b hj
  os := ee.os
  tape := ee.tape
  output := ee.output
  size := ee.size
  drawn := ee.drawn
  old := fun b hb hn => ee.old b hb fun h => hn (hwr b h)
  new := fun b hb => (hG2 b hb).imp id (hwr b) }
 have hlen : ((CT ow H).set ra none).length = H.length := by rw [List.length_set, aDQ]
 have key : ∀ (s : Nat) (k : Blk), (((CT ow H).set ra none) ++ (some (arB ae t B) :: aLL os))[s]? = some (some k) →
   (s < H.length ∧ s ≠ ra ∧ H[s]? = some (some k) ∧ ∀ r k', ow = some (r, k') → s ≠ r) ∨ (s = H.length ∧ k = arB ae t B) ∨ (s = H.length + 1 ∧ ∃ r k0, os = some (r, k0, k)) := by
  intro s k hs
  rcases Nat.lt_or_ge s H.length with hl | hl
  ·rw [List.getElem?_append_left (by rw [hlen]; exact hl)] at hs
   obtain ⟨h1, h2⟩ := lE hs
   obtain ⟨h3, h4⟩ := aP5 h1
   exact .inl ⟨hl, h2, h3, h4⟩
  ·rw [List.getElem?_append_right (by rw [hlen]; exact hl), hlen] at hs
   rcases Nat.eq_zero_or_pos (s - H.length) with h0 | h0
   ·rw [h0] at hs
    simp only [List.getElem?_cons_zero, Option.some.injEq] at hs
    exact .inr (.inl ⟨by omega, hs.symm⟩)
   ·obtain ⟨m, hm⟩ : ∃ m, s - H.length = m + 1 := ⟨s - H.length - 1, by omega⟩
    rw [hm, List.getElem?_cons_succ] at hs
    cases os with
    | none => simp [aLL] at hs
    | some p =>
     obtain ⟨r, k0, k'⟩ := p
     cases m with
     | zero =>
      simp only [aLL, List.getElem?_cons_zero, Option.some.injEq] at hs
      subst hs
      exact .inr (.inr ⟨by omega, r, k0, rfl⟩)
     | succ m => simp [aLL] at hs
 have l0 : ∀ s, s < H.length → (nV μ μ2 H.length B.length os).loc s = μ.loc s ∧ (nV μ μ2 H.length B.length os).len s = μ.len s := fun s hs => by simp [nV, hs]
 have l1 : (nV μ μ2 H.length B.length os).loc H.length = none ∧ (nV μ μ2 H.length B.length os).len H.length = some B.length := by simp [nV]
 have l2 : (nV μ μ2 H.length B.length os).loc (H.length + 1) = aU0 μ2 os ∧ (nV μ μ2 H.length B.length os).len (H.length + 1) = aQX os := by
  have h1 : ¬ H.length + 1 < H.length := by omega
  have h2 : ¬ H.length + 1 = H.length := by omega
  simp only [nV, h1, h2, if_false, if_true, and_self]
 have hold : ∀ s k b, H[s]? = some (some k) → (∀ r k', ow = some (r, k') → s ≠ r) → μ.loc s = some b → w'.heap[b]? = w.heap[b]? ∧ ¬ wrA w G μ ow b := fun s k b h1 h2 h3 => by
  have h4 := aOR hW ho h1 h2 h3
  exact ⟨ee.old b (hW.j3 h1 h3) h4, h4⟩
 refine ⟨e2, ?_, ?_, ?_, hlt2, ?_, fun b hb => hW.base b (Nat.le_trans ee.size hb), ?_⟩
 ·intro s k b hs hb
  rcases key s k hs with ⟨h1, h2, h3, h4⟩ | ⟨h1, rfl⟩ | ⟨h1, r, k0, h2⟩
  ·rw [(l0 s h1).1] at hb
   obtain ⟨c, a1, a2, a3, a4, a5⟩ := hW.blk s k b h3 hb
   obtain ⟨g1, g2⟩ := hold s k b h3 h4 hb
   refine ⟨c, g1.trans a1, aP.mono e2.toMono g1 0 _ a2, a3, fun hf => h12 b (ee.good b (a4 hf)).1, fun hf => ⟨(a5 hf).1, fun hg => ?_⟩⟩
   rcases hG2 b hg with h | h
   ·exact (a5 hf).2 h
   ·exact g2 h
  ·subst h1
   rw [l1.1] at hb; cases hb
  ·subst h1; subst h2
   rw [l2.1] at hb
   obtain ⟨q1, q2, q3, q4, q5, g, nc, q6, q7, q8⟩ := hos.at_ r k0 k rfl
   obtain ⟨c, a1, a2, a3, a4, a5⟩ := hW'.blk r k0 b q1 hb
   refine ⟨c, by rw [q5]; exact a1, ?_, (fun hf => by rw [q2] at hf; cases hf), (fun hf => by rw [q4] at hf; cases hf), fun hf => ⟨hwr b (a5 q3).1, fun hg => ?_⟩⟩
   ·replace a2 := a2.take nc
    rw [← q8, q7] at a2
    rw [q7]
    obtain ⟨us, u1, u2⟩ := a2.values
    have m12 : Mono w' G1 aK w' G2 (nV μ μ2 H.length B.length (some (r, k0, k))) := ⟨fun b hb => ⟨h12 b hb, rfl⟩, fun _ _ h => (by cases h), fun _ _ h => (by cases h), fun _ _ h => h, fun j b hj => by rw [hrow]; exact hj⟩
    exact aP.kF (VRs.mono m12 _ _ (cK _ _ (fH _ _) u1)) u2
   ·rcases h21 b hg with h | ⟨s2, k2, z1, z2, z3, z4⟩
    ·exact (a5 q3).2 h
    ·exact z4 r k0 k rfl (hW'.inj s2 r k2 k0 b z1 q1 z2 q3 z3 hb)
 ·intro s k g hs hg
  rcases key s k hs with ⟨h1, h2, h3, h4⟩ | ⟨h1, rfl⟩ | ⟨h1, r, k0, h2⟩
  ·rw [(l0 s h1).2]
   exact hW.tags s k g h3 hg
  ·cases hg
   subst h1
   exact ⟨rfl, l1.2⟩
  ·subst h1; subst h2
   rw [l2.2]
   obtain ⟨_, _, _, _, _, g', _, q6, q7, _⟩ := hos.at_ r k0 k rfl
   rw [hg] at q6
   cases q6
   exact ⟨q7, by simp only [aQX, hg]⟩
 ·intro s1 s2 k1 k2 b h1 h2 f1 f2 m1 m2
  rcases key s1 k1 h1 with ⟨p1, p2, p3, p4⟩ | ⟨p1, rfl⟩ | ⟨p1, r, k0, p2⟩
  ·rw [(l0 s1 p1).1] at m1
   rcases key s2 k2 h2 with ⟨q1, q2, q3, q4⟩ | ⟨q1, rfl⟩ | ⟨q1, r2, k02, q2⟩
   ·rw [(l0 s2 q1).1] at m2
    exact hW.inj s1 s2 k1 k2 b p3 q3 f1 f2 m1 m2
   ·subst q1; rw [l1.1] at m2; cases m2
   ·subst q1; subst q2
    rw [l2.1] at m2
    exact absurd (hblk r2 k02 b (hos.at_ r2 k02 k2 rfl).1 (hos.at_ r2 k02 k2 rfl).2.2.1 m2) (hold s1 k1 b p3 p4 m1).2
  ·subst p1; rw [l1.1] at m1; cases m1
  ·subst p1; subst p2
   rw [l2.1] at m1
   rcases key s2 k2 h2 with ⟨q1, q2, q3, q4⟩ | ⟨q1, rfl⟩ | ⟨q1, r2, k02, q2⟩
   ·rw [(l0 s2 q1).1] at m2
    exact absurd (hblk r k0 b (hos.at_ r k0 k1 rfl).1 (hos.at_ r k0 k1 rfl).2.2.1 m1) (hold s2 k2 b q3 q4 m2).2
   ·subst q1; rw [l1.1] at m2; cases m2
   ·exact q1.symm
 ·intro s hs
  rw [List.length_append, hlen, List.length_cons] at hs
  have h1 : ¬ s < H.length := by omega
  have h2 : ¬ s = H.length := by omega
  by_cases h3 : s = H.length + 1
  ·cases os with
   | none => rw [h3]; exact l2
   | some p =>
    obtain ⟨r, k0, k1⟩ := p
    simp only [aLL, List.length_cons, List.length_nil] at hs
    omega
  ·simp [nV, h1, h2, h3]
 ·have hr' := hW'.rows
  refine ⟨fun i j b h1 h2 => hr'.inj i j b (by rw [← hrow]; exact h1) (by rw [← hrow]; exact h2), ?_, ?_, ?_, ?_⟩
  ·intro j b hj
   rw [hrow] at hj
   obtain ⟨a1, a2, a3, a4⟩ := hr'.sep j b hj
   refine ⟨a1, hwr b a2, fun hg => ?_, fun s k hs hf hl => ?_⟩
   ·rcases h21 b hg with h | ⟨s, k, z1, z2, z3, _⟩
    ·exact a3 h
    ·exact a4 s k z1 z2 z3
   ·rcases key s k hs with ⟨p1, p2, p3, p4⟩ | ⟨p1, rfl⟩ | ⟨p1, r, k0, p2⟩
    ·rw [(l0 s p1).1] at hl
     exact (hold s k b p3 p4 hl).2 a2
    ·subst p1; rw [l1.1] at hl; cases hl
    ·subst p1; subst p2
     rw [l2.1] at hl
     exact a4 r k0 (hos.at_ r k0 k rfl).1 (hos.at_ r k0 k rfl).2.2.1 hl
  ·intro j b hj
   rw [hrow] at hj
   exact hr'.cel j b hj
  ·intro s k t1 l1' hs hg ht
   rcases key s k hs with ⟨p1, p2, p3, p4⟩ | ⟨p1, rfl⟩ | ⟨p1, r, k0, p2⟩
   ·exact absurd (hW.rows.one s ra k _ t1 l1' t A p3 hg ht har rfl rfl) p2
   ·cases ht
    subst p1
    obtain ⟨_, a2, a3⟩ := hr'.arn rb _ t B hrb rfl rfl
    refine ⟨l1.1, fun j hj => by rw [hrow]; exact a2 j hj, fun j row hj => ?_⟩
    rcases a3 j row hj with h | ⟨b, c, z1, z2, z3⟩
    ·exact .inl h
    ·have m12 : Mono w' G1 aK w' G2 aK := ⟨fun b hb => ⟨h12 b hb, rfl⟩, fun _ _ h => h, fun _ _ h => h, fun _ _ h => h, fun j b hj => by rw [hrow]; exact hj⟩
     exact .inr ⟨b, c, by rw [hrow]; exact z1, z2, aP.mono m12 rfl 0 _ z3⟩
   ·subst p2
    rw [(hos.at_ r k0 k rfl).2.1] at hg; cases hg
  ·have only : ∀ (s : Nat) (k : Blk) (t1 : Ty) (l1' : List (List t1.den)), (((CT ow H).set ra none) ++ (some (arB ae t B) :: aLL os))[s]? = some (some k) → k.grown = false → k.tag = some ⟨.rows t1, l1'⟩ → s = H.length := by
    intro s k t1 l1' hs hg ht
    rcases key s k hs with ⟨p1, p2, p3, p4⟩ | ⟨p1, _⟩ | ⟨p1, r, k0, p2⟩
    ·exact absurd (hW.rows.one s ra k _ t1 l1' t A p3 hg ht har rfl rfl) p2
    ·exact p1
    ·subst p2
     rw [(hos.at_ r k0 k rfl).2.1] at hg; cases hg
   intro r s k k' t1 l1' t2 l2' h1 g1 t1' h2 g2 t2'
   rw [only r k t1 l1' h1 g1 t1', only s k' t2 l2' h2 g2 t2']
end
end Go.PM
set_option linter.unusedSimpArgs false
set_option linter.unusedVariables false
namespace Go.PM
open Go Go.RowKit
theorem RW : ∀ (ts : List Ty) (x : uC ts), cY.noRefs (G9 ts x) = true
 | [], _ => rfl
 | t :: r, (x, xs) => by simp only [G9, cY.noRefs, cY, RW r xs, Bool.and_self]
theorem aGB : ∀ (k : Kd) (x : k.den) (r : List Kd), FW (k :: r) = true → cY (o9 k x 0) = true ∧ FW r = true
 | .int _, _, _, h => ⟨rfl, h⟩
 | .bool, _, _, h => ⟨rfl, h⟩
 | .str, _, _, h => ⟨rfl, h⟩
 | .list _, _, _, h => ⟨rfl, h⟩
 | .agg t, x, _, h => ⟨by simp only [o9, cY]; exact AM t x, h⟩
 | .own _ _, _, _, h => by simp only [FW] at h; cases h
 | .box _ _, _, _, h => by simp only [FW] at h; cases h
 | .win _ _, _, _, h => by simp only [FW] at h; cases h
 | .bown _ _ _, _, _, h => by simp only [FW] at h; cases h
 | .bag _ _ _ _ _, _, _, h => by simp only [FW] at h; cases h
 | .ar _ _, _, _, h => by simp only [FW] at h; cases h
 | .hnd _, _, _, h => ⟨rfl, h⟩
 | .ptr t, x, _, h => ⟨rfl, h⟩
 | .fn _, _, _, h => ⟨rfl, h⟩
 | .nil0, _, _, h => ⟨rfl, h⟩
 | .val, _, _, h => ⟨rfl, h⟩
 | .nilI, _, _, h => ⟨rfl, h⟩
 | .clo _ ts, x, _, h => ⟨by simp only [o9, cY, cY.noRefs, RW ts x, Bool.and_self], h⟩
theorem zC : ∀ (l : List Kd) (x : aH l), FW l = true → cY.noRefs (hX l x) = true
 | [], _, _ => rfl
 | k :: r, (x, xs), h => by
  obtain ⟨h1, h2⟩ := aGB k x r h
  simp only [hX, cY.noRefs, h1, zC r xs h2, Bool.and_self]

inductive Tk where
 | none
 | own (e : TypeId) (t : Ty)
@[reducible] def Tk.den : Tk → Type
 | .none => Unit
 | .own _ t => List t.den
def Tk.pv : Tk → Nat → List PV
 | .none, _ => []
 | .own _ t, r => [.own r t.size]
def Tk.ow : (k : Tk) → k.den → Nat → OwA
 | .none, _, _ => Option.none
 | .own e t, l, r => some (r, owB e t l)
inductive An where
 | data (l : List Kd)
 | own (e : TypeId) (t : Ty)
@[reducible] def An.den : An → Type
 | .data l => aH l
 | .own _ t => List t.den
def An.pv : (a : An) → a.den → Nat → PV
 | .data l, y, _ => aGI l y
 | .own _ t, _, n => .own n t.size
def An.hp : (a : An) → a.den → Heap
 | .data _, _ => []
 | .own e t, l => [some (owB e t l)]

def X1 (P : Program) (g : FuncId) (ae : TypeId) (t : Ty) (tk : Tk) (args : List Kd) (an : An) (f : tk.den → aH args → List (List t.den) → Option (an.den × List (List t.den))) : Prop :=
 ∀ l x A y B, f l x A = some (y, B) → ∀ {n0 G μ H w us ra r}, aV n0 G μ H w → H[ra]? = some (some (arB ae t A)) → aNF H (tk.ow l r) → VRs w G μ (tk.pv r ++ hX args x) us →
  oN P n0 w G μ g us.toArray (an.pv y (H.length + 1)) (((CT (tk.ow l r) H).set ra none) ++ (some (arB ae t B) :: an.hp y))

def aO7 (ae : TypeId) (t : Ty) (H : Heap) : Option (Nat × List (List t.den)) := match SS 0 H with
 | some (r, k) => match k.tag with
  | some g => match wY g.t (.rows t) g.l with
   | some l => bif Nat.beq k.ty ae && !k.frozen then some (r, l) else none
   | none => none
  | none => none
 | none => none
def aY2 (e : TypeId) (t : Ty) (H : Heap) : PV → Option (List t.den)
 | .own r sz => EA e t (.own r sz) H r
 | .win r lo n sz => bif Nat.beq lo 0 then match EA e t (.own r sz) H r with
  | some l => some (l.take n)
  | none => none
  else none
 | _ => none
def aK2 : (an : An) → PV → Heap → Option an.den
 | .data l, q, H => match inl false H depth q with
  | some q' => aIF l q'
  | none => none
 | .own e t, q, H => aY2 e t H q
def aU4 (P : Program) (rs : List ResultVar) (ae : TypeId) (t : Ty) (an : An) (ex : Ex) (F : Frm) (H : Heap) : Option (an.den × List (List t.den)) := match ex with
 | .exit _ => none
 | _ => match mM P F H rs with
  | some vs => match aO7 ae t H with
   | some B => match aK2 an (dR vs) H with
    | some y => some (y, B.2)
    | none => none
   | none => none
  | none => none
def VB (P : Program) (E : Env) (fn : Func) (aT : Nat) (lt : Nat → Option aR) (c : Code) (ae : TypeId) (t : Ty) (tk : Tk) (args : List Kd) (an : An) (l : tk.den) (x : aH args) (A : List (List t.den)) : Option (an.den × List (List t.den)) :=
 bif Nat.ble (tk.pv 0 ++ hX args x).length fn.ntmps then r8 P E fn.ntmps aT lt c (start aT 0 (tk.pv 0 ++ hX args x)) (xZ (tk.ow l 0) ++ [some (arB ae t A)]) (aU4 P fn.results.toList ae t an) else none

section
variable {P : Program} {n0 : Nat → Prop} {w w' : World} {G G1 G2 : Gd} {μ μ2 : Mp} {H H' : Heap} {ae : TypeId} {t : Ty} {A B : List (List t.den)}
theorem N3 (hW : aV n0 G μ H w) {p : Nat × List (List t.den)} (h : aO7 ae t H = some p) : H[p.1]? = some (some (arB ae t p.2)) := by
 unfold aO7 at h
 split at h
 ·rename_i r k hk
  obtain ⟨h1, h2⟩ := JM hk
  split at h
  ·rename_i g hg
   split at h
   ·rename_i l hc
    obtain ⟨hb, h⟩ := aI h
    simp only [Bool.and_eq_true, Bool.not_eq_true'] at hb
    simp only [Option.some.injEq] at h
    subst h
    have hb3 := Nat.eq_of_beq_eq_true hb.1
    have ht := (hW.tags r k g h1 hg).1
    have hge := aIN hc
    rw [hge] at hg ht
    rw [h1]
    obtain ⟨k1, k2, k3, k4, k5⟩ := k
    dsimp only at ht hg hb hb3 h2 ⊢
    rw [ht, hg, hb3, h2, hb.2]
   ·cases h
  ·cases h
 ·cases h
theorem YN (hW : aV n0 G μ H w) {e : TypeId} {u : Ty} {p : PV} {l : List u.den} {v : Value} (h : aY2 e u H p = some l) (hv : VR w G μ p v) :
  ∃ r l0, a1T H (some (r, owB e u l0, owB e u l)) ∧ ∀ G2 μ3 n, μ3.loc n = μ.loc r → μ3.len n = some l.length → VR w G2 μ3 (.own n u.size) v := by
 have key : ∀ (l0 : List u.den) (r m : Nat), H[r]? = some (some (owB e u l0)) → a1T H (some (r, owB e u l0, owB e u (l0.take m))) := fun l0 r m h0 => ⟨fun r' k k' he => by
  cases he
  exact ⟨h0, rfl, rfl, rfl, rfl, ⟨u, l0.take m⟩, m * u.size, rfl, rfl, (oH u m l0).symm⟩⟩
 unfold aY2 at h
 split at h
 ·rename_i r sz
  obtain ⟨h1, h2⟩ := rE hW h
  cases h1
  refine ⟨r, l, by have := key l r l.length h2; rwa [List.take_length] at this, fun G2 μ3 n q1 q2 => ?_⟩
  rw [VR] at hv ⊢
  obtain ⟨m, a1, a2⟩ := hv
  have := (hW.tags r _ _ h2 rfl).2
  rw [this] at a1
  cases a1
  refine ⟨_, q2, ?_⟩
  rw [q1]
  exact a2
 ·rename_i r lo n sz
  obtain ⟨hb, h⟩ := aI h
  have hb := Nat.eq_of_beq_eq_true hb
  subst hb
  split at h
  ·rename_i l0 hl0
   obtain rfl := Option.some.inj h
   obtain ⟨h1, h2⟩ := rE hW hl0
   cases h1
   refine ⟨r, l0, key l0 r n h2, fun G2 μ3 m q1 q2 => ?_⟩
   rw [VR] at hv
   rw [VR]
   obtain ⟨b, c, m', a1, a2, a3, a4, a5, a6, a7⟩ := hv
   have := (hW.tags r _ _ h2 rfl).2
   rw [this] at a5
   cases a5
   refine ⟨n, by rw [q2, List.length_take]; change 0 + n ≤ l0.length at a6; congr 1; omega, .inr ⟨b, c, by rw [q1]; exact a1, by rw [a2, Nat.zero_mul], a3, ?_⟩⟩
   simpa using a4
  ·cases h
 ·cases h

theorem aN2 {α : Type 1} {b : Bool} {x : Option α} {y : α} (h : (bif b then x else none) = some y) : b = true ∧ x = some y := by
 cases b with
 | true => exact ⟨rfl, h⟩
 | false => cases h
theorem SA {E : Env} (hP : CC P) (hE : aY P E) {g : Nat} {fn : Func} (hg : P.funcs[g]? = some fn) {c : Code} (hc : fn.body = some c) {aT : Nat} {lt : Nat → Option aR} {ae : TypeId} {t : Ty} {tk : Tk} {args : List Kd} {an : An} {f : tk.den → aH args → List (List t.den) → Option (an.den × List (List t.den))}
  (hd : FW args = true) (hl : ∀ a ∈ aF c, ∀ s, lt (aG a) = some s → cU P fn.ntmps a s) (hb : ∀ l x A, VB P E fn aT lt c ae t tk args an l x A = f l x A) : X1 P g ae t tk args an f := by
 intro l x A y B hy n0 G μ H w us ra r hW har ho hv
 rw [← hb] at hy
 unfold VB at hy
 obtain ⟨hlen, hy⟩ := aI hy
 obtain ⟨⟨ex, F', H'⟩, h1, h2⟩ := jC hE.callee hP.mixed c _ _ _ _ hl hy
 obtain ⟨vs, B', hex, hvs, hB, hq, rfl⟩ : ∃ vs B', (ex = .normal ∨ ex = .ret) ∧ mM P F' H' fn.results.toList = some vs ∧ aO7 ae t H' = some B' ∧ aK2 an (dR vs) H' = some y ∧ B'.2 = B := by
  unfold aU4 at h1
  split at h1
  ·cases h1
  ·rename_i hne
   split at h1
   ·rename_i vs hvs
    split at h1
    ·rename_i B' hB
     split at h1
     ·rename_i y' hy'
      simp only [Option.some.injEq, Prod.mk.injEq] at h1
      obtain ⟨rfl, h1⟩ := h1
      refine ⟨vs, B', ?_, hvs, hB, hy', h1⟩
      cases ex with
      | normal => exact .inl rfl
      | ret => exact .inr rfl
      | exit i => exact absurd rfl (hne i)
     ·cases h1
    ·cases h1
   ·cases h1
 have hargs : VRs w G (mpA μ (tk.ow l r) A.length) (tk.pv 0 ++ hX args x) us := by
  have hn := zC args x hd
  cases tk with
  | none => exact VRs.bE (cK _ _ hn hv)
  | own e u =>
   change VRs w G μ (.own r u.size :: hX args x) us at hv
   change VRs w G _ (.own 0 u.size :: hX args x) us
   rw [VRs] at hv ⊢
   obtain ⟨v, us', rfl, q1, q2⟩ := hv
   refine ⟨v, us', rfl, ?_, VRs.bE (cK _ _ hn q2)⟩
   rw [VR] at q1 ⊢
   exact q1
 have howb : xZ (tk.ow l 0) = xZ (tk.ow l r) := by cases tk <;> rfl
 have hW1 := QJ hW ho har
 rw [← howb] at hW1
 have e0 : Ext (wrA w G μ (tk.ow l r)) w G aK w G (mpA μ (tk.ow l r) A.length) :=
  ⟨⟨fun b hb => ⟨hb, rfl⟩, fun _ _ h => (by cases h), fun _ _ h => (by cases h), fun _ _ h => h, fun _ _ h => h⟩, rfl, rfl, rfl, Nat.le_refl _, Nat.le_refl _, fun _ _ _ => rfl, fun _ h => .inl h⟩
 refine ⟨enters hg (hP.names g fn hg) (by rw [hc]; rfl) _ _, calls_of_wp hg hc ?_⟩
 have hI : I (wrA w G μ (tk.ow l r)) w G aK fn.ntmps (start aT 0 (tk.pv 0 ++ hX args x)) (xZ (tk.ow l 0) ++ [some (arB ae t A)]) ⟨us.toArray ++ Array.replicate (fn.ntmps - us.toArray.size) undef, []⟩ w :=
  ⟨G, _, e0, hW1, qL (by simpa using hargs) (Nat.le_of_ble_eq_true hlen)⟩
 refine wp_mono (h2 _ w G aK _ w (fun r => ⟨rfl, rfl⟩) hI) ?_
 rintro e1 a' w' ⟨rfl, G1, μ1, ee, hW', hF'⟩
 obtain ⟨ws, h3, h4⟩ := kY (P := P) hW' hF' hvs
 have hres : (results fn a'.tmps).run P w' = .ok (if hh : ws.toArray.size = 1 then ws.toArray[0] else .tuple ws.toArray) w' := by
  rw [sS, Array.mapM_eq_mapM_toList]
  simp only [Sem.run_bind, Sem.run_map, h3, Result.andThen_ok, Sem.run_pure]
 have hrb := N3 hW' hB
 obtain ⟨G2, μ3, b1, b2, b3⟩ : ∃ G2 μ3, Ext n0 w G μ w' G2 μ3 ∧ aV n0 G2 μ3 (((CT (tk.ow l r) H).set ra none) ++ (some (arB ae t B'.2) :: an.hp y)) w' ∧ VR w' G2 μ3 (an.pv y (H.length + 1)) (if hh : ws.toArray.size = 1 then ws.toArray[0] else .tuple ws.toArray) := by
  have hvr := mS h4
  cases an with
  | data rets =>
   simp only [aK2] at hq
   split at hq
   ·rename_i q hq'
    have hb := WZ (G2 := ⟨fun b => G1 b ∨ ∃ s k, H'[s]? = some (some k) ∧ k.frozen = false ∧ μ1.loc s = some b, G1.row⟩) hW ho har ee hW' hrb (os := none) ⟨fun _ _ _ h => by cases h⟩ (fun _ => rfl) (fun b hb => .inl hb) (fun b hb => by
     rcases hb with h | ⟨s, k, z1, z2, z3⟩
     ·exact .inl h
     ·exact .inr ⟨s, k, z1, z2, z3, fun _ _ _ h => by cases h⟩)
    refine ⟨_, _, hb.1, hb.2, ?_⟩
    have := AJ (G' := ⟨fun b => G1 b ∨ ∃ s k, H'[s]? = some (some k) ∧ k.frozen = false ∧ μ1.loc s = some b, G1.row⟩) hW' (fun _ _ h => h) (fun b hb => .inl hb) (fun s k1 b hs _ hb => by
     obtain ⟨_, _, _, _, g5, _⟩ := hW'.blk s k1 b hs hb
     cases hf : k1.frozen with
     | true => exact .inl (g5 hf)
     | false => exact .inr ⟨s, k1, hs, hf, hb⟩) depth _ q _ hq' hvr
    exact (LN hq this).bE
   ·cases hq
  | own e u =>
   simp only [aK2] at hq
   obtain ⟨r1, l0, hos, hvv⟩ := YN hW' hq hvr
   have hb := WZ (G2 := G1) hW ho har ee hW' hrb hos (fun _ => rfl) (fun b hb => hb) (fun b hb => .inl hb)
   refine ⟨_, _, hb.1, hb.2, hvv _ _ _ ?_ ?_⟩
   ·have h1 : ¬ H.length + 1 < H.length := by omega
    simp [nV, h1, aU0]
   ·have h1 : ¬ H.length + 1 < H.length := by omega
    simp [nV, h1, aQX]
 have hpost : a'.defers = [] ∧ ∃ v, (results fn a'.tmps).run P w' = .ok v w' ∧ (∃ v' G'' μ'', Ending.returned v = .returned v' ∧ Ext n0 w G μ w' G'' μ'' ∧ aV n0 G'' μ'' (((CT (tk.ow l r) H).set ra none) ++ (some (arB ae t B'.2) :: an.hp y)) w' ∧ VR w' G'' μ'' (an.pv y (H.length + 1)) v') :=
  ⟨hF'.defers, _, hres, _, G2, μ3, rfl, b1, b2, b3⟩
 rcases hex with rfl | rfl
 ·exact hpost
 ·exact hpost

def aT0 (P : Program) (E : Env) (fn : Func) (aT : Nat) (lt : Nat → Option aR) (c : Code) (ae : TypeId) (t : Ty) (args rets : List Kd) (x : aH args) : Option (aH rets) :=
 bif Nat.ble (hX args x).length fn.ntmps then r8 P E fn.ntmps aT lt c (start aT 0 (hX args x)) [some (arB ae t [])] (aHE P fn.results.toList rets) else none
theorem a4A {E : Env} (hP : CC P) (hE : aY P E) {g : Nat} {fn : Func} (hg : P.funcs[g]? = some fn) {c : Code} (hc : fn.body = some c) {aT : Nat} {lt : Nat → Option aR} {ae : TypeId} {t : Ty} {args rets : List Kd} {f : aH args → Option (aH rets)}
  (hl : ∀ a ∈ aF c, ∀ s, lt (aG a) = some s → cU P fn.ntmps a s) (hb : ∀ x, aT0 P E fn aT lt c ae t args rets x = f x) : cL P g args rets f := by
 intro x y hy
 rw [← hb] at hy
 unfold aT0 at hy
 obtain ⟨hlen, hy⟩ := aI hy
 obtain ⟨⟨ex, F', H'⟩, h1, h2⟩ := jC hE.callee hP.mixed c _ _ _ _ hl hy
 obtain ⟨vs, q, hex, hvs, hq, hd⟩ : ∃ vs q, (ex = .normal ∨ ex = .ret) ∧ mM P F' H' fn.results.toList = some vs ∧ aKO H' (dR vs) = some q ∧ aIF rets q = some y := by
  unfold aHE at h1
  split at h1
  ·cases h1
  ·rename_i hne
   split at h1
   ·rename_i vs hvs
    split at h1
    ·rename_i q hq
     refine ⟨vs, q, ?_, hvs, hq, h1⟩
     cases ex with
     | normal => exact .inl rfl
     | ret => exact .inr rfl
     | exit i => exact absurd rfl (hne i)
    ·cases h1
   ·cases h1
 obtain ⟨hq1, hq2⟩ := vY hq
 intro w G us hlt hv
 have at0 : ∀ (s : Nat) (k1 : Blk), ([some (arB ae t [])] : Heap)[s]? = some (some k1) → s = 0 ∧ k1 = arB ae t [] := by
  intro s k1 hs
  cases s with
  | zero => simp only [List.getElem?_cons_zero, Option.some.injEq] at hs; exact ⟨rfl, hs.symm⟩
  | succ s => simp at hs
 have hW : aV (tI w) (Gd.of G) ⟨fun _ => none, fun r => if r = 0 then some 0 else none⟩ [some (arB ae t [])] w := by
  refine ⟨(fun r k b h hb => by cases hb), (fun r k g h hg => ?_), (fun r s k l b h _ _ _ hb => by cases hb), hlt, (fun r hr => ⟨rfl, ?_⟩), fun _ h => h, ⟨(fun _ _ _ h => by cases h), (fun _ _ h => by cases h), (fun _ _ h => by cases h), (fun r k u l h hgr ht => ?_), (fun r s k k' u l u' l' h1 g1 t1 h2 g2 t2 => by rw [(at0 r k h1).1, (at0 s k' h2).1])⟩⟩
  ·obtain ⟨rfl, rfl⟩ := at0 r k h
   cases hg
   exact ⟨rfl, rfl⟩
  ·have : r ≠ 0 := by rintro rfl; simp at hr
   simp [this]
  ·obtain ⟨rfl, rfl⟩ := at0 r k h
   cases ht
   exact ⟨rfl, fun _ _ => rfl, fun j row hj => by simp at hj⟩
 have e0 : Ext (tI w) w (Gd.of G) aK w (Gd.of G) ⟨fun _ => none, fun r => if r = 0 then some 0 else none⟩ :=
  ⟨⟨fun b hb => ⟨hb, rfl⟩, fun _ _ h => (by cases h), fun _ _ h => (by cases h), fun _ _ h => h, fun _ _ h => h⟩, rfl, rfl, rfl, Nat.le_refl _, Nat.le_refl _, fun _ _ _ => rfl, fun _ h => .inl h⟩
 refine ⟨enters hg (hP.names g fn hg) (by rw [hc]; rfl) _ _, calls_of_wp hg hc ?_⟩
 have hI : I (tI w) w (Gd.of G) aK fn.ntmps (start aT 0 (hX args x)) [some (arB ae t [])] ⟨us ++ Array.replicate (fn.ntmps - us.size) undef, []⟩ w := ⟨Gd.of G, _, e0, hW, qL hv.bE (Nat.le_of_ble_eq_true hlen)⟩
 refine wp_mono (h2 _ w (Gd.of G) aK _ w (fun r => ⟨rfl, rfl⟩) hI) ?_
 rintro e a' w' ⟨rfl, G1, μ1, e1, e2, hF'⟩
 obtain ⟨ws, h3, h4⟩ := kY (P := P) e2 hF' hvs
 have hres : (results fn a'.tmps).run P w' = .ok (if hh : ws.toArray.size = 1 then ws.toArray[0] else .tuple ws.toArray) w' := by
  rw [sS, Array.mapM_eq_mapM_toList]
  simp only [Sem.run_bind, Sem.run_map, h3, Result.andThen_ok, Sem.run_pure]
 have hval := FO (G := ⟨fun b => G1 b ∨ ∃ r k, H'[r]? = some (some k) ∧ μ1.loc r = some b, G1.row⟩) (G' := Gd.of fun b => G1 b ∨ ∃ r k, H'[r]? = some (some k) ∧ μ1.loc r = some b) (fun b h => h) _ _ _ hq2
   (AJ (G' := ⟨fun b => G1 b ∨ ∃ r k, H'[r]? = some (some k) ∧ μ1.loc r = some b, G1.row⟩) e2 (fun _ _ h => h) (fun b hb => .inl hb) (fun r k b hr _ hb => .inr ⟨r, k, hr, hb⟩) depth _ q _ hq1 (mS h4))
 have hext : Ext (tI w) w (Gd.of G) aK w' (Gd.of fun b => G1 b ∨ ∃ r k, H'[r]? = some (some k) ∧ μ1.loc r = some b) aK := {
  good := fun b hb => ⟨.inl (e1.good b hb).1, (e1.good b hb).2⟩
  map := fun _ _ h => h
  len := fun _ _ h => h
  room := e1.room
  row := fun _ _ h => h
  os := e1.os
  tape := e1.tape
  output := e1.output
  size := e1.size
  drawn := e1.drawn
  old := e1.old
  new := fun b hb => by
   rcases hb with hb | ⟨r, k, hr, hb⟩
   ·exact e1.new b hb
   ·obtain ⟨c, _, _, _, g5, g6⟩ := e2.blk r k b hr hb
    cases hf : k.frozen with
    | true => exact e1.new b (g5 hf)
    | false => exact .inr (g6 hf).1 }
 have hlt' : ∀ b, (G1 b ∨ ∃ r k, H'[r]? = some (some k) ∧ μ1.loc r = some b) → b < w'.heap.size := by
  rintro b (hb | ⟨r, k, hr, hb⟩)
  ·exact e2.lt b hb
  ·exact e2.j3 hr hb
 have hpost : a'.defers = [] ∧ ∃ v, (results fn a'.tmps).run P w' = .ok v w' ∧ (∃ v' G', Ending.returned v = .returned v' ∧ Ext (tI w) w (Gd.of G) aK w' (Gd.of G') aK ∧ (∀ b, G' b → b < w'.heap.size) ∧ VR w' (Gd.of G') aK (aGI rets y) v') :=
  ⟨hF'.defers, _, hres, _, _, rfl, hext, hlt', LN hd hval⟩
 rcases hex with rfl | rfl
 ·exact hpost
 ·exact hpost

def aHG (e : TypeId) (t : Ty) (H : Heap) : List PV → Option (List t.den × Nat × List PV)
 | .own r sz :: ps => match EA e t (.own r sz) H r with
  | some l => some (l, r, ps)
  | none => none
 | _ => none
def Tk.dec : (tk : Tk) → List PV → Heap → Option (tk.den × Nat × List PV)
 | .none, qs, _ => some ((), 0, qs)
 | .own e t, qs, H => aHG e t H qs
theorem U2 (hW : aV n0 G μ H w) {e : TypeId} {u : Ty} {qs : List PV} {l : List u.den} {r : Nat} {ps : List PV} (h : aHG e u H qs = some (l, r, ps)) : H[r]? = some (some (owB e u l)) ∧ qs = .own r u.size :: ps := by
 unfold aHG at h
 split at h
 ·rename_i r1 sz ps1
  split at h
  ·rename_i l1 hl1
   simp only [Option.some.injEq, Prod.mk.injEq] at h
   obtain ⟨rfl, rfl, rfl⟩ := h
   obtain ⟨g1, g2⟩ := rE hW hl1
   exact ⟨g2, by rw [g1]⟩
  ·cases h
 ·cases h
theorem Tk.aPQ (hW : aV n0 G μ H w) {tk : Tk} {qs : List PV} {l : tk.den} {r : Nat} {ps : List PV} (h : tk.dec qs H = some (l, r, ps)) : aNF H (tk.ow l r) ∧ qs = tk.pv r ++ ps := by
 cases tk with
 | none =>
  simp only [Tk.dec, Option.some.injEq, Prod.mk.injEq] at h
  obtain ⟨_, _, rfl⟩ := h
  exact ⟨⟨fun _ _ h => by cases h⟩, rfl⟩
 | own e u =>
  obtain ⟨h1, h2⟩ := U2 hW (h : aHG e u H qs = some (l, r, ps))
  refine ⟨⟨fun r' k he => ?_⟩, h2⟩
  cases he
  exact ⟨h1, rfl, rfl, rfl⟩
def arH (ae : TypeId) (t : Ty) (tk : Tk) (args : List Kd) (an : An) (f : tk.den → aH args → List (List t.den) → Option (an.den × List (List t.den))) (qs : List PV) (H : Heap) : Option aJ3 := match tk.dec qs H with
 | some (l, r, ps) => match aO7 ae t H with
  | some (ra, A) => match aE0 args ps with
   | some x => bif cY.noRefs ps then some ⟨an.den × List (List t.den), f l x A, fun y => (an.pv y.1 (H.length + 1), ((CT (tk.ow l r) H).set ra none) ++ (some (arB ae t y.2) :: an.hp y.1))⟩ else none
   | none => none
  | none => none
 | none => none
theorem T8 {g : FuncId} {tk : Tk} {args : List Kd} {an : An} {f : tk.den → aH args → List (List t.den) → Option (an.den × List (List t.den))} (hf : X1 P g ae t tk args an f) :
  ∀ qs H r, arH ae t tk args an f qs H = some r → ∀ y, r.val = some y → ∀ {n0 G μ w vs}, aV n0 G μ H w → VRs w G μ qs vs → oN P n0 w G μ g vs.toArray (r.out y).1 (r.out y).2 := by
 intro qs H rh h y hy n0 G μ w vs hW hv
 unfold arH at h
 split at h
 ·rename_i l r ps hl
  split at h
  ·rename_i ra A hA
   split at h
   ·rename_i x hx
    obtain ⟨hb, h⟩ := aN2 h
    simp only [Option.some.injEq] at h
    subst h
    obtain ⟨ho, rfl⟩ := Tk.aPQ hW hl
    have hv' : VRs w G μ (tk.pv r ++ hX args x) vs := by
     cases tk with
     | none => exact (wS args hx (cK _ _ hb hv)).bE
     | own e u =>
      change VRs w G μ (.own r u.size :: ps) vs at hv
      change VRs w G μ (.own r u.size :: hX args x) vs
      rw [VRs] at hv ⊢
      obtain ⟨v, us, rfl, q1, q2⟩ := hv
      exact ⟨v, us, rfl, q1, (wS args hx (cK _ _ hb q2)).bE⟩
    obtain ⟨y1, y2⟩ := y
    exact hf l x A y1 y2 hy hW (N3 hW hA) ho hv'
   ·cases h
  ·cases h
 ·cases h
end
end Go.PM
set_option linter.unusedSimpArgs false
set_option linter.unusedVariables false
namespace Go.PM
open Go Go.RowKit Go.Proofs
set_option maxRecDepth 100000
set_option maxHeartbeats 4000000
/-! schisma/whole.split -/
def bK (x : aH [.str]) : Option (aH [.bool, .str]) := match x with
 | (v0, ()) =>
  bif ltI 0 (v0.size : Int) then
   bif aQ 0 v0.size then bif eqI (aB0 v0 0) 45 then
    bif Nat.ble 1 v0.size then bif Nat.ble v0.size v0.size then some (true, (v0.extract 1 v0.size), ()) else none else none
   else some (false, v0, ()) else none
  else some (false, v0, ())
noncomputable def GM : Code := aS Tryz.f130
abbrev RI : Env := bI []
theorem VS : aY Tryz.prog RI := aX trivial
def MS (id : Nat) : Option aR := none
theorem SR : aF GM = [] := by kernel_rfl
theorem VU : ∀ x, bQ Tryz.prog RI Tryz.f130 (aC Tryz.f130) MS GM [.str] [.bool, .str] x = bK x := by
 rintro ⟨v0, ⟨⟩⟩
 kernel_rfl
theorem aA2 : cL Tryz.prog 130 [.str] [.bool, .str] bK := by
 exact aZ aJ VS Tryz.func130 (c := GM) (by kernel_rfl) (aT := aC Tryz.f130) (lt := MS) (aE SR trivial) VU
abbrev oZ : Ent := ⟨130, [.str], [.bool, .str], bK⟩
theorem l8 : Ent.OK Tryz.prog oZ := aA2

/-! schisma/whole.join -/
def aA (x : aH [.bool, .str]) : Option (aH [.str]) := match x with
 | (v0, v1, ()) =>
  bif v0 then
   bif !(eqS v1 (ByteArray.mk #[48])) then
    bif Nat.ble ((ByteArray.mk #[45]).size + v1.size) 9223372036854775807 then some (((ByteArray.mk #[45]) ++ v1), ()) else none
   else some (v1, ())
  else some (v1, ())
noncomputable def JY : Code := aS Tryz.f136
abbrev U8 : Env := bI []
theorem XZ : aY Tryz.prog U8 := aX trivial
def PX (id : Nat) : Option aR := none
theorem VT : aF JY = [] := by kernel_rfl
theorem aAZ : ∀ x, bQ Tryz.prog U8 Tryz.f136 (aC Tryz.f136) PX JY [.bool, .str] [.str] x = aA x := by
 rintro ⟨v0, v1, ⟨⟩⟩
 kernel_rfl
theorem aFE : cL Tryz.prog 136 [.bool, .str] [.str] aA := by
 exact aZ aJ XZ Tryz.func136 (c := JY) (by kernel_rfl) (aT := aC Tryz.f136) (lt := PX) (aE VT trivial) aAZ
abbrev xQ : Ent := ⟨136, [.bool, .str], [.str], aA⟩
theorem uQ : Ent.OK Tryz.prog xQ := aFE

/-! schisma/whole.little -/
def gV (x : aH [.str, .int .i64]) : Option (aH [.int .i64, .bool]) := match x with
 | (v0, v1, ()) =>
  bif ltI v1 (v0.size : Int) then
   some (0, false, ())
  else aB (sA (v0, ())) fun y1 =>
  some (y1.1, true, ())
noncomputable def EH : Code := aS Tryz.f132
abbrev MJ : Env := bI [MX]
theorem R4 : aY Tryz.prog MJ := aX ⟨SK, trivial⟩
def KI (id : Nat) : Option aR := none
theorem QF : aF EH = [] := by kernel_rfl
theorem TU : ∀ x, bQ Tryz.prog MJ Tryz.f132 (aC Tryz.f132) KI EH [.str, .int .i64] [.int .i64, .bool] x = gV x := by
 rintro ⟨v0, v1, ⟨⟩⟩
 kernel_rfl
theorem Y3 : cL Tryz.prog 132 [.str, .int .i64] [.int .i64, .bool] gV := by
 exact aZ aJ R4 Tryz.func132 (c := EH) (by kernel_rfl) (aT := aC Tryz.f132) (lt := KI) (aE QF trivial) TU
abbrev wL : Ent := ⟨132, [.str, .int .i64], [.int .i64, .bool], gV⟩
theorem wB : Ent.OK Tryz.prog wL := Y3

/-! schisma/whole.Of -/
def gF (x : aH [.int .i64]) : Option (aH [.str]) := match x with
 | (v0, ()) =>
  aB (sJ (v0, ())) fun y1 =>
  some (y1.1, ())
noncomputable def SP : Code := aS Tryz.f115
abbrev aCN : Env := bI [MI]
theorem aFO : aY Tryz.prog aCN := aX ⟨RZ, trivial⟩
def ZA (id : Nat) : Option aR := none
theorem aA3 : aF SP = [] := by kernel_rfl
theorem aEC : ∀ x, bQ Tryz.prog aCN Tryz.f115 (aC Tryz.f115) ZA SP [.int .i64] [.str] x = gF x := by
 rintro ⟨v0, ⟨⟩⟩
 kernel_rfl
theorem aJI : cL Tryz.prog 115 [.int .i64] [.str] gF := by
 exact aZ aJ aFO Tryz.func115 (c := SP) (by kernel_rfl) (aT := aC Tryz.f115) (lt := ZA) (aE aA3 trivial) aEC
abbrev AE : Ent := ⟨115, [.int .i64], [.str], gF⟩
theorem uW : Ent.OK Tryz.prog AE := aJI

/-! schisma/whole.Small -/
def oW (x : aH [.str]) : Option (aH [.int .i64, .bool]) := match x with
 | (v0, ()) =>
  aB (mI (v0, 10, 64, ())) fun y1 =>
  some (y1.1, true, ())
noncomputable def HD : Code := aS Tryz.f109
abbrev PO : Env := bI [C3]
theorem WD : aY Tryz.prog PO := aX ⟨J6, trivial⟩
def M3 (id : Nat) : Option aR := none
theorem TJ : aF HD = [] := by kernel_rfl
theorem V5 : ∀ x, bQ Tryz.prog PO Tryz.f109 (aC Tryz.f109) M3 HD [.str] [.int .i64, .bool] x = oW x := by
 rintro ⟨v0, ⟨⟩⟩
 kernel_rfl
theorem aBU : cL Tryz.prog 109 [.str] [.int .i64, .bool] oW := by
 exact aZ aJ WD Tryz.func109 (c := HD) (by kernel_rfl) (aT := aC Tryz.f109) (lt := M3) (aE TJ trivial) V5
abbrev GI : Ent := ⟨109, [.str], [.int .i64, .bool], oW⟩
theorem IQ : Ent.OK Tryz.prog GI := aBU

/-! schisma/whole.Sign -/
def mE (x : aH [.str]) : Option (aH [.int .i64]) := match x with
 | (v0, ()) =>
  bif eqS v0 (ByteArray.mk #[48]) then
   some (0, ())
  else bif aQ 0 v0.size then bif eqI (aB0 v0 0) 45 then
   some ((-1), ())
  else some (1, ()) else none
noncomputable def J4 : Code := aS Tryz.f105
abbrev U0 : Env := bI []
theorem ZU : aY Tryz.prog U0 := aX trivial
def RH (id : Nat) : Option aR := none
theorem V6 : aF J4 = [] := by kernel_rfl
theorem YA : ∀ x, bQ Tryz.prog U0 Tryz.f105 (aC Tryz.f105) RH J4 [.str] [.int .i64] x = mE x := by
 rintro ⟨v0, ⟨⟩⟩
 kernel_rfl
theorem aFZ : cL Tryz.prog 105 [.str] [.int .i64] mE := by
 exact aZ aJ ZU Tryz.func105 (c := J4) (by kernel_rfl) (aT := aC Tryz.f105) (lt := RH) (aE V6 trivial) YA
abbrev KW : Ent := ⟨105, [.str], [.int .i64], mE⟩
theorem JQ : Ent.OK Tryz.prog KW := aFZ

/-! schisma/decimal.Of -/
def kW (x : aH [.int .u64]) : Option (aH [.str]) := match x with
 | (v0, ()) =>
  aB (kM (v0, 10, ())) fun y1 =>
  some (y1.1, ())
noncomputable def KN : Code := aS Tryz.f156
abbrev VM : Env := bI [yV]
theorem Z7 : aY Tryz.prog VM := aX ⟨H7, trivial⟩
def Q7 (id : Nat) : Option aR := none
theorem WC : aF KN = [] := by kernel_rfl
theorem Y8 : ∀ x, bQ Tryz.prog VM Tryz.f156 (aC Tryz.f156) Q7 KN [.int .u64] [.str] x = kW x := by
 rintro ⟨v0, ⟨⟩⟩
 kernel_rfl
theorem aFW : cL Tryz.prog 156 [.int .u64] [.str] kW := by
 exact aZ aJ Z7 Tryz.func156 (c := KN) (by kernel_rfl) (aT := aC Tryz.f156) (lt := Q7) (aE WC trivial) Y8
abbrev xD : Ent := ⟨156, [.int .u64], [.str], kW⟩
theorem uV : Ent.OK Tryz.prog xD := aFW

/-! schisma/decimal.Small -/
def lH (x : aH [.str]) : Option (aH [.int .u64, .bool]) := match x with
 | (v0, ()) =>
  aB (lM (v0, 10, 64, ())) fun y1 =>
  some (y1.1, true, ())
noncomputable def A5 : Code := aS Tryz.f185
abbrev KY : Env := bI [AQ]
theorem QM : aY Tryz.prog KY := aX ⟨IZ, trivial⟩
def IP (id : Nat) : Option aR := none
theorem NX : aF A5 = [] := by kernel_rfl
theorem PQ : ∀ x, bQ Tryz.prog KY Tryz.f185 (aC Tryz.f185) IP A5 [.str] [.int .u64, .bool] x = lH x := by
 rintro ⟨v0, ⟨⟩⟩
 kernel_rfl
theorem VP : cL Tryz.prog 185 [.str] [.int .u64, .bool] lH := by
 exact aZ aJ QM Tryz.func185 (c := A5) (by kernel_rfl) (aT := aC Tryz.f185) (lt := IP) (aE NX trivial) PQ
abbrev KV : Ent := ⟨185, [.str], [.int .u64, .bool], lH⟩
theorem RB : Ent.OK Tryz.prog KV := VP

/-! schisma/decimal.both -/
def kA (x : aH [.str, .str]) : Option (aH [.int .u64, .int .u64, .bool]) := match x with
 | (v0, v1, ()) =>
  bif ltI 18 (v0.size : Int) then
   some (0, 0, false, ())
  else bif ltI 18 (v1.size : Int) then
   some (0, 0, false, ())
  else aB (lH (v0, ())) fun y1 =>
  aB (lH (v1, ())) fun y2 =>
  some (y1.1, y2.1, true, ())
noncomputable def DR : Code := aS Tryz.f155
abbrev MM : Env := bI [KV]
theorem UD : aY Tryz.prog MM := aX ⟨RB, trivial⟩
def JT (id : Nat) : Option aR := none
theorem RG : aF DR = [] := by kernel_rfl
theorem TW : ∀ x, bQ Tryz.prog MM Tryz.f155 (aC Tryz.f155) JT DR [.str, .str] [.int .u64, .int .u64, .bool] x = kA x := by
 rintro ⟨v0, v1, ⟨⟩⟩
 kernel_rfl
theorem XH : cL Tryz.prog 155 [.str, .str] [.int .u64, .int .u64, .bool] kA := by
 exact aZ aJ UD Tryz.func155 (c := DR) (by kernel_rfl) (aT := aC Tryz.f155) (lt := JT) (aE RG trivial) TW
abbrev sF : Ent := ⟨155, [.str, .str], [.int .u64, .int .u64, .bool], kA⟩
theorem qZ : Ent.OK Tryz.prog sF := XH

/-! schisma/decimal.Compare -/
def cP (x : aH [.str, .str]) : Option (aH [.int .i64]) := match x with
 | (v0, v1, ()) =>
  bif !(eqI (v0.size : Int) (v1.size : Int)) then
   some ((if (if (-1) < (aL .i64 ((v0.size : Int) - (v1.size : Int))) then (aL .i64 ((v0.size : Int) - (v1.size : Int))) else (-1)) < 1 then (if (-1) < (aL .i64 ((v0.size : Int) - (v1.size : Int))) then (aL .i64 ((v0.size : Int) - (v1.size : Int))) else (-1)) else 1), ())
  else bif ltS v0 v1 then
   some ((-1), ())
  else bif !(ltS v0 v1 || eqS v0 v1) then
   some (1, ())
  else some (0, ())
noncomputable def vQ : Code := aS Tryz.f131
abbrev FP : Env := bI []
theorem L9 : aY Tryz.prog FP := aX trivial
def DA (id : Nat) : Option aR := none
theorem KP : aF vQ = [] := by kernel_rfl
theorem MG : ∀ x, bQ Tryz.prog FP Tryz.f131 (aC Tryz.f131) DA vQ [.str, .str] [.int .i64] x = cP x := by
 rintro ⟨v0, v1, ⟨⟩⟩
 kernel_rfl
theorem RA : cL Tryz.prog 131 [.str, .str] [.int .i64] cP := by
 exact aZ aJ L9 Tryz.func131 (c := vQ) (by kernel_rfl) (aT := aC Tryz.f131) (lt := DA) (aE KP trivial) MG
abbrev rC : Ent := ⟨131, [.str, .str], [.int .i64], cP⟩
theorem rU : Ent.OK Tryz.prog rC := RA

/-! schisma/whole.Compare -/
def oA (x : aH [.str, .str]) : Option (aH [.int .i64]) := match x with
 | (v0, v1, ()) =>
  aB (mE (v0, ())) fun y1 =>
  aB (mE (v1, ())) fun y2 =>
  bif !(eqI y1.1 y2.1) then
   bif ltI y1.1 y2.1 then
    some ((-1), ())
   else some (1, ())
  else aB (bK (v0, ())) fun y3 =>
  aB (bK (v1, ())) fun y4 =>
  bif y3.1 then
   aB (cP (y4.2.1, y3.2.1, ())) fun y5 =>
   some (y5.1, ())
  else aB (cP (y3.2.1, y4.2.1, ())) fun y6 =>
  some (y6.1, ())
noncomputable def BL : Code := aS Tryz.f101
abbrev JR : Env := bI [rC, KW, oZ]
theorem RL : aY Tryz.prog JR := aX ⟨rU, JQ, l8, trivial⟩
def IS (id : Nat) : Option aR := none
theorem OW : aF BL = [] := by kernel_rfl
theorem QC : ∀ x, bQ Tryz.prog JR Tryz.f101 (aC Tryz.f101) IS BL [.str, .str] [.int .i64] x = oA x := by
 rintro ⟨v0, v1, ⟨⟩⟩
 kernel_rfl
theorem WA : cL Tryz.prog 101 [.str, .str] [.int .i64] oA := by
 exact aZ aJ RL Tryz.func101 (c := BL) (by kernel_rfl) (aT := aC Tryz.f101) (lt := IS) (aE OW trivial) QC
abbrev J9 : Ent := ⟨101, [.str, .str], [.int .i64], oA⟩
theorem PU : Ent.OK Tryz.prog J9 := WA

/-! schisma/whole.Neg -/
def sX (x : aH [.str]) : Option (aH [.str]) := match x with
 | (v0, ()) =>
  aB (bK (v0, ())) fun y1 =>
  bif y1.1 then
   aB (aA (false, y1.2.1, ())) fun y2 =>
   some (y2.1, ())
  else aB (aA (true, y1.2.1, ())) fun y3 =>
  some (y3.1, ())
noncomputable def N8 : Code := aS Tryz.f139
abbrev XA : Env := bI [xQ, oZ]
theorem aBH : aY Tryz.prog XA := aX ⟨uQ, l8, trivial⟩
def VE (id : Nat) : Option aR := none
theorem YV : aF N8 = [] := by kernel_rfl
theorem aBW : ∀ x, bQ Tryz.prog XA Tryz.f139 (aC Tryz.f139) VE N8 [.str] [.str] x = sX x := by
 rintro ⟨v0, ⟨⟩⟩
 kernel_rfl
theorem aIV : cL Tryz.prog 139 [.str] [.str] sX := by
 exact aZ aJ aBH Tryz.func139 (c := N8) (by kernel_rfl) (aT := aC Tryz.f139) (lt := VE) (aE YV trivial) aBW
abbrev OD : Ent := ⟨139, [.str], [.str], sX⟩
theorem MO : Ent.OK Tryz.prog OD := aIV

/-! schisma/whole.Abs -/
def sO (x : aH [.str]) : Option (aH [.str]) := match x with
 | (v0, ()) =>
  aB (bK (v0, ())) fun y1 =>
  some (y1.2.1, ())
noncomputable def OT : Code := aS Tryz.f102
abbrev YK : Env := bI [oZ]
theorem aBQ : aY Tryz.prog YK := aX ⟨l8, trivial⟩
def US (id : Nat) : Option aR := none
theorem W7 : aF OT = [] := by kernel_rfl
theorem aB2 : ∀ x, bQ Tryz.prog YK Tryz.f102 (aC Tryz.f102) US OT [.str] [.str] x = sO x := by
 rintro ⟨v0, ⟨⟩⟩
 kernel_rfl
theorem aH4 : cL Tryz.prog 102 [.str] [.str] sO := by
 exact aZ aJ aBQ Tryz.func102 (c := OT) (by kernel_rfl) (aT := aC Tryz.f102) (lt := US) (aE W7 trivial) aB2
abbrev XE : Ent := ⟨102, [.str], [.str], sO⟩
theorem aBV : Ent.OK Tryz.prog XE := aH4

/-! schisma/decimal.Add -/
def dN (x : aH [.str, .str]) : Option (aH [.str]) := match x with
 | (v0, v1, ()) =>
  aB (kA (v0, v1, ())) fun y1 =>
  bif y1.2.2.1 then aB (kW ((aL .u64 (y1.1 + y1.2.1)), ())) fun y2 =>
  some (y2.1, ()) else none
noncomputable def FY : Code := aS Tryz.f134
abbrev RD : Env := bI [xD, sF]
theorem VZ : aY Tryz.prog RD := aX ⟨uV, qZ, trivial⟩
def MW (id : Nat) : Option aR := none
theorem SF : aF FY = [] := by kernel_rfl
theorem WJ : ∀ x, bQ Tryz.prog RD Tryz.f134 (aC Tryz.f134) MW FY [.str, .str] [.str] x = dN x := by
 rintro ⟨v0, v1, ⟨⟩⟩
 kernel_rfl
theorem aBN : cL Tryz.prog 134 [.str, .str] [.str] dN := by
 exact aZ aJ VZ Tryz.func134 (c := FY) (by kernel_rfl) (aT := aC Tryz.f134) (lt := MW) (aE SF trivial) WJ
abbrev HN : Ent := ⟨134, [.str, .str], [.str], dN⟩
theorem II : Ent.OK Tryz.prog HN := aBN

/-! schisma/decimal.Sub -/
def bR (x : aH [.str, .str]) : Option (aH [.str, .int .i64]) := match x with
 | (v0, v1, ()) =>
  aB (cP (v0, v1, ())) fun y1 =>
  bif ltI y1.1 0 then
   some ((ByteArray.mk #[]), 3, ())
  else aB (kA (v0, v1, ())) fun y2 =>
  bif y2.2.2.1 then aB (kW ((aL .u64 (y2.1 - y2.2.1)), ())) fun y3 =>
  some (y3.1, 0, ()) else none
noncomputable def HR : Code := aS Tryz.f135
abbrev RT : Env := bI [rC, xD, sF]
theorem V7 : aY Tryz.prog RT := aX ⟨rU, uV, qZ, trivial⟩
def ML (id : Nat) : Option aR := none
theorem SJ : aF HR = [] := by kernel_rfl
theorem V1 : ∀ x, bQ Tryz.prog RT Tryz.f135 (aC Tryz.f135) ML HR [.str, .str] [.str, .int .i64] x = bR x := by
 rintro ⟨v0, v1, ⟨⟩⟩
 kernel_rfl
theorem aBA : cL Tryz.prog 135 [.str, .str] [.str, .int .i64] bR := by
 exact aZ aJ V7 Tryz.func135 (c := HR) (by kernel_rfl) (aT := aC Tryz.f135) (lt := ML) (aE SJ trivial) V1
abbrev HX : Ent := ⟨135, [.str, .str], [.str, .int .i64], bR⟩
theorem IC : Ent.OK Tryz.prog HX := aBA

/-! schisma/decimal.Mul -/
def dI (x : aH [.str, .str]) : Option (aH [.str]) := match x with
 | (v0, v1, ()) =>
  bif !(ltI 18 (aL .i64 ((v0.size : Int) + (v1.size : Int)))) then aB (kA (v0, v1, ())) fun y1 =>
  aB (kW ((aL .u64 (y1.1 * y1.2.1)), ())) fun y2 =>
  some (y2.1, ()) else none
noncomputable def GS : Code := aS Tryz.f166
abbrev O7 : Env := bI [xD, sF]
theorem WE : aY Tryz.prog O7 := aX ⟨uV, qZ, trivial⟩
def MN (id : Nat) : Option aR := none
theorem TS : aF GS = [] := by kernel_rfl
theorem V4 : ∀ x, bQ Tryz.prog O7 Tryz.f166 (aC Tryz.f166) MN GS [.str, .str] [.str] x = dI x := by
 rintro ⟨v0, v1, ⟨⟩⟩
 kernel_rfl
theorem aBY : cL Tryz.prog 166 [.str, .str] [.str] dI := by
 exact aZ aJ WE Tryz.func166 (c := GS) (by kernel_rfl) (aT := aC Tryz.f166) (lt := MN) (aE TS trivial) V4
abbrev PI : Ent := ⟨166, [.str, .str], [.str], dI⟩
theorem V3 : Ent.OK Tryz.prog PI := aBY

/-! schisma/decimal.DivMod -/
def jD (x : aH [.str, .str]) : Option (aH [.str, .str, .int .i64]) := match x with
 | (v0, v1, ()) =>
  bif eqS v1 (ByteArray.mk #[48]) then
   some ((ByteArray.mk #[]), (ByteArray.mk #[]), 17, ())
  else aB (kA (v0, v1, ())) fun y1 =>
  bif y1.2.2.1 then bif eqI y1.2.1 0 then none else aB (kW ((aL .u64 (y1.1.tdiv y1.2.1)), ())) fun y2 =>
  bif eqI y1.2.1 0 then none else aB (kW ((y1.1.tmod y1.2.1), ())) fun y3 =>
  some (y2.1, y3.1, 0, ()) else none
noncomputable def yB : Code := aS Tryz.f133
abbrev IG : Env := bI [xD, sF]
theorem NL : aY Tryz.prog IG := aX ⟨uV, qZ, trivial⟩
def EO (id : Nat) : Option aR := none
theorem LZ : aF yB = [] := by kernel_rfl
theorem N5 : ∀ x, bQ Tryz.prog IG Tryz.f133 (aC Tryz.f133) EO yB [.str, .str] [.str, .str, .int .i64] x = jD x := by
 rintro ⟨v0, v1, ⟨⟩⟩
 kernel_rfl
theorem S3 : cL Tryz.prog 133 [.str, .str] [.str, .str, .int .i64] jD := by
 exact aZ aJ NL Tryz.func133 (c := yB) (by kernel_rfl) (aT := aC Tryz.f133) (lt := EO) (aE LZ trivial) N5
abbrev IB : Ent := ⟨133, [.str, .str], [.str, .str, .int .i64], jD⟩
theorem NG : Ent.OK Tryz.prog IB := S3

/-! schisma/whole.Add -/
def wI (x : aH [.str, .str]) : Option (aH [.str]) := match x with
 | (v0, v1, ()) =>
  aB (gV (v0, 18, ())) fun y1 =>
  bif y1.2.1 then
   aB (gV (v1, 18, ())) fun y2 =>
   bif y2.2.1 then
    aB (gF ((aL .i64 (y1.1 + y2.1)), ())) fun y3 =>
    some (y3.1, ())
   else aB (bK (v0, ())) fun y4 =>
   aB (bK (v1, ())) fun y5 =>
   bif y4.1 then
    bif y5.1 then
     aB (dN (y4.2.1, y5.2.1, ())) fun y6 =>
     aB (aA (y4.1, y6.1, ())) fun y7 =>
     some (y7.1, ())
    else aB (cP (y4.2.1, y5.2.1, ())) fun y8 =>
    bif ltI y8.1 0 then
     aB (bR (y5.2.1, y4.2.1, ())) fun y9 =>
     aB (aA (y5.1, y9.1, ())) fun y10 =>
     some (y10.1, ())
    else aB (bR (y4.2.1, y5.2.1, ())) fun y11 =>
    aB (aA (y4.1, y11.1, ())) fun y12 =>
    some (y12.1, ())
   else bif y5.1 then
    aB (cP (y4.2.1, y5.2.1, ())) fun y13 =>
    bif ltI y13.1 0 then
     aB (bR (y5.2.1, y4.2.1, ())) fun y14 =>
     aB (aA (y5.1, y14.1, ())) fun y15 =>
     some (y15.1, ())
    else aB (bR (y4.2.1, y5.2.1, ())) fun y16 =>
    aB (aA (y4.1, y16.1, ())) fun y17 =>
    some (y17.1, ())
   else aB (dN (y4.2.1, y5.2.1, ())) fun y18 =>
   aB (aA (y4.1, y18.1, ())) fun y19 =>
   some (y19.1, ())
  else aB (bK (v0, ())) fun y20 =>
  aB (bK (v1, ())) fun y21 =>
  bif y20.1 then
   bif y21.1 then
    aB (dN (y20.2.1, y21.2.1, ())) fun y22 =>
    aB (aA (y20.1, y22.1, ())) fun y23 =>
    some (y23.1, ())
   else aB (cP (y20.2.1, y21.2.1, ())) fun y24 =>
   bif ltI y24.1 0 then
    aB (bR (y21.2.1, y20.2.1, ())) fun y25 =>
    aB (aA (y21.1, y25.1, ())) fun y26 =>
    some (y26.1, ())
   else aB (bR (y20.2.1, y21.2.1, ())) fun y27 =>
   aB (aA (y20.1, y27.1, ())) fun y28 =>
   some (y28.1, ())
  else bif y21.1 then
   aB (cP (y20.2.1, y21.2.1, ())) fun y29 =>
   bif ltI y29.1 0 then
    aB (bR (y21.2.1, y20.2.1, ())) fun y30 =>
    aB (aA (y21.1, y30.1, ())) fun y31 =>
    some (y31.1, ())
   else aB (bR (y20.2.1, y21.2.1, ())) fun y32 =>
   aB (aA (y20.1, y32.1, ())) fun y33 =>
   some (y33.1, ())
  else aB (dN (y20.2.1, y21.2.1, ())) fun y34 =>
  aB (aA (y20.1, y34.1, ())) fun y35 =>
  some (y35.1, ())
noncomputable def O1 : Code := aS Tryz.f165
abbrev Z1 : Env := bI [HN, rC, HX, AE, xQ, wL, oZ]
theorem aBO : aY Tryz.prog Z1 := aX ⟨II, rU, IC, uW, uQ, wB, l8, trivial⟩
def UH (id : Nat) : Option aR := none
theorem ZE : aF O1 = [] := by kernel_rfl
theorem aBR : ∀ x, bQ Tryz.prog Z1 Tryz.f165 (aC Tryz.f165) UH O1 [.str, .str] [.str] x = wI x := by
 rintro ⟨v0, v1, ⟨⟩⟩
 kernel_rfl
theorem aIZ : cL Tryz.prog 165 [.str, .str] [.str] wI := by
 exact aZ aJ aBO Tryz.func165 (c := O1) (by kernel_rfl) (aT := aC Tryz.f165) (lt := UH) (aE ZE trivial) aBR
abbrev YF : Ent := ⟨165, [.str, .str], [.str], wI⟩
theorem aBC : Ent.OK Tryz.prog YF := aIZ

/-! schisma/whole.Sub -/
def sP (x : aH [.str, .str]) : Option (aH [.str]) := match x with
 | (v0, v1, ()) =>
  aB (sX (v1, ())) fun y1 =>
  aB (wI (v0, y1.1, ())) fun y2 =>
  some (y2.1, ())
noncomputable def OV : Code := aS Tryz.f137
abbrev ZC : Env := bI [YF, OD]
theorem aBF : aY Tryz.prog ZC := aX ⟨aBC, MO, trivial⟩
def U5 (id : Nat) : Option aR := none
theorem aAS : aF OV = [] := by kernel_rfl
theorem aBP : ∀ x, bQ Tryz.prog ZC Tryz.f137 (aC Tryz.f137) U5 OV [.str, .str] [.str] x = sP x := by
 rintro ⟨v0, v1, ⟨⟩⟩
 kernel_rfl
theorem aIH : cL Tryz.prog 137 [.str, .str] [.str] sP := by
 exact aZ aJ aBF Tryz.func137 (c := OV) (by kernel_rfl) (aT := aC Tryz.f137) (lt := U5) (aE aAS trivial) aBP
abbrev NZ : Ent := ⟨137, [.str, .str], [.str], sP⟩
theorem MY : Ent.OK Tryz.prog NZ := aIH

/-! schisma/whole.Mul -/
def sQ (x : aH [.str, .str]) : Option (aH [.str]) := match x with
 | (v0, v1, ()) =>
  aB (gV (v0, 9, ())) fun y1 =>
  bif y1.2.1 then
   aB (gV (v1, 9, ())) fun y2 =>
   bif y2.2.1 then
    aB (gF ((aL .i64 (y1.1 * y2.1)), ())) fun y3 =>
    some (y3.1, ())
   else aB (bK (v0, ())) fun y4 =>
   aB (bK (v1, ())) fun y5 =>
   bif y4.1 then
    bif y5.1 then
     aB (dI (y4.2.1, y5.2.1, ())) fun y6 =>
     aB (aA (false, y6.1, ())) fun y7 =>
     some (y7.1, ())
    else aB (dI (y4.2.1, y5.2.1, ())) fun y8 =>
    aB (aA (true, y8.1, ())) fun y9 =>
    some (y9.1, ())
   else bif y5.1 then
    aB (dI (y4.2.1, y5.2.1, ())) fun y10 =>
    aB (aA (true, y10.1, ())) fun y11 =>
    some (y11.1, ())
   else aB (dI (y4.2.1, y5.2.1, ())) fun y12 =>
   aB (aA (false, y12.1, ())) fun y13 =>
   some (y13.1, ())
  else aB (bK (v0, ())) fun y14 =>
  aB (bK (v1, ())) fun y15 =>
  bif y14.1 then
   bif y15.1 then
    aB (dI (y14.2.1, y15.2.1, ())) fun y16 =>
    aB (aA (false, y16.1, ())) fun y17 =>
    some (y17.1, ())
   else aB (dI (y14.2.1, y15.2.1, ())) fun y18 =>
   aB (aA (true, y18.1, ())) fun y19 =>
   some (y19.1, ())
  else bif y15.1 then
   aB (dI (y14.2.1, y15.2.1, ())) fun y20 =>
   aB (aA (true, y20.1, ())) fun y21 =>
   some (y21.1, ())
  else aB (dI (y14.2.1, y15.2.1, ())) fun y22 =>
  aB (aA (false, y22.1, ())) fun y23 =>
  some (y23.1, ())
noncomputable def N6 : Code := aS Tryz.f138
abbrev XR : Env := bI [PI, AE, xQ, wL, oZ]
theorem aA7 : aY Tryz.prog XR := aX ⟨V3, uW, uQ, wB, l8, trivial⟩
def U4 (id : Nat) : Option aR := none
theorem X9 : aF N6 = [] := by kernel_rfl
theorem aA5 : ∀ x, bQ Tryz.prog XR Tryz.f138 (aC Tryz.f138) U4 N6 [.str, .str] [.str] x = sQ x := by
 rintro ⟨v0, v1, ⟨⟩⟩
 kernel_rfl
theorem aG1 : cL Tryz.prog 138 [.str, .str] [.str] sQ := by
 exact aZ aJ aA7 Tryz.func138 (c := N6) (by kernel_rfl) (aT := aC Tryz.f138) (lt := U4) (aE X9 trivial) aA5
abbrev OQ : Ent := ⟨138, [.str, .str], [.str], sQ⟩
theorem MQ : Ent.OK Tryz.prog OQ := aG1

/-! schisma/whole.DivMod -/
def kZ (x : aH [.str, .str]) : Option (aH [.str, .str, .int .i64]) := match x with
 | (v0, v1, ()) =>
  bif eqS v1 (ByteArray.mk #[48]) then
   some ((ByteArray.mk #[]), (ByteArray.mk #[]), 17, ())
  else aB (gV (v0, 18, ())) fun y1 =>
  bif y1.2.1 then
   aB (gV (v1, 18, ())) fun y2 =>
   bif y2.2.1 then
    bif eqI y2.1 0 then none else bif eqI y2.1 0 then none else bif !(eqI (y1.1.tmod y2.1) 0) then
     bif ltI (y1.1.tmod y2.1) 0 then
      bif ltI y2.1 0 then
       aB (gF ((aL .i64 (y1.1.tdiv y2.1)), ())) fun y3 =>
       aB (gF ((y1.1.tmod y2.1), ())) fun y4 =>
       some (y3.1, y4.1, 0, ())
      else aB (gF ((aL .i64 ((aL .i64 (y1.1.tdiv y2.1)) - 1)), ())) fun y5 =>
      aB (gF ((aL .i64 ((y1.1.tmod y2.1) + y2.1)), ())) fun y6 =>
      some (y5.1, y6.1, 0, ())
     else bif ltI y2.1 0 then
      aB (gF ((aL .i64 ((aL .i64 (y1.1.tdiv y2.1)) - 1)), ())) fun y7 =>
      aB (gF ((aL .i64 ((y1.1.tmod y2.1) + y2.1)), ())) fun y8 =>
      some (y7.1, y8.1, 0, ())
     else aB (gF ((aL .i64 (y1.1.tdiv y2.1)), ())) fun y9 =>
     aB (gF ((y1.1.tmod y2.1), ())) fun y10 =>
     some (y9.1, y10.1, 0, ())
    else aB (gF ((aL .i64 (y1.1.tdiv y2.1)), ())) fun y11 =>
    aB (gF ((y1.1.tmod y2.1), ())) fun y12 =>
    some (y11.1, y12.1, 0, ())
   else aB (bK (v0, ())) fun y13 =>
   aB (bK (v1, ())) fun y14 =>
   aB (jD (y13.2.1, y14.2.1, ())) fun y15 =>
   bif !(eqI y15.2.2.1 0) then
    some ((ByteArray.mk #[]), (ByteArray.mk #[]), y15.2.2.1, ())
   else bif y13.1 then
    bif y14.1 then
     bif y13.1 then
      bif y14.1 then
       aB (aA (false, y15.1, ())) fun y16 =>
       aB (aA (y14.1, y15.2.1, ())) fun y17 =>
       some (y16.1, y17.1, 0, ())
      else aB (aA (true, y15.1, ())) fun y18 =>
      aB (aA (y14.1, y15.2.1, ())) fun y19 =>
      some (y18.1, y19.1, 0, ())
     else bif y14.1 then
      aB (aA (true, y15.1, ())) fun y20 =>
      aB (aA (y14.1, y15.2.1, ())) fun y21 =>
      some (y20.1, y21.1, 0, ())
     else aB (aA (false, y15.1, ())) fun y22 =>
     aB (aA (y14.1, y15.2.1, ())) fun y23 =>
     some (y22.1, y23.1, 0, ())
    else bif !(eqS y15.2.1 (ByteArray.mk #[48])) then
     aB (dN (y15.1, (ByteArray.mk #[49]), ())) fun y24 =>
     aB (bR (y14.2.1, y15.2.1, ())) fun y25 =>
     bif y13.1 then
      bif y14.1 then
       aB (aA (false, y24.1, ())) fun y26 =>
       aB (aA (y14.1, y25.1, ())) fun y27 =>
       some (y26.1, y27.1, 0, ())
      else aB (aA (true, y24.1, ())) fun y28 =>
      aB (aA (y14.1, y25.1, ())) fun y29 =>
      some (y28.1, y29.1, 0, ())
     else bif y14.1 then
      aB (aA (true, y24.1, ())) fun y30 =>
      aB (aA (y14.1, y25.1, ())) fun y31 =>
      some (y30.1, y31.1, 0, ())
     else aB (aA (false, y24.1, ())) fun y32 =>
     aB (aA (y14.1, y25.1, ())) fun y33 =>
     some (y32.1, y33.1, 0, ())
    else bif y13.1 then
     bif y14.1 then
      aB (aA (false, y15.1, ())) fun y34 =>
      aB (aA (y14.1, y15.2.1, ())) fun y35 =>
      some (y34.1, y35.1, 0, ())
     else aB (aA (true, y15.1, ())) fun y36 =>
     aB (aA (y14.1, y15.2.1, ())) fun y37 =>
     some (y36.1, y37.1, 0, ())
    else bif y14.1 then
     aB (aA (true, y15.1, ())) fun y38 =>
     aB (aA (y14.1, y15.2.1, ())) fun y39 =>
     some (y38.1, y39.1, 0, ())
    else aB (aA (false, y15.1, ())) fun y40 =>
    aB (aA (y14.1, y15.2.1, ())) fun y41 =>
    some (y40.1, y41.1, 0, ())
   else bif y14.1 then
    bif !(eqS y15.2.1 (ByteArray.mk #[48])) then
     aB (dN (y15.1, (ByteArray.mk #[49]), ())) fun y42 =>
     aB (bR (y14.2.1, y15.2.1, ())) fun y43 =>
     bif y13.1 then
      bif y14.1 then
       aB (aA (false, y42.1, ())) fun y44 =>
       aB (aA (y14.1, y43.1, ())) fun y45 =>
       some (y44.1, y45.1, 0, ())
      else aB (aA (true, y42.1, ())) fun y46 =>
      aB (aA (y14.1, y43.1, ())) fun y47 =>
      some (y46.1, y47.1, 0, ())
     else bif y14.1 then
      aB (aA (true, y42.1, ())) fun y48 =>
      aB (aA (y14.1, y43.1, ())) fun y49 =>
      some (y48.1, y49.1, 0, ())
     else aB (aA (false, y42.1, ())) fun y50 =>
     aB (aA (y14.1, y43.1, ())) fun y51 =>
     some (y50.1, y51.1, 0, ())
    else bif y13.1 then
     bif y14.1 then
      aB (aA (false, y15.1, ())) fun y52 =>
      aB (aA (y14.1, y15.2.1, ())) fun y53 =>
      some (y52.1, y53.1, 0, ())
     else aB (aA (true, y15.1, ())) fun y54 =>
     aB (aA (y14.1, y15.2.1, ())) fun y55 =>
     some (y54.1, y55.1, 0, ())
    else bif y14.1 then
     aB (aA (true, y15.1, ())) fun y56 =>
     aB (aA (y14.1, y15.2.1, ())) fun y57 =>
     some (y56.1, y57.1, 0, ())
    else aB (aA (false, y15.1, ())) fun y58 =>
    aB (aA (y14.1, y15.2.1, ())) fun y59 =>
    some (y58.1, y59.1, 0, ())
   else bif y13.1 then
    bif y14.1 then
     aB (aA (false, y15.1, ())) fun y60 =>
     aB (aA (y14.1, y15.2.1, ())) fun y61 =>
     some (y60.1, y61.1, 0, ())
    else aB (aA (true, y15.1, ())) fun y62 =>
    aB (aA (y14.1, y15.2.1, ())) fun y63 =>
    some (y62.1, y63.1, 0, ())
   else bif y14.1 then
    aB (aA (true, y15.1, ())) fun y64 =>
    aB (aA (y14.1, y15.2.1, ())) fun y65 =>
    some (y64.1, y65.1, 0, ())
   else aB (aA (false, y15.1, ())) fun y66 =>
   aB (aA (y14.1, y15.2.1, ())) fun y67 =>
   some (y66.1, y67.1, 0, ())
  else aB (bK (v0, ())) fun y68 =>
  aB (bK (v1, ())) fun y69 =>
  aB (jD (y68.2.1, y69.2.1, ())) fun y70 =>
  bif !(eqI y70.2.2.1 0) then
   some ((ByteArray.mk #[]), (ByteArray.mk #[]), y70.2.2.1, ())
  else bif y68.1 then
   bif y69.1 then
    bif y68.1 then
     bif y69.1 then
      aB (aA (false, y70.1, ())) fun y71 =>
      aB (aA (y69.1, y70.2.1, ())) fun y72 =>
      some (y71.1, y72.1, 0, ())
     else aB (aA (true, y70.1, ())) fun y73 =>
     aB (aA (y69.1, y70.2.1, ())) fun y74 =>
     some (y73.1, y74.1, 0, ())
    else bif y69.1 then
     aB (aA (true, y70.1, ())) fun y75 =>
     aB (aA (y69.1, y70.2.1, ())) fun y76 =>
     some (y75.1, y76.1, 0, ())
    else aB (aA (false, y70.1, ())) fun y77 =>
    aB (aA (y69.1, y70.2.1, ())) fun y78 =>
    some (y77.1, y78.1, 0, ())
   else bif !(eqS y70.2.1 (ByteArray.mk #[48])) then
    aB (dN (y70.1, (ByteArray.mk #[49]), ())) fun y79 =>
    aB (bR (y69.2.1, y70.2.1, ())) fun y80 =>
    bif y68.1 then
     bif y69.1 then
      aB (aA (false, y79.1, ())) fun y81 =>
      aB (aA (y69.1, y80.1, ())) fun y82 =>
      some (y81.1, y82.1, 0, ())
     else aB (aA (true, y79.1, ())) fun y83 =>
     aB (aA (y69.1, y80.1, ())) fun y84 =>
     some (y83.1, y84.1, 0, ())
    else bif y69.1 then
     aB (aA (true, y79.1, ())) fun y85 =>
     aB (aA (y69.1, y80.1, ())) fun y86 =>
     some (y85.1, y86.1, 0, ())
    else aB (aA (false, y79.1, ())) fun y87 =>
    aB (aA (y69.1, y80.1, ())) fun y88 =>
    some (y87.1, y88.1, 0, ())
   else bif y68.1 then
    bif y69.1 then
     aB (aA (false, y70.1, ())) fun y89 =>
     aB (aA (y69.1, y70.2.1, ())) fun y90 =>
     some (y89.1, y90.1, 0, ())
    else aB (aA (true, y70.1, ())) fun y91 =>
    aB (aA (y69.1, y70.2.1, ())) fun y92 =>
    some (y91.1, y92.1, 0, ())
   else bif y69.1 then
    aB (aA (true, y70.1, ())) fun y93 =>
    aB (aA (y69.1, y70.2.1, ())) fun y94 =>
    some (y93.1, y94.1, 0, ())
   else aB (aA (false, y70.1, ())) fun y95 =>
   aB (aA (y69.1, y70.2.1, ())) fun y96 =>
   some (y95.1, y96.1, 0, ())
  else bif y69.1 then
   bif !(eqS y70.2.1 (ByteArray.mk #[48])) then
    aB (dN (y70.1, (ByteArray.mk #[49]), ())) fun y97 =>
    aB (bR (y69.2.1, y70.2.1, ())) fun y98 =>
    bif y68.1 then
     bif y69.1 then
      aB (aA (false, y97.1, ())) fun y99 =>
      aB (aA (y69.1, y98.1, ())) fun y100 =>
      some (y99.1, y100.1, 0, ())
     else aB (aA (true, y97.1, ())) fun y101 =>
     aB (aA (y69.1, y98.1, ())) fun y102 =>
     some (y101.1, y102.1, 0, ())
    else bif y69.1 then
     aB (aA (true, y97.1, ())) fun y103 =>
     aB (aA (y69.1, y98.1, ())) fun y104 =>
     some (y103.1, y104.1, 0, ())
    else aB (aA (false, y97.1, ())) fun y105 =>
    aB (aA (y69.1, y98.1, ())) fun y106 =>
    some (y105.1, y106.1, 0, ())
   else bif y68.1 then
    bif y69.1 then
     aB (aA (false, y70.1, ())) fun y107 =>
     aB (aA (y69.1, y70.2.1, ())) fun y108 =>
     some (y107.1, y108.1, 0, ())
    else aB (aA (true, y70.1, ())) fun y109 =>
    aB (aA (y69.1, y70.2.1, ())) fun y110 =>
    some (y109.1, y110.1, 0, ())
   else bif y69.1 then
    aB (aA (true, y70.1, ())) fun y111 =>
    aB (aA (y69.1, y70.2.1, ())) fun y112 =>
    some (y111.1, y112.1, 0, ())
   else aB (aA (false, y70.1, ())) fun y113 =>
   aB (aA (y69.1, y70.2.1, ())) fun y114 =>
   some (y113.1, y114.1, 0, ())
  else bif y68.1 then
   bif y69.1 then
    aB (aA (false, y70.1, ())) fun y115 =>
    aB (aA (y69.1, y70.2.1, ())) fun y116 =>
    some (y115.1, y116.1, 0, ())
   else aB (aA (true, y70.1, ())) fun y117 =>
   aB (aA (y69.1, y70.2.1, ())) fun y118 =>
   some (y117.1, y118.1, 0, ())
  else bif y69.1 then
   aB (aA (true, y70.1, ())) fun y119 =>
   aB (aA (y69.1, y70.2.1, ())) fun y120 =>
   some (y119.1, y120.1, 0, ())
  else aB (aA (false, y70.1, ())) fun y121 =>
  aB (aA (y69.1, y70.2.1, ())) fun y122 =>
  some (y121.1, y122.1, 0, ())
noncomputable def DK : Code := aS Tryz.f103
abbrev MT : Env := bI [HN, IB, HX, AE, xQ, wL, oZ]
theorem TP : aY Tryz.prog MT := aX ⟨II, NG, IC, uW, uQ, wB, l8, trivial⟩
def JP (id : Nat) : Option aR := none
theorem Q0 : aF DK = [] := by kernel_rfl
theorem R2 : ∀ x, bQ Tryz.prog MT Tryz.f103 (aC Tryz.f103) JP DK [.str, .str] [.str, .str, .int .i64] x = kZ x := by
 rintro ⟨v0, v1, ⟨⟩⟩
 kernel_rfl
theorem YY : cL Tryz.prog 103 [.str, .str] [.str, .str, .int .i64] kZ := by
 exact aZ aJ TP Tryz.func103 (c := DK) (by kernel_rfl) (aT := aC Tryz.f103) (lt := JP) (aE Q0 trivial) R2
abbrev D1 : Ent := ⟨103, [.str, .str], [.str, .str, .int .i64], kZ⟩
theorem FJ : Ent.OK Tryz.prog D1 := YY
end Go.PM
set_option linter.unusedSimpArgs false
set_option linter.unusedVariables false
namespace Go.PM
open Go Go.RowKit
section
variable {P : Program} {n0 : Nat → Prop} {w w' : World} {G G' : Gd} {μ μ1 : Mp} {H H1 : Heap}
theorem aF8 (hW : aV n0 G μ H w) {r : Nat} (hr : H[r]? = some none) (k : Blk) (hf : k.frozen = false) (hg : k.grown = true)
  (hblk : ∀ b, μ.loc r = some b → (∃ c, w.heap[b]? = some (.cells c k.ty (0, 0)) ∧ aP w G μ b 0 k.cells) ∧ n0 b ∧ ¬ G b ∧ (∀ s k1, H[s]? = some (some k1) → k1.frozen = false → μ.loc s ≠ some b) ∧ ∀ j, G.row j ≠ some b)
  (htag : ∀ g, k.tag = some g → k.cells = aN g.t g.l ∧ μ.len r = some g.l.length) : aV n0 G μ (H.set r (some k)) w := by
 have hlt : r < H.length := (List.getElem?_eq_some_iff.1 hr).1
 have key : ∀ s k1, (H.set r (some k))[s]? = some (some k1) → (s = r ∧ k1 = k) ∨ (s ≠ r ∧ H[s]? = some (some k1)) := by
  intro s k1 hs
  by_cases e : r = s
  ·subst e
   rw [List.getElem?_set_self hlt] at hs
   exact .inl ⟨rfl, (Option.some.inj (Option.some.inj hs)).symm⟩
  ·rw [List.getElem?_set_ne e] at hs
   exact .inr ⟨Ne.symm e, hs⟩
 refine ⟨?_, ?_, ?_, hW.lt, fun s hs => hW.top s (by simpa using hs), hW.base, ?_⟩
 ·intro s k1 b hs hb
  rcases key s k1 hs with ⟨rfl, rfl⟩ | ⟨_, hs⟩
  ·obtain ⟨⟨c, h1, h2⟩, h3, h4, _⟩ := hblk b hb
   exact ⟨c, h1, h2, fun h => (by rw [hg] at h; cases h), fun h => (by rw [hf] at h; cases h), fun _ => ⟨h3, h4⟩⟩
  ·exact hW.blk s k1 b hs hb
 ·intro s k1 g hs h1
  rcases key s k1 hs with ⟨rfl, rfl⟩ | ⟨_, hs⟩
  ·exact htag g h1
  ·exact hW.tags s k1 g hs h1
 ·intro s1 s2 k1 k2 b h1 h2 f1 f2 m1 m2
  rcases key s1 k1 h1 with ⟨rfl, rfl⟩ | ⟨_, h3⟩
  ·rcases key s2 k2 h2 with ⟨rfl, rfl⟩ | ⟨_, h4⟩
   ·rfl
   ·exact absurd m2 ((hblk b m1).2.2.2.1 s2 k2 h4 f2)
  ·rcases key s2 k2 h2 with ⟨rfl, rfl⟩ | ⟨_, h4⟩
   ·exact absurd m1 ((hblk b m2).2.2.2.1 s1 k1 h3 f1)
   ·exact hW.inj s1 s2 k1 k2 b h3 h4 f1 f2 m1 m2
 ·refine ⟨hW.rows.inj, ?_, hW.rows.cel, ?_, ?_⟩
  ·intro j b hj
   obtain ⟨a1, a2, a3, a4⟩ := hW.rows.sep j b hj
   refine ⟨a1, a2, a3, fun s k1 hs f1 m1 => ?_⟩
   rcases key s k1 hs with ⟨rfl, rfl⟩ | ⟨_, hs⟩
   ·exact (hblk b m1).2.2.2.2 j hj
   ·exact a4 s k1 hs f1 m1
  ·intro s k1 t l hs h1 h2
   rcases key s k1 hs with ⟨rfl, rfl⟩ | ⟨_, hs⟩
   ·rw [hg] at h1; cases h1
   ·exact hW.rows.arn s k1 t l hs h1 h2
  ·intro s1 s2 k1 k2 t l t' l' h1 g1 t1 h2 g2 t2
   rcases key s1 k1 h1 with ⟨rfl, rfl⟩ | ⟨_, h1⟩
   ·rw [hg] at g1; cases g1
   ·rcases key s2 k2 h2 with ⟨rfl, rfl⟩ | ⟨_, h2⟩
    ·rw [hg] at g2; cases g2
    ·exact hW.rows.one s1 s2 k1 k2 t l t' l' h1 g1 t1 h2 g2 t2

def aSK (P : Program) (g : FuncId) (e : TypeId) (t : Ty) (args : List Kd) (f : List t.den → aH args → Option (List t.den)) : Prop :=
 ∀ l x l', f l x = some l' → ∀ {n0 G μ H w us r}, aV n0 G μ H w → H[r]? = some (some (owB e t l)) → VRs w G μ (.own r t.size :: hX args x) us → dM.noRows (hX args x) = true → oN P n0 w G μ g us.toArray (.tuple []) (H.set r (some (owB e t l')))
def aJA {t : Ty} {args : List Kd} (f : Unit → aH (.hnd t.size :: args) → List (List t.den) → Option (aH [] × List (List t.den))) (l : List t.den) (x : aH args) : Option (List t.den) := match f () ((0, 0, l.length), x) [l] with
 | some ((), [l']) => bif Nat.beq l'.length l.length then some l' else none
 | _ => none
theorem aPS {g : FuncId} {e : TypeId} {t : Ty} {args : List Kd} {f : Unit → aH (.hnd t.size :: args) → List (List t.den) → Option (aH [] × List (List t.den))} (hf : X1 P g e t .none (.hnd t.size :: args) (.data []) f) (hd : FW args = true) (hpl : t.plain = true) : aSK P g e t args (aJA f) := by
 intro l x l' hy n0 G μ H w us r hW hk hv hnr
 unfold aJA at hy
 split at hy
 ·rename_i l1 hfl
  obtain ⟨hlen, hy⟩ := aI hy
  obtain rfl := Option.some.inj hy
  have hlen := Nat.eq_of_beq_eq_true hlen
  have ht2 := (hW.tags r _ _ hk rfl).2
  have hlt : r < H.length := (List.getElem?_eq_some_iff.1 hk).1
  obtain ⟨rb, hrb⟩ : ∃ rb : Option Nat, rb = if l = [] then none else μ.loc r := ⟨_, rfl⟩
  have hrbl : ∀ b, rb = some b → μ.loc r = some b ∧ l ≠ [] := fun b hb => by
   rw [hrb] at hb
   split at hb
   ·cases hb
   ·rename_i hne; exact ⟨hb, hne⟩
  have hmine : ∀ b, μ.loc r = some b → n0 b ∧ ¬ G b := fun b hb => by
   obtain ⟨_, _, _, _, _, h6⟩ := hW.blk r _ b hk hb
   exact h6 rfl
  have hrow : ∀ j b, G.row j = some b → μ.loc r ≠ some b := fun j b hj => (hW.rows.sep j b hj).2.2.2 r _ hk rfl
  obtain ⟨u, us', rfl, q1, q2⟩ : ∃ u us', us = u :: us' ∧ VR w G μ (.own r t.size) u ∧ VRs w G μ (hX args x) us' := by
   rw [VRs] at hv; exact hv
  have at0 : ∀ (s : Nat) (k1 : Blk), ([some (arB e t [l])] : Heap)[s]? = some (some k1) → s = 0 ∧ k1 = arB e t [l] := by
   intro s k1 hs
   cases s with
   | zero => simp only [List.getElem?_cons_zero, Option.some.injEq] at hs; exact ⟨rfl, hs.symm⟩
   | succ s => simp at hs
  have hG0 : ∃ G0 : Gd, G0 = ⟨G.ok, fun j => if j = 0 then rb else none⟩ := ⟨_, rfl⟩
  obtain ⟨G0, hG0⟩ := hG0
  have hok : G0.ok = G.ok := by rw [hG0]
  have hr0 : ∀ j b, G0.row j = some b → j = 0 ∧ rb = some b := fun j b hj => by
   rw [hG0] at hj
   dsimp only at hj
   split at hj
   ·exact ⟨‹_›, hj⟩
   ·cases hj
  have hW1 : aV (fun b => w.heap.size ≤ b ∨ rb = some b) G0 ⟨fun _ => none, fun s => if s = 0 then some 1 else none⟩ [some (arB e t [l])] w := by
   refine ⟨fun s k1 b hs hb => (by cases hb), ?_, fun s1 s2 k1 k2 b _ _ _ _ m => (by cases m), by rw [hok]; exact hW.lt, ?_, fun b hb => .inl hb, ?_⟩
   ·intro s k1 gg hs hg
    obtain ⟨rfl, rfl⟩ := at0 s k1 hs
    cases hg
    exact ⟨rfl, rfl⟩
   ·intro s hs
    have : s ≠ 0 := by rintro rfl; simp at hs
    exact ⟨rfl, by simp [this]⟩
   ·refine ⟨fun i j b h1 h2 => (hr0 i b h1).1.trans (hr0 j b h2).1.symm, fun j b hj => ?_, fun j b hj => ?_, fun s k1 t1 l1 hs h1 h2 => ?_, fun s1 s2 k1 k2 t1 l1 t2 l2 h1 _ _ h2 _ _ => ((at0 s1 k1 h1).1.trans (at0 s2 k2 h2).1.symm)⟩
    ·obtain ⟨_, h2⟩ := hr0 j b hj
     exact ⟨hW.j3 hk (hrbl b h2).1, .inr h2, by rw [hok]; exact (hmine b (hrbl b h2).1).2, fun _ _ _ _ h => by cases h⟩
    ·obtain ⟨_, h2⟩ := hr0 j b hj
     obtain ⟨c, h3, _⟩ := hW.blk r _ b hk (hrbl b h2).1
     exact ⟨c, _, _, h3⟩
    ·obtain ⟨rfl, rfl⟩ := at0 s k1 hs
     cases h2
     refine ⟨rfl, fun j hj => ?_, fun j row hj => ?_⟩
     ·rw [hG0]
      have : j ≠ 0 := by rintro rfl; simp at hj
      simp [this]
     ·cases j with
      | zero =>
       simp only [List.getElem?_cons_zero, Option.some.injEq] at hj
       subst hj
       by_cases hl : l = []
       ·exact .inl hl
       ·right
        rw [VR] at q1
        obtain ⟨n, z1, z2⟩ := q1
        rw [ht2] at z1
        obtain rfl := Option.some.inj z1
        rcases z2 with ⟨z2, _⟩ | ⟨b, c, z2, _⟩
        ·exact absurd (List.eq_nil_of_length_eq_zero z2) hl
        ·obtain ⟨cc, a1, a2, _⟩ := hW.blk r _ b hk z2
         refine ⟨b, cc, by rw [hG0, hrb]; simp [hl, z2], a1, ?_⟩
         exact mF (G := G) (G' := G0) (fun b h => by rw [hok]; exact h) _ _ _ _ (oU t hpl l) (j6 (fH _ _) a2)
      | succ j => simp at hj
  have hv1 : VRs w G0 ⟨fun _ => none, fun s => if s = 0 then some 1 else none⟩ (Tk.none.pv 0 ++ hX (.hnd t.size :: args) ((0, 0, l.length), x)) (u :: us') := by
   change VRs w G0 _ (.row 0 0 l.length t.size :: hX args x) (u :: us')
   rw [VRs]
   refine ⟨u, us', rfl, ?_, VRs.bE (mA (G := G) (G' := G0) (fun b h => by rw [hok]; exact h) _ _ _ hnr (cK _ _ (zC args x hd) q2))⟩
   rw [VR] at q1
   rw [VR]
   obtain ⟨n, z1, z2⟩ := q1
   rw [ht2] at z1
   obtain rfl := Option.some.inj z1
   rcases z2 with ⟨z2, ao, rfl⟩ | ⟨b, c, z2, rfl, z3, z4⟩
   ·exact ⟨ao, 0, by rw [show l.length = 0 from z2], by rw [show l.length = 0 from z2]; exact Nat.le_refl _, .inl z2⟩
   ·refine ⟨_, c, rfl, z3, ?_⟩
    by_cases hl : l = []
    ·exact .inl (by rw [hl]; rfl)
    ·exact .inr ⟨b, by rw [hG0, hrb]; simp [hl, z2], by simp, by simpa using z4⟩
  obtain ⟨c1, c2⟩ := hf () ((0, 0, l.length), x) [l] () [l1] hfl (ra := 0) (r := 0) hW1 rfl ⟨fun _ _ h => by cases h⟩ hv1
  refine ⟨c1, c2.mono ?_⟩
  rintro e' w' ⟨v', G1, μ1, rfl, ee, hW', hvv⟩
  have hb1 : ∀ b, rb = some b → G1.row 0 = some b := fun b hb => ee.row 0 b (by rw [hG0]; simp [hb])
  have hH1 : (((CT (Tk.none.ow () 0) [some (arB e t [l])]).set 0 none) ++ (some (arB e t [l1]) :: (An.data []).hp ()) : Heap)[1]? = some (some (arB e t [l1])) := rfl
  have hn0 : ∀ b, b < w.heap.size → ¬ n0 b → w'.heap[b]? = w.heap[b]? := fun b hb hn => ee.old b hb (by
   rintro (h | h)
   ·exact Nat.not_le.2 hb h
   ·exact hn (hmine b (hrbl b h).1).1)
  have hgg : ∀ b, G b → G0 b := fun b hb => by rw [hok]; exact hb
  have e2 : Ext n0 w G μ w' (G1.with G) μ := {
   good := fun b hb => ⟨(ee.good b (hgg b hb)).1, (ee.good b (hgg b hb)).2⟩
   map := fun _ _ h => h
   len := fun _ _ h => h
   room := ee.room
   row := fun _ _ h => h
   os := ee.os
   tape := ee.tape
   output := ee.output
   size := ee.size
   drawn := ee.drawn
   old := hn0
   new := fun b hb => by
    rcases ee.new b hb with h | h | h
    ·rw [hok] at h; exact .inl h
    ·exact .inr (hW.base b h)
    ·exact .inr (hmine b (hrbl b h).1).1 }
  have hold : ∀ b, b < w.heap.size → rb ≠ some b → w'.heap[b]? = w.heap[b]? ∧ (G1 b → G b) := fun b hb hne =>
   ⟨ee.old b hb (by rintro (h | h); exact Nat.not_le.2 hb h; exact hne h), fun hg => by
    rcases ee.new b hg with h | h | h
    ·rw [hok] at h; exact h
    ·exact absurd hb (Nat.not_lt.2 h)
    ·exact absurd h hne⟩
  have hk2 : aV n0 (G1.with G) μ (H.set r none) w' := by
   refine (tL hW r).aT e2 ⟨fun _ => rfl, fun j b hj => hold b (hW.rows.sep j b hj).1 fun h => hrow j b hj (hrbl b h).1⟩ ?_ (fun b hb => hW'.lt b hb)
   intro s k1 b hs hb
   obtain ⟨hs, hsr⟩ := lE hs
   refine hold b (hW.j3 hs hb) fun h => ?_
   have hrb := (hrbl b h).1
   cases hf : k1.frozen with
   | false => exact hsr (hW.inj s r k1 _ b hs hk hf rfl hb hrb)
   | true =>
    obtain ⟨_, _, _, _, h5, _⟩ := hW.blk s k1 b hs hb
    exact (hmine b hrb).2 (h5 hf)
  have hfin : aV n0 (G1.with G) μ (H.set r (some (owB e t l1))) w' := by
   have := aF8 hk2 (r := r) (List.getElem?_set_self hlt) (owB e t l1) rfl rfl ?_ ?_
   ·rwa [List.set_set] at this
   ·intro b hb
    have hcells : (∃ c, w'.heap[b]? = some (.cells c e (0, 0)) ∧ aP w' (G1.with G) μ b 0 (aN t l1)) ∧ ¬ G1 b := by
     by_cases hl : l = []
     ·have hl1 : l1 = [] := List.eq_nil_of_length_eq_zero (by rw [hlen, hl]; rfl)
      have hne : rb ≠ some b := fun h => (hrbl b h).2 hl
      obtain ⟨o1, o2⟩ := hold b (hW.j3 hk hb) hne
      obtain ⟨c, h3, _⟩ := hW.blk r _ b hk hb
      refine ⟨⟨c, o1.trans h3, ?_⟩, fun h => (hmine b hb).2 (o2 h)⟩
      rw [hl1]; simp [aN, aP]
     ·have hbb : rb = some b := by rw [hrb, if_neg hl]; exact hb
      have hrow1 := hb1 b hbb
      obtain ⟨_, _, a3⟩ := hW'.rows.arn 1 _ t [l1] hH1 rfl rfl
      rcases a3 0 l1 rfl with h | ⟨b', c, z1, z2, z3⟩
      ·exact absurd (List.eq_nil_of_length_eq_zero (by rw [← hlen, h]; rfl)) hl
      ·rw [hrow1] at z1
       obtain rfl := Option.some.inj z1
       refine ⟨⟨c, z2, ?_⟩, (hW'.rows.sep 0 b hrow1).2.2.1⟩
       exact mF (G := G1) (G' := G1.with G) (fun b h => h) _ _ _ _ (oU t hpl l1) (j6 (fH _ _) z3)
    refine ⟨hcells.1, (hmine b hb).1, hcells.2, fun s k1 hs hf hsb => ?_, fun j hj => hrow j b hj hb⟩
    obtain ⟨hs, hsr⟩ := lE hs
    exact hsr (hW.inj s r k1 _ b hs hk hf rfl hsb hb)
   ·intro g hg
    cases hg
    exact ⟨rfl, by rw [ht2, hlen]⟩
  refine ⟨v', G1.with G, μ, rfl, e2, hfin, ?_⟩
  have hvv : VR w' G1 μ1 (.tuple []) v' := hvv
  rw [VR] at hvv ⊢
  obtain ⟨vs, h1, h2⟩ := hvv
  rw [VRs] at h2
  exact ⟨vs, h1, by rw [VRs]; exact h2⟩
 ·cases hy
def aWR (e : TypeId) (t : Ty) (args : List Kd) (f : List t.den → aH args → Option (List t.den)) (qs : List PV) (H : Heap) : Option aJ3 := match aHG e t H qs with
 | some (l, r, ps) => match aE0 args ps with
  | some x => bif cY.noRefs ps && dM.noRows (hX args x) then some ⟨List t.den, f l x, fun l' => (.tuple [], H.set r (some (owB e t l')))⟩ else none
  | none => none
 | none => none
theorem aUU {g : FuncId} {e : TypeId} {t : Ty} {args : List Kd} {f : List t.den → aH args → Option (List t.den)} (hf : aSK P g e t args f) : IT P (g, aWR e t args f) := by
 intro qs H rh h y hy n0 G μ w vs hW hv
 change aWR e t args f qs H = some rh at h
 show oN P n0 w G μ g vs.toArray (rh.out y).1 (rh.out y).2
 unfold aWR at h
 split at h
 ·rename_i l r ps hl
  split at h
  ·rename_i x hx
   obtain ⟨hb, h⟩ := aCY h
   simp only [Option.some.injEq] at h
   subst h
   simp only [Bool.and_eq_true] at hb
   obtain ⟨h0, rfl⟩ := U2 hW hl
   rw [VRs] at hv
   obtain ⟨u, us, rfl, q1, q2⟩ := hv
   exact hf l x y hy hW h0 (by rw [VRs]; exact ⟨u, us, rfl, q1, (wS args hx (cK _ _ hb.1 q2)).bE⟩) hb.2
  ·cases h
 ·cases h
end
end Go.PM
set_option linter.unusedSimpArgs false
set_option linter.unusedVariables false
namespace Go.PM
open Go Go.RowKit Go.Proofs
set_option maxRecDepth 100000
set_option maxHeartbeats 4000000
/-! schisma/lattice.longOf -/
abbrev iX : List (Nat × Kd) := [(3, .own 144 .str), (9, .list TyE), (10, .int .i64), (11, .int .i64)]
abbrev kN : List (Ex × List (Nat × Kd)) := [(.exit 0, [(3, .own 144 .str)])]
def jQ (x : Shape.den iX) : Option (Shape.den iX ⊕ aU kN) := match x with
 | (v3, v9, v10, v11, ()) =>
  bif ltI v11 v10 then
   bif aQ v11 v9.length then aB (gF ((v9.getD v11.toNat 0), ())) fun y2 =>
   bif Nat.ble [y2.1].length 1048576 then bif Nat.ble v3.length 1048576 then some (.inl ((v3 ++ [y2.1]), v9, v10, (aL .i64 (v11 + 1)), ())) else none else none else none
  else some (.inr ((v3, ())))
def lV (x : Shape.den iX) : Option (aU kN) := bU jQ (2 ^ 64) x
def jW (x : aH [.list TyE]) : Option (List ByteArray) := match x with
 | (v0, ()) =>
  bif !(ltI (v0.length : Int) 0) then bif !(ltI 1048576 (v0.length : Int)) then aB (lV ((List.replicate 0 ByteArray.empty), v0, (v0.length : Int), 0, ())) fun z3 =>
  some z3.1 else none else none
noncomputable def rF : Code := aS Tryz.f100
abbrev wH : Env := bI [AE]
theorem yY : aY Tryz.prog wH := aX ⟨uW, trivial⟩
noncomputable def lA : Code := fB rF 0
def uN (id : Nat) : Option aR := bif Nat.beq id 3 then some ⟨iX, kN, lV⟩ else none
theorem HJ : ∀ x, eU Tryz.prog wH 22 (aC Tryz.f100) uN lA iX kN x = jQ x := by
 rintro ⟨v3, v9, v10, v11, ⟨⟩⟩
 kernel_rfl
theorem L3 : aF lA = [] := by kernel_rfl
theorem HP : aG lA = 3 := by kernel_rfl
theorem IX : cU Tryz.prog 22 lA ⟨iX, kN, lV⟩ := by
 exact cW yY.callee aJ.mixed _ (aE L3 trivial) HJ
theorem KK : aF rF = [lA] := by kernel_rfl
theorem LX : ∀ x, aMH Tryz.prog wH Tryz.f100 (aC Tryz.f100) uN rF [.list TyE] 2 144 .str x = jW x := by
 rintro ⟨v0, ⟨⟩⟩
 kernel_rfl
theorem QB : aME Tryz.prog 100 [.list TyE] 144 .str jW := by
 exact aLW aJ yY Tryz.func100 (c := rF) (by kernel_rfl) (aT := aC Tryz.f100) (lt := uN) (t := 2) (by kernel_rfl) (aE KK ⟨cX HP rfl IX, trivial⟩) LX
abbrev vW : Shr := (100, aXE [.list TyE] 144 .str jW)
theorem yU : IT Tryz.prog vW := aMT QB

/-! (schisma/lattice.long).less -/
abbrev fS : List (Nat × Kd) := [(0, .hnd 1), (1, .str), (10, .hnd 1), (11, .int .i64), (12, .int .i64), (100000, .ar 144 .str)]
abbrev iA : List (Ex × List (Nat × Kd)) := [(.exit 0, [(100000, .ar 144 .str)])]
def gM (x : Shape.den fS) : Option (Shape.den fS ⊕ aU iA) := match x with
 | (v0, v1, v10, v11, v12, v100000, ()) =>
  bif ltI v12 v11 then
   bif aQ v12 v10.2.2 then bif Nat.blt ((v10.2.1 + v12.toNat) * 1) (eN v100000 v10.1) then bif aQ v12 v0.2.2 then bif Nat.blt ((v0.2.1 + v12.toNat) * 1) (eN v100000 v0.1) then aB (sQ (v1, (fX v100000 v10.1 ((v10.2.1 + v12.toNat) * 1) ByteArray.empty), ())) fun y3 =>
   aB (sP ((fX v100000 v0.1 ((v0.2.1 + v12.toNat) * 1) ByteArray.empty), y3.1, ())) fun y4 =>
   bif aQ v12 v0.2.2 then bif Nat.blt ((v0.2.1 + v12.toNat) * 1) (eN v100000 v0.1) then some (.inl ((v0.1, v0.2.1, v0.2.2), v1, (v10.1, v10.2.1, v10.2.2), v11, (aL .i64 (v12 + 1)), (vU v100000 v0.1 ((v0.2.1 + v12.toNat) * 1) y4.1), ())) else none else none else none else none else none else none
  else some (.inr ((v100000, ())))
def jI (x : Shape.den fS) : Option (aU iA) := bU gM (2 ^ 64) x
def eQ (u0 : Unit) (x : aH [.hnd 1, .str, .hnd 1]) (A : List (List ByteArray)) : Option ((aH []) × List (List ByteArray)) := match x with
 | (v0, v1, v2, ()) =>
  bif eqS v1 (ByteArray.mk #[48]) then
   some ((()), A)
  else aB (jI ((v0.1, v0.2.1, v0.2.2), v1, (v2.1, v2.2.1, v2.2.2), ((v2.2.2 : Nat) : Int), 0, A, ())) fun z5 =>
  some ((()), z5.1)
noncomputable def mL : Code := aS Tryz.f104
abbrev qJ : Env := bI [OQ, NZ]
theorem tN : aY Tryz.prog qJ := aX ⟨MQ, MY, trivial⟩
noncomputable def iT : Code := fB mL 0
def pT (id : Nat) : Option aR := bif Nat.beq id 2 then some ⟨fS, iA, jI⟩ else none
theorem B7 : ∀ x, eU Tryz.prog qJ 29 (aC Tryz.f104) pT iT fS iA x = gM x := by
 rintro ⟨v0, v1, v10, v11, v12, v100000, ⟨⟩⟩
 kernel_rfl
theorem E5 : aF iT = [] := by kernel_rfl
theorem AS : aG iT = 2 := by kernel_rfl
theorem CN : cU Tryz.prog 29 iT ⟨fS, iA, jI⟩ := by
 exact cW tN.callee aJ.mixed _ (aE E5 trivial) B7
theorem D4 : aF mL = [iT] := by kernel_rfl
theorem FC : ∀ l x A, VB Tryz.prog qJ Tryz.f104 (aC Tryz.f104) pT mL 144 .str .none [.hnd 1, .str, .hnd 1] (.data []) l x A = eQ l x A := by
 rintro u0 ⟨v0, v1, v2, ⟨⟩⟩ A
 kernel_rfl
theorem JC : X1 Tryz.prog 104 144 .str .none [.hnd 1, .str, .hnd 1] (.data []) eQ := by
 exact SA aJ tN Tryz.func104 (c := mL) (by kernel_rfl) (aT := aC Tryz.f104) (lt := pT) (by rfl) (aE D4 ⟨cX AS rfl CN, trivial⟩) FC
abbrev wZ : Shr := (104, arH 144 .str .none [.hnd 1, .str, .hnd 1] (.data []) eQ)
theorem FD : IT Tryz.prog wZ := T8 JC

/-! (schisma/lattice.long).less -/
abbrev fR : List (Nat × Kd) := [(0, .hnd 1), (1, .str), (10, .list .str), (11, .int .i64), (12, .int .i64), (100000, .ar 144 .str)]
abbrev hZ : List (Ex × List (Nat × Kd)) := [(.exit 0, [(100000, .ar 144 .str)])]
def eR (x : Shape.den fR) : Option (Shape.den fR ⊕ aU hZ) := match x with
 | (v0, v1, v10, v11, v12, v100000, ()) =>
  bif ltI v12 v11 then
   bif aQ v12 v10.length then bif aQ v12 v0.2.2 then bif Nat.blt ((v0.2.1 + v12.toNat) * 1) (eN v100000 v0.1) then aB (sQ (v1, (v10.getD v12.toNat ByteArray.empty), ())) fun y3 =>
   aB (sP ((fX v100000 v0.1 ((v0.2.1 + v12.toNat) * 1) ByteArray.empty), y3.1, ())) fun y4 =>
   bif aQ v12 v0.2.2 then bif Nat.blt ((v0.2.1 + v12.toNat) * 1) (eN v100000 v0.1) then some (.inl ((v0.1, v0.2.1, v0.2.2), v1, v10, v11, (aL .i64 (v12 + 1)), (vU v100000 v0.1 ((v0.2.1 + v12.toNat) * 1) y4.1), ())) else none else none else none else none else none
  else some (.inr ((v100000, ())))
def jJ (x : Shape.den fR) : Option (aU hZ) := bU eR (2 ^ 64) x
def eO (u0 : Unit) (x : aH [.hnd 1, .str, .list .str]) (A : List (List ByteArray)) : Option ((aH []) × List (List ByteArray)) := match x with
 | (v0, v1, v2, ()) =>
  bif eqS v1 (ByteArray.mk #[48]) then
   some ((()), A)
  else aB (jJ ((v0.1, v0.2.1, v0.2.2), v1, v2, (v2.length : Int), 0, A, ())) fun z5 =>
  some ((()), z5.1)
noncomputable def mN : Code := aS Tryz.f104
abbrev qN : Env := bI [OQ, NZ]
theorem tS : aY Tryz.prog qN := aX ⟨MQ, MY, trivial⟩
noncomputable def iL : Code := fB mN 0
def pQ (id : Nat) : Option aR := bif Nat.beq id 2 then some ⟨fR, hZ, jJ⟩ else none
theorem BH : ∀ x, eU Tryz.prog qN 29 (aC Tryz.f104) pQ iL fR hZ x = eR x := by
 rintro ⟨v0, v1, v10, v11, v12, v100000, ⟨⟩⟩
 kernel_rfl
theorem E4 : aF iL = [] := by kernel_rfl
theorem BC : aG iL = 2 := by kernel_rfl
theorem CQ : cU Tryz.prog 29 iL ⟨fR, hZ, jJ⟩ := by
 exact cW tS.callee aJ.mixed _ (aE E4 trivial) BH
theorem DS : aF mN = [iL] := by kernel_rfl
theorem FK : ∀ l x A, VB Tryz.prog qN Tryz.f104 (aC Tryz.f104) pQ mN 144 .str .none [.hnd 1, .str, .list .str] (.data []) l x A = eO l x A := by
 rintro u0 ⟨v0, v1, v2, ⟨⟩⟩ A
 kernel_rfl
theorem I3 : X1 Tryz.prog 104 144 .str .none [.hnd 1, .str, .list .str] (.data []) eO := by
 exact SA aJ tS Tryz.func104 (c := mN) (by kernel_rfl) (aT := aC Tryz.f104) (lt := pQ) (by rfl) (aE DS ⟨cX BC rfl CQ, trivial⟩) FK
theorem GJ : aSK Tryz.prog 104 144 .str [.str, .list .str] (aJA eO) := aPS I3 (by rfl) (by rfl)
abbrev vM : Shr := (104, aWR 144 .str [.str, .list .str] (aJA eO))
theorem DY : IT Tryz.prog vM := aUU GJ

/-! (schisma/lattice.long).negate -/
abbrev eS : List (Nat × Kd) := [(0, .hnd 1), (4, .hnd 1), (5, .int .i64), (6, .int .i64), (100000, .ar 144 .str)]
abbrev gQ : List (Ex × List (Nat × Kd)) := [(.exit 0, [(100000, .ar 144 .str)])]
def fO (x : Shape.den eS) : Option (Shape.den eS ⊕ aU gQ) := match x with
 | (v0, v4, v5, v6, v100000, ()) =>
  bif ltI v6 v5 then
   bif aQ v6 v4.2.2 then bif Nat.blt ((v4.2.1 + v6.toNat) * 1) (eN v100000 v4.1) then aB (sX ((fX v100000 v4.1 ((v4.2.1 + v6.toNat) * 1) ByteArray.empty), ())) fun y2 =>
   bif aQ v6 v0.2.2 then bif Nat.blt ((v0.2.1 + v6.toNat) * 1) (eN v100000 v0.1) then some (.inl ((v0.1, v0.2.1, v0.2.2), (v4.1, v4.2.1, v4.2.2), v5, (aL .i64 (v6 + 1)), (vU v100000 v0.1 ((v0.2.1 + v6.toNat) * 1) y2.1), ())) else none else none else none else none
  else some (.inr ((v100000, ())))
def iG (x : Shape.den eS) : Option (aU gQ) := bU fO (2 ^ 64) x
def dJ (u0 : Unit) (x : aH [.hnd 1]) (A : List (List ByteArray)) : Option ((aH []) × List (List ByteArray)) := match x with
 | (v0, ()) =>
  aB (iG ((v0.1, v0.2.1, v0.2.2), (v0.1, v0.2.1, v0.2.2), ((v0.2.2 : Nat) : Int), 0, A, ())) fun z3 =>
  some ((()), z3.1)
noncomputable def kU : Code := aS Tryz.f106
abbrev oV : Env := bI [OD]
theorem rK : aY Tryz.prog oV := aX ⟨MO, trivial⟩
noncomputable def gU : Code := fB kU 0
def n7 (id : Nat) : Option aR := bif Nat.beq id 1 then some ⟨eS, gQ, iG⟩ else none
theorem yH : ∀ x, eU Tryz.prog oV 17 (aC Tryz.f106) n7 gU eS gQ x = fO x := by
 rintro ⟨v0, v4, v5, v6, v100000, ⟨⟩⟩
 kernel_rfl
theorem CM : aF gU = [] := by kernel_rfl
theorem yL : aG gU = 1 := by kernel_rfl
theorem zV : cU Tryz.prog 17 gU ⟨eS, gQ, iG⟩ := by
 exact cW rK.callee aJ.mixed _ (aE CM trivial) yH
theorem AY : aF kU = [gU] := by kernel_rfl
theorem CK : ∀ l x A, VB Tryz.prog oV Tryz.f106 (aC Tryz.f106) n7 kU 144 .str .none [.hnd 1] (.data []) l x A = dJ l x A := by
 rintro u0 ⟨v0, ⟨⟩⟩ A
 kernel_rfl
theorem EP : X1 Tryz.prog 106 144 .str .none [.hnd 1] (.data []) dJ := by
 exact SA aJ rK Tryz.func106 (c := kU) (by kernel_rfl) (aT := aC Tryz.f106) (lt := n7) (by rfl) (aE AY ⟨cX yL rfl zV, trivial⟩) CK
abbrev uX : Shr := (106, arH 144 .str .none [.hnd 1] (.data []) dJ)
theorem CS : IT Tryz.prog uX := T8 EP

/-! (schisma/lattice.long).lead$1 -/
def iC (x : aH [.str]) : Option (aH [.bool]) := match x with
 | (v0, ()) =>
  some (!(eqS v0 (ByteArray.mk #[48])), ())
noncomputable def qH : Code := aS Tryz.f169
abbrev xS : Env := bI []
theorem EK : aY Tryz.prog xS := aX trivial
def vI (id : Nat) : Option aR := none
theorem DN : aF qH = [] := by kernel_rfl
theorem FU : ∀ x, bQ Tryz.prog xS Tryz.f169 (aC Tryz.f169) vI qH [.str] [.bool] x = iC x := by
 rintro ⟨v0, ⟨⟩⟩
 kernel_rfl
theorem I9 : cL Tryz.prog 169 [.str] [.bool] iC := by
 exact aZ aJ EK Tryz.func169 (c := qH) (by kernel_rfl) (aT := aC Tryz.f169) (lt := vI) (aE DN trivial) FU
abbrev wP : Ent := ⟨169, [.str], [.bool], iC⟩
theorem EL : Ent.OK Tryz.prog wP := I9

/-! slices.IndexFunc[schisma/lattice.long,schisma/api.Int] -/
abbrev bL : List (Nat × Kd) := [(0, .list .str), (1, .fn 169), (7, .int .i64), (8, .int .i64)]
abbrev bS : List (Ex × List (Nat × Kd)) := [(.ret, [(4, .int .i64)]), (.exit 0, [])]
def bH (x : Shape.den bL) : Option (Shape.den bL ⊕ aU bS) := match x with
 | (v0, v1, v7, v8, ()) =>
  bif ltI v8 v7 then
   bif aQ v8 v0.length then aB (iC ((v0.getD v8.toNat ByteArray.empty), ())) fun y2 =>
   bif y2.1 then
    some (.inr (.inl (v8, ())))
   else some (.inl (v0, (), v7, (aL .i64 (v8 + 1)), ())) else none
  else some (.inr (.inr ((()))))
def cQ (x : Shape.den bL) : Option (aU bS) := bU bH (2 ^ 64) x
def cD (x : aH [.list .str, .fn 169]) : Option (aH [.int .i64]) := match x with
 | (v0, v1, ()) =>
  aB (cQ (v0, (), (v0.length : Int), 0, ())) fun z3 =>
  lN z3 (fun a4 => some (a4.1, ())) fun b5 =>
  some ((-1), ())
noncomputable def dE : Code := aS Tryz.f168
abbrev fP : Env := bI [wP]
theorem iN : aY Tryz.prog fP := aX ⟨EL, trivial⟩
noncomputable def bY : Code := fB dE 0
def fM (id : Nat) : Option aR := bif Nat.beq id 2 then some ⟨bL, bS, cQ⟩ else none
theorem nA : ∀ x, eU Tryz.prog fP 19 (aC Tryz.f168) fM bY bL bS x = bH x := by
 rintro ⟨v0, v1, v7, v8, ⟨⟩⟩
 kernel_rfl
theorem o7 : aF bY = [] := by kernel_rfl
theorem mY : aG bY = 2 := by kernel_rfl
theorem nN : cU Tryz.prog 19 bY ⟨bL, bS, cQ⟩ := by
 exact cW iN.callee aJ.mixed _ (aE o7 trivial) nA
theorem oG : aF dE = [bY] := by kernel_rfl
theorem o5 : ∀ x, bQ Tryz.prog fP Tryz.f168 (aC Tryz.f168) fM dE [.list .str, .fn 169] [.int .i64] x = cD x := by
 rintro ⟨v0, v1, ⟨⟩⟩
 kernel_rfl
theorem pR : cL Tryz.prog 168 [.list .str, .fn 169] [.int .i64] cD := by
 exact aZ aJ iN Tryz.func168 (c := dE) (by kernel_rfl) (aT := aC Tryz.f168) (lt := fM) (aE oG ⟨cX mY rfl nN, trivial⟩) o5
abbrev j4 : Ent := ⟨168, [.list .str, .fn 169], [.int .i64], cD⟩
theorem oS : Ent.OK Tryz.prog j4 := pR

/-! (schisma/lattice.long).lead -/
def hO (x : aH [.list .str]) : Option (aH [.int .i64]) := match x with
 | (v0, ()) =>
  aB (cD (v0, (), ())) fun y1 =>
  some (y1.1, ())
noncomputable def tB : Code := aS Tryz.f142
abbrev CH : Env := bI [j4]
theorem I6 : aY Tryz.prog CH := aX ⟨oS, trivial⟩
def yR (id : Nat) : Option aR := none
theorem HA : aF tB = [] := by kernel_rfl
theorem IY : ∀ x, bQ Tryz.prog CH Tryz.f142 (aC Tryz.f142) yR tB [.list .str] [.int .i64] x = hO x := by
 rintro ⟨v0, ⟨⟩⟩
 kernel_rfl
theorem MA : cL Tryz.prog 142 [.list .str] [.int .i64] hO := by
 exact aZ aJ I6 Tryz.func142 (c := tB) (by kernel_rfl) (aT := aC Tryz.f142) (lt := yR) (aE HA trivial) IY
abbrev B4 : Ent := ⟨142, [.list .str], [.int .i64], hO⟩
theorem I5 : Ent.OK Tryz.prog B4 := MA

/-! (schisma/lattice.long).short -/
abbrev gI : List (Nat × Kd) := [(4, .own 3 TyE), (12, .list .str), (13, .int .i64), (14, .int .i64)]
abbrev iR : List (Ex × List (Nat × Kd)) := [(.ret, [(2, .list TyE), (3, .int .i64)]), (.exit 0, [(4, .own 3 TyE)])]
def fK (x : Shape.den gI) : Option (Shape.den gI ⊕ aU iR) := match x with
 | (v4, v12, v13, v14, ()) =>
  bif ltI v14 v13 then
   bif aQ v14 v12.length then aB (oW ((v12.getD v14.toNat ByteArray.empty), ())) fun y2 =>
   bif y2.2.1 then
    bif ltI 1000000000 y2.1 then
     some (.inr (.inl ([], 4, ())))
    else bif ltI y2.1 (-1000000000) then
     some (.inr (.inl ([], 4, ())))
    else bif Nat.ble [y2.1].length 1048576 then bif Nat.ble v4.length 1048576 then some (.inl ((v4 ++ [y2.1]), v12, v13, (aL .i64 (v14 + 1)), ())) else none else none
   else some (.inr (.inl ([], 4, ()))) else none
  else some (.inr (.inr ((v4, ()))))
def j9 (x : Shape.den gI) : Option (aU iR) := bU fK (2 ^ 64) x
def iU (x : aH [.list .str]) : Option (aH [.list TyE, .int .i64]) := match x with
 | (v0, ()) =>
  bif !(ltI (v0.length : Int) 0) then bif !(ltI 1048576 (v0.length : Int)) then aB (j9 ((List.replicate 0 0), v0, (v0.length : Int), 0, ())) fun z3 =>
  lN z3 (fun a4 => some (a4.1, a4.2.1, ())) fun b5 =>
  some (b5.1, 0, ()) else none else none
noncomputable def nE : Code := aS Tryz.f82
abbrev r6 : Env := bI [GI]
theorem vC : aY Tryz.prog r6 := aX ⟨IQ, trivial⟩
noncomputable def jL : Code := fB nE 0
def qE (id : Nat) : Option aR := bif Nat.beq id 3 then some ⟨gI, iR, j9⟩ else none
theorem CR : ∀ x, eU Tryz.prog r6 39 (aC Tryz.f82) qE jL gI iR x = fK x := by
 rintro ⟨v4, v12, v13, v14, ⟨⟩⟩
 kernel_rfl
theorem GQ : aF jL = [] := by kernel_rfl
theorem CO : aG jL = 3 := by kernel_rfl
theorem DX : cU Tryz.prog 39 jL ⟨gI, iR, j9⟩ := by
 exact cW vC.callee aJ.mixed _ (aE GQ trivial) CR
theorem FR : aF nE = [jL] := by kernel_rfl
theorem H6 : ∀ x, bQ Tryz.prog r6 Tryz.f82 (aC Tryz.f82) qE nE [.list .str] [.list TyE, .int .i64] x = iU x := by
 rintro ⟨v0, ⟨⟩⟩
 kernel_rfl
theorem K3 : cL Tryz.prog 82 [.list .str] [.list TyE, .int .i64] iU := by
 exact aZ aJ vC Tryz.func82 (c := nE) (by kernel_rfl) (aT := aC Tryz.f82) (lt := qE) (aE FR ⟨cX CO rfl DX, trivial⟩) H6
abbrev yW : Ent := ⟨82, [.list .str], [.list TyE, .int .i64], iU⟩
theorem HV : Ent.OK Tryz.prog yW := K3

/-! (schisma/lattice.long).short -/
abbrev fG : List (Nat × Kd) := [(4, .own 3 TyE), (12, .hnd 1), (13, .int .i64), (14, .int .i64), (100000, .ar 144 .str)]
abbrev gT : List (Ex × List (Nat × Kd)) := [(.ret, [(2, .list TyE), (3, .int .i64), (100000, .ar 144 .str)]), (.exit 0, [(4, .own 3 TyE), (100000, .ar 144 .str)])]
def dZ (x : Shape.den fG) : Option (Shape.den fG ⊕ aU gT) := match x with
 | (v4, v12, v13, v14, v100000, ()) =>
  bif ltI v14 v13 then
   bif aQ v14 v12.2.2 then bif Nat.blt ((v12.2.1 + v14.toNat) * 1) (eN v100000 v12.1) then aB (oW ((fX v100000 v12.1 ((v12.2.1 + v14.toNat) * 1) ByteArray.empty), ())) fun y2 =>
   bif y2.2.1 then
    bif ltI 1000000000 y2.1 then
     some (.inr (.inl ([], 4, v100000, ())))
    else bif ltI y2.1 (-1000000000) then
     some (.inr (.inl ([], 4, v100000, ())))
    else bif Nat.ble [y2.1].length 1048576 then bif Nat.ble v4.length 1048576 then some (.inl ((v4 ++ [y2.1]), (v12.1, v12.2.1, v12.2.2), v13, (aL .i64 (v14 + 1)), v100000, ())) else none else none
   else some (.inr (.inl ([], 4, v100000, ()))) else none else none
  else some (.inr (.inr ((v4, v100000, ()))))
def iO (x : Shape.den fG) : Option (aU gT) := bU dZ (2 ^ 64) x
def gS (u0 : Unit) (x : aH [.hnd 1]) (A : List (List ByteArray)) : Option ((aH [.list TyE, .int .i64]) × List (List ByteArray)) := match x with
 | (v0, ()) =>
  bif !(ltI ((v0.2.2 : Nat) : Int) 0) then bif !(ltI 1048576 ((v0.2.2 : Nat) : Int)) then aB (iO ((List.replicate 0 0), (v0.1, v0.2.1, v0.2.2), ((v0.2.2 : Nat) : Int), 0, A, ())) fun z3 =>
  lN z3 (fun a4 => some ((a4.1, a4.2.1, ()), a4.2.2.1)) fun b5 =>
  some ((b5.1, 0, ()), b5.2.1) else none else none
noncomputable def lU : Code := aS Tryz.f82
abbrev pU : Env := bI [GI]
theorem sD : aY Tryz.prog pU := aX ⟨IQ, trivial⟩
noncomputable def iD : Code := fB lU 0
def oX (id : Nat) : Option aR := bif Nat.beq id 3 then some ⟨fG, gT, iO⟩ else none
theorem zT : ∀ x, eU Tryz.prog pU 39 (aC Tryz.f82) oX iD fG gT x = dZ x := by
 rintro ⟨v4, v12, v13, v14, v100000, ⟨⟩⟩
 kernel_rfl
theorem D9 : aF iD = [] := by kernel_rfl
theorem zH : aG iD = 3 := by kernel_rfl
theorem A9 : cU Tryz.prog 39 iD ⟨fG, gT, iO⟩ := by
 exact cW sD.callee aJ.mixed _ (aE D9 trivial) zT
theorem CP : aF lU = [iD] := by kernel_rfl
theorem DV : ∀ l x A, VB Tryz.prog pU Tryz.f82 (aC Tryz.f82) oX lU 144 .str .none [.hnd 1] (.data [.list TyE, .int .i64]) l x A = gS l x A := by
 rintro u0 ⟨v0, ⟨⟩⟩ A
 kernel_rfl
theorem GF : X1 Tryz.prog 82 144 .str .none [.hnd 1] (.data [.list TyE, .int .i64]) gS := by
 exact SA aJ sD Tryz.func82 (c := lU) (by kernel_rfl) (aT := aC Tryz.f82) (lt := oX) (by rfl) (aE CP ⟨cX zH rfl A9, trivial⟩) DV
abbrev vK : Shr := (82, arH 144 .str .none [.hnd 1] (.data [.list TyE, .int .i64]) gS)
theorem DO : IT Tryz.prog vK := T8 GF

/-! schisma/lattice.longsOf -/
abbrev gJ : List (Nat × Kd) := [(3, .own 137 (.hnd 1)), (6, .list TyD), (7, .int .i64), (8, .int .i64), (100000, .ar 144 .str)]
abbrev iM : List (Ex × List (Nat × Kd)) := [(.exit 0, [(3, .own 137 (.hnd 1)), (100000, .ar 144 .str)])]
def fI (x : Shape.den gJ) : Option (Shape.den gJ ⊕ aU iM) := match x with
 | (v3, v6, v7, v8, v100000, ()) =>
  bif ltI v8 v7 then
   bif aQ v8 v6.length then aB (jW ((v6.getD v8.toNat []), ())) fun y2 =>
   bif Nat.ble [(v100000.length, 0, y2.length)].length 1048576 then bif Nat.ble v3.length 1048576 then some (.inl ((v3 ++ [(v100000.length, 0, y2.length)]), v6, v7, (aL .i64 (v8 + 1)), (v100000 ++ [y2]), ())) else none else none else none
  else some (.inr ((v3, v100000, ())))
def j5 (x : Shape.den gJ) : Option (aU iM) := bU fI (2 ^ 64) x
def iW (u0 : Unit) (x : aH [.list TyD]) (A : List (List ByteArray)) : Option ((List (Nat × Nat × Nat)) × List (List ByteArray)) := match x with
 | (v0, ()) =>
  aB (j5 ([], v0, (v0.length : Int), 0, A, ())) fun z3 =>
  some (z3.1, z3.2.1)
noncomputable def nF : Code := aS Tryz.f77
abbrev rQ : Env := aD1 [] [vW]
theorem uS : aY Tryz.prog rQ := CU trivial ⟨yU, trivial⟩
noncomputable def jK : Code := fB nF 0
def qG (id : Nat) : Option aR := bif Nat.beq id 3 then some ⟨gJ, iM, j5⟩ else none
theorem CJ : ∀ x, eU Tryz.prog rQ 19 (aC Tryz.f77) qG jK gJ iM x = fI x := by
 rintro ⟨v3, v6, v7, v8, v100000, ⟨⟩⟩
 kernel_rfl
theorem HE : aF jK = [] := by kernel_rfl
theorem CL : aG jK = 3 := by kernel_rfl
theorem D8 : cU Tryz.prog 19 jK ⟨gJ, iM, j5⟩ := by
 exact cW uS.callee aJ.mixed _ (aE HE trivial) CJ
theorem FN : aF nF = [jK] := by kernel_rfl
theorem GZ : ∀ l x A, VB Tryz.prog rQ Tryz.f77 (aC Tryz.f77) qG nF 144 .str .none [.list TyD] (.own 137 (.hnd 1)) l x A = iW l x A := by
 rintro u0 ⟨v0, ⟨⟩⟩ A
 kernel_rfl
theorem KR : X1 Tryz.prog 77 144 .str .none [.list TyD] (.own 137 (.hnd 1)) iW := by
 exact SA aJ uS Tryz.func77 (c := nF) (by kernel_rfl) (aT := aC Tryz.f77) (lt := qG) (by rfl) (aE FN ⟨cX CL rfl D8, trivial⟩) GZ
abbrev yT : Shr := (77, arH 144 .str .none [.list TyD] (.own 137 (.hnd 1)) iW)
theorem HZ : IT Tryz.prog yT := T8 KR

/-! (schisma/lattice.longs).form -/
abbrev dY : List (Nat × Kd) := [(0, .own 137 (.hnd 1)), (1, .int .i64), (5, .int .i64), (6, .int .i64), (7, .int .i64), (8, .int .i64), (100000, .ar 144 .str)]
abbrev fW : List (Ex × List (Nat × Kd)) := [(.exit 4, [(0, .own 137 (.hnd 1)), (1, .int .i64), (5, .int .i64), (6, .int .i64), (7, .int .i64), (100000, .ar 144 .str)])]
def bW (x : Shape.den dY) : Option (Shape.den dY ⊕ aU fW) := match x with
 | (v0, v1, v5, v6, v7, v8, v100000, ()) =>
  bif ltI v8 (v0.length : Int) then
   bif aQ v8 v0.length then bif Nat.blt v8.toNat v0.length then bif aQ v6 ((v0.getD v8.toNat (0, 0, 0)).2.2) then bif Nat.blt (((v0.getD v8.toNat (0, 0, 0)).2.1 + v6.toNat) * 1) (eN v100000 ((v0.getD v8.toNat (0, 0, 0)).1)) then bif !(eqS (fX v100000 ((v0.getD v8.toNat (0, 0, 0)).1) (((v0.getD v8.toNat (0, 0, 0)).2.1 + v6.toNat) * 1) ByteArray.empty) (ByteArray.mk #[48])) then
    bif ltI v7 0 then
     some (.inl (v0, v1, v5, v6, v8, (aL .i64 (v8 + 1)), v100000, ()))
    else bif aQ v8 v0.length then bif Nat.blt v8.toNat v0.length then bif aQ v6 ((v0.getD v8.toNat (0, 0, 0)).2.2) then bif Nat.blt (((v0.getD v8.toNat (0, 0, 0)).2.1 + v6.toNat) * 1) (eN v100000 ((v0.getD v8.toNat (0, 0, 0)).1)) then aB (sO ((fX v100000 ((v0.getD v8.toNat (0, 0, 0)).1) (((v0.getD v8.toNat (0, 0, 0)).2.1 + v6.toNat) * 1) ByteArray.empty), ())) fun y4 =>
    bif aQ v7 v0.length then bif Nat.blt v7.toNat v0.length then bif aQ v6 ((v0.getD v7.toNat (0, 0, 0)).2.2) then bif Nat.blt (((v0.getD v7.toNat (0, 0, 0)).2.1 + v6.toNat) * 1) (eN v100000 ((v0.getD v7.toNat (0, 0, 0)).1)) then aB (sO ((fX v100000 ((v0.getD v7.toNat (0, 0, 0)).1) (((v0.getD v7.toNat (0, 0, 0)).2.1 + v6.toNat) * 1) ByteArray.empty), ())) fun y5 =>
    aB (oA (y4.1, y5.1, ())) fun y6 =>
    bif ltI y6.1 0 then
     some (.inl (v0, v1, v5, v6, v8, (aL .i64 (v8 + 1)), v100000, ()))
    else some (.inl (v0, v1, v5, v6, v7, (aL .i64 (v8 + 1)), v100000, ())) else none else none else none else none else none else none else none else none
   else some (.inl (v0, v1, v5, v6, v7, (aL .i64 (v8 + 1)), v100000, ())) else none else none else none else none
  else some (.inr ((v0, v1, v5, v6, v7, v100000, ())))
def eY (x : Shape.den dY) : Option (aU fW) := bU bW (2 ^ 64) x
abbrev eD : List (Nat × Kd) := [(0, .own 137 (.hnd 1)), (1, .int .i64), (5, .int .i64), (6, .int .i64), (9, .bool), (10, .int .i64), (100000, .ar 144 .str)]
abbrev fY : List (Ex × List (Nat × Kd)) := [(.exit 6, [(0, .own 137 (.hnd 1)), (1, .int .i64), (5, .int .i64), (6, .int .i64), (9, .bool), (100000, .ar 144 .str)])]
def cR (x : Shape.den eD) : Option (Shape.den eD ⊕ aU fY) := match x with
 | (v0, v1, v5, v6, v9, v10, v100000, ()) =>
  bif ltI v10 (v0.length : Int) then
   bif aQ v10 v0.length then bif Nat.blt v10.toNat v0.length then bif aQ v6 ((v0.getD v10.toNat (0, 0, 0)).2.2) then bif Nat.blt (((v0.getD v10.toNat (0, 0, 0)).2.1 + v6.toNat) * 1) (eN v100000 ((v0.getD v10.toNat (0, 0, 0)).1)) then bif aQ v5 v0.length then bif Nat.blt v5.toNat v0.length then bif aQ v6 ((v0.getD v5.toNat (0, 0, 0)).2.2) then bif Nat.blt (((v0.getD v5.toNat (0, 0, 0)).2.1 + v6.toNat) * 1) (eN v100000 ((v0.getD v5.toNat (0, 0, 0)).1)) then aB (kZ ((fX v100000 ((v0.getD v10.toNat (0, 0, 0)).1) (((v0.getD v10.toNat (0, 0, 0)).2.1 + v6.toNat) * 1) ByteArray.empty), (fX v100000 ((v0.getD v5.toNat (0, 0, 0)).1) (((v0.getD v5.toNat (0, 0, 0)).2.1 + v6.toNat) * 1) ByteArray.empty), ())) fun y10 =>
   bif aQ v10 v0.length then bif Nat.blt v10.toNat v0.length then bif aQ v5 v0.length then bif Nat.blt v5.toNat v0.length then aB (eQ () (((v0.getD v10.toNat (0, 0, 0)).1, (v0.getD v10.toNat (0, 0, 0)).2.1, (v0.getD v10.toNat (0, 0, 0)).2.2), y10.1, ((v0.getD v5.toNat (0, 0, 0)).1, (v0.getD v5.toNat (0, 0, 0)).2.1, (v0.getD v5.toNat (0, 0, 0)).2.2), ()) v100000) fun y11 =>
   bif v9 then
    some (.inl (v0, v1, v5, v6, true, (aL .i64 (v10 + 1)), y11.2, ()))
   else some (.inl (v0, v1, v5, v6, !(eqS y10.2.1 (ByteArray.mk #[48])), (aL .i64 (v10 + 1)), y11.2, ())) else none else none else none else none else none else none else none else none else none else none else none else none
  else some (.inr ((v0, v1, v5, v6, v9, v100000, ())))
def gY (x : Shape.den eD) : Option (aU fY) := bU cR (2 ^ 64) x
abbrev eH : List (Nat × Kd) := [(0, .own 137 (.hnd 1)), (1, .int .i64), (5, .int .i64), (6, .int .i64), (142, .int .i64), (143, .int .i64), (100000, .ar 144 .str)]
abbrev gD : List (Ex × List (Nat × Kd)) := [(.exit 8, [(0, .own 137 (.hnd 1)), (1, .int .i64), (5, .int .i64), (6, .int .i64), (100000, .ar 144 .str)])]
def fD (x : Shape.den eH) : Option (Shape.den eH ⊕ aU gD) := match x with
 | (v0, v1, v5, v6, v142, v143, v100000, ()) =>
  bif ltI v143 v142 then
   bif aQ v143 v0.length then bif Nat.blt v143.toNat v0.length then bif aQ v6 ((v0.getD v143.toNat (0, 0, 0)).2.2) then bif Nat.blt (((v0.getD v143.toNat (0, 0, 0)).2.1 + v6.toNat) * 1) (eN v100000 ((v0.getD v143.toNat (0, 0, 0)).1)) then bif aQ v5 v0.length then bif Nat.blt v5.toNat v0.length then bif aQ v6 ((v0.getD v5.toNat (0, 0, 0)).2.2) then bif Nat.blt (((v0.getD v5.toNat (0, 0, 0)).2.1 + v6.toNat) * 1) (eN v100000 ((v0.getD v5.toNat (0, 0, 0)).1)) then aB (kZ ((fX v100000 ((v0.getD v143.toNat (0, 0, 0)).1) (((v0.getD v143.toNat (0, 0, 0)).2.1 + v6.toNat) * 1) ByteArray.empty), (fX v100000 ((v0.getD v5.toNat (0, 0, 0)).1) (((v0.getD v5.toNat (0, 0, 0)).2.1 + v6.toNat) * 1) ByteArray.empty), ())) fun y17 =>
   bif aQ v143 v0.length then bif Nat.blt v143.toNat v0.length then bif aQ v5 v0.length then bif Nat.blt v5.toNat v0.length then aB (eQ () (((v0.getD v143.toNat (0, 0, 0)).1, (v0.getD v143.toNat (0, 0, 0)).2.1, (v0.getD v143.toNat (0, 0, 0)).2.2), y17.1, ((v0.getD v5.toNat (0, 0, 0)).1, (v0.getD v5.toNat (0, 0, 0)).2.1, (v0.getD v5.toNat (0, 0, 0)).2.2), ()) v100000) fun y18 =>
   some (.inl (v0, v1, v5, v6, v142, (aL .i64 (v143 + 1)), y18.2, ())) else none else none else none else none else none else none else none else none else none else none else none else none
  else some (.inr ((v0, v1, v5, v6, v100000, ())))
def bV (x : Shape.den eH) : Option (aU gD) := bU fD (2 ^ 64) x
abbrev eG : List (Nat × Kd) := [(0, .own 137 (.hnd 1)), (1, .int .i64), (5, .int .i64), (6, .int .i64), (100000, .ar 144 .str)]
abbrev fZ : List (Ex × List (Nat × Kd)) := [(.exit 2, [(0, .own 137 (.hnd 1)), (1, .int .i64), (5, .int .i64), (6, .int .i64), (100000, .ar 144 .str)])]
def bX (x : Shape.den eG) : Option (Shape.den eG ⊕ aU fZ) := match x with
 | (v0, v1, v5, v6, v100000, ()) =>
  aB (eY (v0, v1, v5, v6, (-1), v5, v100000, ())) fun z21 =>
  bif ltI z21.2.2.2.2.1 0 then
   some (.inr ((z21.1, z21.2.1, z21.2.2.1, z21.2.2.2.1, z21.2.2.2.2.2.1, ())))
  else bif aQ z21.2.2.2.2.1 z21.1.length then bif Nat.blt z21.2.2.2.2.1.toNat z21.1.length then bif aQ z21.2.2.1 z21.1.length then bif Nat.blt z21.2.2.1.toNat z21.1.length then bif aQ z21.2.2.1 z21.1.length then bif Nat.blt z21.2.2.1.toNat z21.1.length then bif aQ z21.2.2.2.2.1 (z21.1.set z21.2.2.1.toNat ((z21.1.getD z21.2.2.2.2.1.toNat (0, 0, 0)).1, (z21.1.getD z21.2.2.2.2.1.toNat (0, 0, 0)).2.1, (z21.1.getD z21.2.2.2.2.1.toNat (0, 0, 0)).2.2)).length then bif Nat.blt z21.2.2.2.2.1.toNat (z21.1.set z21.2.2.1.toNat ((z21.1.getD z21.2.2.2.2.1.toNat (0, 0, 0)).1, (z21.1.getD z21.2.2.2.2.1.toNat (0, 0, 0)).2.1, (z21.1.getD z21.2.2.2.2.1.toNat (0, 0, 0)).2.2)).length then aB (gY (((z21.1.set z21.2.2.1.toNat ((z21.1.getD z21.2.2.2.2.1.toNat (0, 0, 0)).1, (z21.1.getD z21.2.2.2.2.1.toNat (0, 0, 0)).2.1, (z21.1.getD z21.2.2.2.2.1.toNat (0, 0, 0)).2.2)).set z21.2.2.2.2.1.toNat ((z21.1.getD z21.2.2.1.toNat (0, 0, 0)).1, (z21.1.getD z21.2.2.1.toNat (0, 0, 0)).2.1, (z21.1.getD z21.2.2.1.toNat (0, 0, 0)).2.2)), z21.2.1, z21.2.2.1, z21.2.2.2.1, false, (aL .i64 (z21.2.2.1 + 1)), z21.2.2.2.2.2.1, ())) fun z22 =>
  bif z22.2.2.2.2.1 then
   some (.inl (z22.1, z22.2.1, z22.2.2.1, z22.2.2.2.1, z22.2.2.2.2.2.1, ()))
  else bif aQ z22.2.2.1 z22.1.length then bif Nat.blt z22.2.2.1.toNat z22.1.length then bif aQ z22.2.2.2.1 ((z22.1.getD z22.2.2.1.toNat (0, 0, 0)).2.2) then bif Nat.blt (((z22.1.getD z22.2.2.1.toNat (0, 0, 0)).2.1 + z22.2.2.2.1.toNat) * 1) (eN z22.2.2.2.2.2.1 ((z22.1.getD z22.2.2.1.toNat (0, 0, 0)).1)) then aB (mE ((fX z22.2.2.2.2.2.1 ((z22.1.getD z22.2.2.1.toNat (0, 0, 0)).1) (((z22.1.getD z22.2.2.1.toNat (0, 0, 0)).2.1 + z22.2.2.2.1.toNat) * 1) ByteArray.empty), ())) fun y23 =>
  bif ltI y23.1 0 then
   bif aQ z22.2.2.1 z22.1.length then bif Nat.blt z22.2.2.1.toNat z22.1.length then aB (dJ () (((z22.1.getD z22.2.2.1.toNat (0, 0, 0)).1, (z22.1.getD z22.2.2.1.toNat (0, 0, 0)).2.1, (z22.1.getD z22.2.2.1.toNat (0, 0, 0)).2.2), ()) z22.2.2.2.2.2.1) fun y24 =>
   aB (bV (z22.1, z22.2.1, z22.2.2.1, z22.2.2.2.1, z22.2.2.1, 0, y24.2, ())) fun z25 =>
   some (.inr ((z25.1, z25.2.1, (aL .i64 (z25.2.2.1 + 1)), z25.2.2.2.1, z25.2.2.2.2.1, ()))) else none else none
  else aB (bV (z22.1, z22.2.1, z22.2.2.1, z22.2.2.2.1, z22.2.2.1, 0, z22.2.2.2.2.2.1, ())) fun z26 =>
  some (.inr ((z26.1, z26.2.1, (aL .i64 (z26.2.2.1 + 1)), z26.2.2.2.1, z26.2.2.2.2.1, ()))) else none else none else none else none else none else none else none else none else none else none else none else none
def fE (x : Shape.den eG) : Option (aU fZ) := bU bX (2 ^ 64) x
abbrev eJ : List (Nat × Kd) := [(0, .own 137 (.hnd 1)), (1, .int .i64), (5, .int .i64), (6, .int .i64), (100000, .ar 144 .str)]
abbrev gB : List (Ex × List (Nat × Kd)) := [(.exit 0, [(0, .own 137 (.hnd 1)), (5, .int .i64), (100000, .ar 144 .str)])]
def cS (x : Shape.den eJ) : Option (Shape.den eJ ⊕ aU gB) := match x with
 | (v0, v1, v5, v6, v100000, ()) =>
  bif ltI v6 v1 then
   bif ltI v5 (v0.length : Int) then
    aB (fE (v0, v1, v5, v6, v100000, ())) fun z28 =>
    some (.inl (z28.1, z28.2.1, z28.2.2.1, (aL .i64 (z28.2.2.2.1 + 1)), z28.2.2.2.2.1, ()))
   else some (.inr ((v0, v5, v100000, ())))
  else some (.inr ((v0, v5, v100000, ())))
def gW (x : Shape.den eJ) : Option (aU gB) := bU cS (2 ^ 64) x
def fU (v0 : List (Nat × Nat × Nat)) (x : aH [.int .i64]) (A : List (List ByteArray)) : Option ((List (Nat × Nat × Nat)) × List (List ByteArray)) := match x with
 | (v1, ()) =>
  aB (gW (v0, v1, 0, 0, A, ())) fun z29 =>
  bif Nat.beq z29.1.length 0 then
   bif !(ltI z29.2.1 0) then bif Nat.beq z29.2.1.toNat 0 then some (z29.1, z29.2.2.1) else none else none
  else bif !(ltI z29.2.1 0) then bif Nat.ble 0 z29.2.1.toNat then bif Nat.ble z29.2.1.toNat z29.1.length then bif Nat.blt 0 z29.1.length then some (z29.1.take (z29.2.1.toNat - 0), z29.2.2.1) else none else none else none else none
noncomputable def kG : Code := aS Tryz.f78
abbrev eA : Env := aD1 [XE, J9, D1, KW] [wZ, uX]
theorem eE : aY Tryz.prog eA := CU ⟨aBV, PU, FJ, JQ, trivial⟩ ⟨FD, CS, trivial⟩
noncomputable def eT : Code := fB kG 0
noncomputable def cT : Code := fB eT 0
noncomputable def gO : Code := fB cT 0
noncomputable def gN : Code := fB cT 1
noncomputable def gL : Code := fB cT 2
def dQ (id : Nat) : Option aR := bif Nat.beq id 7 then some ⟨dY, fW, eY⟩ else bif Nat.beq id 15 then some ⟨eD, fY, gY⟩ else bif Nat.beq id 24 then some ⟨eH, gD, bV⟩ else bif Nat.beq id 5 then some ⟨eG, fZ, fE⟩ else bif Nat.beq id 3 then some ⟨eJ, gB, gW⟩ else none
theorem xI : ∀ x, eU Tryz.prog eA 181 (aC Tryz.f78) dQ gO dY fW x = bW x := by
 rintro ⟨v0, v1, v5, v6, v7, v8, v100000, ⟨⟩⟩
 kernel_rfl
theorem BW : aF gO = [] := by kernel_rfl
theorem xK : aG gO = 7 := by kernel_rfl
theorem yJ : cU Tryz.prog 181 gO ⟨dY, fW, eY⟩ := by
 exact cW eE.callee aJ.mixed _ (aE BW trivial) xI
theorem xU : ∀ x, eU Tryz.prog eA 181 (aC Tryz.f78) dQ gN eD fY x = cR x := by
 rintro ⟨v0, v1, v5, v6, v9, v10, v100000, ⟨⟩⟩
 kernel_rfl
theorem BK : aF gN = [] := by kernel_rfl
theorem xR : aG gN = 15 := by kernel_rfl
theorem yN : cU Tryz.prog 181 gN ⟨eD, fY, gY⟩ := by
 exact cW eE.callee aJ.mixed _ (aE BK trivial) xU
theorem xX : ∀ x, eU Tryz.prog eA 181 (aC Tryz.f78) dQ gL eH gD x = fD x := by
 rintro ⟨v0, v1, v5, v6, v142, v143, v100000, ⟨⟩⟩
 kernel_rfl
theorem BB : aF gL = [] := by kernel_rfl
theorem xH : aG gL = 24 := by kernel_rfl
theorem yP : cU Tryz.prog 181 gL ⟨eH, gD, bV⟩ := by
 exact cW eE.callee aJ.mixed _ (aE BB trivial) xX
theorem wQ : ∀ x, eU Tryz.prog eA 181 (aC Tryz.f78) dQ cT eG fZ x = bX x := by
 rintro ⟨v0, v1, v5, v6, v100000, ⟨⟩⟩
 kernel_rfl
theorem B2 : aF cT = [gO, gN, gL] := by kernel_rfl
theorem xC : aG cT = 5 := by kernel_rfl
theorem yG : cU Tryz.prog 181 cT ⟨eG, fZ, fE⟩ := by
 exact cW eE.callee aJ.mixed _ (aE B2 ⟨cX xK rfl yJ, cX xR rfl yN, cX xH rfl yP, trivial⟩) wQ
theorem xA : ∀ x, eU Tryz.prog eA 181 (aC Tryz.f78) dQ eT eJ gB x = cS x := by
 rintro ⟨v0, v1, v5, v6, v100000, ⟨⟩⟩
 kernel_rfl
theorem CA : aF eT = [cT] := by kernel_rfl
theorem xN : aG eT = 3 := by kernel_rfl
theorem xY : cU Tryz.prog 181 eT ⟨eJ, gB, gW⟩ := by
 exact cW eE.callee aJ.mixed _ (aE CA ⟨cX xC rfl yG, trivial⟩) xA
theorem zI : aF kG = [eT] := by kernel_rfl
theorem AL : ∀ l x A, VB Tryz.prog eA Tryz.f78 (aC Tryz.f78) dQ kG 144 .str (.own 137 (.hnd 1)) [.int .i64] (.own 137 (.hnd 1)) l x A = fU l x A := by
 rintro u0 ⟨v1, ⟨⟩⟩ A
 kernel_rfl
theorem EI : X1 Tryz.prog 78 144 .str (.own 137 (.hnd 1)) [.int .i64] (.own 137 (.hnd 1)) fU := by
 exact SA aJ eE Tryz.func78 (c := kG) (by kernel_rfl) (aT := aC Tryz.f78) (lt := dQ) (by rfl) (aE zI ⟨cX xN rfl xY, trivial⟩) AL
abbrev tH : Shr := (78, arH 144 .str (.own 137 (.hnd 1)) [.int .i64] (.own 137 (.hnd 1)) fU)
theorem BO : IT Tryz.prog tH := T8 EI
end Go.PM
set_option linter.unusedSimpArgs false
set_option linter.unusedVariables false
namespace Go.PM
open Go Go.RowKit
def aJJ (P : Program) (E : Env) (fn : Func) (aT : Nat) (lt rt : Nat → Option aR) (c : Code) (ae : TypeId) (t : Ty) (tk : Tk) (args : List Kd) (an : An) (l : tk.den) (x : aH args) (A : List (List t.den)) : Option (an.den × List (List t.den)) :=
 bif Nat.ble (tk.pv 0 ++ hX args x).length fn.ntmps then rI P E fn.ntmps aT lt rt false [] c (start aT 0 (tk.pv 0 ++ hX args x)) (xZ (tk.ow l 0) ++ [some (arB ae t A)]) (aU4 P fn.results.toList ae t an) else none
section
variable {P : Program} {n0 : Nat → Prop} {w w' : World} {G G1 G2 : Gd} {μ μ2 : Mp} {H H' : Heap} {ae : TypeId} {t : Ty} {A B : List (List t.den)}
theorem aVP {E : Env} (hP : CC P) (hE : aY P E) {g : Nat} {fn : Func} (hg : P.funcs[g]? = some fn) {c : Code} (hc : fn.body = some c) {aT : Nat} {lt rt : Nat → Option aR} {ae : TypeId} {t : Ty} {tk : Tk} {args : List Kd} {an : An} {f : tk.den → aH args → List (List t.den) → Option (an.den × List (List t.den))}
  (hd : FW args = true) (hl : ∀ a ∈ cC c, EW P fn.ntmps lt rt false [] a) (hb : ∀ l x A, aJJ P E fn aT lt rt c ae t tk args an l x A = f l x A) : X1 P g ae t tk args an f := by
 intro l x A y B hy n0 G μ H w us ra r hW har ho hv
 rw [← hb] at hy
 unfold aJJ at hy
 obtain ⟨hlen, hy⟩ := aI hy
 obtain ⟨⟨ex, F', H'⟩, h1, h2⟩ := jE hE.callee hP.mixed c _ _ _ _ hl hy
 obtain ⟨vs, B', hex, hvs, hB, hq, rfl⟩ : ∃ vs B', (ex = .normal ∨ ex = .ret) ∧ mM P F' H' fn.results.toList = some vs ∧ aO7 ae t H' = some B' ∧ aK2 an (dR vs) H' = some y ∧ B'.2 = B := by
  unfold aU4 at h1
  split at h1
  ·cases h1
  ·rename_i hne
   split at h1
   ·rename_i vs hvs
    split at h1
    ·rename_i B' hB
     split at h1
     ·rename_i y' hy'
      simp only [Option.some.injEq, Prod.mk.injEq] at h1
      obtain ⟨rfl, h1⟩ := h1
      refine ⟨vs, B', ?_, hvs, hB, hy', h1⟩
      cases ex with
      | normal => exact .inl rfl
      | ret => exact .inr rfl
      | exit i => exact absurd rfl (hne i)
     ·cases h1
    ·cases h1
   ·cases h1
 have hargs : VRs w G (mpA μ (tk.ow l r) A.length) (tk.pv 0 ++ hX args x) us := by
  have hn := zC args x hd
  cases tk with
  | none => exact VRs.bE (cK _ _ hn hv)
  | own e u =>
   change VRs w G μ (.own r u.size :: hX args x) us at hv
   change VRs w G _ (.own 0 u.size :: hX args x) us
   rw [VRs] at hv ⊢
   obtain ⟨v, us', rfl, q1, q2⟩ := hv
   refine ⟨v, us', rfl, ?_, VRs.bE (cK _ _ hn q2)⟩
   rw [VR] at q1 ⊢
   exact q1
 have howb : xZ (tk.ow l 0) = xZ (tk.ow l r) := by cases tk <;> rfl
 have hW1 := QJ hW ho har
 rw [← howb] at hW1
 have e0 : Ext (wrA w G μ (tk.ow l r)) w G aK w G (mpA μ (tk.ow l r) A.length) :=
  ⟨⟨fun b hb => ⟨hb, rfl⟩, fun _ _ h => (by cases h), fun _ _ h => (by cases h), fun _ _ h => h, fun _ _ h => h⟩, rfl, rfl, rfl, Nat.le_refl _, Nat.le_refl _, fun _ _ _ => rfl, fun _ h => .inl h⟩
 refine ⟨enters hg (hP.names g fn hg) (by rw [hc]; rfl) _ _, (callsIn_wide (n := 0)).1 (callsIn_of_wp_marks hg hc trivial ?_)⟩
 have hI : I (wrA w G μ (tk.ow l r)) w G aK fn.ntmps (start aT 0 (tk.pv 0 ++ hX args x)) (xZ (tk.ow l 0) ++ [some (arB ae t A)]) ⟨us.toArray ++ Array.replicate (fn.ntmps - us.toArray.size) undef, []⟩ w :=
  ⟨G, _, e0, hW1, qL (by simpa using hargs) (Nat.le_of_ble_eq_true hlen)⟩
 refine wpIn_mono (h2 none 0 _ w G aK _ w (fun _ => rfl) (fun r _ => ⟨rfl, rfl⟩) hI.a3U) ?_
 rintro e1 ⟨tm, ds⟩ w' ⟨rfl, hI', _⟩
 have hend : ∀ w', IM (wrA w G μ (tk.ow l r)) w G aK fn.ntmps F' H' { tmps := tm, defers := [] } w' → LeavesIn Fence.wide 0 P fn tm (fun en w' => ∃ v' G'' μ'', en = .returned v' ∧ Ext n0 w G μ w' G'' μ'' ∧ aV n0 G'' μ'' (((CT (tk.ow l r) H).set ra none) ++ (some (arB ae t B'.2) :: an.hp y)) w' ∧ VR w' G'' μ'' (an.pv y (H.length + 1)) v') [] .returning w' := by
  rintro w' ⟨G1, μ1, ee, hW', hF', _⟩
  obtain ⟨ws, h3, h4⟩ := kY (P := P) hW' hF' hvs
  have hres : (results fn tm).run P w' = .ok (if hh : ws.toArray.size = 1 then ws.toArray[0] else .tuple ws.toArray) w' := by
   rw [sS, Array.mapM_eq_mapM_toList]
   simp only [Sem.run_bind, Sem.run_map, h3, Result.andThen_ok, Sem.run_pure]
  have hrb := N3 hW' hB
  obtain ⟨G2, μ3, b1, b2, b3⟩ : ∃ G2 μ3, Ext n0 w G μ w' G2 μ3 ∧ aV n0 G2 μ3 (((CT (tk.ow l r) H).set ra none) ++ (some (arB ae t B'.2) :: an.hp y)) w' ∧ VR w' G2 μ3 (an.pv y (H.length + 1)) (if hh : ws.toArray.size = 1 then ws.toArray[0] else .tuple ws.toArray) := by
   have hvr := mS h4
   cases an with
   | data rets =>
    simp only [aK2] at hq
    split at hq
    ·rename_i q hq'
     have hb := WZ (G2 := ⟨fun b => G1 b ∨ ∃ s k, H'[s]? = some (some k) ∧ k.frozen = false ∧ μ1.loc s = some b, G1.row⟩) hW ho har ee hW' hrb (os := none) ⟨fun _ _ _ h => by cases h⟩ (fun _ => rfl) (fun b hb => .inl hb) (fun b hb => by
      rcases hb with h | ⟨s, k, z1, z2, z3⟩
      ·exact .inl h
      ·exact .inr ⟨s, k, z1, z2, z3, fun _ _ _ h => by cases h⟩)
     refine ⟨_, _, hb.1, hb.2, ?_⟩
     have := AJ (G' := ⟨fun b => G1 b ∨ ∃ s k, H'[s]? = some (some k) ∧ k.frozen = false ∧ μ1.loc s = some b, G1.row⟩) hW' (fun _ _ h => h) (fun b hb => .inl hb) (fun s k1 b hs _ hb => by
      obtain ⟨_, _, _, _, g5, _⟩ := hW'.blk s k1 b hs hb
      cases hf : k1.frozen with
      | true => exact .inl (g5 hf)
      | false => exact .inr ⟨s, k1, hs, hf, hb⟩) depth _ q _ hq' hvr
     exact (LN hq this).bE
    ·cases hq
   | own e u =>
    simp only [aK2] at hq
    obtain ⟨r1, l0, hos, hvv⟩ := YN hW' hq hvr
    have hb := WZ (G2 := G1) hW ho har ee hW' hrb hos (fun _ => rfl) (fun b hb => hb) (fun b hb => .inl hb)
    refine ⟨_, _, hb.1, hb.2, hvv _ _ _ ?_ ?_⟩
    ·have h1 : ¬ H.length + 1 < H.length := by omega
     simp [nV, h1, aU0]
    ·have h1 : ¬ H.length + 1 < H.length := by omega
     simp [nV, h1, aQX]
  exact ⟨_, hres, _, G2, μ3, rfl, b1, b2, b3⟩
 rcases hex with rfl | rfl
 ·exact uY (fun b hb => (QJ hW ho har).base b hb) hend ds w' hI'
 ·exact uY (fun b hb => (QJ hW ho har).base b hb) hend ds w' hI'
end
end Go.PM
set_option linter.unusedSimpArgs false
set_option linter.unusedVariables false
namespace Go.PM
open Go Go.RowKit Go.Proofs
set_option maxRecDepth 100000
set_option maxHeartbeats 4000000
/-! schisma/row.fits -/
def FA (x : aH [.int .i64]) : Option (aH [.bool]) := match x with
 | (v0, ()) =>
  bif !(ltI v0 (-1000000000)) then
   some (!(ltI 1000000000 v0), ())
  else some (false, ())
noncomputable def R8 : Code := aS Tryz.f60
abbrev aC5 : Env := bI []
theorem aD3 : aY Tryz.prog aC5 := aX trivial
def ZX (id : Nat) : Option aR := none
theorem aBM : aF R8 = [] := by kernel_rfl
theorem aE5 : ∀ x, bQ Tryz.prog aC5 Tryz.f60 (aC Tryz.f60) ZX R8 [.int .i64] [.bool] x = FA x := by
 rintro ⟨v0, ⟨⟩⟩
 kernel_rfl
theorem aJS : cL Tryz.prog 60 [.int .i64] [.bool] FA := by
 exact aZ aJ aD3 Tryz.func60 (c := R8) (by kernel_rfl) (aT := aC Tryz.f60) (lt := ZX) (aE aBM trivial) aE5
abbrev aDD : Ent := ⟨60, [.int .i64], [.bool], FA⟩
theorem aEN : Ent.OK Tryz.prog aDD := aJS

/-! schisma/row.Check$1 -/
def vB (x : aH [.int .i64]) : Option (aH [.bool]) := match x with
 | (v0, ()) =>
  aB (FA (v0, ())) fun y1 =>
  bif y1.1 then
   some (false, ())
  else some (true, ())
noncomputable def HK : Code := aS Tryz.f59
abbrev PF : Env := bI [aDD]
theorem VV : aY Tryz.prog PF := aX ⟨aEN, trivial⟩
def MU (id : Nat) : Option aR := none
theorem TF : aF HK = [] := by kernel_rfl
theorem WK : ∀ x, bQ Tryz.prog PF Tryz.f59 (aC Tryz.f59) MU HK [.int .i64] [.bool] x = vB x := by
 rintro ⟨v0, ⟨⟩⟩
 kernel_rfl
theorem aA4 : cL Tryz.prog 59 [.int .i64] [.bool] vB := by
 exact aZ aJ VV Tryz.func59 (c := HK) (by kernel_rfl) (aT := aC Tryz.f59) (lt := MU) (aE TF trivial) WK
abbrev PC : Ent := ⟨59, [.int .i64], [.bool], vB⟩
theorem VW : Ent.OK Tryz.prog PC := aA4

/-! slices.IndexFunc[schisma/api.Row,int] -/
abbrev cH : List (Nat × Kd) := [(0, .list TyE), (1, .fn 59), (7, .int .i64), (8, .int .i64)]
abbrev dB : List (Ex × List (Nat × Kd)) := [(.ret, [(4, .int .i64)]), (.exit 0, [])]
def b6 (x : Shape.den cH) : Option (Shape.den cH ⊕ aU dB) := match x with
 | (v0, v1, v7, v8, ()) =>
  bif ltI v8 v7 then
   bif aQ v8 v0.length then aB (vB ((v0.getD v8.toNat 0), ())) fun y2 =>
   bif y2.1 then
    some (.inr (.inl (v8, ())))
   else some (.inl (v0, (), v7, (aL .i64 (v8 + 1)), ())) else none
  else some (.inr (.inr ((()))))
def eM (x : Shape.den cH) : Option (aU dB) := bU b6 (2 ^ 64) x
def eC (x : aH [.list TyE, .fn 59]) : Option (aH [.int .i64]) := match x with
 | (v0, v1, ()) =>
  aB (eM (v0, (), (v0.length : Int), 0, ())) fun z3 =>
  lN z3 (fun a4 => some (a4.1, ())) fun b5 =>
  some ((-1), ())
noncomputable def gH : Code := aS Tryz.f73
abbrev jV : Env := bI [PC]
theorem l6 : aY Tryz.prog jV := aX ⟨VW, trivial⟩
noncomputable def dH : Code := fB gH 0
def jF (id : Nat) : Option aR := bif Nat.beq id 2 then some ⟨cH, dB, eM⟩ else none
theorem rS : ∀ x, eU Tryz.prog jV 19 (aC Tryz.f73) jF dH cH dB x = b6 x := by
 rintro ⟨v0, v1, v7, v8, ⟨⟩⟩
 kernel_rfl
theorem uF : aF dH = [] := by kernel_rfl
theorem rN : aG dH = 2 := by kernel_rfl
theorem sE : cU Tryz.prog 19 dH ⟨cH, dB, eM⟩ := by
 exact cW l6.callee aJ.mixed _ (aE uF trivial) rS
theorem sU : aF gH = [dH] := by kernel_rfl
theorem tY : ∀ x, bQ Tryz.prog jV Tryz.f73 (aC Tryz.f73) jF gH [.list TyE, .fn 59] [.int .i64] x = eC x := by
 rintro ⟨v0, v1, ⟨⟩⟩
 kernel_rfl
theorem vH : cL Tryz.prog 73 [.list TyE, .fn 59] [.int .i64] eC := by
 exact aZ aJ l6 Tryz.func73 (c := gH) (by kernel_rfl) (aT := aC Tryz.f73) (lt := jF) (aE sU ⟨cX rN rfl sE, trivial⟩) tY
abbrev nR : Ent := ⟨73, [.list TyE, .fn 59], [.int .i64], eC⟩
theorem uD : Ent.OK Tryz.prog nR := vH

/-! slices.ContainsFunc[schisma/api.Row,int] -/
def dD (x : aH [.list TyE, .fn 59]) : Option (aH [.bool]) := match x with
 | (v0, v1, ()) =>
  aB (eC (v0, (), ())) fun y1 =>
  some (!(ltI y1.1 0), ())
noncomputable def iI : Code := aS Tryz.f55
abbrev l5 : Env := bI [nR]
theorem rW : aY Tryz.prog l5 := aX ⟨uD, trivial⟩
def lB (id : Nat) : Option aR := none
theorem rH : aF iI = [] := by kernel_rfl
theorem rT : ∀ x, bQ Tryz.prog l5 Tryz.f55 (aC Tryz.f55) lB iI [.list TyE, .fn 59] [.bool] x = dD x := by
 rintro ⟨v0, v1, ⟨⟩⟩
 kernel_rfl
theorem sV : cL Tryz.prog 55 [.list TyE, .fn 59] [.bool] dD := by
 exact aZ aJ rW Tryz.func55 (c := iI) (by kernel_rfl) (aT := aC Tryz.f55) (lt := lB) (aE rH trivial) rT
abbrev lW : Ent := ⟨55, [.list TyE, .fn 59], [.bool], dD⟩
theorem rY : Ent.OK Tryz.prog lW := sV

/-! schisma/row.Check -/
def sM (x : aH [.list TyE]) : Option (aH [.int .i64]) := match x with
 | (v0, ()) =>
  bif ltI 64 (v0.length : Int) then
   some (4, ())
  else aB (dD (v0, (), ())) fun y1 =>
  bif y1.1 then
   some (4, ())
  else some (0, ())
noncomputable def N1 : Code := aS Tryz.f37
abbrev aAA : Env := bI [lW]
theorem aBS : aY Tryz.prog aAA := aX ⟨rY, trivial⟩
def U3 (id : Nat) : Option aR := none
theorem Y4 : aF N1 = [] := by kernel_rfl
theorem aBK : ∀ x, bQ Tryz.prog aAA Tryz.f37 (aC Tryz.f37) U3 N1 [.list TyE] [.int .i64] x = sM x := by
 rintro ⟨v0, ⟨⟩⟩
 kernel_rfl
theorem aF4 : cL Tryz.prog 37 [.list TyE] [.int .i64] sM := by
 exact aZ aJ aBS Tryz.func37 (c := N1) (by kernel_rfl) (aT := aC Tryz.f37) (lt := U3) (aE Y4 trivial) aBK
abbrev OE : Ent := ⟨37, [.list TyE], [.int .i64], sM⟩
theorem MV : Ent.OK Tryz.prog OE := aF4

/-! schisma/row.CheckAll -/
abbrev k8 : List (Nat × Kd) := [(1, .int .i64), (8, .list TyD), (9, .int .i64), (10, .int .i64)]
abbrev nX : List (Ex × List (Nat × Kd)) := [(.ret, [(4, .int .i64)]), (.exit 0, [])]
def jU (x : Shape.den k8) : Option (Shape.den k8 ⊕ aU nX) := match x with
 | (v1, v8, v9, v10, ()) =>
  bif ltI v10 v9 then
   bif aQ v10 v8.length then aB (sM ((v8.getD v10.toNat []), ())) fun y2 =>
   bif !(eqI y2.1 0) then
    some (.inr (.inl (y2.1, ())))
   else bif !(eqI ((v8.getD v10.toNat []).length : Int) v1) then
    some (.inr (.inl (5, ())))
   else some (.inl (v1, v8, v9, (aL .i64 (v10 + 1)), ())) else none
  else some (.inr (.inr ((()))))
def o8 (x : Shape.den k8) : Option (aU nX) := bU jU (2 ^ 64) x
def pN (x : aH [.list TyD, .int .i64]) : Option (aH [.int .i64]) := match x with
 | (v0, v1, ()) =>
  aB (o8 (v1, v0, (v0.length : Int), 0, ())) fun z3 =>
  lN z3 (fun a4 => some (a4.1, ())) fun b5 =>
  some (0, ())
noncomputable def wK : Code := aS Tryz.f99
abbrev D7 : Env := bI [OE]
theorem FL : aY Tryz.prog D7 := aX ⟨MV, trivial⟩
noncomputable def pI : Code := fB wK 0
def BU (id : Nat) : Option aR := bif Nat.beq id 2 then some ⟨k8, nX, o8⟩ else none
theorem MC : ∀ x, eU Tryz.prog D7 24 (aC Tryz.f99) BU pI k8 nX x = jU x := by
 rintro ⟨v1, v8, v9, v10, ⟨⟩⟩
 kernel_rfl
theorem RY : aF pI = [] := by kernel_rfl
theorem L5 : aG pI = 2 := by kernel_rfl
theorem OI : cU Tryz.prog 24 pI ⟨k8, nX, o8⟩ := by
 exact cW FL.callee aJ.mixed _ (aE RY trivial) MC
theorem QX : aF wK = [pI] := by kernel_rfl
theorem UC : ∀ x, bQ Tryz.prog D7 Tryz.f99 (aC Tryz.f99) BU wK [.list TyD, .int .i64] [.int .i64] x = pN x := by
 rintro ⟨v0, v1, ⟨⟩⟩
 kernel_rfl
theorem XC : cL Tryz.prog 99 [.list TyD, .int .i64] [.int .i64] pN := by
 exact aZ aJ FL Tryz.func99 (c := wK) (by kernel_rfl) (aT := aC Tryz.f99) (lt := BU) (aE QX ⟨cX L5 rfl OI, trivial⟩) UC
abbrev MR : Ent := ⟨99, [.list TyD, .int .i64], [.int .i64], pN⟩
theorem TQ : Ent.OK Tryz.prog MR := XC

/-! schisma/lattice.check -/
def lG (x : aH [.int .i64, .list TyD]) : Option (aH [.int .i64]) := match x with
 | (v0, v1, ()) =>
  bif ltI v0 0 then
   some (3, ())
  else bif ltI 12 v0 then
   some (3, ())
  else bif ltI 12 (v1.length : Int) then
   some (4, ())
  else aB (pN (v1, v0, ())) fun y1 =>
  some (y1.1, ())
noncomputable def CE : Code := aS Tryz.f76
abbrev LA : Env := bI [MR]
theorem RN : aY Tryz.prog LA := aX ⟨TQ, trivial⟩
def IU (id : Nat) : Option aR := none
theorem OZ : aF CE = [] := by kernel_rfl
theorem QH : ∀ x, bQ Tryz.prog LA Tryz.f76 (aC Tryz.f76) IU CE [.int .i64, .list TyD] [.int .i64] x = lG x := by
 rintro ⟨v0, v1, ⟨⟩⟩
 kernel_rfl
theorem V9 : cL Tryz.prog 76 [.int .i64, .list TyD] [.int .i64] lG := by
 exact aZ aJ RN Tryz.func76 (c := CE) (by kernel_rfl) (aT := aC Tryz.f76) (lt := IU) (aE OZ trivial) QH
abbrev BX : Ent := ⟨76, [.int .i64, .list TyD], [.int .i64], lG⟩
theorem DE : Ent.OK Tryz.prog BX := V9

/-! (schisma/lattice.longs).short -/
abbrev eB : List (Nat × Kd) := [(4, .bag 116 TyE 23 TyD none), (6, .bag 116 TyE 23 TyD none), (13, .own 137 (.hnd 1)), (14, .int .i64), (15, .int .i64), (100000, .ar 144 .str)]
abbrev gC : List (Ex × List (Nat × Kd)) := [(.ret, [(4, .bag 116 TyE 23 TyD none), (5, .int .i64), (100000, .ar 144 .str)]), (.exit 0, [(4, .bag 116 TyE 23 TyD none), (6, .bag 116 TyE 23 TyD none), (100000, .ar 144 .str)])]
def dG (x : Shape.den eB) : Option (Shape.den eB ⊕ aU gC) := match x with
 | (v4, v6, v13, v14, v15, v100000, ()) =>
  bif ltI v15 v14 then
   bif aQ v15 v13.length then bif Nat.blt v15.toNat v13.length then aB (gS () (((v13.getD v15.toNat (0, 0, 0)).1, (v13.getD v15.toNat (0, 0, 0)).2.1, (v13.getD v15.toNat (0, 0, 0)).2.2), ()) v100000) fun y2 =>
   bif !(eqI y2.1.2.1 0) then
    some (.inr (.inl ((0, ([], ())), y2.1.2.1, y2.2, ())))
   else bif Nat.ble [y2.1.1].length 1048576 then bif Nat.ble v6.2.1.length 1048576 then some (.inl ((v4.1, (v4.2.1, ())), (v6.1, ((v6.2.1 ++ [y2.1.1]), ())), v13, v14, (aL .i64 (v15 + 1)), y2.2, ())) else none else none else none else none
  else some (.inr (.inr (((v4.1, (v4.2.1, ())), (v6.1, (v6.2.1, ())), v100000, ()))))
def gX (x : Shape.den eB) : Option (aU gC) := bU dG (2 ^ 64) x
def fQ (v0 : List (Nat × Nat × Nat)) (x : aH [.int .i64]) (A : List (List ByteArray)) : Option ((aH [.agg (.prod TyE TyC), .int .i64]) × List (List ByteArray)) := match x with
 | (v1, ()) =>
  aB (gX ((0, ([], ())), (v1, ([], ())), v0, (v0.length : Int), 0, A, ())) fun z3 =>
  lN z3 (fun a4 => some (((a4.1.1, a4.1.2.1), a4.2.1, ()), a4.2.2.1)) fun b5 =>
  some (((b5.2.1.1, b5.2.1.2.1), 0, ()), b5.2.2.1)
noncomputable def kK : Code := aS Tryz.f79
abbrev nP : Env := aD1 [] [vK]
theorem qM : aY Tryz.prog nP := CU trivial ⟨DO, trivial⟩
noncomputable def gP : Code := inLoop (KF kK 0)
def mP (id : Nat) : Option aR := bif Nat.beq id 3 then some ⟨eB, gC, gX⟩ else none
def mX (id : Nat) : Option aR := none
theorem xW : aG gP = 3 := by kernel_rfl
theorem BV : cC gP = [] := by kernel_rfl
theorem wT : ∀ x, Y9 Tryz.prog nP 36 (rL Tryz.f79) mP mX false [] gP eB gC x = dG x := by
 rintro ⟨v4, v6, v13, v14, v15, v100000, ⟨⟩⟩
 kernel_rfl
theorem yQ : uR Tryz.prog 36 false [] (.loop gP) ⟨eB, gC, gX⟩ := by
 exact P1 qM.callee aJ.mixed _ (nC BV trivial) wT
theorem zY : cC kK = [.loop gP] := by kernel_rfl
theorem A6 : ∀ l x A, aJJ Tryz.prog nP Tryz.f79 (rL Tryz.f79) mP mX kK 144 .str (.own 137 (.hnd 1)) [.int .i64] (.data [.agg (.prod TyE TyC), .int .i64]) l x A = fQ l x A := by
 rintro u0 ⟨v1, ⟨⟩⟩ A
 kernel_rfl
theorem EE : X1 Tryz.prog 79 144 .str (.own 137 (.hnd 1)) [.int .i64] (.data [.agg (.prod TyE TyC), .int .i64]) fQ := by
 exact aVP aJ qM Tryz.func79 (c := kK) (by kernel_rfl) (aT := rL Tryz.f79) (lt := mP) (rt := mX) (by rfl) (nC zY ⟨YL xW rfl yQ, trivial⟩) A6
abbrev tP : Shr := (79, arH 144 .str (.own 137 (.hnd 1)) [.int .i64] (.data [.agg (.prod TyE TyC), .int .i64]) fQ)
theorem BN : IT Tryz.prog tP := T8 EE

/-! schisma/lattice.Of -/
def dV (x : aH [.int .i64, .list TyD]) : Option (aH [.agg (.prod TyE TyC), .int .i64]) := match x with
 | (v0, v1, ()) =>
  aB (lG (v0, v1, ())) fun y1 =>
  bif !(eqI y1.1 0) then
   some ((0, []), y1.1, ())
  else aB (iW () (v1, ()) []) fun y2 =>
  aB (fU y2.1 (v0, ()) y2.2) fun y3 =>
  aB (fQ y3.1 (v0, ()) y3.2) fun y4 =>
  some ((y4.1.1.1, y4.1.1.2), y4.1.2.1, ())
noncomputable def K5 : Code := aS Tryz.f67
abbrev UR : Env := aD1 [BX] [yT, tH, tP]
theorem W3 : aY Tryz.prog UR := CU ⟨DE, trivial⟩ ⟨HZ, BO, BN, trivial⟩
def Q8 (id : Nat) : Option aR := none
theorem WH : aF K5 = [] := by kernel_rfl
theorem Z6 : ∀ x, aT0 Tryz.prog UR Tryz.f67 (aC Tryz.f67) Q8 K5 144 .str [.int .i64, .list TyD] [.agg (.prod TyE TyC), .int .i64] x = dV x := by
 rintro ⟨v0, v1, ⟨⟩⟩
 kernel_rfl
theorem aDU : cL Tryz.prog 67 [.int .i64, .list TyD] [.agg (.prod TyE TyC), .int .i64] dV := by
 exact a4A aJ W3 Tryz.func67 (c := K5) (by kernel_rfl) (aT := aC Tryz.f67) (lt := Q8) (aE WH trivial) Z6
abbrev KQ : Ent := ⟨67, [.int .i64, .list TyD], [.agg (.prod TyE TyC), .int .i64], dV⟩
theorem JV : Ent.OK Tryz.prog KQ := aDU
end Go.PM
set_option linter.unusedSimpArgs false
set_option linter.unusedVariables false
namespace Go.PM
open Go Go.RowKit Go.Proofs
set_option maxRecDepth 100000
set_option maxHeartbeats 4000000
/-! schisma/lattice.longOf -/
abbrev iV : List (Nat × Kd) := [(3, .own 144 .str), (9, .list TyE), (10, .int .i64), (11, .int .i64)]
abbrev kQ : List (Ex × List (Nat × Kd)) := [(.exit 0, [(3, .own 144 .str)])]
def vJ (x : Shape.den iV) : Option (Shape.den iV ⊕ aU kQ) := match x with
 | (v3, v9, v10, v11, ()) =>
  bif ltI v11 v10 then
   bif aQ v11 v9.length then aB (gF ((v9.getD v11.toNat 0), ())) fun y2 =>
   bif Nat.ble [y2.1].length 1048576 then bif Nat.ble v3.length 1048576 then some (.inl ((v3 ++ [y2.1]), v9, v10, (aL .i64 (v11 + 1)), ())) else none else none else none
  else some (.inr ((v3, ())))
def lT (x : Shape.den iV) : Option (aU kQ) := bU vJ (2 ^ 64) x
def jY (x : aH [.list TyE]) : Option (aH [.list .str]) := match x with
 | (v0, ()) =>
  bif !(ltI (v0.length : Int) 0) then bif !(ltI 1048576 (v0.length : Int)) then aB (lT ((List.replicate 0 ByteArray.empty), v0, (v0.length : Int), 0, ())) fun z3 =>
  some (z3.1, ()) else none else none
noncomputable def rG : Code := aS Tryz.f100
abbrev wE : Env := bI [AE]
theorem yZ : aY Tryz.prog wE := aX ⟨uW, trivial⟩
noncomputable def lF : Code := fB rG 0
def uK (id : Nat) : Option aR := bif Nat.beq id 3 then some ⟨iV, kQ, lT⟩ else none
theorem HY : ∀ x, eU Tryz.prog wE 22 (aC Tryz.f100) uK lF iV kQ x = vJ x := by
 rintro ⟨v3, v9, v10, v11, ⟨⟩⟩
 kernel_rfl
theorem MD : aF lF = [] := by kernel_rfl
theorem HM : aG lF = 3 := by kernel_rfl
theorem JB : cU Tryz.prog 22 lF ⟨iV, kQ, lT⟩ := by
 exact cW yZ.callee aJ.mixed _ (aE MD trivial) HY
theorem J1 : aF rG = [lF] := by kernel_rfl
theorem L2 : ∀ x, bQ Tryz.prog wE Tryz.f100 (aC Tryz.f100) uK rG [.list TyE] [.list .str] x = jY x := by
 rintro ⟨v0, ⟨⟩⟩
 kernel_rfl
theorem O5 : cL Tryz.prog 100 [.list TyE] [.list .str] jY := by
 exact aZ aJ yZ Tryz.func100 (c := rG) (by kernel_rfl) (aT := aC Tryz.f100) (lt := uK) (aE J1 ⟨cX HM rfl JB, trivial⟩) L2
abbrev FI : Ent := ⟨100, [.list TyE], [.list .str], jY⟩
theorem L0 : Ent.OK Tryz.prog FI := O5

/-! (schisma/lattice.Lattice).pivots$1 -/
abbrev c8 : List (Nat × Kd) := [(0, .val), (7, .list TyD), (8, .int .i64), (9, .int .i64)]
abbrev eP : List (Ex × List (Nat × Kd)) := [(.exit 0, [])]
def dU (x : Shape.den c8) : Option (List (Value × aH [.int .i64, .list .str]) × (Shape.den c8 ⊕ aU eP)) := match x with
 | (v0, v7, v8, v9, ()) =>
  bif ltI v9 v8 then
   bif aQ v9 v7.length then aB (jY ((v7.getD v9.toNat []), ())) fun y3 =>
   aB (hO (y3.1, ())) fun y4 =>
   outs [(v0, (y4.1, y3.1, ()))] (some ([], .inl (v0, v7, v8, (aL .i64 (v9 + 1)), ()))) else none
  else some ([], .inr ((())))
def fV (x : Shape.den c8) : Option (List (Value × aH [.int .i64, .list .str]) × aU eP) := QY dU (2 ^ 64) x
def lD (v0 : Value) (x : uC [(.prod TyE TyC)]) : Option (List (Value × aH [.int .i64, .list .str])) := match x with
 | (v1, ()) =>
  aRB (aI2 (fV (v0, v1.2, (v1.2.length : Int), 0, ())) fun z5 =>
  some ([], ()))
noncomputable def iQ : Code := aS Tryz.f141
abbrev lP : Env := aD1 [FI, B4] []
theorem oL : aY Tryz.prog lP := CU ⟨L0, I5, trivial⟩ trivial
noncomputable def eZ : Code := inLoop (KF iQ 0)
def kS (id : Nat) : Option aR := none
def kV (id : Nat) : Option (EF (Value × aH [.int .i64, .list .str])) := bif Nat.beq id 1 then some ⟨c8, eP, fV⟩ else none
theorem uZ : aG eZ = 1 := by kernel_rfl
theorem wV : cC eZ = [] := by kernel_rfl
theorem uI : ∀ x, aK5 Tryz.prog lP 22 (aC Tryz.f141) kS [.int .i64, .list .str] kV eZ c8 eP x = dU x := by
 rintro ⟨v0, v7, v8, v9, ⟨⟩⟩
 kernel_rfl
theorem vG : aG9 Tryz.prog 22 [.int .i64, .list .str] eZ ⟨c8, eP, fV⟩ := by
 exact aGZ oL.callee aJ.mixed _ (PA wV trivial) uI
theorem vT : cC iQ = [.loop eZ] := by kernel_rfl
theorem xE : ∀ v0 x, aMV Tryz.prog lP Tryz.f141 (aC Tryz.f141) kS [.int .i64, .list .str] kV iQ [(.prod TyE TyC)] v0 x = lD v0 x := by
 rintro v0 ⟨v1, ⟨⟩⟩
 kernel_rfl
theorem xO {f : uC [(.prod TyE TyC)] → Option (List (aH [.int .i64, .list .str]))} (h : ∀ yv x all, f x = some all → lD yv x = some (all.map fun e => (yv, e))) : OX Tryz.prog 141 [(.prod TyE TyC)] [.int .i64, .list .str] f := by
 exact aMX aJ oL Tryz.func141 (c := iQ) (by kernel_rfl) (by kernel_rfl) (aT := aC Tryz.f141) (lt := kS) (li := kV) (PA vT ⟨aHV uZ rfl rfl vG, trivial⟩) (fun yv x all hx => (xE yv x).trans (h yv x all hx))

/-! the iterator pivots -/
def ZN : List (List Int) → Option (List (aH [.int .i64, .list .str]))
 | [] => some []
 | r :: l => aB (jY (r, ())) fun y => aB (hO (y.1, ())) fun z => aB (ZN l) fun rest => some ((z.1, y.1, ()) :: rest)
def QZ (x : uC [(.prod TyE TyC)]) : Option (List (aH [.int .i64, .list .str])) := match x with
 | ((_, b), ()) => bif Nat.ble b.length 1048576 then ZN b else none
theorem UQ (yv : Value) (l : List (List Int)) (hl : l.length ≤ 1048576) : ∀ (rest pre : List (List Int)) (all : List (aH [.int .i64, .list .str])) (N : Nat), ZN rest = some all → pre ++ rest = l → rest.length < N →
  QY dU N (yv, l, (l.length : Int), (pre.length : Int), ()) = some (all.map fun e => (yv, e), ())
 | [], pre, all, N + 1, h, hp, _ => by
  obtain rfl := Option.some.inj h
  rw [List.append_nil] at hp
  subst hp
  have h1 : ltI (pre.length : Int) (pre.length : Int) = false := by simp [aO]
  simp only [QY, dU, h1, cond_false]
  rfl
 | r :: rest, pre, all, N + 1, h, hp, hN => by
  obtain ⟨y, hy, h⟩ := nQ h
  obtain ⟨z, hz, h⟩ := nQ h
  obtain ⟨all', ha, h⟩ := nQ h
  obtain rfl := Option.some.inj h
  have hlen : l.length = pre.length + (rest.length + 1) := by rw [← hp]; simp
  have h1 : ltI (pre.length : Int) (l.length : Int) = true := by simp [aO]; omega
  have h2 : aQ (pre.length : Int) l.length = true := by simp [bD]; omega
  have h3 : l.getD ((pre.length : Int)).toNat [] = r := by rw [← hp]; simp
  have h4 := UQ yv l hl rest (pre ++ [r]) all' N ha (by rw [← hp]; simp) (by simp at hN; omega)
  have h5 : aL .i64 ((pre.length : Int) + 1) = ((pre ++ [r]).length : Int) := by rw [wrap64 (by omega) (by omega)]; simp
  simp only [QY, dU, h1, cond_true, h2, h3, hy, aD, hz, outs, h5]
  rw [h4]
  rfl
theorem aNE : OX Tryz.prog 141 [(.prod TyE TyC)] [.int .i64, .list .str] QZ := by
 refine xO ?_
 rintro yv ⟨⟨n, b⟩, ⟨⟩⟩ all h
 unfold QZ at h
 dsimp only at h
 obtain ⟨hb, h⟩ := aI h
 have hb := Nat.le_of_ble_eq_true hb
 have := UQ yv b hb b [] all (2 ^ 64) h rfl (by omega)
 unfold lD
 dsimp only
 unfold fV
 have h0 : ((([] : List (List Int)).length : Nat) : Int) = 0 := rfl
 rw [h0] at this
 rw [this]
 simp [aI2, outs, aRB]
end Go.PM
