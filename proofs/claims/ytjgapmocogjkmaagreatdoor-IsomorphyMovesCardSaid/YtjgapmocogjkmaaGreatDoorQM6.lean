/- Texts of one proof, joined (6). -/
import Derived.Test.YtjgapmocogjkmaaGreatDoorQM5
set_option linter.unusedSimpArgs false
set_option linter.unusedVariables false
namespace Go.PM
open Go Go.RowKit
structure D8 (Y : Type) where
 sh : List (Nat × Kd)
 exits : List (Ex × List (Nat × Kd))
 run : Shape.den sh → Option (List Y × aV exits)
def a5F (o : Oper) : Bool := match o.op with
 | .call c => match c.callee with
  | .value (.tmp _) => true
  | _ => false
 | _ => false
def aYW : List Oper → Nat → Option Nat
 | [], _ => none
 | o :: r, i => bif a5F o then some i else aYW r (i + 1)
def outs {Y α : Type} (l : List Y) : Option (List Y × α) → Option (List Y × α)
 | some (m, z) => some (l ++ m, z)
 | none => none
def aJF {Y τ α : Type} (r : Option (List Y × τ)) (k : τ → Option (List Y × α)) : Option (List Y × α) := match r with
 | some (l, z) => outs l (k z)
 | none => none
def aRW {Y : Type} : Option (List Y × Unit) → Option (List Y)
 | some (l, _) => some l
 | none => none
section
variable {α : Type} (P : Program) (E : Env) (nt aU : Nat) (lt : Nat → Option aR) (ks : List Kd) (li : Nat → Option (D8 (Value × aH ks)))
def a4L (ops : Array Oper) (o : Oper) (rest : List Oper) (F : Frm) (H : Heap) (k : Frm → Heap → Option (List (Value × aH ks) × α)) (kx : Frm → Heap → Option Unit) : Option (List (Value × aH ks) × α) :=
 aF8 F ops.toList o fun F b => bif b then (match o.op with
  | .call c => match c.callee with
   | .value f => match ev F f with
    | .lit yv => bif cZ.noRefs (c.args.toList.map (ev F)) && ks.all Kd.plain then (match aFK ks (c.args.toList.map (ev F)) with
     | some e => match GA nt F o.dst (.lit (.bool true)), GA nt F o.dst (.lit (.bool false)) with
      | some F1, some F2 => match zX P E nt ops.toList rest F2 H kx with
       | some _ => outs [(yv, e)] (zX P E nt ops.toList rest F1 H k)
       | none => none
      | _, _ => none
     | none => none) else none
    | _ => none
   | _ => none
  | _ => none) else match GA nt F o.dst (.lit undef) with
   | some F1 => zX P E nt ops.toList rest F1 H k
   | none => none
def xD : Code → Frm → Heap → (Ex → Frm → Heap → Option (List (Value × aH ks) × α)) → (Ex → Frm → Heap → Option Unit) → Option (List (Value × aH ks) × α)
 | .skip, F, H, k, _ => k .normal F H
 | .label _, F, H, k, _ => k .normal F H
 | .region _ ops draw, F, H, k, kx => match aYW ops.toList 0 with
  | none => bif IH ops then rC P E nt ops draw F H fun F H => IX aU F fun F => k .normal F H else none
  | some s => bif XQ ops s then match ops.toList.drop s with
   | o :: rest => bif rest.all (fun o => !aGX o.op) then
     (bif draw then rC P E nt (ops.toList.take s).toArray true F H else zX P E nt ops.toList (ops.toList.take s) F H) fun F H =>
      a4L P E nt ks ops o rest F H (fun F H => IX aU F fun F => k .normal F H) (fun F H => kx .normal F H)
    else none
   | [] => none
   else none
 | .seq a b, F, H, k, kx => xD a F H (fun ex F H => match ex with
  | .normal => xD b F H k kx
  | .exit i => k (.exit i) F H
  | .ret => k .ret F H) (fun ex F H => match ex with
  | .normal => rT P E nt aU lt (fun _ => none) true [] b F H kx
  | .exit i => kx (.exit i) F H
  | .ret => kx .ret F H)
 | .cond c a b, F, H, k, kx => match ev F c with
  | .lit (.bool t) => aI2 F c t fun F t => bif t then xD a F H k kx else xD b F H k kx
  | _ => none
 | .block id a, F, H, k, kx => xD a F H (fun ex F H => match ex with
  | .exit i => bif Nat.beq i id then k .normal F H else k (.exit i) F H
  | .normal => k .normal F H
  | .ret => k .ret F H) (fun ex F H => match ex with
  | .exit i => bif Nat.beq i id then kx .normal F H else kx (.exit i) F H
  | .normal => kx .normal F H
  | .ret => kx .ret F H)
 | .loop a, F, H, k, _ => match li (aG a) with
  | some s => match pS [] s.sh F H with
   | some x => aJF (s.run x) fun z => aKC s.exits z k
   | none => none
  | none => match lt (aG a) with
   | some s => match pS [] s.sh F H with
    | some x => aB (s.run x) fun z => aKC s.exits z k
    | none => none
   | none => none
 | .exit id, F, H, k, _ => k (.exit id) F H
 | .ret, F, H, k, _ => k .ret F H
 | _, _, _, _, _ => none
end
def aVZ : Ex → Frm → Heap → Option Unit := fun ex _ _ => match ex with
 | .ret => some ()
 | _ => none
def aT7 {Y : Type} (sh : List (Nat × Kd)) (exits : List (Ex × List (Nat × Kd))) (ex : Ex) (F : Frm) (H : Heap) : Option (List Y × (Shape.den sh ⊕ aV exits)) := match VD [] sh exits ex F H with
 | some z => some ([], z)
 | none => none
def aKR (P : Program) (E : Env) (nt aU : Nat) (lt : Nat → Option aR) (ks : List Kd) (li : Nat → Option (D8 (Value × aH ks))) (a : Code) (sh : List (Nat × Kd)) (exits : List (Ex × List (Nat × Kd))) (x : Shape.den sh) : Option (List (Value × aH ks) × (Shape.den sh ⊕ aV exits)) :=
 xD P E nt aU lt ks li a (o8 sh x 0) (wA sh x) (aT7 sh exits) aVZ
def PY {Y σ τ : Type} (step : σ → Option (List Y × (σ ⊕ τ))) : Nat → σ → Option (List Y × τ)
 | 0, _ => none
 | n + 1, x => match step x with
  | some (l, .inl y) => outs l (PY step n y)
  | some (l, .inr z) => some (l, z)
  | none => none

theorem TG {Y α : Type} {l : List Y} {r : Option (List Y × α)} {m : List Y} {z : α} (h : outs l r = some (m, z)) : ∃ m', r = some (m', z) ∧ m = l ++ m' := by
 cases r with
 | none => cases h
 | some p =>
  obtain ⟨m', z'⟩ := p
  simp only [outs, Option.some.injEq, Prod.mk.injEq] at h
  obtain ⟨h1, h2⟩ := h
  subst h2
  exact ⟨m', rfl, h1.symm⟩

section
variable {P : Program} {E : Env} {nt aU : Nat} {lt : Nat → Option aR} {ks : List Kd} {li : Nat → Option (D8 (Value × aH ks))}
variable {Φ : (Nat → Prop) → (Nat → Prop) → World → Prop} {G0 G G' : Gd} {μ μ' : Mp} {H H' : Heap} {A A' W : World} {F F' : Frm} {n : Nat} {a : Act}
theorem Sg.aVN (h : Sg Φ G0 G μ H A) : ∃ n0, aW n0 G μ H A ∧ (∀ b, G0 b → G b) ∧ ∀ A' G' μ' H', Ext n0 A G aM A' G' μ' → aW n0 G' μ' H' A' → Sg Φ G0 G' μ' H' A' := by
 obtain ⟨T, X, B, GB, μB, h1, h2, h3, h4, h5, h6, h7⟩ := h
 refine ⟨_, h7, fun b hb => (h6.good b (h5 b hb)).1, fun A' G' μ' H' e w => ⟨T, X, B, GB, aM, h1, h2, h3, h4, h5, ?_, w⟩⟩
 have h6' : Ext (fun b => X b ∨ B.heap.size ≤ b) B GB aM A G aM := h6.plain
 exact h6'.trans e
theorem aNV {c : Code} {r : Ex × Frm × Heap} (h : aH0 P nt true [] c F H r) {Q : Exit → Act → World → Prop} (hS : Sg Φ G0 G μ H A) (hF : eK A G μ nt F a)
  (hQ : ∀ G' μ' a' A', Sg Φ G0 G' μ' r.2.2 A' → eK A' G' μ' nt r.2.1 a' → Q r.1.to a' A') : c.wpIn Fence.wide n P Q a A := by
 obtain ⟨n0, hW, _, hS2⟩ := hS.aVN
 have e0 : Ext n0 A G aM A G μ := { good := fun _ h => ⟨h, rfl⟩, map := fun _ _ h => (by cases h), len := fun _ _ h => (by cases h), room := fun _ _ h => h, row := fun _ _ h => h, os := rfl, tape := rfl, output := rfl, size := Nat.le_refl _, drawn := Nat.le_refl _, old := fun _ _ _ => rfl, new := fun _ h => .inl h }
 refine wpIn_mono (h none n n0 A G aM a A (fun h => (by cases h)) (fun r _ => ⟨rfl, rfl⟩) ⟨G, μ, e0, hW, hF.same, by rw [hF.defers]; trivial⟩) ?_
 rintro e a' w' ⟨rfl, ⟨G', μ', e', hW', hF', _⟩, hd⟩
 refine hQ G' μ' a' w' (hS2 _ _ _ _ e' hW') ⟨hF'.size, hF'.slot, ?_⟩
 rw [hd rfl]; exact hF.defers

def a7A (P : Program) (ks : List Kd) (l : Nat) (G0 : Gd) (all : List (aH ks)) (J Jx : List (aH ks) → (Nat → Prop) → (Nat → Prop) → World → Prop) : Prop :=
 ∀ pre e post T X B T' X' A us Gx m', all = pre ++ e :: post → J pre T X B → Stp X B A → (∀ b, T' b → (T b ∨ B.heap.size ≤ b) ∧ b < A.heap.size) → (∀ b, X' b → T' b ∧ (X b ∨ B.heap.size ≤ b)) →
   (∀ b, Gx b → (G0 b ∨ T' b) ∧ ¬ X' b) → VRs A (Gd.of Gx) aM (iE ks e) us →
   YieldAt Fence.wide m' P l us.toArray A fun en C =>
    ((∀ b, b < A.heap.size → G0 b ∨ T' b → C.heap[b]? = A.heap[b]?) ∧ (∀ b n, Room A b n → Room C b n) ∧ A.heap.size ≤ C.heap.size ∧ A.drawn ≤ C.drawn) ∧ ((en = .returned (.bool true) ∧ J (pre ++ [e]) T' X' C) ∨ (en = .returned (.bool false) ∧ Jx (pre ++ [e]) T' X' C))
def aUJ (P : Program) (nt : Nat) (ks : List Kd) (c : Code) (F : Frm) (H : Heap) (ys : List (Value × aH ks)) (r : Ex × Frm × Heap) (kx : Ex → Frm → Heap → Option Unit) : Prop :=
 ∀ (l : Nat) (yv : Value), yv = .func (.yield l) #[] #[] → ∀ (G0 : Gd) (all : List (aH ks)) (J Jx : List (aH ks) → (Nat → Prop) → (Nat → Prop) → World → Prop), a7A P ks l G0 all J Jx →
  ∀ (pre post : List (aH ks)) (n : Nat) (a : Act) (A : World) (G : Gd) (μ : Mp), all = pre ++ (ys.map (·.2) ++ post) → (∀ y ∈ ys, y.1 = yv) → Sg (J pre) G0 G μ H A → eK A G μ nt F a →
  c.wpIn Fence.wide n P (fun e a' A' => (e = r.1.to ∧ ∃ G' μ', Sg (J (pre ++ ys.map (·.2))) G0 G' μ' r.2.2 A' ∧ eK A' G' μ' nt r.2.1 a') ∨
   (∃ ex' F' H' pre' G' μ', kx ex' F' H' = some () ∧ e = ex'.to ∧ Sg (Jx pre') G0 G' μ' H' A' ∧ eK A' G' μ' nt F' a')) a A
def aI9 (P : Program) (nt : Nat) (ks : List Kd) (a : Code) (s : D8 (Value × aH ks)) : Prop :=
 ∀ x ys z, s.run x = some (ys, z) → aUJ P nt ks (.loop a) (o8 s.sh x 0) (wA s.sh x) ys (rJ s.exits z) aVZ
def VX (P : Program) (nt : Nat) (lt : Nat → Option aR) (ks : List Kd) (li : Nat → Option (D8 (Value × aH ks))) : Code → Prop
 | .loop a => (∀ s, lt (aG a) = some s → vG P nt true [] (.loop a) s) ∧ (∀ s, li (aG a) = some s → aI9 P nt ks a s)
 | _ => True

theorem FA {c : Code} {r : Ex × Frm × Heap} {kx : Ex → Frm → Heap → Option Unit} (h : aH0 P nt true [] c F H r) : aUJ P nt ks c F H [] r kx := by
 intro l yv hyv G0 all J Jx hY pre post n a A G μ hall hys hS hF
 refine aNV h hS hF fun G' μ' a' A' hS' hF' => .inl ⟨rfl, G', μ', ?_, hF'⟩
 rw [List.map_nil, List.append_nil]; exact hS'
theorem aGQ (hcl : cQ P (dH P E)) (hP : P.follows .mixedOrders = true) {α : Type} {id : Nat} {ops : Array Oper} {draw : Bool} {k : Ex → Frm → Heap → Option α} {z : α} (h : rC P E nt ops draw F H (fun F H => IX aU F fun F => k .normal F H) = some z) (hd : IH ops = true) :
  ∃ r : Ex × Frm × Heap, k r.1 r.2.1 r.2.2 = some z ∧ aH0 P nt true [] (.region id ops draw) F H r := by
 obtain ⟨F1, H1, h1, h2⟩ := aA7 (id := id) hcl hP hd h
 obtain ⟨F2, h3, h4⟩ := wD aU F1 fun F => k .normal F H1
 rw [h3] at h1
 exact ⟨(.normal, F2, H1), h1, fun _ _ _ _ _ _ _ _ _ _ hI => h2 hI fun a' w' hd' hI' => ⟨rfl, hI'.aOL h4, fun _ => hd'⟩⟩
theorem aAJ (hcl : cQ P (dH P E)) {ops : Array Oper} {l : List Oper} (hrun : EB P (dH P E) nt ops.toList l F H = some (F', H')) (hnd : (l.all fun o => !aGX o.op) = true) {Q : Exit → Act → World → Prop}
  (hS : Sg Φ G0 G μ H A) (hF : eK A G μ nt F a) (hQ : ∀ G' μ' a' A', Sg Φ G0 G' μ' H' A' → eK A' G' μ' nt F' a' → Q .normal a' A') : wpListIn Fence.wide n P ops Q l a A := by
 obtain ⟨n0, hW, _, hS2⟩ := hS.open_
 have h1 := rQ (Q := fun e a' w' => e = .normal ∧ I n0 A G μ nt F' H' a' w') hcl l F H a A hrun ⟨G, μ, Ext.refl _ _ _ _, hW, hF⟩ (fun a' w' h => ⟨rfl, h⟩)
 have h2 := PU (ro := none) (n := n) (ds := []) (Q' := Q) (fun a w h => by cases h.1) (fun e a' w' h => by
  obtain ⟨rfl, G', μ', e, hW', hF'⟩ := h
  have e1 : nK [] a' = a' := by simp [nK]
  rw [e1]
  exact hQ G' μ' a' w' (hS2 _ _ _ _ e hW') hF') (fun o ho c hc => by
  have := List.all_eq_true.1 hnd o ho
  rw [hc] at this
  cases this) h1
 have e1 : nK [] a = a := by simp [nK]
 rw [e1] at h2
 exact h2
theorem aOB (hcl : cQ P (dH P E)) (hP : P.follows .mixedOrders = true) {α : Type} {id s : Nat} {ops : Array Oper} {draw : Bool} (hsp : XQ ops s = true) {k : Frm → Heap → Option α} {z : α}
  (h : (bif draw then rC P E nt (ops.toList.take s).toArray true F H else zX P E nt ops.toList (ops.toList.take s) F H) k = some z) :
  ∃ F1 H1, k F1 H1 = some z ∧ ∀ {Φ : (Nat → Prop) → (Nat → Prop) → World → Prop} {G0 G : Gd} {μ : Mp} {A : World} {a : Act} {n : Nat} {Q : Exit → Act → World → Prop}, Sg Φ G0 G μ H A → eK A G μ nt F a →
   (∀ G' μ' a' A', Sg Φ G0 G' μ' H1 A' → eK A' G' μ' nt F1 a' → wpListIn Fence.wide n P ops Q (ops.toList.drop s) a' A') → (Code.region id ops draw).wpIn Fence.wide n P Q a A := by
 obtain ⟨F1, H1, hrun, hk⟩ : ∃ F1 H1, (bif draw then GY P (dH P E) nt (ops.toList.take s).toArray F H else EB P (dH P E) nt ops.toList (ops.toList.take s) F H) = some (F1, H1) ∧ k F1 H1 = some z := by
  cases draw with
  | true =>
   simp only [cond_true] at h ⊢
   exact GR h
  | false =>
   simp only [cond_false] at h ⊢
   obtain ⟨F1, H1, h2, h3⟩ := o7 h
   exact ⟨F1, H1, h2, h3⟩
 refine ⟨F1, H1, hk, ?_⟩
 intro Φ G0 G μ A a n Q hS hF hQ
 obtain ⟨n0, hW, _, hS2⟩ := hS.open_
 have := aFA (ro := none) (n := n) (ds := []) (Q := Q) hcl hP (id := id) hsp hrun (n0 := n0) (wi := A) (Gi := G) (μi := μ) (a := a) (w := A) ⟨G, μ, Ext.refl _ _ _ _, hW, hF⟩ (fun a' w' h => by
  obtain ⟨G', μ', e, hW', hF'⟩ := h
  have e1 : nK [] a' = a' := by simp [nK]
  rw [e1]
  exact hQ G' μ' a' w' (hS2 _ _ _ _ e hW') hF')
 have e1 : nK [] a = a := by simp [nK]
 rw [e1] at this
 exact this
theorem aR2 {l : List Operand} (hF : eK A G μ nt F a) : VRs A G μ (l.map (ev F)) (l.map a.eval) := by
 induction l with
 | nil => rw [List.map_nil, List.map_nil, VRs]
 | cons x l ih =>
  rw [List.map_cons, List.map_cons, VRs]
  exact ⟨_, _, rfl, cG hF x, ih⟩

theorem oR {α : Type} (hcl : cQ P (dH P E)) (hP : P.follows .mixedOrders = true) : ∀ (c : Code) (F : Frm) (H : Heap) (k : Ex → Frm → Heap → Option (List (Value × aH ks) × α)) (kx : Ex → Frm → Heap → Option Unit) (ys : List (Value × aH ks)) (z : α),
  (∀ F H, kx .ret F H = some ()) → (∀ a ∈ cD c, VX P nt lt ks li a) → xD P E nt aU lt ks li c F H k kx = some (ys, z) →
  ∃ ys1 ys2 r, k r.1 r.2.1 r.2.2 = some (ys2, z) ∧ ys = ys1 ++ ys2 ∧ aUJ P nt ks c F H ys1 r kx
 | .skip, F, H, k, kx, ys, z, hx, hl, h => ⟨[], ys, (.normal, F, H), h, rfl, FA fun _ _ _ _ _ _ _ _ _ _ hI => wpIn_skip ⟨rfl, hI, fun _ => rfl⟩⟩
 | .label l, F, H, k, kx, ys, z, hx, hl, h => ⟨[], ys, (.normal, F, H), h, rfl, FA fun _ _ _ _ _ _ _ _ _ _ hI => wpIn_label ⟨rfl, hI, fun _ => rfl⟩⟩
 | .exit id, F, H, k, kx, ys, z, hx, hl, h => ⟨[], ys, (.exit id, F, H), h, rfl, FA fun _ _ _ _ _ _ _ _ _ _ hI => wpIn_exit ⟨rfl, hI, fun _ => rfl⟩⟩
 | .ret, F, H, k, kx, ys, z, hx, hl, h => ⟨[], ys, (.ret, F, H), h, rfl, FA fun _ _ _ _ _ _ _ _ _ _ hI => wpIn_ret ⟨rfl, hI, fun _ => rfl⟩⟩
 | .region id ops draw, F, H, k, kx, ys, z, hx, hl, h => by
  simp only [xD] at h
  split at h
  ·obtain ⟨hd, h⟩ := aI h
   obtain ⟨r, h1, h2⟩ := aGQ (id := id) hcl hP h hd
   exact ⟨[], ys, r, h1, rfl, FA h2⟩
  ·rename_i s hs
   obtain ⟨hsp, h⟩ := aI h
   split at h
   ·rename_i o rest hdrop
    obtain ⟨hnd, h⟩ := aI h
    obtain ⟨F1, H1, hk, hsplit⟩ := aOB (id := id) hcl hP hsp h
    unfold a4L at hk
    obtain ⟨b, hg, hk⟩ := VH hk
    cases b with
    | true =>
     simp only [cond_true] at hk
     split at hk
     ·rename_i c hoc
      split at hk
      ·rename_i f hcf
       split at hk
       ·rename_i yv hyv
        obtain ⟨hnr, hk⟩ := aI hk
        rw [Bool.and_eq_true] at hnr
        obtain ⟨hnr, hplk⟩ := hnr
        split at hk
        ·rename_i e he
         split at hk
         ·rename_i F2 F3 hp2 hp3
          split at hk
          ·rename_i u hstop
           obtain ⟨ys2, hlive, rfl⟩ := TG hk
           obtain ⟨F4, H4, hrun4, hk4⟩ := o7 hlive
           obtain ⟨F5, H5, hrun5, hk5⟩ := o7 hstop
           obtain ⟨F6, h6, h7⟩ := wD aU F4 fun F => k .normal F H4
           rw [h6] at hk4
           refine ⟨[(yv, e)], ys2, (.normal, F6, H4), hk4, rfl, ?_⟩
           intro l yv' hyv' G0 all J Jx hY pre post n a A G μ hall hys hS hF
           have hyy := hys _ (List.mem_singleton.2 rfl)
           dsimp only at hyy
           subst hyy
           refine hsplit hS hF fun G1 μ1 a1 A1 hS1 hF1 => ?_
           rw [hdrop]
           have hw := pT hF1 hg
           have hv := aR2 (l := c.args.toList) hF1
           have hv0 := cM _ _ hnr hv
           have hve := xN ks he hv0
           have hfe := cG hF1 f
           rw [hyv, VR] at hfe
           have hall' : all = pre ++ e :: post := by rw [hall]; rfl
           refine aSF hoc hcf hw (hfe.trans hyv') (us := (c.args.toList.map a1.eval).toArray) (by rw [← Array.toList_map]) (fun m' => hS1.yield hY hall' hve (ZA ks e hplk) m') ?_
           rintro en C ⟨hmo, hout⟩
           rcases hout with ⟨rfl, hS2⟩ | ⟨rfl, hS2⟩
           ·refine ⟨_, rfl, aAJ hcl hrun4 hnd hS2 ((hF1.mono hmo).aAE hp2 (by rw [VR])) fun G2 μ2 a2 A2 hS3 hF3 => .inl ⟨rfl, G2, μ2, hS3, ?_⟩⟩
            exact ⟨hF3.size, fun t => by
             rcases h7 t with h8 | h8
             ·rw [h8]; exact hF3.slot t
             ·rw [h8, VR]; trivial, hF3.defers⟩
           ·exact ⟨_, rfl, aAJ hcl hrun5 hnd hS2 ((hF1.mono hmo).aAE hp3 (by rw [VR])) fun G2 μ2 a2 A2 hS3 hF3 => .inr ⟨.normal, F5, H5, _, G2, μ2, hk5, rfl, hS3, hF3⟩⟩
          ·cases hk
         ·cases hk
        ·cases hk
       ·cases hk
      ·cases hk
     ·cases hk
    | false =>
     simp only [cond_false] at hk
     split at hk
     ·rename_i F2 hp2
      obtain ⟨F4, H4, hrun4, hk4⟩ := o7 hk
      obtain ⟨F6, h6, h7⟩ := wD aU F4 fun F => k .normal F H4
      rw [h6] at hk4
      refine ⟨[], ys, (.normal, F6, H4), hk4, rfl, ?_⟩
      intro l yv' hyv' G0 all J Jx hY pre post n a A G μ hall hys hS hF
      refine hsplit hS hF fun G1 μ1 a1 A1 hS1 hF1 => ?_
      rw [hdrop]
      refine aX9 (pT hF1 hg) (aAJ hcl hrun4 hnd hS1 (hF1.aAE hp2 (by rw [VR])) fun G2 μ2 a2 A2 hS3 hF3 => .inl ⟨rfl, G2, μ2, ?_, ?_⟩)
      ·rw [List.map_nil, List.append_nil]; exact hS3
      ·exact ⟨hF3.size, fun t => by
        rcases h7 t with h8 | h8
        ·rw [h8]; exact hF3.slot t
        ·rw [h8, VR]; trivial, hF3.defers⟩
     ·cases hk
   ·cases h
 | .seq x y, F, H, k, kx, ys, z, hx, hl, h => by
  simp only [xD] at h
  obtain ⟨ys1, ys2, ⟨ex, F1, H1⟩, h1, rfl, h2⟩ := oR hcl hP x F H _ _ ys z (by intro F H; exact hx F H) (fun a ha => hl a (by simp [cD, ha])) h
  have stop : ∀ {l : Nat} {yv : Value} {G0 : Gd} {all : List (aH ks)} {J Jx : List (aH ks) → (Nat → Prop) → (Nat → Prop) → World → Prop} {n : Nat} {R : Exit → Act → World → Prop},
    (∀ e a' A', (∃ ex' F' H' pre' G' μ', kx ex' F' H' = some () ∧ e = ex'.to ∧ Sg (Jx pre') G0 G' μ' H' A' ∧ eK A' G' μ' nt F' a') → R e a' A') → ∀ ex' F' H' pre' G' μ' a' A',
    (match ex' with
     | Ex.normal => rT P E nt aU lt (fun _ => none) true [] y F' H' kx
     | Ex.exit i => kx (Ex.exit i) F' H'
     | Ex.ret => kx Ex.ret F' H') = some () → Sg (Jx pre') G0 G' μ' H' A' → eK A' G' μ' nt F' a' →
    Exit.then (y.wpIn Fence.wide n P R) R ex'.to a' A' := by
   intro l yv G0 all J Jx n R hR ex' F' H' pre' G' μ' a' A' hm hS hF
   cases ex' with
   | normal =>
    obtain ⟨r, h3, h4⟩ := jG hcl hP y F' H' kx () (fun a ha => by
     have := hl a (by simp [cD, ha])
     cases a with
     | loop b => exact this.1
     | rangeFunc g ps as1 b => intro h; cases h
     | _ => trivial) hm
    refine aNV h4 hS hF fun G2 μ2 a2 A2 hS2 hF2 => hR _ _ _ ⟨r.1, r.2.1, r.2.2, pre', G2, μ2, h3, rfl, hS2, hF2⟩
   | exit i => exact hR _ _ _ ⟨.exit i, F', H', pre', G', μ', hm, rfl, hS, hF⟩
   | ret => exact hR _ _ _ ⟨.ret, F', H', pre', G', μ', hm, rfl, hS, hF⟩
  cases ex with
  | normal =>
   obtain ⟨ys3, ys4, r, h3, rfl, h4⟩ := oR hcl hP y F1 H1 k kx ys2 z hx (fun a ha => hl a (by simp [cD, ha])) h1
   refine ⟨ys1 ++ ys3, ys4, r, h3, by rw [List.append_assoc], ?_⟩
   intro l yv hyv G0 all J Jx hY pre post n a A G μ hall hys hS hF
   refine wpIn_seq (wpIn_mono (h2 l yv hyv G0 all J Jx hY pre (ys3.map (·.2) ++ post) n a A G μ (by rw [hall, List.map_append, List.append_assoc]) (fun y hy => hys y (List.mem_append_left _ hy)) hS hF) ?_)
   rintro e a' w' (⟨rfl, G', μ', hS', hF'⟩ | ⟨ex', F', H', pre', G', μ', hm, rfl, hS', hF'⟩)
   ·refine wpIn_mono (h4 l yv hyv G0 all J Jx hY (pre ++ ys1.map (·.2)) post n a' w' G' μ' (by rw [hall, List.map_append, List.append_assoc, List.append_assoc]) (fun y hy => hys y (List.mem_append_right _ hy)) hS' hF') ?_
    rintro e a'' w'' (⟨rfl, G2, μ2, hS2, hF2⟩ | hst)
    ·refine .inl ⟨rfl, G2, μ2, ?_, hF2⟩
     rw [List.map_append, ← List.append_assoc]; exact hS2
    ·exact .inr hst
   ·exact stop (l := l) (yv := yv) (all := all) (J := J) (fun e a' A' h => Or.inr h) ex' F' H' pre' G' μ' a' w' hm hS' hF'
  | exit i =>
   refine ⟨ys1, ys2, (.exit i, F1, H1), h1, rfl, ?_⟩
   intro l yv hyv G0 all J Jx hY pre post n a A G μ hall hys hS hF
   refine wpIn_seq (wpIn_mono (h2 l yv hyv G0 all J Jx hY pre post n a A G μ hall hys hS hF) ?_)
   rintro e a' w' (⟨rfl, G', μ', hS', hF'⟩ | ⟨ex', F', H', pre', G', μ', hm, rfl, hS', hF'⟩)
   ·exact .inl ⟨rfl, G', μ', hS', hF'⟩
   ·exact stop (l := l) (yv := yv) (all := all) (J := J) (fun e a' A' h => Or.inr h) ex' F' H' pre' G' μ' a' w' hm hS' hF'
  | ret =>
   refine ⟨ys1, ys2, (.ret, F1, H1), h1, rfl, ?_⟩
   intro l yv hyv G0 all J Jx hY pre post n a A G μ hall hys hS hF
   refine wpIn_seq (wpIn_mono (h2 l yv hyv G0 all J Jx hY pre post n a A G μ hall hys hS hF) ?_)
   rintro e a' w' (⟨rfl, G', μ', hS', hF'⟩ | ⟨ex', F', H', pre', G', μ', hm, rfl, hS', hF'⟩)
   ·exact .inl ⟨rfl, G', μ', hS', hF'⟩
   ·exact stop (l := l) (yv := yv) (all := all) (J := J) (fun e a' A' h => Or.inr h) ex' F' H' pre' G' μ' a' w' hm hS' hF'
 | .cond c x y, F, H, k, kx, ys, z, hx, hl, h => by
  simp only [xD] at h
  split at h
  ·rename_i t ht
   replace h := AH h ht
   have hc : ∀ {A : World} {G : Gd} {μ : Mp} {a : Act}, eK A G μ nt F a → a.eval c = .bool t := fun {A G μ a} hF => by
    have hc := cG hF c
    rw [ht, VR] at hc
    exact hc
   cases t with
   | true =>
    obtain ⟨ys1, ys2, r, h3, h4, h5⟩ := oR hcl hP x F H k kx ys z hx (fun a ha => hl a (by simp [cD, ha])) h
    exact ⟨ys1, ys2, r, h3, h4, fun l yv hyv G0 all J Jx hY pre post n a A G μ hall hys hS hF => wpIn_cond (hc hF) (h5 l yv hyv G0 all J Jx hY pre post n a A G μ hall hys hS hF)⟩
   | false =>
    obtain ⟨ys1, ys2, r, h3, h4, h5⟩ := oR hcl hP y F H k kx ys z hx (fun a ha => hl a (by simp [cD, ha])) h
    exact ⟨ys1, ys2, r, h3, h4, fun l yv hyv G0 all J Jx hY pre post n a A G μ hall hys hS hF => wpIn_cond (hc hF) (h5 l yv hyv G0 all J Jx hY pre post n a A G μ hall hys hS hF)⟩
  ·cases h
 | .block id x, F, H, k, kx, ys, z, hx, hl, h => by
  simp only [xD] at h
  obtain ⟨ys1, ys2, ⟨ex, F1, H1⟩, h1, rfl, h2⟩ := oR hcl hP x F H _ _ ys z (by intro F H; exact hx F H) (fun a ha => hl a (by simp [cD, ha])) h
  have stop : ∀ (ex' : Ex) (F' : Frm) (H' : Heap), (match ex' with
     | Ex.exit i => bif Nat.beq i id then kx .normal F' H' else kx (.exit i) F' H'
     | Ex.normal => kx Ex.normal F' H'
     | Ex.ret => kx Ex.ret F' H') = some () → ∃ ex2 : Ex, kx ex2 F' H' = some () ∧ ∀ (Q : Exit → Act → World → Prop) a w, Q ex2.to a w → ex'.to.inBlock id Q a w := by
   intro ex' F' H' hm
   cases ex' with
   | normal => exact ⟨.normal, hm, fun Q a w h => h⟩
   | ret => exact ⟨.ret, hm, fun Q a w h => h⟩
   | exit i =>
    simp only at hm
    cases hi : Nat.beq i id with
    | true =>
     rw [hi] at hm
     have := Nat.eq_of_beq_eq_true hi
     subst this
     exact ⟨.normal, hm, fun Q a w h => by simp only [Ex.to, Exit.inBlock, if_true]; exact h⟩
    | false =>
     rw [hi] at hm
     have hne : ¬ i = id := fun e => by rw [e] at hi; simp at hi
     exact ⟨.exit i, hm, fun Q a w h => by simp only [Ex.to, Exit.inBlock, hne, if_false]; exact h⟩
  have live : ∃ ex2 : Ex, k ex2 F1 H1 = some (ys2, z) ∧ ∀ (Q : Exit → Act → World → Prop) a w, Q ex2.to a w → ex.to.inBlock id Q a w := by
   cases ex with
   | normal => exact ⟨.normal, h1, fun Q a w h => h⟩
   | ret => exact ⟨.ret, h1, fun Q a w h => h⟩
   | exit i =>
    simp only at h1
    cases hi : Nat.beq i id with
    | true =>
     rw [hi] at h1
     have := Nat.eq_of_beq_eq_true hi
     subst this
     exact ⟨.normal, h1, fun Q a w h => by simp only [Ex.to, Exit.inBlock, if_true]; exact h⟩
    | false =>
     rw [hi] at h1
     have hne : ¬ i = id := fun e => by rw [e] at hi; simp at hi
     exact ⟨.exit i, h1, fun Q a w h => by simp only [Ex.to, Exit.inBlock, hne, if_false]; exact h⟩
  obtain ⟨ex2, hk2, hex2⟩ := live
  refine ⟨ys1, ys2, (ex2, F1, H1), hk2, rfl, ?_⟩
  intro l yv hyv G0 all J Jx hY pre post n a A G μ hall hys hS hF
  refine wpIn_block (wpIn_mono (h2 l yv hyv G0 all J Jx hY pre post n a A G μ hall hys hS hF) ?_)
  rintro e a' w' (⟨rfl, G', μ', hS', hF'⟩ | ⟨ex', F', H', pre', G', μ', hm, rfl, hS', hF'⟩)
  ·exact hex2 _ _ _ (Or.inl ⟨rfl, G', μ', hS', hF'⟩)
  ·obtain ⟨ex3, h3, h4⟩ := stop ex' F' H' hm
   exact h4 _ _ _ (Or.inr ⟨ex3, F', H', pre', G', μ', h3, rfl, hS', hF'⟩)
 | .loop x, F, H, k, kx, ys, z, hx, hl, h => by
  simp only [xD] at h
  have hsub := hl (.loop x) (by simp [cD])
  split at h
  ·rename_i s hs
   split at h
   ·rename_i x0 hx0
    unfold aJF at h
    split at h
    ·rename_i ys1 z1 hr
     obtain ⟨ys2, h1, rfl⟩ := TG h
     refine ⟨ys1, ys2, rJ s.exits z1, AL h1, rfl, ?_⟩
     intro l yv hyv G0 all J Jx hY pre post n a A G μ hall hys hS hF
     obtain ⟨n0, hW, _, hS2⟩ := hS.aVN
     have e0 : Ext n0 A G aM A G μ := { good := fun _ h => ⟨h, rfl⟩, map := fun _ _ h => (by cases h), len := fun _ _ h => (by cases h), room := fun _ _ h => h, row := fun _ _ h => h, os := rfl, tape := rfl, output := rfl, size := Nat.le_refl _, drawn := Nat.le_refl _, old := fun _ _ _ => rfl, new := fun _ h => .inl h }
     obtain ⟨G1, μ1, e1, hW1, hF1⟩ := uX hx0 (fun r _ => ⟨rfl, rfl⟩) (⟨G, μ, e0, hW, hF⟩ : I n0 A G aM nt F H a A)
     refine wpIn_mono (hsub.2 s hs x0 ys1 z1 hr l yv hyv G0 all J Jx hY pre post n a A G1 μ1 hall hys (hS2 _ _ _ _ e1 hW1) hF1) ?_
     rintro e a' w' (h | ⟨ex', F', H', pre', G', μ', hm, rfl, hS', hF'⟩)
     ·exact .inl h
     ·refine .inr ⟨ex', F', H', pre', G', μ', ?_, rfl, hS', hF'⟩
      cases ex' with
      | ret => exact hx F' H'
      | normal => cases hm
      | exit i => cases hm
    ·cases h
   ·cases h
  ·split at h
   ·rename_i s hs
    split at h
    ·rename_i x0 hx0
     obtain ⟨y, h1, h2⟩ := oC h
     refine ⟨[], ys, rJ s.exits y, AL h2, rfl, FA fun ro n n0 wi Gi μi a w hro hfl hI => ?_⟩
     exact hsub.1 s hs x0 y h1 ro n n0 wi Gi μi a w hro hfl (hI.dec hfl hx0)
    ·cases h
   ·cases h
 | .scope x, F, H, k, kx, ys, z, hx, hl, h => by simp only [xD] at h; cases h
 | .rangeFunc g ps as1 x, F, H, k, kx, ys, z, hx, hl, h => by simp only [xD] at h; cases h
 | .goto l, F, H, k, kx, ys, z, hx, hl, h => by simp only [xD] at h; cases h
 | .refuse s, F, H, k, kx, ys, z, hx, hl, h => by simp only [xD] at h; cases h

theorem aED {Y : Type} {sh : List (Nat × Kd)} {exits : List (Ex × List (Nat × Kd))} {ex : Ex} {F : Frm} {H : Heap} {l : List Y} {y : Shape.den sh ⊕ aV exits} (h : aT7 sh exits ex F H = some (l, y)) : l = [] ∧ VD [] sh exits ex F H = some y := by
 unfold aT7 at h
 split at h
 ·rename_i z hz
  simp only [Option.some.injEq, Prod.mk.injEq] at h
  obtain ⟨h1, h2⟩ := h
  subst h2
  exact ⟨h1.symm, hz⟩
 ·cases h
theorem aMY {F1 : Frm} {H1 : Heap} (hs : ∀ {n0 : Nat → Prop}, I n0 A G aM nt F H a A → I n0 A G aM nt F1 H1 a A) (hS : Sg Φ G0 G μ H A) (hF : eK A G μ nt F a) : ∃ G' μ', Sg Φ G0 G' μ' H1 A ∧ eK A G' μ' nt F1 a := by
 obtain ⟨n0, hW, _, hS2⟩ := hS.aVN
 have e0 : Ext n0 A G aM A G μ := { good := fun _ h => ⟨h, rfl⟩, map := fun _ _ h => (by cases h), len := fun _ _ h => (by cases h), room := fun _ _ h => h, row := fun _ _ h => h, os := rfl, tape := rfl, output := rfl, size := Nat.le_refl _, drawn := Nat.le_refl _, old := fun _ _ _ => rfl, new := fun _ h => .inl h }
 obtain ⟨G1, μ1, e1, hW1, hF1⟩ := hs ⟨G, μ, e0, hW, hF⟩
 exact ⟨G1, μ1, hS2 _ _ _ _ e1 hW1, hF1⟩
theorem aEQ : ∀ {l : List (Ex × List (Nat × Kd))} {z : aV l} {ex : Ex}, EN [] l ex F H = some z → (rJ l z).1 = ex ∧ ∀ {n0 : Nat → Prop}, I n0 A G aM nt F H a A → I n0 A G aM nt (rJ l z).2.1 (rJ l z).2.2 a A := by
 intro l z ex h
 obtain ⟨h1, sh, x, h2, h3, h4⟩ := AE h
 refine ⟨h1, fun hI => ?_⟩
 rw [h3, h4]
 exact uX h2 (fun r _ => ⟨rfl, rfl⟩) hI
theorem aHS (hcl : cQ P (dH P E)) (hP : P.follows .mixedOrders = true) {b : Code} {sh : List (Nat × Kd)} {exits : List (Ex × List (Nat × Kd))} {step : Shape.den sh → Option (List (Value × aH ks) × (Shape.den sh ⊕ aV exits))} (L : Nat)
  (hl : ∀ a ∈ cD b, VX P nt lt ks li a) (hr : ∀ x, aKR P E nt aU lt ks li b sh exits x = step x) : aI9 P nt ks b ⟨sh, exits, PY step L⟩ := by
 intro x ys z hz l yv hyv G0 all J Jx hY pre post n a A G μ hall hys hS hF
 refine wpIn_loop_ghost (fun k a A => ∃ pre1 ys1 x G μ, PY step k x = some (ys1, z) ∧ pre ++ ys.map (·.2) = pre1 ++ ys1.map (·.2) ∧ (∀ y ∈ ys1, y.1 = yv) ∧ Sg (J pre1) G0 G μ (wA sh x) A ∧ eK A G μ nt (o8 sh x 0) a) L ⟨pre, ys, x, G, μ, hz, rfl, hys, hS, hF⟩ ?_
 rintro k a1 A1 ⟨pre1, ys1, x, G, μ, hz, hpre, hys1, hS, hF⟩
 cases k with
 | zero => cases hz
 | succ k =>
  simp only [PY] at hz
  have hall1 : all = pre1 ++ (ys1.map (·.2) ++ post) := by rw [hall, ← List.append_assoc, hpre, List.append_assoc]
  split at hz
  ·rename_i m y hs
   obtain ⟨m2, hz2, rfl⟩ := TG hz
   rw [← hr] at hs
   obtain ⟨y1, y2, ⟨ex, F', H'⟩, h1, h2, h3⟩ := oR hcl hP b _ _ _ aVZ m _ (fun _ _ => rfl) hl hs
   obtain ⟨e1, h4⟩ := aED h1
   clear h1
   subst e1
   rw [List.append_nil] at h2
   subst h2
   refine wpIn_mono (h3 l yv hyv G0 all J Jx hY pre1 (m2.map (·.2) ++ post) n a1 A1 G μ (by rw [hall1, List.map_append, List.append_assoc]) (fun y hy => hys1 y (List.mem_append_left _ hy)) hS hF) ?_
   rintro e a' A' (⟨rfl, G', μ', hS', hF'⟩ | ⟨ex', F', H', pre', G', μ', hm, rfl, hS', hF'⟩)
   ·rcases F7 h4 with ⟨y', e1, e2, e3⟩ | ⟨z', e1, _, _⟩
    ·cases e1
     dsimp only at e2
     subst e2
     obtain ⟨G2, μ2, hS2, hF2⟩ := aMY (fun hI => uX e3 (fun r _ => ⟨rfl, rfl⟩) hI) hS' hF'
     exact ⟨k, by omega, _, m2, y, G2, μ2, hz2, by rw [hpre, List.map_append, List.append_assoc], fun y hy => hys1 y (List.mem_append_right _ hy), hS2, hF2⟩
    ·cases e1
   ·cases ex' with
    | ret => exact .inr ⟨.ret, F', H', pre', G', μ', rfl, rfl, hS', hF'⟩
    | normal => cases hm
    | exit i => cases hm
  ·rename_i m y hs
   simp only [Option.some.injEq, Prod.mk.injEq] at hz
   obtain ⟨rfl, rfl⟩ := hz
   rw [← hr] at hs
   obtain ⟨y1, y2, ⟨ex, F', H'⟩, h1, h2, h3⟩ := oR hcl hP b _ _ _ aVZ m _ (fun _ _ => rfl) hl hs
   obtain ⟨e1, h4⟩ := aED h1
   clear h1
   subst e1
   rw [List.append_nil] at h2
   subst h2
   refine wpIn_mono (h3 l yv hyv G0 all J Jx hY pre1 post n a1 A1 G μ hall1 hys1 hS hF) ?_
   rintro e a' A' (⟨rfl, G', μ', hS', hF'⟩ | ⟨ex', F', H', pre', G', μ', hm, rfl, hS', hF'⟩)
   ·rcases F7 h4 with ⟨y', e1, e2, e3⟩ | ⟨z', e1, e2, e3⟩
    ·cases e1
    ·cases e1
     dsimp only at e2 e3
     obtain ⟨h5, h6⟩ := aEQ (A := A') (G := G') (a := a') (nt := nt) e3
     obtain ⟨G2, μ2, hS2, hF2⟩ := aMY (fun hI => h6 hI) hS' hF'
     have hout : (Exit.normal ≠ ex.to → True) := fun _ => trivial
     cases ex with
     | normal => exact absurd rfl e2
     | exit i => exact .inl ⟨by rw [h5], G2, μ2, by rw [hpre]; exact hS2, hF2⟩
     | ret => exact .inl ⟨by rw [h5], G2, μ2, by rw [hpre]; exact hS2, hF2⟩
   ·cases ex' with
    | ret => exact .inr ⟨.ret, F', H', pre', G', μ', rfl, rfl, hS', hF'⟩
    | normal => cases hm
    | exit i => cases hm
  ·cases hz

def aM3 (P : Program) (E : Env) (fn : Func) (aU : Nat) (lt : Nat → Option aR) (ks : List Kd) (li : Nat → Option (D8 (Value × aH ks))) (c : Code) (ts : List Ty) (yv : Value) (x : uJ ts) : Option (List (Value × aH ks)) :=
 bif Nat.ble (1 + (HV ts x).length) fn.ntmps then aRW (xD P E fn.ntmps aU lt ks li c (start aU 0 (.lit yv :: HV ts x)) [] (fun ex _ _ => match ex with
  | .exit _ => none
  | _ => some ([], ())) (fun ex _ _ => match ex with
  | .exit _ => none
  | _ => some ())) else none
theorem aMW (hP : A8 P) (hE : aZ P E) {g : Nat} {fn : Func} (hg : P.funcs[g]? = some fn) {c : Code} (hc : fn.body = some c) (hres : fn.results = #[]) {ts : List Ty} {f : uJ ts → Option (List (aH ks))}
  (hl : ∀ a ∈ cD c, VX P fn.ntmps lt ks li a) (hb : ∀ yv x all, f x = some all → aM3 P E fn aU lt ks li c ts yv x = some (all.map fun e => (yv, e))) : O5 P g ts ks f := by
 intro x all hall m l W G vs hlt hvs J Jx hY hJ
 obtain ⟨yv, hyv⟩ : ∃ yv : Value, yv = .func (.yield l) #[] #[] := ⟨_, rfl⟩
 have hbx := hb yv x all hall
 unfold aM3 at hbx
 obtain ⟨hlen, hbx⟩ := aI hbx
 unfold aRW at hbx
 split at hbx
 ·rename_i l0 u hex
  have hl0 := Option.some.inj hbx
  obtain ⟨ys1, ys2, ⟨ex, F', H'⟩, h1, h2, h3⟩ := oR hE.callee hP.mixed c _ _ _ _ _ _ (fun _ _ => rfl) hl hex
  have hex : (ex = .normal ∨ ex = .ret) ∧ ys2 = [] := by
   cases ex with
   | exit i => cases h1
   | normal =>
    simp only [Option.some.injEq, Prod.mk.injEq] at h1
    exact ⟨.inl rfl, h1.1.symm⟩
   | ret =>
    simp only [Option.some.injEq, Prod.mk.injEq] at h1
    exact ⟨.inr rfl, h1.1.symm⟩
  obtain ⟨hex, rfl⟩ := hex
  rw [List.append_nil] at h2
  subst h2
  have hys : ∀ y ∈ l0, y.1 = yv := by
   intro y hy
   rw [hl0] at hy
   obtain ⟨e, -, rfl⟩ := List.mem_map.1 hy
   rfl
  have hmap : l0.map (·.2) = all := by
   rw [hl0, List.map_map]
   exact List.map_id all
  refine callsIn_of_wp hg hc trivial ?_ rfl
  have hargs : VRs W (Gd.of G) aM (.lit yv :: HV ts x) ((#[.func (.yield l) #[] #[]] : Array Value) ++ vs.toArray).toList := by
   rw [← hyv]
   simp only [Array.toList_append, List.cons_append, List.nil_append]
   rw [VRs]
   exact ⟨yv, vs, rfl, by rw [VR], hvs⟩
  have hF0 := qI (m := aU) (n := fn.ntmps) hargs (by simpa [Nat.add_comm] using Nat.le_of_ble_eq_true hlen)
  have hS0 : Sg (J []) (Gd.of G) (Gd.of G) aM [] W := Sg.start hlt hJ
  have post : ∀ (ex : Exit) (a : Act) (A : World), (ex = .normal ∨ ex = .ret) → a.defers = [] → ∀ (T X : Nat → Prop) (B : World), Stp X B A → (J all T X B ∨ ∃ pre, Jx pre T X B) →
    bodyPost P fn (fun en C => (∃ v, en = .returned v) ∧ ∃ T X B, Stp X B C ∧ (J all T X B ∨ ∃ pre, Jx pre T X B)) ex a A := by
   intro ex a A hex hd T X B hst hj
   have hr : (results fn a.tmps).run P A = .ok (.tuple #[]) A := by simp [results, hres]
   rcases hex with rfl | rfl
   ·exact ⟨hd, _, hr, ⟨_, rfl⟩, T, X, B, hst, hj⟩
   ·exact ⟨hd, _, hr, ⟨_, rfl⟩, T, X, B, hst, hj⟩
  refine wpIn_mono (h3 l yv hyv (Gd.of G) all J Jx hY [] [] m _ W (Gd.of G) aM (by rw [hmap]; simp) hys hS0 hF0) ?_
  rintro e a' A' (⟨rfl, G', μ', hS', hF'⟩ | ⟨ex', F', H', pre', G', μ', hm, rfl, hS', hF'⟩)
  ·obtain ⟨T, X, B, hst, hj⟩ := hS'.stp
   rw [List.nil_append, hmap] at hj
   refine post _ a' A' ?_ hF'.defers T X B hst (.inl hj)
   rcases hex with rfl | rfl
   ·exact .inl rfl
   ·exact .inr rfl
  ·obtain ⟨T, X, B, hst, hj⟩ := hS'.stp
   refine post _ a' A' ?_ hF'.defers T X B hst (.inr ⟨_, hj⟩)
   cases ex' with
   | normal => exact .inl rfl
   | ret => exact .inr rfl
   | exit i => cases hm
 ·cases hbx
theorem aQ5 {a : Code} {i : Nat} {s0 : aR} (hf : aG a = i) (hlt : lt i = some s0) (hli : li i = none) (h : vG P nt true [] (.loop a) s0) : VX P nt lt ks li (.loop a) := by
 refine ⟨fun s hs => ?_, fun s hs => ?_⟩
 ·rw [hf, hlt] at hs
  cases hs
  exact h
 ·rw [hf, hli] at hs
  cases hs
theorem aHC {a : Code} {i : Nat} {s0 : D8 (Value × aH ks)} (hf : aG a = i) (hlt : lt i = none) (hli : li i = some s0) (h : aI9 P nt ks a s0) : VX P nt lt ks li (.loop a) := by
 refine ⟨fun s hs => ?_, fun s hs => ?_⟩
 ·rw [hf, hlt] at hs
  cases hs
 ·rw [hf, hli] at hs
  cases hs
  exact h
def X3 (P : Program) (nt : Nat) (lt : Nat → Option aR) (ks : List Kd) (li : Nat → Option (D8 (Value × aH ks))) : List Code → Prop
 | [] => True
 | c :: r => VX P nt lt ks li c ∧ X3 P nt lt ks li r
theorem R6 : ∀ {l : List Code}, X3 P nt lt ks li l → ∀ a ∈ l, VX P nt lt ks li a
 | [], _, a, ha => by cases ha
 | c :: r, h, a, ha => by
  rcases List.mem_cons.1 ha with rfl | ha
  ·exact h.1
  ·exact R6 h.2 a ha
theorem QR {c : Code} {l : List Code} (hc : cD c = l) (h : X3 P nt lt ks li l) : ∀ a ∈ cD c, VX P nt lt ks li a := by
 rw [hc]; exact R6 h
end
end Go.PM
set_option linter.unusedSimpArgs false
set_option linter.unusedVariables false
namespace Go.PM
open Go Go.RowKit Go.Proofs
set_option maxRecDepth 100000
set_option maxHeartbeats 4000000
/-! schisma/isomorphy.turns$1 -/
abbrev L5 : List (Nat × Kd) := [(0, .val), (1, .ptr (.list TyF)), (4, .box 27 TyB), (5, .bool), (8, .int .i64), (26, .list TyF), (27, .int .i64), (28, .int .i64)]
abbrev SE : List (Ex × List (Nat × Kd)) := [(.exit 2, [(0, .val), (1, .ptr (.list TyF)), (4, .box 27 TyB), (5, .bool), (8, .int .i64)])]
def aEB (x : Shape.den L5) : Option (Shape.den L5 ⊕ aV SE) := match x with
 | (v0, v1, v4, v5, v8, v26, v27, v28, ()) =>
  bif ltI v28 v27 then
   bif aP v28 v26.length then bif v5 then
    aB (f63 (v1, ((aJ .i64 ((aJ .i64 (v4.1 * ((v26.getD v28.toNat (0, 0)).1))) + (aJ .i64 (v4.2.1 * ((v26.getD v28.toNat (0, 0)).2))))), (aJ .i64 ((aJ .i64 (v4.2.2.1 * ((v26.getD v28.toNat (0, 0)).1))) + (aJ .i64 (v4.2.2.2 * ((v26.getD v28.toNat (0, 0)).2)))))), ())) fun y2 =>
    some (.inl (v0, v1, v4, y2.1, v8, v26, v27, (aJ .i64 (v28 + 1)), ()))
   else some (.inl (v0, v1, v4, false, v8, v26, v27, (aJ .i64 (v28 + 1)), ())) else none
  else some (.inr ((v0, v1, v4, v5, v8, ())))
def U1 (x : Shape.den L5) : Option (aV SE) := bS aEB (2 ^ 64) x
abbrev L6 : List (Nat × Kd) := [(0, .val), (1, .ptr (.list TyF)), (8, .int .i64)]
abbrev SD : List (Ex × List (Nat × Kd)) := [(.exit 0, [])]
def aDA (x : Shape.den L6) : Option (List (Value × aH [.agg TyB]) × (Shape.den L6 ⊕ aV SD)) := match x with
 | (v0, v1, v8, ()) =>
  bif ltI v8 81 then
   aB (U1 (v0, v1, ((aJ .i64 ((aJ .i64 (v8.tdiv 27)) - 1)), ((aJ .i64 (((aJ .i64 (v8.tdiv 9)).tmod 3) - 1)), ((aJ .i64 (((aJ .i64 (v8.tdiv 3)).tmod 3) - 1)), (aJ .i64 ((v8.tmod 3) - 1))))), true, v8, v1, (v1.length : Int), 0, ())) fun z4 =>
   bif z4.2.2.2.1 then
    bif !(eqI (aJ .i64 ((aJ .i64 (z4.2.2.1.1 * z4.2.2.1.2.2.2)) - (aJ .i64 (z4.2.2.1.2.1 * z4.2.2.1.2.2.1)))) 0) then
     outs [(z4.1, (z4.2.2.1, ()))] (some ([], .inl (z4.1, z4.2.1, (aJ .i64 (z4.2.2.2.2.1 + 1)), ())))
    else some ([], .inl (z4.1, z4.2.1, (aJ .i64 (z4.2.2.2.2.1 + 1)), ()))
   else some ([], .inl (z4.1, z4.2.1, (aJ .i64 (z4.2.2.2.2.1 + 1)), ()))
  else some ([], .inr ((())))
def TL (x : Shape.den L6) : Option (List (Value × aH [.agg TyB]) × aV SD) := PY aDA (2 ^ 64) x
def aW8 (v0 : Value) (x : uJ [(.list TyF)]) : Option (List (Value × aH [.agg TyB])) := match x with
 | (v1, ()) =>
  aRW (aJF (TL (v0, v1, 0, ())) fun z5 =>
  some ([], ()))
noncomputable def aWI : Code := aT Tryz.f62
abbrev aWU : Env := aGC [e63] []
theorem aGV : aZ Tryz.prog aWU := DD ⟨a3E, trivial⟩ trivial
noncomputable def T6 : Code := inLoop (KX aWI 0)
noncomputable def YE : Code := inLoop (KX T6 0)
def aM2 (id : Nat) : Option aR := bif Nat.beq id 6 then some ⟨L5, SE, U1⟩ else none
def aSN (id : Nat) : Option (D8 (Value × aH [.agg TyB])) := bif Nat.beq id 1 then some ⟨L6, SD, TL⟩ else none
theorem aKZ : aG YE = 6 := by kernel_rfl
theorem aYR : cD YE = [] := by kernel_rfl
theorem aLZ : ∀ x, YN Tryz.prog aWU 83 (aC Tryz.f62) aM2 (fun _ => none) true [] YE L5 SE x = aEB x := by
 rintro ⟨v0, v1, v4, v5, v8, v26, v27, v28, ⟨⟩⟩
 kernel_rfl
theorem aPJ : vG Tryz.prog 83 true [] (.loop YE) ⟨L5, SE, U1⟩ := by
 exact RU aGV.callee aK.mixed _ (nP aYR trivial) aLZ
theorem aLO : aG T6 = 1 := by kernel_rfl
theorem aXT : cD T6 = [.loop YE] := by kernel_rfl
theorem aLQ : ∀ x, aKR Tryz.prog aWU 83 (aC Tryz.f62) aM2 [.agg TyB] aSN T6 L6 SD x = aDA x := by
 rintro ⟨v0, v1, v8, ⟨⟩⟩
 kernel_rfl
theorem aO3 : aI9 Tryz.prog 83 [.agg TyB] T6 ⟨L6, SD, TL⟩ := by
 exact aHS aGV.callee aK.mixed _ (QR aXT ⟨aQ5 aKZ rfl rfl aPJ, trivial⟩) aLQ
theorem aUI : cD aWI = [.loop T6] := by kernel_rfl
theorem aXL : ∀ v0 x, aM3 Tryz.prog aWU Tryz.f62 (aC Tryz.f62) aM2 [.agg TyB] aSN aWI [(.list TyF)] v0 x = aW8 v0 x := by
 rintro v0 ⟨v1, ⟨⟩⟩
 kernel_rfl
theorem aVU {f : uJ [(.list TyF)] → Option (List (aH [.agg TyB]))} (h : ∀ yv x all, f x = some all → aW8 yv x = some (all.map fun e => (yv, e))) : O5 Tryz.prog 62 [(.list TyF)] [.agg TyB] f := by
 exact aMW aK aGV Tryz.func62 (c := aWI) (by kernel_rfl) (by kernel_rfl) (aU := aC Tryz.f62) (lt := aM2) (li := aSN) (QR aUI ⟨aHC aLO rfl rfl aO3, trivial⟩) (fun yv x all hx => (aXL yv x).trans (h yv x all hx))

/-! the neighbours and the symmetries, in order -/
abbrev S4 : Type := Int × Int × Int × Int
def aM1 : List (Int × Int) := [(1, 0), ((-1), 0), (0, 1), (0, (-1))]
def aNZ : List (Int × Int) := [(1, 0), ((-1), 0), (0, 1), (0, (-1)), (1, (-1)), ((-1), 1)]
def KN : List S4 := [((-1), 0, 0, (-1)), ((-1), 0, 0, 1), (0, (-1), (-1), 0), (0, (-1), 1, 0), (0, 1, (-1), 0), (0, 1, 1, 0), (1, 0, 0, (-1)), (1, 0, 0, 1)]
def J1 : List S4 := [((-1), (-1), 0, 1), ((-1), (-1), 1, 0), ((-1), 0, 0, (-1)), ((-1), 0, 1, 1), (0, (-1), (-1), 0), (0, (-1), 1, 1), (0, 1, (-1), (-1)), (0, 1, 1, 0), (1, 0, (-1), (-1)), (1, 0, 0, 1), (1, 1, (-1), 0), (1, 1, 0, (-1))]
def eqK : List (Int × Int) → List (Int × Int) → Bool
 | [], [] => true
 | a :: l, b :: m => bif eqI a.1 b.1 && eqI a.2 b.2 then eqK l m else false
 | _, _ => false
theorem aL7 : ∀ {l m : List (Int × Int)}, eqK l m = true → l = m
 | [], [], _ => rfl
 | [], _ :: _, h => by cases h
 | _ :: _, [], h => by cases h
 | (a1, a2) :: l, (b1, b2) :: m, h => by
  simp only [eqK, dI] at h
  by_cases h1 : a1 = b1
  ·by_cases h2 : a2 = b2
   ·simp [h1, h2] at h
    rw [h1, h2, aL7 h]
   ·simp [h2] at h
  ·simp [h1] at h
def AV (x : uJ [(.list TyF)]) : Option (List (aH [.agg TyB])) := match x with
 | (near, ()) => bif eqK near aM1 then some (KN.map fun g => (g, ())) else bif eqK near aNZ then some (J1.map fun g => (g, ())) else none
theorem a6X (yv : Value) : aW8 yv (aM1, ()) = some ((KN.map fun g => (g, ())).map fun e => (yv, e)) := by kernel_rfl
theorem a6F (yv : Value) : aW8 yv (aNZ, ()) = some ((J1.map fun g => (g, ())).map fun e => (yv, e)) := by kernel_rfl
theorem aWG : O5 Tryz.prog 62 [(.list TyF)] [.agg TyB] AV := by
 refine aVU ?_
 rintro yv ⟨near, ⟨⟩⟩ all h
 unfold AV at h
 dsimp only at h
 cases h4 : eqK near aM1 with
 | true =>
  rw [h4, cond_true] at h
  rw [aL7 h4, a6X, Option.some.inj h]
 | false =>
  rw [h4, cond_false] at h
  cases h6 : eqK near aNZ with
  | true =>
   rw [h6, cond_true] at h
   rw [aL7 h6, a6F, Option.some.inj h]
  | false => rw [h6, cond_false] at h; cases h
end Go.PM
set_option linter.unusedSimpArgs false
set_option linter.unusedVariables false
namespace Go.PM
open Go Go.RowKit
abbrev arB (ae : TypeId) (t : Ty) (A : List (List t.den)) : Blk := ⟨aO (.rows t) A, ae, false, false, some ⟨.rows t, A⟩⟩
abbrev owB (e : TypeId) (t : Ty) (l : List t.den) : Blk := ⟨aO t l, e, true, false, some ⟨t, l⟩⟩
abbrev OwA := Option (Nat × Blk)
def DC : OwA → Heap → Heap
 | none, H => H
 | some (r, _), H => H.set r none
def yF : OwA → Heap
 | none => []
 | some (_, k) => [some k]
def a4X (μ : Mp) : OwA → Option Nat
 | none => none
 | some (r, _) => μ.loc r
def a6K (μ : Mp) : OwA → Option Nat
 | none => none
 | some (r, _) => μ.len r
def wrA (w : World) (G : Gd) (μ : Mp) (ow : OwA) : Nat → Prop := fun b => w.heap.size ≤ b ∨ a4X μ ow = some b ∨ ∃ j, G.row j = some b
def mpA (μ : Mp) (ow : OwA) (n : Nat) : Mp := ⟨fun q => if q < (yF ow).length then a4X μ ow else none, fun q => if q < (yF ow).length then a6K μ ow else if q = (yF ow).length then some n else none⟩
structure aOS (H : Heap) (ow : OwA) : Prop where
 at_ : ∀ r k, ow = some (r, k) → H[r]? = some (some k) ∧ k.grown = true ∧ k.frozen = false ∧ k.tag.isSome = true

section
variable {P : Program} {n0 : Nat → Prop} {w w' : World} {G G1 G2 : Gd} {μ μ2 : Mp} {H H' : Heap} {ae : TypeId} {t : Ty} {A B : List (List t.den)}
theorem aQP {ow : OwA} {s : Nat} {k : Blk} (h : (DC ow H)[s]? = some (some k)) : H[s]? = some (some k) ∧ ∀ r k', ow = some (r, k') → s ≠ r := by
 cases ow with
 | none => exact ⟨h, fun r k' e => by cases e⟩
 | some p =>
  obtain ⟨r, k'⟩ := p
  obtain ⟨h1, h2⟩ := lP h
  exact ⟨h1, fun r' k2 e => by cases e; exact h2⟩
theorem aEL {ow : OwA} : (DC ow H).length = H.length := by
 cases ow with
 | none => rfl
 | some p => simp [DC]
theorem a13 (hW : aW n0 G μ H w) {ow : OwA} (ho : aOS H ow) : ∀ b, wrA w G μ ow b → n0 b := by
 rintro b (h | h | ⟨j, h⟩)
 ·exact hW.base b h
 ·cases ow with
  | none => cases h
  | some p =>
   obtain ⟨r, k⟩ := p
   obtain ⟨h1, _, h3, _⟩ := ho.at_ r k rfl
   obtain ⟨_, _, _, _, _, h6⟩ := hW.blk r k b h1 h
   exact (h6 h3).1
 ·exact (hW.rows.sep j b h).2.1
theorem aQ8 (hW : aW n0 G μ H w) {ow : OwA} (ho : aOS H ow) {s : Nat} {k : Blk} {b : Nat} (hs : H[s]? = some (some k)) (hne : ∀ r k', ow = some (r, k') → s ≠ r) (hb : μ.loc s = some b) : ¬ wrA w G μ ow b := by
 rintro (h | h | ⟨j, h⟩)
 ·exact Nat.not_lt.2 h (hW.j5 hs hb)
 ·cases ow with
  | none => cases h
  | some p =>
   obtain ⟨r, k'⟩ := p
   obtain ⟨h1, _, h3, _⟩ := ho.at_ r k' rfl
   cases hf : k.frozen with
   | false => exact hne r k' rfl (hW.inj s r k k' b hs h1 hf h3 hb h)
   | true =>
    obtain ⟨_, _, _, _, h5, _⟩ := hW.blk s k b hs hb
    obtain ⟨_, _, _, _, _, h6⟩ := hW.blk r k' b h1 h
    exact (h6 h3).2 (h5 hf)
 ·obtain ⟨_, _, a3, a4⟩ := hW.rows.sep j b h
  cases hf : k.frozen with
  | false => exact a4 s k hs hf hb
  | true =>
   obtain ⟨_, _, _, _, h5, _⟩ := hW.blk s k b hs hb
   exact a3 (h5 hf)
theorem QN (hW : aW n0 G μ H w) {ow : OwA} (ho : aOS H ow) {ra : Nat} (har : H[ra]? = some (some (arB ae t A))) :
  aW (wrA w G μ ow) G (mpA μ ow A.length) (yF ow ++ [some (arB ae t A)]) w := by
 have key : ∀ (s : Nat) (k : Blk), (yF ow ++ [some (arB ae t A)])[s]? = some (some k) → (s < (yF ow).length ∧ ∃ r, ow = some (r, k) ∧ s = 0) ∨ (s = (yF ow).length ∧ k = arB ae t A) := by
  intro s k hs
  rcases E0 (H := yF ow) s k hs with ⟨h1, h2⟩ | ⟨h1, h2⟩
  ·exact .inr ⟨h1, h2⟩
  ·left
   refine ⟨h1, ?_⟩
   cases ow with
   | none => simp [yF] at h1
   | some p =>
    obtain ⟨r, k'⟩ := p
    simp only [yF, List.length_cons, List.length_nil] at h1
    have : s = 0 := by omega
    subst this
    simp only [yF, List.getElem?_cons_zero, Option.some.injEq] at h2
    subst h2
    exact ⟨r, rfl, rfl⟩
 refine ⟨?_, ?_, ?_, hW.lt, ?_, fun b hb => .inl hb, ?_⟩
 ·intro s k b hs hb
  rcases key s k hs with ⟨h1, r, rfl, rfl⟩ | ⟨h1, rfl⟩
  ·have hb : μ.loc r = some b := by
    have : (mpA μ (some (r, k)) A.length).loc 0 = μ.loc r := rfl
    rw [this] at hb; exact hb
   obtain ⟨q1, q2, q3, q4⟩ := ho.at_ r k rfl
   obtain ⟨c, a1, a2, a3, a4, a5⟩ := hW.blk r k b q1 hb
   refine ⟨c, a1, ?_, a3, a4, fun hf => ⟨.inr (.inl hb), (a5 hf).2⟩⟩
   obtain ⟨g, hg⟩ := Option.isSome_iff_exists.1 q4
   rw [(hW.tags r k g q1 hg).1] at a2 ⊢
   exact kD (fJ _ _) a2
  ·subst h1
   simp only [mpA, Nat.lt_irrefl, if_false] at hb
   cases hb
 ·intro s k g hs hg
  rcases key s k hs with ⟨h1, r, rfl, rfl⟩ | ⟨h1, rfl⟩
  ·obtain ⟨q1, _⟩ := ho.at_ r k rfl
   obtain ⟨a1, a2⟩ := hW.tags r k g q1 hg
   exact ⟨a1, a2⟩
  ·cases hg
   subst h1
   refine ⟨rfl, ?_⟩
   simp only [mpA, Nat.lt_irrefl, if_false, if_true]
 ·intro s1 s2 k1 k2 b h1 h2 f1 f2 m1 m2
  rcases key s1 k1 h1 with ⟨p1, r1, e1, rfl⟩ | ⟨p1, rfl⟩
  ·rcases key s2 k2 h2 with ⟨p2, r2, e2, rfl⟩ | ⟨p2, rfl⟩
   ·rfl
   ·subst p2
    simp only [mpA, Nat.lt_irrefl, if_false] at m2
    cases m2
  ·subst p1
   simp only [mpA, Nat.lt_irrefl, if_false] at m1
   cases m1
 ·intro s hs
  rw [List.length_append] at hs
  simp only [List.length_cons, List.length_nil] at hs
  have h1 : ¬ s < (yF ow).length := by omega
  have h2 : ¬ s = (yF ow).length := by omega
  simp only [mpA, h1, h2, if_false, and_self]
 ·refine (hW.rows.rel (fun s s' => (s < (yF ow).length ∧ ∃ r k, ow = some (r, k) ∧ s' = r) ∨ (s = (yF ow).length ∧ s' = ra)) ?_ ?_).QK fun j b hj _ => .inr (.inr ⟨j, hj⟩)
  ·rintro s s2 q (⟨h1, r, k, h3, h4⟩ | ⟨h1, h3⟩) (⟨h2, r2, k2, h5, h6⟩ | ⟨h2, h5⟩)
   ·have : (yF ow).length ≤ 1 := by rw [h3]; simp [yF]
    omega
   ·exfalso
    obtain ⟨q1, q2, _⟩ := ho.at_ r k h3
    rw [← h4, h5, har] at q1
    cases q1
    cases q2
   ·exfalso
    obtain ⟨q1, q2, _⟩ := ho.at_ r2 k2 h5
    rw [← h6, h3, har] at q1
    cases q1
    cases q2
   ·rw [h1, h2]
  ·intro s k' hs
   rcases key s k' hs with ⟨h1, r, rfl, rfl⟩ | ⟨h1, rfl⟩
   ·exact ⟨r, k', .inl ⟨h1, r, k', rfl, rfl⟩, (ho.at_ r k' rfl).1, rfl, rfl, rfl, rfl, rfl⟩
   ·refine ⟨ra, _, .inr ⟨h1, rfl⟩, har, rfl, rfl, rfl, rfl, ?_⟩
    subst h1
    simp only [mpA, Nat.lt_irrefl, if_false]
    exact (hW.rows.arn ra _ t A har rfl rfl).1.symm

abbrev OsA := Option (Nat × Blk × Blk)
def aKS : OsA → Heap
 | none => []
 | some (_, _, k) => [some k]
def aW9 (μ : Mp) : OsA → Option Nat
 | none => none
 | some (r, _, _) => μ.loc r
def aU7 : OsA → Option Nat
 | none => none
 | some (_, _, k) => match k.tag with
  | some g => some g.l.length
  | none => none
structure a29 (H : Heap) (os : OsA) : Prop where
 at_ : ∀ r k k', os = some (r, k, k') → H[r]? = some (some k) ∧ k'.grown = true ∧ k.frozen = false ∧ k'.frozen = false ∧ k'.ty = k.ty ∧ ∃ g n, k'.tag = some g ∧ k'.cells = aO g.t g.l ∧ k'.cells = k.cells.take n
def nY (μ μ2 : Mp) (N n : Nat) (os : OsA) : Mp := ⟨fun q => if q < N then μ.loc q else if q = N + 1 then aW9 μ2 os else none, fun q => if q < N then μ.len q else if q = N then some n else if q = N + 1 then aU7 os else none⟩
theorem XT (hW : aW n0 G μ H w) {ow : OwA} (ho : aOS H ow) {ra : Nat} (har : H[ra]? = some (some (arB ae t A))) (ee : Ext (wrA w G μ ow) w G aM w' G1 μ2) (hW' : aW (wrA w G μ ow) G1 μ2 H' w')
  {rb : Nat} (hrb : H'[rb]? = some (some (arB ae t B))) {os : OsA} (hos : a29 H' os) (hrow : ∀ j, G2.row j = G1.row j) (h12 : ∀ b, G1 b → G2 b)
  (h21 : ∀ b, G2 b → G1 b ∨ ∃ s k, H'[s]? = some (some k) ∧ k.frozen = false ∧ μ2.loc s = some b ∧ ∀ r k' k2, os = some (r, k', k2) → s ≠ r) :
  Ext n0 w G μ w' G2 (nY μ μ2 H.length B.length os) ∧ aW n0 G2 (nY μ μ2 H.length B.length os) (((DC ow H).set ra none) ++ (some (arB ae t B) :: aKS os)) w' := by
 have hwr := a13 hW ho
 have hblk : ∀ s k b, H'[s]? = some (some k) → k.frozen = false → μ2.loc s = some b → wrA w G μ ow b := fun s k b hs hf hb => by
  obtain ⟨_, _, _, _, _, h6⟩ := hW'.blk s k b hs hb
  exact (h6 hf).1
 have hG2 : ∀ b, G2 b → G b ∨ wrA w G μ ow b := fun b hb => by
  rcases h21 b hb with h | ⟨s, k, h1, h2, h3, _⟩
  ·exact ee.new b h
  ·exact .inr (hblk s k b h1 h2 h3)
 have hlt2 : Lt w' G2.ok := hW'.lt.step (fun b hb => ⟨h12 b hb, rfl⟩) fun b hb => by
  rcases h21 b hb with h | ⟨s, k, h1, _, h3, _⟩
  ·exact hW'.lt b h
  ·exact hW'.j5 h1 h3
 have e2 : Ext n0 w G μ w' G2 (nY μ μ2 H.length B.length os) := {
  good := fun b hb => ⟨h12 b (ee.good b hb).1, (ee.good b hb).2⟩
  map := fun r b hr => by
   have : r < H.length := by
    rcases Nat.lt_or_ge r H.length with h | h
    ·exact h
    ·rw [(hW.top r h).1] at hr; cases hr
   simp only [nY, this, if_true]; exact hr
  len := fun r b hr => by
   have : r < H.length := by
    rcases Nat.lt_or_ge r H.length with h | h
    ·exact h
    ·rw [(hW.top r h).2] at hr; cases hr
   simp only [nY, this, if_true]; exact hr
  room := ee.room
  row := fun j b hj => by rw [hrow]; exact ee.row j b hj
  os := ee.os
  tape := ee.tape
  output := ee.output
  size := ee.size
  drawn := ee.drawn
  old := fun b hb hn => ee.old b hb fun h => hn (hwr b h)
  new := fun b hb => (hG2 b hb).imp id (hwr b) }
 have hlen : ((DC ow H).set ra none).length = H.length := by rw [List.length_set, aEL]
 have key : ∀ (s : Nat) (k : Blk), (((DC ow H).set ra none) ++ (some (arB ae t B) :: aKS os))[s]? = some (some k) →
   (s < H.length ∧ s ≠ ra ∧ H[s]? = some (some k) ∧ ∀ r k', ow = some (r, k') → s ≠ r) ∨ (s = H.length ∧ k = arB ae t B) ∨ (s = H.length + 1 ∧ ∃ r k0, os = some (r, k0, k)) := by
  intro s k hs
  rcases Nat.lt_or_ge s H.length with hl | hl
  ·rw [List.getElem?_append_left (by rw [hlen]; exact hl)] at hs
   obtain ⟨h1, h2⟩ := lP hs
   obtain ⟨h3, h4⟩ := aQP h1
   exact .inl ⟨hl, h2, h3, h4⟩
  ·rw [List.getElem?_append_right (by rw [hlen]; exact hl), hlen] at hs
   rcases Nat.eq_zero_or_pos (s - H.length) with h0 | h0
   ·rw [h0] at hs
    simp only [List.getElem?_cons_zero, Option.some.injEq] at hs
    exact .inr (.inl ⟨by omega, hs.symm⟩)
   ·obtain ⟨m, hm⟩ : ∃ m, s - H.length = m + 1 := ⟨s - H.length - 1, by omega⟩
    rw [hm, List.getElem?_cons_succ] at hs
    cases os with
    | none => simp [aKS] at hs
    | some p =>
     obtain ⟨r, k0, k'⟩ := p
     cases m with
     | zero =>
      simp only [aKS, List.getElem?_cons_zero, Option.some.injEq] at hs
      subst hs
      exact .inr (.inr ⟨by omega, r, k0, rfl⟩)
     | succ m => simp [aKS] at hs
 have l0 : ∀ s, s < H.length → (nY μ μ2 H.length B.length os).loc s = μ.loc s ∧ (nY μ μ2 H.length B.length os).len s = μ.len s := fun s hs => by simp [nY, hs]
 have l1 : (nY μ μ2 H.length B.length os).loc H.length = none ∧ (nY μ μ2 H.length B.length os).len H.length = some B.length := by simp [nY]
 have l2 : (nY μ μ2 H.length B.length os).loc (H.length + 1) = aW9 μ2 os ∧ (nY μ μ2 H.length B.length os).len (H.length + 1) = aU7 os := by
  have h1 : ¬ H.length + 1 < H.length := by omega
  have h2 : ¬ H.length + 1 = H.length := by omega
  simp only [nY, h1, h2, if_false, if_true, and_self]
 have hold : ∀ s k b, H[s]? = some (some k) → (∀ r k', ow = some (r, k') → s ≠ r) → μ.loc s = some b → w'.heap[b]? = w.heap[b]? ∧ ¬ wrA w G μ ow b := fun s k b h1 h2 h3 => by
  have h4 := aQ8 hW ho h1 h2 h3
  exact ⟨ee.old b (hW.j5 h1 h3) h4, h4⟩
 refine ⟨e2, ?_, ?_, ?_, hlt2, ?_, fun b hb => hW.base b (Nat.le_trans ee.size hb), ?_⟩
 ·intro s k b hs hb
  rcases key s k hs with ⟨h1, h2, h3, h4⟩ | ⟨h1, rfl⟩ | ⟨h1, r, k0, h2⟩
  ·rw [(l0 s h1).1] at hb
   obtain ⟨c, a1, a2, a3, a4, a5⟩ := hW.blk s k b h3 hb
   obtain ⟨g1, g2⟩ := hold s k b h3 h4 hb
   refine ⟨c, g1.trans a1, aQ.mono e2.toMono g1 0 _ a2, a3, fun hf => h12 b (ee.good b (a4 hf)).1, fun hf => ⟨(a5 hf).1, fun hg => ?_⟩⟩
   rcases hG2 b hg with h | h
   ·exact (a5 hf).2 h
   ·exact g2 h
  ·subst h1
   rw [l1.1] at hb; cases hb
  ·subst h1; subst h2
   rw [l2.1] at hb
   obtain ⟨q1, q2, q3, q4, q5, g, nc, q6, q7, q8⟩ := hos.at_ r k0 k rfl
   obtain ⟨c, a1, a2, a3, a4, a5⟩ := hW'.blk r k0 b q1 hb
   refine ⟨c, by rw [q5]; exact a1, ?_, (fun hf => by rw [q2] at hf; cases hf), (fun hf => by rw [q4] at hf; cases hf), fun hf => ⟨hwr b (a5 q3).1, fun hg => ?_⟩⟩
   ·replace a2 := a2.take nc
    rw [← q8, q7] at a2
    rw [q7]
    obtain ⟨us, u1, u2⟩ := a2.values
    have m12 : Mono w' G1 aM w' G2 (nY μ μ2 H.length B.length (some (r, k0, k))) := ⟨fun b hb => ⟨h12 b hb, rfl⟩, fun _ _ h => (by cases h), fun _ _ h => (by cases h), fun _ _ h => h, fun j b hj => by rw [hrow]; exact hj⟩
    exact aQ.kM (VRs.mono m12 _ _ (cM _ _ (fJ _ _) u1)) u2
   ·rcases h21 b hg with h | ⟨s2, k2, z1, z2, z3, z4⟩
    ·exact (a5 q3).2 h
    ·exact z4 r k0 k rfl (hW'.inj s2 r k2 k0 b z1 q1 z2 q3 z3 hb)
 ·intro s k g hs hg
  rcases key s k hs with ⟨h1, h2, h3, h4⟩ | ⟨h1, rfl⟩ | ⟨h1, r, k0, h2⟩
  ·rw [(l0 s h1).2]
   exact hW.tags s k g h3 hg
  ·cases hg
   subst h1
   exact ⟨rfl, l1.2⟩
  ·subst h1; subst h2
   rw [l2.2]
   obtain ⟨_, _, _, _, _, g', _, q6, q7, _⟩ := hos.at_ r k0 k rfl
   rw [hg] at q6
   cases q6
   exact ⟨q7, by simp only [aU7, hg]⟩
 ·intro s1 s2 k1 k2 b h1 h2 f1 f2 m1 m2
  rcases key s1 k1 h1 with ⟨p1, p2, p3, p4⟩ | ⟨p1, rfl⟩ | ⟨p1, r, k0, p2⟩
  ·rw [(l0 s1 p1).1] at m1
   rcases key s2 k2 h2 with ⟨q1, q2, q3, q4⟩ | ⟨q1, rfl⟩ | ⟨q1, r2, k02, q2⟩
   ·rw [(l0 s2 q1).1] at m2
    exact hW.inj s1 s2 k1 k2 b p3 q3 f1 f2 m1 m2
   ·subst q1; rw [l1.1] at m2; cases m2
   ·subst q1; subst q2
    rw [l2.1] at m2
    exact absurd (hblk r2 k02 b (hos.at_ r2 k02 k2 rfl).1 (hos.at_ r2 k02 k2 rfl).2.2.1 m2) (hold s1 k1 b p3 p4 m1).2
  ·subst p1; rw [l1.1] at m1; cases m1
  ·subst p1; subst p2
   rw [l2.1] at m1
   rcases key s2 k2 h2 with ⟨q1, q2, q3, q4⟩ | ⟨q1, rfl⟩ | ⟨q1, r2, k02, q2⟩
   ·rw [(l0 s2 q1).1] at m2
    exact absurd (hblk r k0 b (hos.at_ r k0 k1 rfl).1 (hos.at_ r k0 k1 rfl).2.2.1 m1) (hold s2 k2 b q3 q4 m2).2
   ·subst q1; rw [l1.1] at m2; cases m2
   ·exact q1.symm
 ·intro s hs
  rw [List.length_append, hlen, List.length_cons] at hs
  have h1 : ¬ s < H.length := by omega
  have h2 : ¬ s = H.length := by omega
  by_cases h3 : s = H.length + 1
  ·cases os with
   | none => rw [h3]; exact l2
   | some p =>
    obtain ⟨r, k0, k1⟩ := p
    simp only [aKS, List.length_cons, List.length_nil] at hs
    omega
  ·simp [nY, h1, h2, h3]
 ·have hr' := hW'.rows
  refine ⟨fun i j b h1 h2 => hr'.inj i j b (by rw [← hrow]; exact h1) (by rw [← hrow]; exact h2), ?_, ?_, ?_, ?_⟩
  ·intro j b hj
   rw [hrow] at hj
   obtain ⟨a1, a2, a3, a4⟩ := hr'.sep j b hj
   refine ⟨a1, hwr b a2, fun hg => ?_, fun s k hs hf hl => ?_⟩
   ·rcases h21 b hg with h | ⟨s, k, z1, z2, z3, _⟩
    ·exact a3 h
    ·exact a4 s k z1 z2 z3
   ·rcases key s k hs with ⟨p1, p2, p3, p4⟩ | ⟨p1, rfl⟩ | ⟨p1, r, k0, p2⟩
    ·rw [(l0 s p1).1] at hl
     exact (hold s k b p3 p4 hl).2 a2
    ·subst p1; rw [l1.1] at hl; cases hl
    ·subst p1; subst p2
     rw [l2.1] at hl
     exact a4 r k0 (hos.at_ r k0 k rfl).1 (hos.at_ r k0 k rfl).2.2.1 hl
  ·intro j b hj
   rw [hrow] at hj
   exact hr'.cel j b hj
  ·intro s k t1 l1' hs hg ht
   rcases key s k hs with ⟨p1, p2, p3, p4⟩ | ⟨p1, rfl⟩ | ⟨p1, r, k0, p2⟩
   ·exact absurd (hW.rows.one s ra k _ t1 l1' t A p3 hg ht har rfl rfl) p2
   ·cases ht
    subst p1
    obtain ⟨_, a2, a3⟩ := hr'.arn rb _ t B hrb rfl rfl
    refine ⟨l1.1, fun j hj => by rw [hrow]; exact a2 j hj, fun j row hj => ?_⟩
    rcases a3 j row hj with h | ⟨b, c, z1, z2, z3⟩
    ·exact .inl h
    ·have m12 : Mono w' G1 aM w' G2 aM := ⟨fun b hb => ⟨h12 b hb, rfl⟩, fun _ _ h => h, fun _ _ h => h, fun _ _ h => h, fun j b hj => by rw [hrow]; exact hj⟩
     exact .inr ⟨b, c, by rw [hrow]; exact z1, z2, aQ.mono m12 rfl 0 _ z3⟩
   ·subst p2
    rw [(hos.at_ r k0 k rfl).2.1] at hg; cases hg
  ·have only : ∀ (s : Nat) (k : Blk) (t1 : Ty) (l1' : List (List t1.den)), (((DC ow H).set ra none) ++ (some (arB ae t B) :: aKS os))[s]? = some (some k) → k.grown = false → k.tag = some ⟨.rows t1, l1'⟩ → s = H.length := by
    intro s k t1 l1' hs hg ht
    rcases key s k hs with ⟨p1, p2, p3, p4⟩ | ⟨p1, _⟩ | ⟨p1, r, k0, p2⟩
    ·exact absurd (hW.rows.one s ra k _ t1 l1' t A p3 hg ht har rfl rfl) p2
    ·exact p1
    ·subst p2
     rw [(hos.at_ r k0 k rfl).2.1] at hg; cases hg
   intro r s k k' t1 l1' t2 l2' h1 g1 t1' h2 g2 t2'
   rw [only r k t1 l1' h1 g1 t1', only s k' t2 l2' h2 g2 t2']
end
end Go.PM
set_option linter.unusedSimpArgs false
set_option linter.unusedVariables false
namespace Go.PM
open Go Go.RowKit
theorem PX : ∀ (ts : List Ty) (x : uJ ts), cZ.noRefs (HV ts x) = true
 | [], _ => rfl
 | t :: r, (x, xs) => by simp only [HV, cZ.noRefs, cZ, PX r xs, Bool.and_self]
theorem aI6 : ∀ (k : Kd) (x : k.den) (r : List Kd), FV (k :: r) = true → cZ (pO k x 0) = true ∧ FV r = true
 | .int _, _, _, h => ⟨rfl, h⟩
 | .bool, _, _, h => ⟨rfl, h⟩
 | .str, _, _, h => ⟨rfl, h⟩
 | .list _, _, _, h => ⟨rfl, h⟩
 | .agg t, x, _, h => ⟨by simp only [pO, cZ]; exact CL t x, h⟩
 | .own _ _, _, _, h => by simp only [FV] at h; cases h
 | .box _ _, _, _, h => by simp only [FV] at h; cases h
 | .win _ _, _, _, h => by simp only [FV] at h; cases h
 | .bown _ _ _, _, _, h => by simp only [FV] at h; cases h
 | .bag _ _ _ _ _, _, _, h => by simp only [FV] at h; cases h
 | .ar _ _, _, _, h => by simp only [FV] at h; cases h
 | .hnd _, _, _, h => ⟨rfl, h⟩
 | .ptr t, x, _, h => ⟨rfl, h⟩
 | .fn _, _, _, h => ⟨rfl, h⟩
 | .nil0, _, _, h => ⟨rfl, h⟩
 | .val, _, _, h => ⟨rfl, h⟩
 | .nilI, _, _, h => ⟨rfl, h⟩
 | .clo _ ts, x, _, h => ⟨by simp only [pO, cZ, cZ.noRefs, PX ts x, Bool.and_self], h⟩
theorem AB : ∀ (l : List Kd) (x : aH l), FV l = true → cZ.noRefs (iE l x) = true
 | [], _, _ => rfl
 | k :: r, (x, xs), h => by
  obtain ⟨h1, h2⟩ := aI6 k x r h
  simp only [iE, cZ.noRefs, h1, AB r xs h2, Bool.and_self]

inductive Tk where
 | none
 | own (e : TypeId) (t : Ty)
@[reducible] def Tk.den : Tk → Type
 | .none => Unit
 | .own _ t => List t.den
def Tk.pv : Tk → Nat → List PV
 | .none, _ => []
 | .own _ t, r => [.own r t.size]
def Tk.ow : (k : Tk) → k.den → Nat → OwA
 | .none, _, _ => Option.none
 | .own e t, l, r => some (r, owB e t l)
inductive An where
 | data (l : List Kd)
 | own (e : TypeId) (t : Ty)
@[reducible] def An.den : An → Type
 | .data l => aH l
 | .own _ t => List t.den
def An.pv : (a : An) → a.den → Nat → PV
 | .data l, y, _ => aJ5 l y
 | .own _ t, _, n => .own n t.size
def An.hp : (a : An) → a.den → Heap
 | .data _, _ => []
 | .own e t, l => [some (owB e t l)]

def ZB (P : Program) (g : FuncId) (ae : TypeId) (t : Ty) (tk : Tk) (args : List Kd) (an : An) (f : tk.den → aH args → List (List t.den) → Option (an.den × List (List t.den))) : Prop :=
 ∀ l x A y B, f l x A = some (y, B) → ∀ {n0 G μ H w us ra r}, aW n0 G μ H w → H[ra]? = some (some (arB ae t A)) → aOS H (tk.ow l r) → VRs w G μ (tk.pv r ++ iE args x) us →
  o6 P n0 w G μ g us.toArray (an.pv y (H.length + 1)) (((DC (tk.ow l r) H).set ra none) ++ (some (arB ae t B) :: an.hp y))

def aP1 (ae : TypeId) (t : Ty) (H : Heap) : Option (Nat × List (List t.den)) := match TX 0 H with
 | some (r, k) => match k.tag with
  | some g => match xH g.t (.rows t) g.l with
   | some l => bif Nat.beq k.ty ae && !k.frozen then some (r, l) else none
   | none => none
  | none => none
 | none => none
def a1I (e : TypeId) (t : Ty) (H : Heap) : PV → Option (List t.den)
 | .own r sz => DV e t (.own r sz) H r
 | .win r lo n sz => bif Nat.beq lo 0 then match DV e t (.own r sz) H r with
  | some l => some (l.take n)
  | none => none
  else none
 | _ => none
def aLG : (an : An) → PV → Heap → Option an.den
 | .data l, q, H => match inl false H depth q with
  | some q' => aH7 l q'
  | none => none
 | .own e t, q, H => a1I e t H q
def aWR (P : Program) (rs : List ResultVar) (ae : TypeId) (t : Ty) (an : An) (ex : Ex) (F : Frm) (H : Heap) : Option (an.den × List (List t.den)) := match ex with
 | .exit _ => none
 | _ => match mT P F H rs with
  | some vs => match aP1 ae t H with
   | some B => match aLG an (dU vs) H with
    | some y => some (y, B.2)
    | none => none
   | none => none
  | none => none
def U6 (P : Program) (E : Env) (fn : Func) (aU : Nat) (lt : Nat → Option aR) (c : Code) (ae : TypeId) (t : Ty) (tk : Tk) (args : List Kd) (an : An) (l : tk.den) (x : aH args) (A : List (List t.den)) : Option (an.den × List (List t.den)) :=
 bif Nat.ble (tk.pv 0 ++ iE args x).length fn.ntmps then sK P E fn.ntmps aU lt c (start aU 0 (tk.pv 0 ++ iE args x)) (yF (tk.ow l 0) ++ [some (arB ae t A)]) (aWR P fn.results.toList ae t an) else none

section
variable {P : Program} {n0 : Nat → Prop} {w w' : World} {G G1 G2 : Gd} {μ μ2 : Mp} {H H' : Heap} {ae : TypeId} {t : Ty} {A B : List (List t.den)}
theorem OH (hW : aW n0 G μ H w) {p : Nat × List (List t.den)} (h : aP1 ae t H = some p) : H[p.1]? = some (some (arB ae t p.2)) := by
 unfold aP1 at h
 split at h
 ·rename_i r k hk
  obtain ⟨h1, h2⟩ := K8 hk
  split at h
  ·rename_i g hg
   split at h
   ·rename_i l hc
    obtain ⟨hb, h⟩ := aI h
    simp only [Bool.and_eq_true, Bool.not_eq_true'] at hb
    simp only [Option.some.injEq] at h
    subst h
    have hb3 := Nat.eq_of_beq_eq_true hb.1
    have ht := (hW.tags r k g h1 hg).1
    have hge := aHZ hc
    rw [hge] at hg ht
    rw [h1]
    obtain ⟨k1, k2, k3, k4, k5⟩ := k
    dsimp only at ht hg hb hb3 h2 ⊢
    rw [ht, hg, hb3, h2, hb.2]
   ·cases h
  ·cases h
 ·cases h
theorem YW (hW : aW n0 G μ H w) {e : TypeId} {u : Ty} {p : PV} {l : List u.den} {v : Value} (h : a1I e u H p = some l) (hv : VR w G μ p v) :
  ∃ r l0, a29 H (some (r, owB e u l0, owB e u l)) ∧ ∀ G2 μ3 n, μ3.loc n = μ.loc r → μ3.len n = some l.length → VR w G2 μ3 (.own n u.size) v := by
 have key : ∀ (l0 : List u.den) (r m : Nat), H[r]? = some (some (owB e u l0)) → a29 H (some (r, owB e u l0, owB e u (l0.take m))) := fun l0 r m h0 => ⟨fun r' k k' he => by
  cases he
  exact ⟨h0, rfl, rfl, rfl, rfl, ⟨u, l0.take m⟩, m * u.size, rfl, rfl, (oS u m l0).symm⟩⟩
 unfold a1I at h
 split at h
 ·rename_i r sz
  obtain ⟨h1, h2⟩ := rI hW h
  cases h1
  refine ⟨r, l, by have := key l r l.length h2; rwa [List.take_length] at this, fun G2 μ3 n q1 q2 => ?_⟩
  rw [VR] at hv ⊢
  obtain ⟨m, a1, a2⟩ := hv
  have := (hW.tags r _ _ h2 rfl).2
  rw [this] at a1
  cases a1
  refine ⟨_, q2, ?_⟩
  rw [q1]
  exact a2
 ·rename_i r lo n sz
  obtain ⟨hb, h⟩ := aI h
  have hb := Nat.eq_of_beq_eq_true hb
  subst hb
  split at h
  ·rename_i l0 hl0
   obtain rfl := Option.some.inj h
   obtain ⟨h1, h2⟩ := rI hW hl0
   cases h1
   refine ⟨r, l0, key l0 r n h2, fun G2 μ3 m q1 q2 => ?_⟩
   rw [VR] at hv
   rw [VR]
   obtain ⟨b, c, m', a1, a2, a3, a4, a5, a6, a7⟩ := hv
   have := (hW.tags r _ _ h2 rfl).2
   rw [this] at a5
   cases a5
   refine ⟨n, by rw [q2, List.length_take]; change 0 + n ≤ l0.length at a6; congr 1; omega, .inr ⟨b, c, by rw [q1]; exact a1, by rw [a2, Nat.zero_mul], a3, ?_⟩⟩
   simpa using a4
  ·cases h
 ·cases h

theorem aPE {α : Type 1} {b : Bool} {x : Option α} {y : α} (h : (bif b then x else none) = some y) : b = true ∧ x = some y := by
 cases b with
 | true => exact ⟨rfl, h⟩
 | false => cases h
theorem T7 {E : Env} (hP : A8 P) (hE : aZ P E) {g : Nat} {fn : Func} (hg : P.funcs[g]? = some fn) {c : Code} (hc : fn.body = some c) {aU : Nat} {lt : Nat → Option aR} {ae : TypeId} {t : Ty} {tk : Tk} {args : List Kd} {an : An} {f : tk.den → aH args → List (List t.den) → Option (an.den × List (List t.den))}
  (hd : FV args = true) (hl : ∀ a ∈ aF c, ∀ s, lt (aG a) = some s → cL P fn.ntmps a s) (hb : ∀ l x A, U6 P E fn aU lt c ae t tk args an l x A = f l x A) : ZB P g ae t tk args an f := by
 intro l x A y B hy n0 G μ H w us ra r hW har ho hv
 rw [← hb] at hy
 unfold U6 at hy
 obtain ⟨hlen, hy⟩ := aI hy
 obtain ⟨⟨ex, F', H'⟩, h1, h2⟩ := jF hE.callee hP.mixed c _ _ _ _ hl hy
 obtain ⟨vs, B', hex, hvs, hB, hq, rfl⟩ : ∃ vs B', (ex = .normal ∨ ex = .ret) ∧ mT P F' H' fn.results.toList = some vs ∧ aP1 ae t H' = some B' ∧ aLG an (dU vs) H' = some y ∧ B'.2 = B := by
  unfold aWR at h1
  split at h1
  ·cases h1
  ·rename_i hne
   split at h1
   ·rename_i vs hvs
    split at h1
    ·rename_i B' hB
     split at h1
     ·rename_i y' hy'
      simp only [Option.some.injEq, Prod.mk.injEq] at h1
      obtain ⟨rfl, h1⟩ := h1
      refine ⟨vs, B', ?_, hvs, hB, hy', h1⟩
      cases ex with
      | normal => exact .inl rfl
      | ret => exact .inr rfl
      | exit i => exact absurd rfl (hne i)
     ·cases h1
    ·cases h1
   ·cases h1
 have hargs : VRs w G (mpA μ (tk.ow l r) A.length) (tk.pv 0 ++ iE args x) us := by
  have hn := AB args x hd
  cases tk with
  | none => exact VRs.bF (cM _ _ hn hv)
  | own e u =>
   change VRs w G μ (.own r u.size :: iE args x) us at hv
   change VRs w G _ (.own 0 u.size :: iE args x) us
   rw [VRs] at hv ⊢
   obtain ⟨v, us', rfl, q1, q2⟩ := hv
   refine ⟨v, us', rfl, ?_, VRs.bF (cM _ _ hn q2)⟩
   rw [VR] at q1 ⊢
   exact q1
 have howb : yF (tk.ow l 0) = yF (tk.ow l r) := by cases tk <;> rfl
 have hW1 := QN hW ho har
 rw [← howb] at hW1
 have e0 : Ext (wrA w G μ (tk.ow l r)) w G aM w G (mpA μ (tk.ow l r) A.length) :=
  ⟨⟨fun b hb => ⟨hb, rfl⟩, fun _ _ h => (by cases h), fun _ _ h => (by cases h), fun _ _ h => h, fun _ _ h => h⟩, rfl, rfl, rfl, Nat.le_refl _, Nat.le_refl _, fun _ _ _ => rfl, fun _ h => .inl h⟩
 refine ⟨enters hg (hP.names g fn hg) (by rw [hc]; rfl) _ _, calls_of_wp hg hc ?_⟩
 have hI : I (wrA w G μ (tk.ow l r)) w G aM fn.ntmps (start aU 0 (tk.pv 0 ++ iE args x)) (yF (tk.ow l 0) ++ [some (arB ae t A)]) ⟨us.toArray ++ Array.replicate (fn.ntmps - us.toArray.size) undef, []⟩ w :=
  ⟨G, _, e0, hW1, qI (by simpa using hargs) (Nat.le_of_ble_eq_true hlen)⟩
 refine wp_mono (h2 _ w G aM _ w (fun r => ⟨rfl, rfl⟩) hI) ?_
 rintro e1 a' w' ⟨rfl, G1, μ1, ee, hW', hF'⟩
 obtain ⟨ws, h3, h4⟩ := k9 (P := P) hW' hF' hvs
 have hres : (results fn a'.tmps).run P w' = .ok (if hh : ws.toArray.size = 1 then ws.toArray[0] else .tuple ws.toArray) w' := by
  rw [s8, Array.mapM_eq_mapM_toList]
  simp only [Sem.run_bind, Sem.run_map, h3, Result.andThen_ok, Sem.run_pure]
 have hrb := OH hW' hB
 obtain ⟨G2, μ3, b1, b2, b3⟩ : ∃ G2 μ3, Ext n0 w G μ w' G2 μ3 ∧ aW n0 G2 μ3 (((DC (tk.ow l r) H).set ra none) ++ (some (arB ae t B'.2) :: an.hp y)) w' ∧ VR w' G2 μ3 (an.pv y (H.length + 1)) (if hh : ws.toArray.size = 1 then ws.toArray[0] else .tuple ws.toArray) := by
  have hvr := mY h4
  cases an with
  | data rets =>
   simp only [aLG] at hq
   split at hq
   ·rename_i q hq'
    have hb := XT (G2 := ⟨fun b => G1 b ∨ ∃ s k, H'[s]? = some (some k) ∧ k.frozen = false ∧ μ1.loc s = some b, G1.row⟩) hW ho har ee hW' hrb (os := none) ⟨fun _ _ _ h => by cases h⟩ (fun _ => rfl) (fun b hb => .inl hb) (fun b hb => by
     rcases hb with h | ⟨s, k, z1, z2, z3⟩
     ·exact .inl h
     ·exact .inr ⟨s, k, z1, z2, z3, fun _ _ _ h => by cases h⟩)
    refine ⟨_, _, hb.1, hb.2, ?_⟩
    have := AP (G' := ⟨fun b => G1 b ∨ ∃ s k, H'[s]? = some (some k) ∧ k.frozen = false ∧ μ1.loc s = some b, G1.row⟩) hW' (fun _ _ h => h) (fun b hb => .inl hb) (fun s k1 b hs _ hb => by
     obtain ⟨_, _, _, _, g5, _⟩ := hW'.blk s k1 b hs hb
     cases hf : k1.frozen with
     | true => exact .inl (g5 hf)
     | false => exact .inr ⟨s, k1, hs, hf, hb⟩) depth _ q _ hq' hvr
    exact (L0 hq this).bF
   ·cases hq
  | own e u =>
   simp only [aLG] at hq
   obtain ⟨r1, l0, hos, hvv⟩ := YW hW' hq hvr
   have hb := XT (G2 := G1) hW ho har ee hW' hrb hos (fun _ => rfl) (fun b hb => hb) (fun b hb => .inl hb)
   refine ⟨_, _, hb.1, hb.2, hvv _ _ _ ?_ ?_⟩
   ·have h1 : ¬ H.length + 1 < H.length := by omega
    simp [nY, h1, aW9]
   ·have h1 : ¬ H.length + 1 < H.length := by omega
    simp [nY, h1, aU7]
 have hpost : a'.defers = [] ∧ ∃ v, (results fn a'.tmps).run P w' = .ok v w' ∧ (∃ v' G'' μ'', Ending.returned v = .returned v' ∧ Ext n0 w G μ w' G'' μ'' ∧ aW n0 G'' μ'' (((DC (tk.ow l r) H).set ra none) ++ (some (arB ae t B'.2) :: an.hp y)) w' ∧ VR w' G'' μ'' (an.pv y (H.length + 1)) v') :=
  ⟨hF'.defers, _, hres, _, G2, μ3, rfl, b1, b2, b3⟩
 rcases hex with rfl | rfl
 ·exact hpost
 ·exact hpost

def aUF (P : Program) (E : Env) (fn : Func) (aU : Nat) (lt : Nat → Option aR) (c : Code) (ae : TypeId) (t : Ty) (args rets : List Kd) (x : aH args) : Option (aH rets) :=
 bif Nat.ble (iE args x).length fn.ntmps then sK P E fn.ntmps aU lt c (start aU 0 (iE args x)) [some (arB ae t [])] (aJ6 P fn.results.toList rets) else none
theorem a5K {E : Env} (hP : A8 P) (hE : aZ P E) {g : Nat} {fn : Func} (hg : P.funcs[g]? = some fn) {c : Code} (hc : fn.body = some c) {aU : Nat} {lt : Nat → Option aR} {ae : TypeId} {t : Ty} {args rets : List Kd} {f : aH args → Option (aH rets)}
  (hl : ∀ a ∈ aF c, ∀ s, lt (aG a) = some s → cL P fn.ntmps a s) (hb : ∀ x, aUF P E fn aU lt c ae t args rets x = f x) : cO P g args rets f := by
 intro x y hy
 rw [← hb] at hy
 unfold aUF at hy
 obtain ⟨hlen, hy⟩ := aI hy
 obtain ⟨⟨ex, F', H'⟩, h1, h2⟩ := jF hE.callee hP.mixed c _ _ _ _ hl hy
 obtain ⟨vs, q, hex, hvs, hq, hd⟩ : ∃ vs q, (ex = .normal ∨ ex = .ret) ∧ mT P F' H' fn.results.toList = some vs ∧ aMO H' (dU vs) = some q ∧ aH7 rets q = some y := by
  unfold aJ6 at h1
  split at h1
  ·cases h1
  ·rename_i hne
   split at h1
   ·rename_i vs hvs
    split at h1
    ·rename_i q hq
     refine ⟨vs, q, ?_, hvs, hq, h1⟩
     cases ex with
     | normal => exact .inl rfl
     | ret => exact .inr rfl
     | exit i => exact absurd rfl (hne i)
    ·cases h1
   ·cases h1
 obtain ⟨hq1, hq2⟩ := wI hq
 intro w G us hlt hv
 have at0 : ∀ (s : Nat) (k1 : Blk), ([some (arB ae t [])] : Heap)[s]? = some (some k1) → s = 0 ∧ k1 = arB ae t [] := by
  intro s k1 hs
  cases s with
  | zero => simp only [List.getElem?_cons_zero, Option.some.injEq] at hs; exact ⟨rfl, hs.symm⟩
  | succ s => simp at hs
 have hW : aW (tR w) (Gd.of G) ⟨fun _ => none, fun r => if r = 0 then some 0 else none⟩ [some (arB ae t [])] w := by
  refine ⟨(fun r k b h hb => by cases hb), (fun r k g h hg => ?_), (fun r s k l b h _ _ _ hb => by cases hb), hlt, (fun r hr => ⟨rfl, ?_⟩), fun _ h => h, ⟨(fun _ _ _ h => by cases h), (fun _ _ h => by cases h), (fun _ _ h => by cases h), (fun r k u l h hgr ht => ?_), (fun r s k k' u l u' l' h1 g1 t1 h2 g2 t2 => by rw [(at0 r k h1).1, (at0 s k' h2).1])⟩⟩
  ·obtain ⟨rfl, rfl⟩ := at0 r k h
   cases hg
   exact ⟨rfl, rfl⟩
  ·have : r ≠ 0 := by rintro rfl; simp at hr
   simp [this]
  ·obtain ⟨rfl, rfl⟩ := at0 r k h
   cases ht
   exact ⟨rfl, fun _ _ => rfl, fun j row hj => by simp at hj⟩
 have e0 : Ext (tR w) w (Gd.of G) aM w (Gd.of G) ⟨fun _ => none, fun r => if r = 0 then some 0 else none⟩ :=
  ⟨⟨fun b hb => ⟨hb, rfl⟩, fun _ _ h => (by cases h), fun _ _ h => (by cases h), fun _ _ h => h, fun _ _ h => h⟩, rfl, rfl, rfl, Nat.le_refl _, Nat.le_refl _, fun _ _ _ => rfl, fun _ h => .inl h⟩
 refine ⟨enters hg (hP.names g fn hg) (by rw [hc]; rfl) _ _, calls_of_wp hg hc ?_⟩
 have hI : I (tR w) w (Gd.of G) aM fn.ntmps (start aU 0 (iE args x)) [some (arB ae t [])] ⟨us ++ Array.replicate (fn.ntmps - us.size) undef, []⟩ w := ⟨Gd.of G, _, e0, hW, qI hv.bF (Nat.le_of_ble_eq_true hlen)⟩
 refine wp_mono (h2 _ w (Gd.of G) aM _ w (fun r => ⟨rfl, rfl⟩) hI) ?_
 rintro e a' w' ⟨rfl, G1, μ1, e1, e2, hF'⟩
 obtain ⟨ws, h3, h4⟩ := k9 (P := P) e2 hF' hvs
 have hres : (results fn a'.tmps).run P w' = .ok (if hh : ws.toArray.size = 1 then ws.toArray[0] else .tuple ws.toArray) w' := by
  rw [s8, Array.mapM_eq_mapM_toList]
  simp only [Sem.run_bind, Sem.run_map, h3, Result.andThen_ok, Sem.run_pure]
 have hval := GC (G := ⟨fun b => G1 b ∨ ∃ r k, H'[r]? = some (some k) ∧ μ1.loc r = some b, G1.row⟩) (G' := Gd.of fun b => G1 b ∨ ∃ r k, H'[r]? = some (some k) ∧ μ1.loc r = some b) (fun b h => h) _ _ _ hq2
   (AP (G' := ⟨fun b => G1 b ∨ ∃ r k, H'[r]? = some (some k) ∧ μ1.loc r = some b, G1.row⟩) e2 (fun _ _ h => h) (fun b hb => .inl hb) (fun r k b hr _ hb => .inr ⟨r, k, hr, hb⟩) depth _ q _ hq1 (mY h4))
 have hext : Ext (tR w) w (Gd.of G) aM w' (Gd.of fun b => G1 b ∨ ∃ r k, H'[r]? = some (some k) ∧ μ1.loc r = some b) aM := {
  good := fun b hb => ⟨.inl (e1.good b hb).1, (e1.good b hb).2⟩
  map := fun _ _ h => h
  len := fun _ _ h => h
  room := e1.room
  row := fun _ _ h => h
  os := e1.os
  tape := e1.tape
  output := e1.output
  size := e1.size
  drawn := e1.drawn
  old := e1.old
  new := fun b hb => by
   rcases hb with hb | ⟨r, k, hr, hb⟩
   ·exact e1.new b hb
   ·obtain ⟨c, _, _, _, g5, g6⟩ := e2.blk r k b hr hb
    cases hf : k.frozen with
    | true => exact e1.new b (g5 hf)
    | false => exact .inr (g6 hf).1 }
 have hlt' : ∀ b, (G1 b ∨ ∃ r k, H'[r]? = some (some k) ∧ μ1.loc r = some b) → b < w'.heap.size := by
  rintro b (hb | ⟨r, k, hr, hb⟩)
  ·exact e2.lt b hb
  ·exact e2.j5 hr hb
 have hpost : a'.defers = [] ∧ ∃ v, (results fn a'.tmps).run P w' = .ok v w' ∧ (∃ v' G', Ending.returned v = .returned v' ∧ Ext (tR w) w (Gd.of G) aM w' (Gd.of G') aM ∧ (∀ b, G' b → b < w'.heap.size) ∧ VR w' (Gd.of G') aM (aJ5 rets y) v') :=
  ⟨hF'.defers, _, hres, _, _, rfl, hext, hlt', L0 hd hval⟩
 rcases hex with rfl | rfl
 ·exact hpost
 ·exact hpost

def aHX (e : TypeId) (t : Ty) (H : Heap) : List PV → Option (List t.den × Nat × List PV)
 | .own r sz :: ps => match DV e t (.own r sz) H r with
  | some l => some (l, r, ps)
  | none => none
 | _ => none
def Tk.dec : (tk : Tk) → List PV → Heap → Option (tk.den × Nat × List PV)
 | .none, qs, _ => some ((), 0, qs)
 | .own e t, qs, H => aHX e t H qs
theorem VG (hW : aW n0 G μ H w) {e : TypeId} {u : Ty} {qs : List PV} {l : List u.den} {r : Nat} {ps : List PV} (h : aHX e u H qs = some (l, r, ps)) : H[r]? = some (some (owB e u l)) ∧ qs = .own r u.size :: ps := by
 unfold aHX at h
 split at h
 ·rename_i r1 sz ps1
  split at h
  ·rename_i l1 hl1
   simp only [Option.some.injEq, Prod.mk.injEq] at h
   obtain ⟨rfl, rfl, rfl⟩ := h
   obtain ⟨g1, g2⟩ := rI hW hl1
   exact ⟨g2, by rw [g1]⟩
  ·cases h
 ·cases h
theorem Tk.aPI (hW : aW n0 G μ H w) {tk : Tk} {qs : List PV} {l : tk.den} {r : Nat} {ps : List PV} (h : tk.dec qs H = some (l, r, ps)) : aOS H (tk.ow l r) ∧ qs = tk.pv r ++ ps := by
 cases tk with
 | none =>
  simp only [Tk.dec, Option.some.injEq, Prod.mk.injEq] at h
  obtain ⟨_, _, rfl⟩ := h
  exact ⟨⟨fun _ _ h => by cases h⟩, rfl⟩
 | own e u =>
  obtain ⟨h1, h2⟩ := VG hW (h : aHX e u H qs = some (l, r, ps))
  refine ⟨⟨fun r' k he => ?_⟩, h2⟩
  cases he
  exact ⟨h1, rfl, rfl, rfl⟩
def arH (ae : TypeId) (t : Ty) (tk : Tk) (args : List Kd) (an : An) (f : tk.den → aH args → List (List t.den) → Option (an.den × List (List t.den))) (qs : List PV) (H : Heap) : Option aKL := match tk.dec qs H with
 | some (l, r, ps) => match aP1 ae t H with
  | some (ra, A) => match aFK args ps with
   | some x => bif cZ.noRefs ps then some ⟨an.den × List (List t.den), f l x A, fun y => (an.pv y.1 (H.length + 1), ((DC (tk.ow l r) H).set ra none) ++ (some (arB ae t y.2) :: an.hp y.1))⟩ else none
   | none => none
  | none => none
 | none => none
theorem UQ {g : FuncId} {tk : Tk} {args : List Kd} {an : An} {f : tk.den → aH args → List (List t.den) → Option (an.den × List (List t.den))} (hf : ZB P g ae t tk args an f) :
  ∀ qs H r, arH ae t tk args an f qs H = some r → ∀ y, r.val = some y → ∀ {n0 G μ w vs}, aW n0 G μ H w → VRs w G μ qs vs → o6 P n0 w G μ g vs.toArray (r.out y).1 (r.out y).2 := by
 intro qs H rh h y hy n0 G μ w vs hW hv
 unfold arH at h
 split at h
 ·rename_i l r ps hl
  split at h
  ·rename_i ra A hA
   split at h
   ·rename_i x hx
    obtain ⟨hb, h⟩ := aPE h
    simp only [Option.some.injEq] at h
    subst h
    obtain ⟨ho, rfl⟩ := Tk.aPI hW hl
    have hv' : VRs w G μ (tk.pv r ++ iE args x) vs := by
     cases tk with
     | none => exact (xN args hx (cM _ _ hb hv)).bF
     | own e u =>
      change VRs w G μ (.own r u.size :: ps) vs at hv
      change VRs w G μ (.own r u.size :: iE args x) vs
      rw [VRs] at hv ⊢
      obtain ⟨v, us, rfl, q1, q2⟩ := hv
      exact ⟨v, us, rfl, q1, (xN args hx (cM _ _ hb q2)).bF⟩
    obtain ⟨y1, y2⟩ := y
    exact hf l x A y1 y2 hy hW (OH hW hA) ho hv'
   ·cases h
  ·cases h
 ·cases h
end
end Go.PM
set_option linter.unusedSimpArgs false
set_option linter.unusedVariables false
namespace Go.PM
open Go Go.RowKit Go.Proofs
set_option maxRecDepth 100000
set_option maxHeartbeats 4000000
/-! schisma/whole.split -/
def bL (x : aH [.str]) : Option (aH [.bool, .str]) := match x with
 | (v0, ()) =>
  bif ltI 0 (v0.size : Int) then
   bif aP 0 v0.size then bif eqI (aCF v0 0) 45 then
    bif Nat.ble 1 v0.size then bif Nat.ble v0.size v0.size then some (true, (v0.extract 1 v0.size), ()) else none else none
   else some (false, v0, ()) else none
  else some (false, v0, ())
noncomputable def HL : Code := aT Tryz.f130
abbrev PR : Env := bI []
theorem W6 : aZ Tryz.prog PR := aY trivial
def NT (id : Nat) : Option aR := none
theorem SY : aF HL = [] := by kernel_rfl
theorem WO : ∀ x, bQ Tryz.prog PR Tryz.f130 (aC Tryz.f130) NT HL [.str] [.bool, .str] x = bL x := by
 rintro ⟨v0, ⟨⟩⟩
 kernel_rfl
theorem aCQ : cO Tryz.prog 130 [.str] [.bool, .str] bL := by
 exact bA aK W6 Tryz.func130 (c := HL) (by kernel_rfl) (aU := aC Tryz.f130) (lt := NT) (aE SY trivial) WO
abbrev oW : Ent := ⟨130, [.str], [.bool, .str], bL⟩
theorem mJ : Ent.OK Tryz.prog oW := aCQ

/-! schisma/whole.join -/
def aA (x : aH [.bool, .str]) : Option (aH [.str]) := match x with
 | (v0, v1, ()) =>
  bif v0 then
   bif !(eqS v1 (ByteArray.mk #[48])) then
    bif Nat.ble ((ByteArray.mk #[45]).size + v1.size) 9223372036854775807 then some (((ByteArray.mk #[45]) ++ v1), ()) else none
   else some (v1, ())
  else some (v1, ())
noncomputable def J6 : Code := aT Tryz.f136
abbrev VJ : Env := bI []
theorem aAU : aZ Tryz.prog VJ := aY trivial
def RB (id : Nat) : Option aR := none
theorem WJ : aF J6 = [] := by kernel_rfl
theorem YP : ∀ x, bQ Tryz.prog VJ Tryz.f136 (aC Tryz.f136) RB J6 [.bool, .str] [.str] x = aA x := by
 rintro ⟨v0, v1, ⟨⟩⟩
 kernel_rfl
theorem aF5 : cO Tryz.prog 136 [.bool, .str] [.str] aA := by
 exact bA aK aAU Tryz.func136 (c := J6) (by kernel_rfl) (aU := aC Tryz.f136) (lt := RB) (aE WJ trivial) YP
abbrev xG : Ent := ⟨136, [.bool, .str], [.str], aA⟩
theorem vD : Ent.OK Tryz.prog xG := aF5

/-! schisma/whole.little -/
def gV (x : aH [.str, .int .i64]) : Option (aH [.int .i64, .bool]) := match x with
 | (v0, v1, ()) =>
  bif ltI v1 (v0.size : Int) then
   some (0, false, ())
  else aB (sI (v0, ())) fun y1 =>
  some (y1.1, true, ())
noncomputable def EL : Code := aT Tryz.f132
abbrev NI : Env := bI [M9]
theorem UY : aZ Tryz.prog NI := aY ⟨T3, trivial⟩
def KS (id : Nat) : Option aR := none
theorem QF : aF EL = [] := by kernel_rfl
theorem SZ : ∀ x, bQ Tryz.prog NI Tryz.f132 (aC Tryz.f132) KS EL [.str, .int .i64] [.int .i64, .bool] x = gV x := by
 rintro ⟨v0, v1, ⟨⟩⟩
 kernel_rfl
theorem Z4 : cO Tryz.prog 132 [.str, .int .i64] [.int .i64, .bool] gV := by
 exact bA aK UY Tryz.func132 (c := EL) (by kernel_rfl) (aU := aC Tryz.f132) (lt := KS) (aE QF trivial) SZ
abbrev wP : Ent := ⟨132, [.str, .int .i64], [.int .i64, .bool], gV⟩
theorem wG : Ent.OK Tryz.prog wP := Z4

/-! schisma/whole.Of -/
def gI (x : aH [.int .i64]) : Option (aH [.str]) := match x with
 | (v0, ()) =>
  aB (sJ (v0, ())) fun y1 =>
  some (y1.1, ())
noncomputable def US : Code := aT Tryz.f115
abbrev aDK : Env := bI [NM]
theorem aGW : aZ Tryz.prog aDK := aY ⟨U5, trivial⟩
def Y5 (id : Nat) : Option aR := none
theorem aCM : aF US = [] := by kernel_rfl
theorem aFG : ∀ x, bQ Tryz.prog aDK Tryz.f115 (aC Tryz.f115) Y5 US [.int .i64] [.str] x = gI x := by
 rintro ⟨v0, ⟨⟩⟩
 kernel_rfl
theorem aLU : cO Tryz.prog 115 [.int .i64] [.str] gI := by
 exact bA aK aGW Tryz.func115 (c := US) (by kernel_rfl) (aU := aC Tryz.f115) (lt := Y5) (aE aCM trivial) aFG
abbrev AK : Ent := ⟨115, [.int .i64], [.str], gI⟩
theorem uY : Ent.OK Tryz.prog AK := aLU

/-! schisma/whole.Small -/
def pA (x : aH [.str]) : Option (aH [.int .i64, .bool]) := match x with
 | (v0, ()) =>
  aB (mP (v0, 10, 64, ())) fun y1 =>
  some (y1.1, true, ())
noncomputable def HO : Code := aT Tryz.f109
abbrev QC : Env := bI [DA]
theorem WM : aZ Tryz.prog QC := aY ⟨KY, trivial⟩
def M6 (id : Nat) : Option aR := none
theorem UJ : aF HO = [] := by kernel_rfl
theorem W9 : ∀ x, bQ Tryz.prog QC Tryz.f109 (aC Tryz.f109) M6 HO [.str] [.int .i64, .bool] x = pA x := by
 rintro ⟨v0, ⟨⟩⟩
 kernel_rfl
theorem aCW : cO Tryz.prog 109 [.str] [.int .i64, .bool] pA := by
 exact bA aK WM Tryz.func109 (c := HO) (by kernel_rfl) (aU := aC Tryz.f109) (lt := M6) (aE UJ trivial) W9
abbrev ID : Ent := ⟨109, [.str], [.int .i64, .bool], pA⟩
theorem IS : Ent.OK Tryz.prog ID := aCW

/-! schisma/whole.Sign -/
def mQ (x : aH [.str]) : Option (aH [.int .i64]) := match x with
 | (v0, ()) =>
  bif eqS v0 (ByteArray.mk #[48]) then
   some (0, ())
  else bif aP 0 v0.size then bif eqI (aCF v0 0) 45 then
   some ((-1), ())
  else some (1, ()) else none
noncomputable def J5 : Code := aT Tryz.f105
abbrev VZ : Env := bI []
theorem aBP : aZ Tryz.prog VZ := aY trivial
def R8 (id : Nat) : Option aR := none
theorem W3 : aF J5 = [] := by kernel_rfl
theorem ZS : ∀ x, bQ Tryz.prog VZ Tryz.f105 (aC Tryz.f105) R8 J5 [.str] [.int .i64] x = mQ x := by
 rintro ⟨v0, ⟨⟩⟩
 kernel_rfl
theorem aFU : cO Tryz.prog 105 [.str] [.int .i64] mQ := by
 exact bA aK aBP Tryz.func105 (c := J5) (by kernel_rfl) (aU := aC Tryz.f105) (lt := R8) (aE W3 trivial) ZS
abbrev K5 : Ent := ⟨105, [.str], [.int .i64], mQ⟩
theorem JT : Ent.OK Tryz.prog K5 := aFU

/-! schisma/decimal.Of -/
def lB (x : aH [.int .u64]) : Option (aH [.str]) := match x with
 | (v0, ()) =>
  aB (kV (v0, 10, ())) fun y1 =>
  some (y1.1, ())
noncomputable def J0 : Code := aT Tryz.f156
abbrev VP : Env := bI [zB]
theorem YC : aZ Tryz.prog VP := aY ⟨H9, trivial⟩
def QD (id : Nat) : Option aR := none
theorem WZ : aF J0 = [] := by kernel_rfl
theorem aA6 : ∀ x, bQ Tryz.prog VP Tryz.f156 (aC Tryz.f156) QD J0 [.int .u64] [.str] x = lB x := by
 rintro ⟨v0, ⟨⟩⟩
 kernel_rfl
theorem aER : cO Tryz.prog 156 [.int .u64] [.str] lB := by
 exact bA aK YC Tryz.func156 (c := J0) (by kernel_rfl) (aU := aC Tryz.f156) (lt := QD) (aE WZ trivial) aA6
abbrev wU : Ent := ⟨156, [.int .u64], [.str], lB⟩
theorem uL : Ent.OK Tryz.prog wU := aER

/-! schisma/decimal.Small -/
def lK (x : aH [.str]) : Option (aH [.int .u64, .bool]) := match x with
 | (v0, ()) =>
  aB (lM (v0, 10, 64, ())) fun y1 =>
  some (y1.1, true, ())
noncomputable def A4 : Code := aT Tryz.f185
abbrev KC : Env := bI [BM]
theorem PW : aZ Tryz.prog KC := aY ⟨JQ, trivial⟩
def I3 (id : Nat) : Option aR := none
theorem PC : aF A4 = [] := by kernel_rfl
theorem RC : ∀ x, bQ Tryz.prog KC Tryz.f185 (aC Tryz.f185) I3 A4 [.str] [.int .u64, .bool] x = lK x := by
 rintro ⟨v0, ⟨⟩⟩
 kernel_rfl
theorem XB : cO Tryz.prog 185 [.str] [.int .u64, .bool] lK := by
 exact bA aK PW Tryz.func185 (c := A4) (by kernel_rfl) (aU := aC Tryz.f185) (lt := I3) (aE PC trivial) RC
abbrev KI : Ent := ⟨185, [.str], [.int .u64, .bool], lK⟩
theorem PS : Ent.OK Tryz.prog KI := XB

/-! schisma/decimal.both -/
def kB (x : aH [.str, .str]) : Option (aH [.int .u64, .int .u64, .bool]) := match x with
 | (v0, v1, ()) =>
  bif ltI 18 (v0.size : Int) then
   some (0, 0, false, ())
  else bif ltI 18 (v1.size : Int) then
   some (0, 0, false, ())
  else aB (lK (v0, ())) fun y1 =>
  aB (lK (v1, ())) fun y2 =>
  some (y1.1, y2.1, true, ())
noncomputable def D1 : Code := aT Tryz.f155
abbrev NK : Env := bI [KI]
theorem SN : aZ Tryz.prog NK := aY ⟨PS, trivial⟩
def LA (id : Nat) : Option aR := none
theorem RS : aF D1 = [] := by kernel_rfl
theorem S5 : ∀ x, bQ Tryz.prog NK Tryz.f155 (aC Tryz.f155) LA D1 [.str, .str] [.int .u64, .int .u64, .bool] x = kB x := by
 rintro ⟨v0, v1, ⟨⟩⟩
 kernel_rfl
theorem aA4 : cO Tryz.prog 155 [.str, .str] [.int .u64, .int .u64, .bool] kB := by
 exact bA aK SN Tryz.func155 (c := D1) (by kernel_rfl) (aU := aC Tryz.f155) (lt := LA) (aE RS trivial) S5
abbrev sM : Ent := ⟨155, [.str, .str], [.int .u64, .int .u64, .bool], kB⟩
theorem rB : Ent.OK Tryz.prog sM := aA4

/-! schisma/decimal.Compare -/
def cT (x : aH [.str, .str]) : Option (aH [.int .i64]) := match x with
 | (v0, v1, ()) =>
  bif !(eqI (v0.size : Int) (v1.size : Int)) then
   some ((if (if (-1) < (aJ .i64 ((v0.size : Int) - (v1.size : Int))) then (aJ .i64 ((v0.size : Int) - (v1.size : Int))) else (-1)) < 1 then (if (-1) < (aJ .i64 ((v0.size : Int) - (v1.size : Int))) then (aJ .i64 ((v0.size : Int) - (v1.size : Int))) else (-1)) else 1), ())
  else bif ltS v0 v1 then
   some ((-1), ())
  else bif !(ltS v0 v1 || eqS v0 v1) then
   some (1, ())
  else some (0, ())
noncomputable def vZ : Code := aT Tryz.f131
abbrev E4 : Env := bI []
theorem MZ : aZ Tryz.prog E4 := aY trivial
def DK (id : Nat) : Option aR := none
theorem K0 : aF vZ = [] := by kernel_rfl
theorem MY : ∀ x, bQ Tryz.prog E4 Tryz.f131 (aC Tryz.f131) DK vZ [.str, .str] [.int .i64] x = cT x := by
 rintro ⟨v0, v1, ⟨⟩⟩
 kernel_rfl
theorem QT : cO Tryz.prog 131 [.str, .str] [.int .i64] cT := by
 exact bA aK MZ Tryz.func131 (c := vZ) (by kernel_rfl) (aU := aC Tryz.f131) (lt := DK) (aE K0 trivial) MY
abbrev rL : Ent := ⟨131, [.str, .str], [.int .i64], cT⟩
theorem rV : Ent.OK Tryz.prog rL := QT

/-! schisma/whole.Compare -/
def n8 (x : aH [.str, .str]) : Option (aH [.int .i64]) := match x with
 | (v0, v1, ()) =>
  aB (mQ (v0, ())) fun y1 =>
  aB (mQ (v1, ())) fun y2 =>
  bif !(eqI y1.1 y2.1) then
   bif ltI y1.1 y2.1 then
    some ((-1), ())
   else some (1, ())
  else aB (bL (v0, ())) fun y3 =>
  aB (bL (v1, ())) fun y4 =>
  bif y3.1 then
   aB (cT (y4.2.1, y3.2.1, ())) fun y5 =>
   some (y5.1, ())
  else aB (cT (y3.2.1, y4.2.1, ())) fun y6 =>
  some (y6.1, ())
noncomputable def BU : Code := aT Tryz.f101
abbrev J4 : Env := bI [rL, K5, oW]
theorem PZ : aZ Tryz.prog J4 := aY ⟨rV, JT, mJ, trivial⟩
def I2 (id : Nat) : Option aR := none
theorem PN : aF BU = [] := by kernel_rfl
theorem R9 : ∀ x, bQ Tryz.prog J4 Tryz.f101 (aC Tryz.f101) I2 BU [.str, .str] [.int .i64] x = n8 x := by
 rintro ⟨v0, v1, ⟨⟩⟩
 kernel_rfl
theorem W7 : cO Tryz.prog 101 [.str, .str] [.int .i64] n8 := by
 exact bA aK PZ Tryz.func101 (c := BU) (by kernel_rfl) (aU := aC Tryz.f101) (lt := I2) (aE PN trivial) R9
abbrev LW : Ent := ⟨101, [.str, .str], [.int .i64], n8⟩
theorem QJ : Ent.OK Tryz.prog LW := W7

/-! schisma/whole.Neg -/
def tC (x : aH [.str]) : Option (aH [.str]) := match x with
 | (v0, ()) =>
  aB (bL (v0, ())) fun y1 =>
  bif y1.1 then
   aB (aA (false, y1.2.1, ())) fun y2 =>
   some (y2.1, ())
  else aB (aA (true, y1.2.1, ())) fun y3 =>
  some (y3.1, ())
noncomputable def N5 : Code := aT Tryz.f139
abbrev aBA : Env := bI [xG, oW]
theorem aBZ : aZ Tryz.prog aBA := aY ⟨vD, mJ, trivial⟩
def V6 (id : Nat) : Option aR := none
theorem YX : aF N5 = [] := by kernel_rfl
theorem aBW : ∀ x, bQ Tryz.prog aBA Tryz.f139 (aC Tryz.f139) V6 N5 [.str] [.str] x = tC x := by
 rintro ⟨v0, ⟨⟩⟩
 kernel_rfl
theorem aHL : cO Tryz.prog 139 [.str] [.str] tC := by
 exact bA aK aBZ Tryz.func139 (c := N5) (by kernel_rfl) (aU := aC Tryz.f139) (lt := V6) (aE YX trivial) aBW
abbrev O2 : Ent := ⟨139, [.str], [.str], tC⟩
theorem NF : Ent.OK Tryz.prog O2 := aHL

/-! schisma/whole.Abs -/
def tH (x : aH [.str]) : Option (aH [.str]) := match x with
 | (v0, ()) =>
  aB (bL (v0, ())) fun y1 =>
  some (y1.2.1, ())
noncomputable def O6 : Code := aT Tryz.f102
abbrev aBB : Env := bI [oW]
theorem aB6 : aZ Tryz.prog aBB := aY ⟨mJ, trivial⟩
def VQ (id : Nat) : Option aR := none
theorem ZZ : aF O6 = [] := by kernel_rfl
theorem aB4 : ∀ x, bQ Tryz.prog aBB Tryz.f102 (aC Tryz.f102) VQ O6 [.str] [.str] x = tH x := by
 rintro ⟨v0, ⟨⟩⟩
 kernel_rfl
theorem aJ9 : cO Tryz.prog 102 [.str] [.str] tH := by
 exact bA aK aB6 Tryz.func102 (c := O6) (by kernel_rfl) (aU := aC Tryz.f102) (lt := VQ) (aE ZZ trivial) aB4
abbrev YJ : Ent := ⟨102, [.str], [.str], tH⟩
theorem aCU : Ent.OK Tryz.prog YJ := aJ9

/-! schisma/decimal.Add -/
def dR (x : aH [.str, .str]) : Option (aH [.str]) := match x with
 | (v0, v1, ()) =>
  aB (kB (v0, v1, ())) fun y1 =>
  bif y1.2.2.1 then aB (lB ((aJ .u64 (y1.1 + y1.2.1)), ())) fun y2 =>
  some (y2.1, ()) else none
noncomputable def HG : Code := aT Tryz.f134
abbrev Q8 : Env := bI [wU, sM]
theorem W4 : aZ Tryz.prog Q8 := aY ⟨uL, rB, trivial⟩
def NC (id : Nat) : Option aR := none
theorem TY : aF HG = [] := by kernel_rfl
theorem WL : ∀ x, bQ Tryz.prog Q8 Tryz.f134 (aC Tryz.f134) NC HG [.str, .str] [.str] x = dR x := by
 rintro ⟨v0, v1, ⟨⟩⟩
 kernel_rfl
theorem aB2 : cO Tryz.prog 134 [.str, .str] [.str] dR := by
 exact bA aK W4 Tryz.func134 (c := HG) (by kernel_rfl) (aU := aC Tryz.f134) (lt := NC) (aE TY trivial) WL
abbrev G9 : Ent := ⟨134, [.str, .str], [.str], dR⟩
theorem IW : Ent.OK Tryz.prog G9 := aB2

/-! schisma/decimal.Sub -/
def bU (x : aH [.str, .str]) : Option (aH [.str, .int .i64]) := match x with
 | (v0, v1, ()) =>
  aB (cT (v0, v1, ())) fun y1 =>
  bif ltI y1.1 0 then
   some ((ByteArray.mk #[]), 3, ())
  else aB (kB (v0, v1, ())) fun y2 =>
  bif y2.2.2.1 then aB (lB ((aJ .u64 (y2.1 - y2.2.1)), ())) fun y3 =>
  some (y3.1, 0, ()) else none
noncomputable def HK : Code := aT Tryz.f135
abbrev P3 : Env := bI [rL, wU, sM]
theorem WU : aZ Tryz.prog P3 := aY ⟨rV, uL, rB, trivial⟩
def NA (id : Nat) : Option aR := none
theorem S0 : aF HK = [] := by kernel_rfl
theorem WW : ∀ x, bQ Tryz.prog P3 Tryz.f135 (aC Tryz.f135) NA HK [.str, .str] [.str, .int .i64] x = bU x := by
 rintro ⟨v0, v1, ⟨⟩⟩
 kernel_rfl
theorem aCK : cO Tryz.prog 135 [.str, .str] [.str, .int .i64] bU := by
 exact bA aK WU Tryz.func135 (c := HK) (by kernel_rfl) (aU := aC Tryz.f135) (lt := NA) (aE S0 trivial) WW
abbrev HD : Ent := ⟨135, [.str, .str], [.str, .int .i64], bU⟩
theorem I1 : Ent.OK Tryz.prog HD := aCK

/-! schisma/decimal.Mul -/
def dL (x : aH [.str, .str]) : Option (aH [.str]) := match x with
 | (v0, v1, ()) =>
  bif !(ltI 18 (aJ .i64 ((v0.size : Int) + (v1.size : Int)))) then aB (kB (v0, v1, ())) fun y1 =>
  aB (lB ((aJ .u64 (y1.1 * y1.2.1)), ())) fun y2 =>
  some (y2.1, ()) else none
noncomputable def HR : Code := aT Tryz.f166
abbrev RY : Env := bI [wU, sM]
theorem WX : aZ Tryz.prog RY := aY ⟨uL, rB, trivial⟩
def NH (id : Nat) : Option aR := none
theorem SV : aF HR = [] := by kernel_rfl
theorem WI : ∀ x, bQ Tryz.prog RY Tryz.f166 (aC Tryz.f166) NH HR [.str, .str] [.str] x = dL x := by
 rintro ⟨v0, v1, ⟨⟩⟩
 kernel_rfl
theorem aCH : cO Tryz.prog 166 [.str, .str] [.str] dL := by
 exact bA aK WX Tryz.func166 (c := HR) (by kernel_rfl) (aU := aC Tryz.f166) (lt := NH) (aE SV trivial) WI
abbrev QG : Ent := ⟨166, [.str, .str], [.str], dL⟩
theorem WY : Ent.OK Tryz.prog QG := aCH

/-! schisma/decimal.DivMod -/
def jH (x : aH [.str, .str]) : Option (aH [.str, .str, .int .i64]) := match x with
 | (v0, v1, ()) =>
  bif eqS v1 (ByteArray.mk #[48]) then
   some ((ByteArray.mk #[]), (ByteArray.mk #[]), 17, ())
  else aB (kB (v0, v1, ())) fun y1 =>
  bif y1.2.2.1 then bif eqI y1.2.1 0 then none else aB (lB ((aJ .u64 (y1.1.tdiv y1.2.1)), ())) fun y2 =>
  bif eqI y1.2.1 0 then none else aB (lB ((y1.1.tmod y1.2.1), ())) fun y3 =>
  some (y2.1, y3.1, 0, ()) else none
noncomputable def yR : Code := aT Tryz.f133
abbrev I6 : Env := bI [wU, sM]
theorem OJ : aZ Tryz.prog I6 := aY ⟨uL, rB, trivial⟩
def FR (id : Nat) : Option aR := none
theorem MS : aF yR = [] := by kernel_rfl
theorem PA : ∀ x, bQ Tryz.prog I6 Tryz.f133 (aC Tryz.f133) FR yR [.str, .str] [.str, .str, .int .i64] x = jH x := by
 rintro ⟨v0, v1, ⟨⟩⟩
 kernel_rfl
theorem UR : cO Tryz.prog 133 [.str, .str] [.str, .str, .int .i64] jH := by
 exact bA aK OJ Tryz.func133 (c := yR) (by kernel_rfl) (aU := aC Tryz.f133) (lt := FR) (aE MS trivial) PA
abbrev IU : Ent := ⟨133, [.str, .str], [.str, .str, .int .i64], jH⟩
theorem OR : Ent.OK Tryz.prog IU := UR

/-! schisma/whole.Add -/
def wH (x : aH [.str, .str]) : Option (aH [.str]) := match x with
 | (v0, v1, ()) =>
  aB (gV (v0, 18, ())) fun y1 =>
  bif y1.2.1 then
   aB (gV (v1, 18, ())) fun y2 =>
   bif y2.2.1 then
    aB (gI ((aJ .i64 (y1.1 + y2.1)), ())) fun y3 =>
    some (y3.1, ())
   else aB (bL (v0, ())) fun y4 =>
   aB (bL (v1, ())) fun y5 =>
   bif y4.1 then
    bif y5.1 then
     aB (dR (y4.2.1, y5.2.1, ())) fun y6 =>
     aB (aA (y4.1, y6.1, ())) fun y7 =>
     some (y7.1, ())
    else aB (cT (y4.2.1, y5.2.1, ())) fun y8 =>
    bif ltI y8.1 0 then
     aB (bU (y5.2.1, y4.2.1, ())) fun y9 =>
     aB (aA (y5.1, y9.1, ())) fun y10 =>
     some (y10.1, ())
    else aB (bU (y4.2.1, y5.2.1, ())) fun y11 =>
    aB (aA (y4.1, y11.1, ())) fun y12 =>
    some (y12.1, ())
   else bif y5.1 then
    aB (cT (y4.2.1, y5.2.1, ())) fun y13 =>
    bif ltI y13.1 0 then
     aB (bU (y5.2.1, y4.2.1, ())) fun y14 =>
     aB (aA (y5.1, y14.1, ())) fun y15 =>
     some (y15.1, ())
    else aB (bU (y4.2.1, y5.2.1, ())) fun y16 =>
    aB (aA (y4.1, y16.1, ())) fun y17 =>
    some (y17.1, ())
   else aB (dR (y4.2.1, y5.2.1, ())) fun y18 =>
   aB (aA (y4.1, y18.1, ())) fun y19 =>
   some (y19.1, ())
  else aB (bL (v0, ())) fun y20 =>
  aB (bL (v1, ())) fun y21 =>
  bif y20.1 then
   bif y21.1 then
    aB (dR (y20.2.1, y21.2.1, ())) fun y22 =>
    aB (aA (y20.1, y22.1, ())) fun y23 =>
    some (y23.1, ())
   else aB (cT (y20.2.1, y21.2.1, ())) fun y24 =>
   bif ltI y24.1 0 then
    aB (bU (y21.2.1, y20.2.1, ())) fun y25 =>
    aB (aA (y21.1, y25.1, ())) fun y26 =>
    some (y26.1, ())
   else aB (bU (y20.2.1, y21.2.1, ())) fun y27 =>
   aB (aA (y20.1, y27.1, ())) fun y28 =>
   some (y28.1, ())
  else bif y21.1 then
   aB (cT (y20.2.1, y21.2.1, ())) fun y29 =>
   bif ltI y29.1 0 then
    aB (bU (y21.2.1, y20.2.1, ())) fun y30 =>
    aB (aA (y21.1, y30.1, ())) fun y31 =>
    some (y31.1, ())
   else aB (bU (y20.2.1, y21.2.1, ())) fun y32 =>
   aB (aA (y20.1, y32.1, ())) fun y33 =>
   some (y33.1, ())
  else aB (dR (y20.2.1, y21.2.1, ())) fun y34 =>
  aB (aA (y20.1, y34.1, ())) fun y35 =>
  some (y35.1, ())
noncomputable def OA : Code := aT Tryz.f165
abbrev YU : Env := bI [G9, rL, HD, AK, xG, wP, oW]
theorem aCO : aZ Tryz.prog YU := aY ⟨IW, rV, I1, uY, vD, wG, mJ, trivial⟩
def VA (id : Nat) : Option aR := none
theorem XX : aF OA = [] := by kernel_rfl
theorem aB7 : ∀ x, bQ Tryz.prog YU Tryz.f165 (aC Tryz.f165) VA OA [.str, .str] [.str] x = wH x := by
 rintro ⟨v0, v1, ⟨⟩⟩
 kernel_rfl
theorem aIX : cO Tryz.prog 165 [.str, .str] [.str] wH := by
 exact bA aK aCO Tryz.func165 (c := OA) (by kernel_rfl) (aU := aC Tryz.f165) (lt := VA) (aE XX trivial) aB7
abbrev ZG : Ent := ⟨165, [.str, .str], [.str], wH⟩
theorem aCS : Ent.OK Tryz.prog ZG := aIX

/-! schisma/whole.Sub -/
def sU (x : aH [.str, .str]) : Option (aH [.str]) := match x with
 | (v0, v1, ()) =>
  aB (tC (v1, ())) fun y1 =>
  aB (wH (v0, y1.1, ())) fun y2 =>
  some (y2.1, ())
noncomputable def PO : Code := aT Tryz.f137
abbrev aAF : Env := bI [ZG, O2]
theorem aCE : aZ Tryz.prog aAF := aY ⟨aCS, NF, trivial⟩
def V9 (id : Nat) : Option aR := none
theorem Y9 : aF PO = [] := by kernel_rfl
theorem aB3 : ∀ x, bQ Tryz.prog aAF Tryz.f137 (aC Tryz.f137) V9 PO [.str, .str] [.str] x = sU x := by
 rintro ⟨v0, v1, ⟨⟩⟩
 kernel_rfl
theorem aIA : cO Tryz.prog 137 [.str, .str] [.str] sU := by
 exact bA aK aCE Tryz.func137 (c := PO) (by kernel_rfl) (aU := aC Tryz.f137) (lt := V9) (aE Y9 trivial) aB3
abbrev OS : Ent := ⟨137, [.str, .str], [.str], sU⟩
theorem NV : Ent.OK Tryz.prog OS := aIA

/-! schisma/whole.Mul -/
def tB (x : aH [.str, .str]) : Option (aH [.str]) := match x with
 | (v0, v1, ()) =>
  aB (gV (v0, 9, ())) fun y1 =>
  bif y1.2.1 then
   aB (gV (v1, 9, ())) fun y2 =>
   bif y2.2.1 then
    aB (gI ((aJ .i64 (y1.1 * y2.1)), ())) fun y3 =>
    some (y3.1, ())
   else aB (bL (v0, ())) fun y4 =>
   aB (bL (v1, ())) fun y5 =>
   bif y4.1 then
    bif y5.1 then
     aB (dL (y4.2.1, y5.2.1, ())) fun y6 =>
     aB (aA (false, y6.1, ())) fun y7 =>
     some (y7.1, ())
    else aB (dL (y4.2.1, y5.2.1, ())) fun y8 =>
    aB (aA (true, y8.1, ())) fun y9 =>
    some (y9.1, ())
   else bif y5.1 then
    aB (dL (y4.2.1, y5.2.1, ())) fun y10 =>
    aB (aA (true, y10.1, ())) fun y11 =>
    some (y11.1, ())
   else aB (dL (y4.2.1, y5.2.1, ())) fun y12 =>
   aB (aA (false, y12.1, ())) fun y13 =>
   some (y13.1, ())
  else aB (bL (v0, ())) fun y14 =>
  aB (bL (v1, ())) fun y15 =>
  bif y14.1 then
   bif y15.1 then
    aB (dL (y14.2.1, y15.2.1, ())) fun y16 =>
    aB (aA (false, y16.1, ())) fun y17 =>
    some (y17.1, ())
   else aB (dL (y14.2.1, y15.2.1, ())) fun y18 =>
   aB (aA (true, y18.1, ())) fun y19 =>
   some (y19.1, ())
  else bif y15.1 then
   aB (dL (y14.2.1, y15.2.1, ())) fun y20 =>
   aB (aA (true, y20.1, ())) fun y21 =>
   some (y21.1, ())
  else aB (dL (y14.2.1, y15.2.1, ())) fun y22 =>
  aB (aA (false, y22.1, ())) fun y23 =>
  some (y23.1, ())
noncomputable def PB : Code := aT Tryz.f138
abbrev Y4 : Env := bI [QG, AK, xG, wP, oW]
theorem aCB : aZ Tryz.prog Y4 := aY ⟨WY, uY, vD, wG, mJ, trivial⟩
def VO (id : Nat) : Option aR := none
theorem ZL : aF PB = [] := by kernel_rfl
theorem aCG : ∀ x, bQ Tryz.prog Y4 Tryz.f138 (aC Tryz.f138) VO PB [.str, .str] [.str] x = tB x := by
 rintro ⟨v0, v1, ⟨⟩⟩
 kernel_rfl
theorem aJB : cO Tryz.prog 138 [.str, .str] [.str] tB := by
 exact bA aK aCB Tryz.func138 (c := PB) (by kernel_rfl) (aU := aC Tryz.f138) (lt := VO) (aE ZL trivial) aCG
abbrev PJ : Ent := ⟨138, [.str, .str], [.str], tB⟩
theorem NP : Ent.OK Tryz.prog PJ := aJB

/-! schisma/whole.DivMod -/
def lA (x : aH [.str, .str]) : Option (aH [.str, .str, .int .i64]) := match x with
 | (v0, v1, ()) =>
  bif eqS v1 (ByteArray.mk #[48]) then
   some ((ByteArray.mk #[]), (ByteArray.mk #[]), 17, ())
  else aB (gV (v0, 18, ())) fun y1 =>
  bif y1.2.1 then
   aB (gV (v1, 18, ())) fun y2 =>
   bif y2.2.1 then
    bif eqI y2.1 0 then none else bif eqI y2.1 0 then none else bif !(eqI (y1.1.tmod y2.1) 0) then
     bif ltI (y1.1.tmod y2.1) 0 then
      bif ltI y2.1 0 then
       aB (gI ((aJ .i64 (y1.1.tdiv y2.1)), ())) fun y3 =>
       aB (gI ((y1.1.tmod y2.1), ())) fun y4 =>
       some (y3.1, y4.1, 0, ())
      else aB (gI ((aJ .i64 ((aJ .i64 (y1.1.tdiv y2.1)) - 1)), ())) fun y5 =>
      aB (gI ((aJ .i64 ((y1.1.tmod y2.1) + y2.1)), ())) fun y6 =>
      some (y5.1, y6.1, 0, ())
     else bif ltI y2.1 0 then
      aB (gI ((aJ .i64 ((aJ .i64 (y1.1.tdiv y2.1)) - 1)), ())) fun y7 =>
      aB (gI ((aJ .i64 ((y1.1.tmod y2.1) + y2.1)), ())) fun y8 =>
      some (y7.1, y8.1, 0, ())
     else aB (gI ((aJ .i64 (y1.1.tdiv y2.1)), ())) fun y9 =>
     aB (gI ((y1.1.tmod y2.1), ())) fun y10 =>
     some (y9.1, y10.1, 0, ())
    else aB (gI ((aJ .i64 (y1.1.tdiv y2.1)), ())) fun y11 =>
    aB (gI ((y1.1.tmod y2.1), ())) fun y12 =>
    some (y11.1, y12.1, 0, ())
   else aB (bL (v0, ())) fun y13 =>
   aB (bL (v1, ())) fun y14 =>
   aB (jH (y13.2.1, y14.2.1, ())) fun y15 =>
   bif !(eqI y15.2.2.1 0) then
    some ((ByteArray.mk #[]), (ByteArray.mk #[]), y15.2.2.1, ())
   else bif y13.1 then
    bif y14.1 then
     bif y13.1 then
      bif y14.1 then
       aB (aA (false, y15.1, ())) fun y16 =>
       aB (aA (y14.1, y15.2.1, ())) fun y17 =>
       some (y16.1, y17.1, 0, ())
      else aB (aA (true, y15.1, ())) fun y18 =>
      aB (aA (y14.1, y15.2.1, ())) fun y19 =>
      some (y18.1, y19.1, 0, ())
     else bif y14.1 then
      aB (aA (true, y15.1, ())) fun y20 =>
      aB (aA (y14.1, y15.2.1, ())) fun y21 =>
      some (y20.1, y21.1, 0, ())
     else aB (aA (false, y15.1, ())) fun y22 =>
     aB (aA (y14.1, y15.2.1, ())) fun y23 =>
     some (y22.1, y23.1, 0, ())
    else bif !(eqS y15.2.1 (ByteArray.mk #[48])) then
     aB (dR (y15.1, (ByteArray.mk #[49]), ())) fun y24 =>
     aB (bU (y14.2.1, y15.2.1, ())) fun y25 =>
     bif y13.1 then
      bif y14.1 then
       aB (aA (false, y24.1, ())) fun y26 =>
       aB (aA (y14.1, y25.1, ())) fun y27 =>
       some (y26.1, y27.1, 0, ())
      else aB (aA (true, y24.1, ())) fun y28 =>
      aB (aA (y14.1, y25.1, ())) fun y29 =>
      some (y28.1, y29.1, 0, ())
     else bif y14.1 then
      aB (aA (true, y24.1, ())) fun y30 =>
      aB (aA (y14.1, y25.1, ())) fun y31 =>
      some (y30.1, y31.1, 0, ())
     else aB (aA (false, y24.1, ())) fun y32 =>
     aB (aA (y14.1, y25.1, ())) fun y33 =>
     some (y32.1, y33.1, 0, ())
    else bif y13.1 then
     bif y14.1 then
      aB (aA (false, y15.1, ())) fun y34 =>
      aB (aA (y14.1, y15.2.1, ())) fun y35 =>
      some (y34.1, y35.1, 0, ())
     else aB (aA (true, y15.1, ())) fun y36 =>
     aB (aA (y14.1, y15.2.1, ())) fun y37 =>
     some (y36.1, y37.1, 0, ())
    else bif y14.1 then
     aB (aA (true, y15.1, ())) fun y38 =>
     aB (aA (y14.1, y15.2.1, ())) fun y39 =>
     some (y38.1, y39.1, 0, ())
    else aB (aA (false, y15.1, ())) fun y40 =>
    aB (aA (y14.1, y15.2.1, ())) fun y41 =>
    some (y40.1, y41.1, 0, ())
   else bif y14.1 then
    bif !(eqS y15.2.1 (ByteArray.mk #[48])) then
     aB (dR (y15.1, (ByteArray.mk #[49]), ())) fun y42 =>
     aB (bU (y14.2.1, y15.2.1, ())) fun y43 =>
     bif y13.1 then
      bif y14.1 then
       aB (aA (false, y42.1, ())) fun y44 =>
       aB (aA (y14.1, y43.1, ())) fun y45 =>
       some (y44.1, y45.1, 0, ())
      else aB (aA (true, y42.1, ())) fun y46 =>
      aB (aA (y14.1, y43.1, ())) fun y47 =>
      some (y46.1, y47.1, 0, ())
     else bif y14.1 then
      aB (aA (true, y42.1, ())) fun y48 =>
      aB (aA (y14.1, y43.1, ())) fun y49 =>
      some (y48.1, y49.1, 0, ())
     else aB (aA (false, y42.1, ())) fun y50 =>
     aB (aA (y14.1, y43.1, ())) fun y51 =>
     some (y50.1, y51.1, 0, ())
    else bif y13.1 then
     bif y14.1 then
      aB (aA (false, y15.1, ())) fun y52 =>
      aB (aA (y14.1, y15.2.1, ())) fun y53 =>
      some (y52.1, y53.1, 0, ())
     else aB (aA (true, y15.1, ())) fun y54 =>
     aB (aA (y14.1, y15.2.1, ())) fun y55 =>
     some (y54.1, y55.1, 0, ())
    else bif y14.1 then
     aB (aA (true, y15.1, ())) fun y56 =>
     aB (aA (y14.1, y15.2.1, ())) fun y57 =>
     some (y56.1, y57.1, 0, ())
    else aB (aA (false, y15.1, ())) fun y58 =>
    aB (aA (y14.1, y15.2.1, ())) fun y59 =>
    some (y58.1, y59.1, 0, ())
   else bif y13.1 then
    bif y14.1 then
     aB (aA (false, y15.1, ())) fun y60 =>
     aB (aA (y14.1, y15.2.1, ())) fun y61 =>
     some (y60.1, y61.1, 0, ())
    else aB (aA (true, y15.1, ())) fun y62 =>
    aB (aA (y14.1, y15.2.1, ())) fun y63 =>
    some (y62.1, y63.1, 0, ())
   else bif y14.1 then
    aB (aA (true, y15.1, ())) fun y64 =>
    aB (aA (y14.1, y15.2.1, ())) fun y65 =>
    some (y64.1, y65.1, 0, ())
   else aB (aA (false, y15.1, ())) fun y66 =>
   aB (aA (y14.1, y15.2.1, ())) fun y67 =>
   some (y66.1, y67.1, 0, ())
  else aB (bL (v0, ())) fun y68 =>
  aB (bL (v1, ())) fun y69 =>
  aB (jH (y68.2.1, y69.2.1, ())) fun y70 =>
  bif !(eqI y70.2.2.1 0) then
   some ((ByteArray.mk #[]), (ByteArray.mk #[]), y70.2.2.1, ())
  else bif y68.1 then
   bif y69.1 then
    bif y68.1 then
     bif y69.1 then
      aB (aA (false, y70.1, ())) fun y71 =>
      aB (aA (y69.1, y70.2.1, ())) fun y72 =>
      some (y71.1, y72.1, 0, ())
     else aB (aA (true, y70.1, ())) fun y73 =>
     aB (aA (y69.1, y70.2.1, ())) fun y74 =>
     some (y73.1, y74.1, 0, ())
    else bif y69.1 then
     aB (aA (true, y70.1, ())) fun y75 =>
     aB (aA (y69.1, y70.2.1, ())) fun y76 =>
     some (y75.1, y76.1, 0, ())
    else aB (aA (false, y70.1, ())) fun y77 =>
    aB (aA (y69.1, y70.2.1, ())) fun y78 =>
    some (y77.1, y78.1, 0, ())
   else bif !(eqS y70.2.1 (ByteArray.mk #[48])) then
    aB (dR (y70.1, (ByteArray.mk #[49]), ())) fun y79 =>
    aB (bU (y69.2.1, y70.2.1, ())) fun y80 =>
    bif y68.1 then
     bif y69.1 then
      aB (aA (false, y79.1, ())) fun y81 =>
      aB (aA (y69.1, y80.1, ())) fun y82 =>
      some (y81.1, y82.1, 0, ())
     else aB (aA (true, y79.1, ())) fun y83 =>
     aB (aA (y69.1, y80.1, ())) fun y84 =>
     some (y83.1, y84.1, 0, ())
    else bif y69.1 then
     aB (aA (true, y79.1, ())) fun y85 =>
     aB (aA (y69.1, y80.1, ())) fun y86 =>
     some (y85.1, y86.1, 0, ())
    else aB (aA (false, y79.1, ())) fun y87 =>
    aB (aA (y69.1, y80.1, ())) fun y88 =>
    some (y87.1, y88.1, 0, ())
   else bif y68.1 then
    bif y69.1 then
     aB (aA (false, y70.1, ())) fun y89 =>
     aB (aA (y69.1, y70.2.1, ())) fun y90 =>
     some (y89.1, y90.1, 0, ())
    else aB (aA (true, y70.1, ())) fun y91 =>
    aB (aA (y69.1, y70.2.1, ())) fun y92 =>
    some (y91.1, y92.1, 0, ())
   else bif y69.1 then
    aB (aA (true, y70.1, ())) fun y93 =>
    aB (aA (y69.1, y70.2.1, ())) fun y94 =>
    some (y93.1, y94.1, 0, ())
   else aB (aA (false, y70.1, ())) fun y95 =>
   aB (aA (y69.1, y70.2.1, ())) fun y96 =>
   some (y95.1, y96.1, 0, ())
  else bif y69.1 then
   bif !(eqS y70.2.1 (ByteArray.mk #[48])) then
    aB (dR (y70.1, (ByteArray.mk #[49]), ())) fun y97 =>
    aB (bU (y69.2.1, y70.2.1, ())) fun y98 =>
    bif y68.1 then
     bif y69.1 then
      aB (aA (false, y97.1, ())) fun y99 =>
      aB (aA (y69.1, y98.1, ())) fun y100 =>
      some (y99.1, y100.1, 0, ())
     else aB (aA (true, y97.1, ())) fun y101 =>
     aB (aA (y69.1, y98.1, ())) fun y102 =>
     some (y101.1, y102.1, 0, ())
    else bif y69.1 then
     aB (aA (true, y97.1, ())) fun y103 =>
     aB (aA (y69.1, y98.1, ())) fun y104 =>
     some (y103.1, y104.1, 0, ())
    else aB (aA (false, y97.1, ())) fun y105 =>
    aB (aA (y69.1, y98.1, ())) fun y106 =>
    some (y105.1, y106.1, 0, ())
   else bif y68.1 then
    bif y69.1 then
     aB (aA (false, y70.1, ())) fun y107 =>
     aB (aA (y69.1, y70.2.1, ())) fun y108 =>
     some (y107.1, y108.1, 0, ())
    else aB (aA (true, y70.1, ())) fun y109 =>
    aB (aA (y69.1, y70.2.1, ())) fun y110 =>
    some (y109.1, y110.1, 0, ())
   else bif y69.1 then
    aB (aA (true, y70.1, ())) fun y111 =>
    aB (aA (y69.1, y70.2.1, ())) fun y112 =>
    some (y111.1, y112.1, 0, ())
   else aB (aA (false, y70.1, ())) fun y113 =>
   aB (aA (y69.1, y70.2.1, ())) fun y114 =>
   some (y113.1, y114.1, 0, ())
  else bif y68.1 then
   bif y69.1 then
    aB (aA (false, y70.1, ())) fun y115 =>
    aB (aA (y69.1, y70.2.1, ())) fun y116 =>
    some (y115.1, y116.1, 0, ())
   else aB (aA (true, y70.1, ())) fun y117 =>
   aB (aA (y69.1, y70.2.1, ())) fun y118 =>
   some (y117.1, y118.1, 0, ())
  else bif y69.1 then
   aB (aA (true, y70.1, ())) fun y119 =>
   aB (aA (y69.1, y70.2.1, ())) fun y120 =>
   some (y119.1, y120.1, 0, ())
  else aB (aA (false, y70.1, ())) fun y121 =>
  aB (aA (y69.1, y70.2.1, ())) fun y122 =>
  some (y121.1, y122.1, 0, ())
noncomputable def DU : Code := aT Tryz.f103
abbrev NS : Env := bI [G9, IU, HD, AK, xG, wP, oW]
theorem TN : aZ Tryz.prog NS := aY ⟨IW, OR, I1, uY, vD, wG, mJ, trivial⟩
def J3 (id : Nat) : Option aR := none
theorem Q9 : aF DU = [] := by kernel_rfl
theorem SQ : ∀ x, bQ Tryz.prog NS Tryz.f103 (aC Tryz.f103) J3 DU [.str, .str] [.str, .str, .int .i64] x = lA x := by
 rintro ⟨v0, v1, ⟨⟩⟩
 kernel_rfl
theorem Y8 : cO Tryz.prog 103 [.str, .str] [.str, .str, .int .i64] lA := by
 exact bA aK TN Tryz.func103 (c := DU) (by kernel_rfl) (aU := aC Tryz.f103) (lt := J3) (aE Q9 trivial) SQ
abbrev EA : Ent := ⟨103, [.str, .str], [.str, .str, .int .i64], lA⟩
theorem E6 : Ent.OK Tryz.prog EA := Y8
end Go.PM
set_option linter.unusedSimpArgs false
set_option linter.unusedVariables false
namespace Go.PM
open Go Go.RowKit
section
variable {P : Program} {n0 : Nat → Prop} {w w' : World} {G G' : Gd} {μ μ1 : Mp} {H H1 : Heap}
theorem aHQ (hW : aW n0 G μ H w) {r : Nat} (hr : H[r]? = some none) (k : Blk) (hf : k.frozen = false) (hg : k.grown = true)
  (hblk : ∀ b, μ.loc r = some b → (∃ c, w.heap[b]? = some (.cells c k.ty (0, 0)) ∧ aQ w G μ b 0 k.cells) ∧ n0 b ∧ ¬ G b ∧ (∀ s k1, H[s]? = some (some k1) → k1.frozen = false → μ.loc s ≠ some b) ∧ ∀ j, G.row j ≠ some b)
  (htag : ∀ g, k.tag = some g → k.cells = aO g.t g.l ∧ μ.len r = some g.l.length) : aW n0 G μ (H.set r (some k)) w := by
 have hlt : r < H.length := (List.getElem?_eq_some_iff.1 hr).1
 have key : ∀ s k1, (H.set r (some k))[s]? = some (some k1) → (s = r ∧ k1 = k) ∨ (s ≠ r ∧ H[s]? = some (some k1)) := by
  intro s k1 hs
  by_cases e : r = s
  ·subst e
   rw [List.getElem?_set_self hlt] at hs
   exact .inl ⟨rfl, (Option.some.inj (Option.some.inj hs)).symm⟩
  ·rw [List.getElem?_set_ne e] at hs
   exact .inr ⟨Ne.symm e, hs⟩
 refine ⟨?_, ?_, ?_, hW.lt, fun s hs => hW.top s (by simpa using hs), hW.base, ?_⟩
 ·intro s k1 b hs hb
  rcases key s k1 hs with ⟨rfl, rfl⟩ | ⟨_, hs⟩
  ·obtain ⟨⟨c, h1, h2⟩, h3, h4, _⟩ := hblk b hb
   exact ⟨c, h1, h2, fun h => (by rw [hg] at h; cases h), fun h => (by rw [hf] at h; cases h), fun _ => ⟨h3, h4⟩⟩
  ·exact hW.blk s k1 b hs hb
 ·intro s k1 g hs h1
  rcases key s k1 hs with ⟨rfl, rfl⟩ | ⟨_, hs⟩
  ·exact htag g h1
  ·exact hW.tags s k1 g hs h1
 ·intro s1 s2 k1 k2 b h1 h2 f1 f2 m1 m2
  rcases key s1 k1 h1 with ⟨rfl, rfl⟩ | ⟨_, h3⟩
  ·rcases key s2 k2 h2 with ⟨rfl, rfl⟩ | ⟨_, h4⟩
   ·rfl
   ·exact absurd m2 ((hblk b m1).2.2.2.1 s2 k2 h4 f2)
  ·rcases key s2 k2 h2 with ⟨rfl, rfl⟩ | ⟨_, h4⟩
   ·exact absurd m1 ((hblk b m2).2.2.2.1 s1 k1 h3 f1)
   ·exact hW.inj s1 s2 k1 k2 b h3 h4 f1 f2 m1 m2
 ·refine ⟨hW.rows.inj, ?_, hW.rows.cel, ?_, ?_⟩
  ·intro j b hj
   obtain ⟨a1, a2, a3, a4⟩ := hW.rows.sep j b hj
   refine ⟨a1, a2, a3, fun s k1 hs f1 m1 => ?_⟩
   rcases key s k1 hs with ⟨rfl, rfl⟩ | ⟨_, hs⟩
   ·exact (hblk b m1).2.2.2.2 j hj
   ·exact a4 s k1 hs f1 m1
  ·intro s k1 t l hs h1 h2
   rcases key s k1 hs with ⟨rfl, rfl⟩ | ⟨_, hs⟩
   ·rw [hg] at h1; cases h1
   ·exact hW.rows.arn s k1 t l hs h1 h2
  ·intro s1 s2 k1 k2 t l t' l' h1 g1 t1 h2 g2 t2
   rcases key s1 k1 h1 with ⟨rfl, rfl⟩ | ⟨_, h1⟩
   ·rw [hg] at g1; cases g1
   ·rcases key s2 k2 h2 with ⟨rfl, rfl⟩ | ⟨_, h2⟩
    ·rw [hg] at g2; cases g2
    ·exact hW.rows.one s1 s2 k1 k2 t l t' l' h1 g1 t1 h2 g2 t2

def aUP (P : Program) (g : FuncId) (e : TypeId) (t : Ty) (args : List Kd) (f : List t.den → aH args → Option (List t.den)) : Prop :=
 ∀ l x l', f l x = some l' → ∀ {n0 G μ H w us r}, aW n0 G μ H w → H[r]? = some (some (owB e t l)) → VRs w G μ (.own r t.size :: iE args x) us → dM.noRows (iE args x) = true → o6 P n0 w G μ g us.toArray (.tuple []) (H.set r (some (owB e t l')))
def aMF {t : Ty} {args : List Kd} (f : Unit → aH (.hnd t.size :: args) → List (List t.den) → Option (aH [] × List (List t.den))) (l : List t.den) (x : aH args) : Option (List t.den) := match f () ((0, 0, l.length), x) [l] with
 | some ((), [l']) => bif Nat.beq l'.length l.length then some l' else none
 | _ => none
theorem aP9 {g : FuncId} {e : TypeId} {t : Ty} {args : List Kd} {f : Unit → aH (.hnd t.size :: args) → List (List t.den) → Option (aH [] × List (List t.den))} (hf : ZB P g e t .none (.hnd t.size :: args) (.data []) f) (hd : FV args = true) (hpl : t.plain = true) : aUP P g e t args (aMF f) := by
 intro l x l' hy n0 G μ H w us r hW hk hv hnr
 unfold aMF at hy
 split at hy
 ·rename_i l1 hfl
  obtain ⟨hlen, hy⟩ := aI hy
  obtain rfl := Option.some.inj hy
  have hlen := Nat.eq_of_beq_eq_true hlen
  have ht2 := (hW.tags r _ _ hk rfl).2
  have hlt : r < H.length := (List.getElem?_eq_some_iff.1 hk).1
  obtain ⟨rb, hrb⟩ : ∃ rb : Option Nat, rb = if l = [] then none else μ.loc r := ⟨_, rfl⟩
  have hrbl : ∀ b, rb = some b → μ.loc r = some b ∧ l ≠ [] := fun b hb => by
   rw [hrb] at hb
   split at hb
   ·cases hb
   ·rename_i hne; exact ⟨hb, hne⟩
  have hmine : ∀ b, μ.loc r = some b → n0 b ∧ ¬ G b := fun b hb => by
   obtain ⟨_, _, _, _, _, h6⟩ := hW.blk r _ b hk hb
   exact h6 rfl
  have hrow : ∀ j b, G.row j = some b → μ.loc r ≠ some b := fun j b hj => (hW.rows.sep j b hj).2.2.2 r _ hk rfl
  obtain ⟨u, us', rfl, q1, q2⟩ : ∃ u us', us = u :: us' ∧ VR w G μ (.own r t.size) u ∧ VRs w G μ (iE args x) us' := by
   rw [VRs] at hv; exact hv
  have at0 : ∀ (s : Nat) (k1 : Blk), ([some (arB e t [l])] : Heap)[s]? = some (some k1) → s = 0 ∧ k1 = arB e t [l] := by
   intro s k1 hs
   cases s with
   | zero => simp only [List.getElem?_cons_zero, Option.some.injEq] at hs; exact ⟨rfl, hs.symm⟩
   | succ s => simp at hs
  have hG0 : ∃ G0 : Gd, G0 = ⟨G.ok, fun j => if j = 0 then rb else none⟩ := ⟨_, rfl⟩
  obtain ⟨G0, hG0⟩ := hG0
  have hok : G0.ok = G.ok := by rw [hG0]
  have hr0 : ∀ j b, G0.row j = some b → j = 0 ∧ rb = some b := fun j b hj => by
   rw [hG0] at hj
   dsimp only at hj
   split at hj
   ·exact ⟨‹_›, hj⟩
   ·cases hj
  have hW1 : aW (fun b => w.heap.size ≤ b ∨ rb = some b) G0 ⟨fun _ => none, fun s => if s = 0 then some 1 else none⟩ [some (arB e t [l])] w := by
   refine ⟨fun s k1 b hs hb => (by cases hb), ?_, fun s1 s2 k1 k2 b _ _ _ _ m => (by cases m), by rw [hok]; exact hW.lt, ?_, fun b hb => .inl hb, ?_⟩
   ·intro s k1 gg hs hg
    obtain ⟨rfl, rfl⟩ := at0 s k1 hs
    cases hg
    exact ⟨rfl, rfl⟩
   ·intro s hs
    have : s ≠ 0 := by rintro rfl; simp at hs
    exact ⟨rfl, by simp [this]⟩
   ·refine ⟨fun i j b h1 h2 => (hr0 i b h1).1.trans (hr0 j b h2).1.symm, fun j b hj => ?_, fun j b hj => ?_, fun s k1 t1 l1 hs h1 h2 => ?_, fun s1 s2 k1 k2 t1 l1 t2 l2 h1 _ _ h2 _ _ => ((at0 s1 k1 h1).1.trans (at0 s2 k2 h2).1.symm)⟩
    ·obtain ⟨_, h2⟩ := hr0 j b hj
     exact ⟨hW.j5 hk (hrbl b h2).1, .inr h2, by rw [hok]; exact (hmine b (hrbl b h2).1).2, fun _ _ _ _ h => by cases h⟩
    ·obtain ⟨_, h2⟩ := hr0 j b hj
     obtain ⟨c, h3, _⟩ := hW.blk r _ b hk (hrbl b h2).1
     exact ⟨c, _, _, h3⟩
    ·obtain ⟨rfl, rfl⟩ := at0 s k1 hs
     cases h2
     refine ⟨rfl, fun j hj => ?_, fun j row hj => ?_⟩
     ·rw [hG0]
      have : j ≠ 0 := by rintro rfl; simp at hj
      simp [this]
     ·cases j with
      | zero =>
       simp only [List.getElem?_cons_zero, Option.some.injEq] at hj
       subst hj
       by_cases hl : l = []
       ·exact .inl hl
       ·right
        rw [VR] at q1
        obtain ⟨n, z1, z2⟩ := q1
        rw [ht2] at z1
        obtain rfl := Option.some.inj z1
        rcases z2 with ⟨z2, _⟩ | ⟨b, c, z2, _⟩
        ·exact absurd (List.eq_nil_of_length_eq_zero z2) hl
        ·obtain ⟨cc, a1, a2, _⟩ := hW.blk r _ b hk z2
         refine ⟨b, cc, by rw [hG0, hrb]; simp [hl, z2], a1, ?_⟩
         exact mO (G := G) (G' := G0) (fun b h => by rw [hok]; exact h) _ _ _ _ (pH t hpl l) (kD (fJ _ _) a2)
      | succ j => simp at hj
  have hv1 : VRs w G0 ⟨fun _ => none, fun s => if s = 0 then some 1 else none⟩ (Tk.none.pv 0 ++ iE (.hnd t.size :: args) ((0, 0, l.length), x)) (u :: us') := by
   change VRs w G0 _ (.row 0 0 l.length t.size :: iE args x) (u :: us')
   rw [VRs]
   refine ⟨u, us', rfl, ?_, VRs.bF (mI (G := G) (G' := G0) (fun b h => by rw [hok]; exact h) _ _ _ hnr (cM _ _ (AB args x hd) q2))⟩
   rw [VR] at q1
   rw [VR]
   obtain ⟨n, z1, z2⟩ := q1
   rw [ht2] at z1
   obtain rfl := Option.some.inj z1
   rcases z2 with ⟨z2, ao, rfl⟩ | ⟨b, c, z2, rfl, z3, z4⟩
   ·exact ⟨ao, 0, by rw [show l.length = 0 from z2], by rw [show l.length = 0 from z2]; exact Nat.le_refl _, .inl z2⟩
   ·refine ⟨_, c, rfl, z3, ?_⟩
    by_cases hl : l = []
    ·exact .inl (by rw [hl]; rfl)
    ·exact .inr ⟨b, by rw [hG0, hrb]; simp [hl, z2], by simp, by simpa using z4⟩
  obtain ⟨c1, c2⟩ := hf () ((0, 0, l.length), x) [l] () [l1] hfl (ra := 0) (r := 0) hW1 rfl ⟨fun _ _ h => by cases h⟩ hv1
  refine ⟨c1, c2.mono ?_⟩
  rintro e' w' ⟨v', G1, μ1, rfl, ee, hW', hvv⟩
  have hb1 : ∀ b, rb = some b → G1.row 0 = some b := fun b hb => ee.row 0 b (by rw [hG0]; simp [hb])
  have hH1 : (((DC (Tk.none.ow () 0) [some (arB e t [l])]).set 0 none) ++ (some (arB e t [l1]) :: (An.data []).hp ()) : Heap)[1]? = some (some (arB e t [l1])) := rfl
  have hn0 : ∀ b, b < w.heap.size → ¬ n0 b → w'.heap[b]? = w.heap[b]? := fun b hb hn => ee.old b hb (by
   rintro (h | h)
   ·exact Nat.not_le.2 hb h
   ·exact hn (hmine b (hrbl b h).1).1)
  have hgg : ∀ b, G b → G0 b := fun b hb => by rw [hok]; exact hb
  have e2 : Ext n0 w G μ w' (G1.with G) μ := {
   good := fun b hb => ⟨(ee.good b (hgg b hb)).1, (ee.good b (hgg b hb)).2⟩
   map := fun _ _ h => h
   len := fun _ _ h => h
   room := ee.room
   row := fun _ _ h => h
   os := ee.os
   tape := ee.tape
   output := ee.output
   size := ee.size
   drawn := ee.drawn
   old := hn0
   new := fun b hb => by
    rcases ee.new b hb with h | h | h
    ·rw [hok] at h; exact .inl h
    ·exact .inr (hW.base b h)
    ·exact .inr (hmine b (hrbl b h).1).1 }
  have hold : ∀ b, b < w.heap.size → rb ≠ some b → w'.heap[b]? = w.heap[b]? ∧ (G1 b → G b) := fun b hb hne =>
   ⟨ee.old b hb (by rintro (h | h); exact Nat.not_le.2 hb h; exact hne h), fun hg => by
    rcases ee.new b hg with h | h | h
    ·rw [hok] at h; exact h
    ·exact absurd hb (Nat.not_lt.2 h)
    ·exact absurd h hne⟩
  have hk2 : aW n0 (G1.with G) μ (H.set r none) w' := by
   refine (tN hW r).aU e2 ⟨fun _ => rfl, fun j b hj => hold b (hW.rows.sep j b hj).1 fun h => hrow j b hj (hrbl b h).1⟩ ?_ (fun b hb => hW'.lt b hb)
   intro s k1 b hs hb
   obtain ⟨hs, hsr⟩ := lP hs
   refine hold b (hW.j5 hs hb) fun h => ?_
   have hrb := (hrbl b h).1
   cases hf : k1.frozen with
   | false => exact hsr (hW.inj s r k1 _ b hs hk hf rfl hb hrb)
   | true =>
    obtain ⟨_, _, _, _, h5, _⟩ := hW.blk s k1 b hs hb
    exact (hmine b hrb).2 (h5 hf)
  have hfin : aW n0 (G1.with G) μ (H.set r (some (owB e t l1))) w' := by
   have := aHQ hk2 (r := r) (List.getElem?_set_self hlt) (owB e t l1) rfl rfl ?_ ?_
   ·rwa [List.set_set] at this
   ·intro b hb
    have hcells : (∃ c, w'.heap[b]? = some (.cells c e (0, 0)) ∧ aQ w' (G1.with G) μ b 0 (aO t l1)) ∧ ¬ G1 b := by
     by_cases hl : l = []
     ·have hl1 : l1 = [] := List.eq_nil_of_length_eq_zero (by rw [hlen, hl]; rfl)
      have hne : rb ≠ some b := fun h => (hrbl b h).2 hl
      obtain ⟨o1, o2⟩ := hold b (hW.j5 hk hb) hne
      obtain ⟨c, h3, _⟩ := hW.blk r _ b hk hb
      refine ⟨⟨c, o1.trans h3, ?_⟩, fun h => (hmine b hb).2 (o2 h)⟩
      rw [hl1]; simp [aO, aQ]
     ·have hbb : rb = some b := by rw [hrb, if_neg hl]; exact hb
      have hrow1 := hb1 b hbb
      obtain ⟨_, _, a3⟩ := hW'.rows.arn 1 _ t [l1] hH1 rfl rfl
      rcases a3 0 l1 rfl with h | ⟨b', c, z1, z2, z3⟩
      ·exact absurd (List.eq_nil_of_length_eq_zero (by rw [← hlen, h]; rfl)) hl
      ·rw [hrow1] at z1
       obtain rfl := Option.some.inj z1
       refine ⟨⟨c, z2, ?_⟩, (hW'.rows.sep 0 b hrow1).2.2.1⟩
       exact mO (G := G1) (G' := G1.with G) (fun b h => h) _ _ _ _ (pH t hpl l1) (kD (fJ _ _) z3)
    refine ⟨hcells.1, (hmine b hb).1, hcells.2, fun s k1 hs hf hsb => ?_, fun j hj => hrow j b hj hb⟩
    obtain ⟨hs, hsr⟩ := lP hs
    exact hsr (hW.inj s r k1 _ b hs hk hf rfl hsb hb)
   ·intro g hg
    cases hg
    exact ⟨rfl, by rw [ht2, hlen]⟩
  refine ⟨v', G1.with G, μ, rfl, e2, hfin, ?_⟩
  have hvv : VR w' G1 μ1 (.tuple []) v' := hvv
  rw [VR] at hvv ⊢
  obtain ⟨vs, h1, h2⟩ := hvv
  rw [VRs] at h2
  exact ⟨vs, h1, by rw [VRs]; exact h2⟩
 ·cases hy
def aXE (e : TypeId) (t : Ty) (args : List Kd) (f : List t.den → aH args → Option (List t.den)) (qs : List PV) (H : Heap) : Option aKL := match aHX e t H qs with
 | some (l, r, ps) => match aFK args ps with
  | some x => bif cZ.noRefs ps && dM.noRows (iE args x) then some ⟨List t.den, f l x, fun l' => (.tuple [], H.set r (some (owB e t l')))⟩ else none
  | none => none
 | none => none
theorem aWJ {g : FuncId} {e : TypeId} {t : Ty} {args : List Kd} {f : List t.den → aH args → Option (List t.den)} (hf : aUP P g e t args f) : I8 P (g, aXE e t args f) := by
 intro qs H rh h y hy n0 G μ w vs hW hv
 change aXE e t args f qs H = some rh at h
 show o6 P n0 w G μ g vs.toArray (rh.out y).1 (rh.out y).2
 unfold aXE at h
 split at h
 ·rename_i l r ps hl
  split at h
  ·rename_i x hx
   obtain ⟨hb, h⟩ := aDO h
   simp only [Option.some.injEq] at h
   subst h
   simp only [Bool.and_eq_true] at hb
   obtain ⟨h0, rfl⟩ := VG hW hl
   rw [VRs] at hv
   obtain ⟨u, us, rfl, q1, q2⟩ := hv
   exact hf l x y hy hW h0 (by rw [VRs]; exact ⟨u, us, rfl, q1, (xN args hx (cM _ _ hb.1 q2)).bF⟩) hb.2
  ·cases h
 ·cases h
end
end Go.PM
set_option linter.unusedSimpArgs false
set_option linter.unusedVariables false
namespace Go.PM
open Go Go.RowKit Go.Proofs
set_option maxRecDepth 100000
set_option maxHeartbeats 4000000
/-! schisma/lattice.longOf -/
abbrev jC : List (Nat × Kd) := [(3, .own 144 .str), (9, .list TyE), (10, .int .i64), (11, .int .i64)]
abbrev kR : List (Ex × List (Nat × Kd)) := [(.exit 0, [(3, .own 144 .str)])]
def jU (x : Shape.den jC) : Option (Shape.den jC ⊕ aV kR) := match x with
 | (v3, v9, v10, v11, ()) =>
  bif ltI v11 v10 then
   bif aP v11 v9.length then aB (gI ((v9.getD v11.toNat 0), ())) fun y2 =>
   bif Nat.ble [y2.1].length 1048576 then bif Nat.ble v3.length 1048576 then some (.inl ((v3 ++ [y2.1]), v9, v10, (aJ .i64 (v11 + 1)), ())) else none else none else none
  else some (.inr ((v3, ())))
def l5 (x : Shape.den jC) : Option (aV kR) := bS jU (2 ^ 64) x
def jW (x : aH [.list TyE]) : Option (List ByteArray) := match x with
 | (v0, ()) =>
  bif !(ltI (v0.length : Int) 0) then bif !(ltI 1048576 (v0.length : Int)) then aB (l5 ((List.replicate 0 ByteArray.empty), v0, (v0.length : Int), 0, ())) fun z3 =>
  some z3.1 else none else none
noncomputable def rG : Code := aT Tryz.f100
abbrev wC : Env := bI [AK]
theorem yZ : aZ Tryz.prog wC := aY ⟨uY, trivial⟩
noncomputable def lI : Code := eD rG 0
def vE (id : Nat) : Option aR := bif Nat.beq id 3 then some ⟨jC, kR, l5⟩ else none
theorem GX : ∀ x, dZ Tryz.prog wC 22 (aC Tryz.f100) vE lI jC kR x = jU x := by
 rintro ⟨v3, v9, v10, v11, ⟨⟩⟩
 kernel_rfl
theorem MX : aF lI = [] := by kernel_rfl
theorem G6 : aG lI = 3 := by kernel_rfl
theorem JN : cL Tryz.prog 22 lI ⟨jC, kR, l5⟩ := by
 exact cS yZ.callee aK.mixed _ (aE MX trivial) GX
theorem JW : aF rG = [lI] := by kernel_rfl
theorem MK : ∀ x, aNG Tryz.prog wC Tryz.f100 (aC Tryz.f100) vE rG [.list TyE] 2 144 .str x = jW x := by
 rintro ⟨v0, ⟨⟩⟩
 kernel_rfl
theorem Q5 : aNX Tryz.prog 100 [.list TyE] 144 .str jW := by
 exact aM5 aK yZ Tryz.func100 (c := rG) (by kernel_rfl) (aU := aC Tryz.f100) (lt := vE) (t := 2) (by kernel_rfl) (aE JW ⟨cR G6 rfl JN, trivial⟩) MK
abbrev vT : Shr := (100, aW1 [.list TyE] 144 .str jW)
theorem zD : I8 Tryz.prog vT := aNI Q5

/-! (schisma/lattice.long).less -/
abbrev fS : List (Nat × Kd) := [(0, .hnd 1), (1, .str), (10, .hnd 1), (11, .int .i64), (12, .int .i64), (100000, .ar 144 .str)]
abbrev iC : List (Ex × List (Nat × Kd)) := [(.exit 0, [(100000, .ar 144 .str)])]
def gM (x : Shape.den fS) : Option (Shape.den fS ⊕ aV iC) := match x with
 | (v0, v1, v10, v11, v12, v100000, ()) =>
  bif ltI v12 v11 then
   bif aP v12 v10.2.2 then bif Nat.blt ((v10.2.1 + v12.toNat) * 1) (eS v100000 v10.1) then bif aP v12 v0.2.2 then bif Nat.blt ((v0.2.1 + v12.toNat) * 1) (eS v100000 v0.1) then aB (tB (v1, (gA v100000 v10.1 ((v10.2.1 + v12.toNat) * 1) ByteArray.empty), ())) fun y3 =>
   aB (sU ((gA v100000 v0.1 ((v0.2.1 + v12.toNat) * 1) ByteArray.empty), y3.1, ())) fun y4 =>
   bif aP v12 v0.2.2 then bif Nat.blt ((v0.2.1 + v12.toNat) * 1) (eS v100000 v0.1) then some (.inl ((v0.1, v0.2.1, v0.2.2), v1, (v10.1, v10.2.1, v10.2.2), v11, (aJ .i64 (v12 + 1)), (vU v100000 v0.1 ((v0.2.1 + v12.toNat) * 1) y4.1), ())) else none else none else none else none else none else none
  else some (.inr ((v100000, ())))
def jO (x : Shape.den fS) : Option (aV iC) := bS gM (2 ^ 64) x
def eT (u0 : Unit) (x : aH [.hnd 1, .str, .hnd 1]) (A : List (List ByteArray)) : Option ((aH []) × List (List ByteArray)) := match x with
 | (v0, v1, v2, ()) =>
  bif eqS v1 (ByteArray.mk #[48]) then
   some ((()), A)
  else aB (jO ((v0.1, v0.2.1, v0.2.2), v1, (v2.1, v2.2.1, v2.2.2), ((v2.2.2 : Nat) : Int), 0, A, ())) fun z5 =>
  some ((()), z5.1)
noncomputable def mW : Code := aT Tryz.f104
abbrev qN : Env := bI [PJ, OS]
theorem tT : aZ Tryz.prog qN := aY ⟨NP, NV, trivial⟩
noncomputable def iS : Code := eD mW 0
def p7 (id : Nat) : Option aR := bif Nat.beq id 2 then some ⟨fS, iC, jO⟩ else none
theorem CR : ∀ x, dZ Tryz.prog qN 29 (aC Tryz.f104) p7 iS fS iC x = gM x := by
 rintro ⟨v0, v1, v10, v11, v12, v100000, ⟨⟩⟩
 kernel_rfl
theorem EZ : aF iS = [] := by kernel_rfl
theorem A5 : aG iS = 2 := by kernel_rfl
theorem CU : cL Tryz.prog 29 iS ⟨fS, iC, jO⟩ := by
 exact cS tT.callee aK.mixed _ (aE EZ trivial) CR
theorem EP : aF mW = [iS] := by kernel_rfl
theorem FG : ∀ l x A, U6 Tryz.prog qN Tryz.f104 (aC Tryz.f104) p7 mW 144 .str .none [.hnd 1, .str, .hnd 1] (.data []) l x A = eT l x A := by
 rintro u0 ⟨v0, v1, v2, ⟨⟩⟩ A
 kernel_rfl
theorem JL : ZB Tryz.prog 104 144 .str .none [.hnd 1, .str, .hnd 1] (.data []) eT := by
 exact T7 aK tT Tryz.func104 (c := mW) (by kernel_rfl) (aU := aC Tryz.f104) (lt := p7) (by rfl) (aE EP ⟨cR A5 rfl CU, trivial⟩) FG
abbrev wW : Shr := (104, arH 144 .str .none [.hnd 1, .str, .hnd 1] (.data []) eT)
theorem FQ : I8 Tryz.prog wW := UQ JL

/-! (schisma/lattice.long).less -/
abbrev fT : List (Nat × Kd) := [(0, .hnd 1), (1, .str), (10, .list .str), (11, .int .i64), (12, .int .i64), (100000, .ar 144 .str)]
abbrev iB : List (Ex × List (Nat × Kd)) := [(.exit 0, [(100000, .ar 144 .str)])]
def eX (x : Shape.den fT) : Option (Shape.den fT ⊕ aV iB) := match x with
 | (v0, v1, v10, v11, v12, v100000, ()) =>
  bif ltI v12 v11 then
   bif aP v12 v10.length then bif aP v12 v0.2.2 then bif Nat.blt ((v0.2.1 + v12.toNat) * 1) (eS v100000 v0.1) then aB (tB (v1, (v10.getD v12.toNat ByteArray.empty), ())) fun y3 =>
   aB (sU ((gA v100000 v0.1 ((v0.2.1 + v12.toNat) * 1) ByteArray.empty), y3.1, ())) fun y4 =>
   bif aP v12 v0.2.2 then bif Nat.blt ((v0.2.1 + v12.toNat) * 1) (eS v100000 v0.1) then some (.inl ((v0.1, v0.2.1, v0.2.2), v1, v10, v11, (aJ .i64 (v12 + 1)), (vU v100000 v0.1 ((v0.2.1 + v12.toNat) * 1) y4.1), ())) else none else none else none else none else none
  else some (.inr ((v100000, ())))
def jN (x : Shape.den fT) : Option (aV iB) := bS eX (2 ^ 64) x
def eU (u0 : Unit) (x : aH [.hnd 1, .str, .list .str]) (A : List (List ByteArray)) : Option ((aH []) × List (List ByteArray)) := match x with
 | (v0, v1, v2, ()) =>
  bif eqS v1 (ByteArray.mk #[48]) then
   some ((()), A)
  else aB (jN ((v0.1, v0.2.1, v0.2.2), v1, v2, (v2.length : Int), 0, A, ())) fun z5 =>
  some ((()), z5.1)
noncomputable def mK : Code := aT Tryz.f104
abbrev qY : Env := bI [PJ, OS]
theorem tX : aZ Tryz.prog qY := aY ⟨NP, NV, trivial⟩
noncomputable def iP : Code := eD mK 0
def p8 (id : Nat) : Option aR := bif Nat.beq id 2 then some ⟨fT, iB, jN⟩ else none
theorem BY : ∀ x, dZ Tryz.prog qY 29 (aC Tryz.f104) p8 iP fT iB x = eX x := by
 rintro ⟨v0, v1, v10, v11, v12, v100000, ⟨⟩⟩
 kernel_rfl
theorem GI : aF iP = [] := by kernel_rfl
theorem B2 : aG iP = 2 := by kernel_rfl
theorem CS : cL Tryz.prog 29 iP ⟨fT, iB, jN⟩ := by
 exact cS tX.callee aK.mixed _ (aE GI trivial) BY
theorem D5 : aF mK = [iP] := by kernel_rfl
theorem GK : ∀ l x A, U6 Tryz.prog qY Tryz.f104 (aC Tryz.f104) p8 mK 144 .str .none [.hnd 1, .str, .list .str] (.data []) l x A = eU l x A := by
 rintro u0 ⟨v0, v1, v2, ⟨⟩⟩ A
 kernel_rfl
theorem JC : ZB Tryz.prog 104 144 .str .none [.hnd 1, .str, .list .str] (.data []) eU := by
 exact T7 aK tX Tryz.func104 (c := mK) (by kernel_rfl) (aU := aC Tryz.f104) (lt := p8) (by rfl) (aE D5 ⟨cR B2 rfl CS, trivial⟩) GK
theorem HI : aUP Tryz.prog 104 144 .str [.str, .list .str] (aMF eU) := aP9 JC (by rfl) (by rfl)
abbrev vP : Shr := (104, aXE 144 .str [.str, .list .str] (aMF eU))
theorem D3 : I8 Tryz.prog vP := aWJ HI

/-! (schisma/lattice.long).negate -/
abbrev eW : List (Nat × Kd) := [(0, .hnd 1), (4, .hnd 1), (5, .int .i64), (6, .int .i64), (100000, .ar 144 .str)]
abbrev gL : List (Ex × List (Nat × Kd)) := [(.exit 0, [(100000, .ar 144 .str)])]
def fO (x : Shape.den eW) : Option (Shape.den eW ⊕ aV gL) := match x with
 | (v0, v4, v5, v6, v100000, ()) =>
  bif ltI v6 v5 then
   bif aP v6 v4.2.2 then bif Nat.blt ((v4.2.1 + v6.toNat) * 1) (eS v100000 v4.1) then aB (tC ((gA v100000 v4.1 ((v4.2.1 + v6.toNat) * 1) ByteArray.empty), ())) fun y2 =>
   bif aP v6 v0.2.2 then bif Nat.blt ((v0.2.1 + v6.toNat) * 1) (eS v100000 v0.1) then some (.inl ((v0.1, v0.2.1, v0.2.2), (v4.1, v4.2.1, v4.2.2), v5, (aJ .i64 (v6 + 1)), (vU v100000 v0.1 ((v0.2.1 + v6.toNat) * 1) y2.1), ())) else none else none else none else none
  else some (.inr ((v100000, ())))
def iI (x : Shape.den eW) : Option (aV gL) := bS fO (2 ^ 64) x
def dQ (u0 : Unit) (x : aH [.hnd 1]) (A : List (List ByteArray)) : Option ((aH []) × List (List ByteArray)) := match x with
 | (v0, ()) =>
  aB (iI ((v0.1, v0.2.1, v0.2.2), (v0.1, v0.2.1, v0.2.2), ((v0.2.2 : Nat) : Int), 0, A, ())) fun z3 =>
  some ((()), z3.1)
noncomputable def k8 : Code := aT Tryz.f106
abbrev o0 : Env := bI [O2]
theorem rR : aZ Tryz.prog o0 := aY ⟨NF, trivial⟩
noncomputable def gU : Code := eD k8 0
def oF (id : Nat) : Option aR := bif Nat.beq id 1 then some ⟨eW, gL, iI⟩ else none
theorem yI : ∀ x, dZ Tryz.prog o0 17 (aC Tryz.f106) oF gU eW gL x = fO x := by
 rintro ⟨v0, v4, v5, v6, v100000, ⟨⟩⟩
 kernel_rfl
theorem CY : aF gU = [] := by kernel_rfl
theorem yT : aG gU = 1 := by kernel_rfl
theorem zS : cL Tryz.prog 17 gU ⟨eW, gL, iI⟩ := by
 exact cS rR.callee aK.mixed _ (aE CY trivial) yI
theorem CE : aF k8 = [gU] := by kernel_rfl
theorem CV : ∀ l x A, U6 Tryz.prog o0 Tryz.f106 (aC Tryz.f106) oF k8 144 .str .none [.hnd 1] (.data []) l x A = dQ l x A := by
 rintro u0 ⟨v0, ⟨⟩⟩ A
 kernel_rfl
theorem FE : ZB Tryz.prog 106 144 .str .none [.hnd 1] (.data []) dQ := by
 exact T7 aK rR Tryz.func106 (c := k8) (by kernel_rfl) (aU := aC Tryz.f106) (lt := oF) (by rfl) (aE CE ⟨cR yT rfl zS, trivial⟩) CV
abbrev uW : Shr := (106, arH 144 .str .none [.hnd 1] (.data []) dQ)
theorem CZ : I8 Tryz.prog uW := UQ FE

/-! (schisma/lattice.long).lead$1 -/
def iD (x : aH [.str]) : Option (aH [.bool]) := match x with
 | (v0, ()) =>
  some (!(eqS v0 (ByteArray.mk #[48])), ())
noncomputable def qJ : Code := aT Tryz.f169
abbrev xU : Env := bI []
theorem FW : aZ Tryz.prog xU := aY trivial
def vQ (id : Nat) : Option aR := none
theorem D0 : aF qJ = [] := by kernel_rfl
theorem FX : ∀ x, bQ Tryz.prog xU Tryz.f169 (aC Tryz.f169) vQ qJ [.str] [.bool] x = iD x := by
 rintro ⟨v0, ⟨⟩⟩
 kernel_rfl
theorem JP : cO Tryz.prog 169 [.str] [.bool] iD := by
 exact bA aK FW Tryz.func169 (c := qJ) (by kernel_rfl) (aU := aC Tryz.f169) (lt := vQ) (aE D0 trivial) FX
abbrev xP : Ent := ⟨169, [.str], [.bool], iD⟩
theorem FD : Ent.OK Tryz.prog xP := JP

/-! slices.IndexFunc[schisma/lattice.long,schisma/api.Int] -/
abbrev bK : List (Nat × Kd) := [(0, .list .str), (1, .fn 169), (7, .int .i64), (8, .int .i64)]
abbrev bT : List (Ex × List (Nat × Kd)) := [(.ret, [(4, .int .i64)]), (.exit 0, [])]
def bH (x : Shape.den bK) : Option (Shape.den bK ⊕ aV bT) := match x with
 | (v0, v1, v7, v8, ()) =>
  bif ltI v8 v7 then
   bif aP v8 v0.length then aB (iD ((v0.getD v8.toNat ByteArray.empty), ())) fun y2 =>
   bif y2.1 then
    some (.inr (.inl (v8, ())))
   else some (.inl (v0, (), v7, (aJ .i64 (v8 + 1)), ())) else none
  else some (.inr (.inr ((()))))
def cU (x : Shape.den bK) : Option (aV bT) := bS bH (2 ^ 64) x
def cE (x : aH [.list .str, .fn 169]) : Option (aH [.int .i64]) := match x with
 | (v0, v1, ()) =>
  aB (cU (v0, (), (v0.length : Int), 0, ())) fun z3 =>
  kT z3 (fun a4 => some (a4.1, ())) fun b5 =>
  some ((-1), ())
noncomputable def dG : Code := aT Tryz.f168
abbrev fP : Env := bI [xP]
theorem iO : aZ Tryz.prog fP := aY ⟨FD, trivial⟩
noncomputable def bW : Code := eD dG 0
def fM (id : Nat) : Option aR := bif Nat.beq id 2 then some ⟨bK, bT, cU⟩ else none
theorem nI : ∀ x, dZ Tryz.prog fP 19 (aC Tryz.f168) fM bW bK bT x = bH x := by
 rintro ⟨v0, v1, v7, v8, ⟨⟩⟩
 kernel_rfl
theorem o9 : aF bW = [] := by kernel_rfl
theorem nJ : aG bW = 2 := by kernel_rfl
theorem oB : cL Tryz.prog 19 bW ⟨bK, bT, cU⟩ := by
 exact cS iO.callee aK.mixed _ (aE o9 trivial) nI
theorem oL : aF dG = [bW] := by kernel_rfl
theorem pF : ∀ x, bQ Tryz.prog fP Tryz.f168 (aC Tryz.f168) fM dG [.list .str, .fn 169] [.int .i64] x = cE x := by
 rintro ⟨v0, v1, ⟨⟩⟩
 kernel_rfl
theorem pX : cO Tryz.prog 168 [.list .str, .fn 169] [.int .i64] cE := by
 exact bA aK iO Tryz.func168 (c := dG) (by kernel_rfl) (aU := aC Tryz.f168) (lt := fM) (aE oL ⟨cR nJ rfl oB, trivial⟩) pF
abbrev kA : Ent := ⟨168, [.list .str, .fn 169], [.int .i64], cE⟩
theorem oZ : Ent.OK Tryz.prog kA := pX

/-! (schisma/lattice.long).lead -/
def hX (x : aH [.list .str]) : Option (aH [.int .i64]) := match x with
 | (v0, ()) =>
  aB (cE (v0, (), ())) fun y1 =>
  some (y1.1, ())
noncomputable def sW : Code := aT Tryz.f142
abbrev AR : Env := bI [kA]
theorem I9 : aZ Tryz.prog AR := aY ⟨oZ, trivial⟩
def zE (id : Nat) : Option aR := none
theorem HC : aF sW = [] := by kernel_rfl
theorem JM : ∀ x, bQ Tryz.prog AR Tryz.f142 (aC Tryz.f142) zE sW [.list .str] [.int .i64] x = hX x := by
 rintro ⟨v0, ⟨⟩⟩
 kernel_rfl
theorem MM : cO Tryz.prog 142 [.list .str] [.int .i64] hX := by
 exact bA aK I9 Tryz.func142 (c := sW) (by kernel_rfl) (aU := aC Tryz.f142) (lt := zE) (aE HC trivial) JM
abbrev A0 : Ent := ⟨142, [.list .str], [.int .i64], hX⟩
theorem JI : Ent.OK Tryz.prog A0 := MM

/-! (schisma/lattice.long).short -/
abbrev gJ : List (Nat × Kd) := [(4, .own 3 TyE), (12, .list .str), (13, .int .i64), (14, .int .i64)]
abbrev iU : List (Ex × List (Nat × Kd)) := [(.ret, [(2, .list TyE), (3, .int .i64)]), (.exit 0, [(4, .own 3 TyE)])]
def fI (x : Shape.den gJ) : Option (Shape.den gJ ⊕ aV iU) := match x with
 | (v4, v12, v13, v14, ()) =>
  bif ltI v14 v13 then
   bif aP v14 v12.length then aB (pA ((v12.getD v14.toNat ByteArray.empty), ())) fun y2 =>
   bif y2.2.1 then
    bif ltI 1000000000 y2.1 then
     some (.inr (.inl ([], 4, ())))
    else bif ltI y2.1 (-1000000000) then
     some (.inr (.inl ([], 4, ())))
    else bif Nat.ble [y2.1].length 1048576 then bif Nat.ble v4.length 1048576 then some (.inl ((v4 ++ [y2.1]), v12, v13, (aJ .i64 (v14 + 1)), ())) else none else none
   else some (.inr (.inl ([], 4, ()))) else none
  else some (.inr (.inr ((v4, ()))))
def kG (x : Shape.den gJ) : Option (aV iU) := bS fI (2 ^ 64) x
def iW (x : aH [.list .str]) : Option (aH [.list TyE, .int .i64]) := match x with
 | (v0, ()) =>
  bif !(ltI (v0.length : Int) 0) then bif !(ltI 1048576 (v0.length : Int)) then aB (kG ((List.replicate 0 0), v0, (v0.length : Int), 0, ())) fun z3 =>
  kT z3 (fun a4 => some (a4.1, a4.2.1, ())) fun b5 =>
  some (b5.1, 0, ()) else none else none
noncomputable def nM : Code := aT Tryz.f82
abbrev sD : Env := bI [ID]
theorem uZ : aZ Tryz.prog sD := aY ⟨IS, trivial⟩
noncomputable def jT : Code := eD nM 0
def qO (id : Nat) : Option aR := bif Nat.beq id 3 then some ⟨gJ, iU, kG⟩ else none
theorem C2 : ∀ x, dZ Tryz.prog sD 39 (aC Tryz.f82) qO jT gJ iU x = fI x := by
 rintro ⟨v4, v12, v13, v14, ⟨⟩⟩
 kernel_rfl
theorem HW : aF jT = [] := by kernel_rfl
theorem CT : aG jT = 3 := by kernel_rfl
theorem EM : cL Tryz.prog 39 jT ⟨gJ, iU, kG⟩ := by
 exact cS uZ.callee aK.mixed _ (aE HW trivial) C2
theorem GD : aF nM = [jT] := by kernel_rfl
theorem IC : ∀ x, bQ Tryz.prog sD Tryz.f82 (aC Tryz.f82) qO nM [.list .str] [.list TyE, .int .i64] x = iW x := by
 rintro ⟨v0, ⟨⟩⟩
 kernel_rfl
theorem LI : cO Tryz.prog 82 [.list .str] [.list TyE, .int .i64] iW := by
 exact bA aK uZ Tryz.func82 (c := nM) (by kernel_rfl) (aU := aC Tryz.f82) (lt := qO) (aE GD ⟨cR CT rfl EM, trivial⟩) IC
abbrev zC : Ent := ⟨82, [.list .str], [.list TyE, .int .i64], iW⟩
theorem GQ : Ent.OK Tryz.prog zC := LI

/-! (schisma/lattice.long).short -/
abbrev fK : List (Nat × Kd) := [(4, .own 3 TyE), (12, .hnd 1), (13, .int .i64), (14, .int .i64), (100000, .ar 144 .str)]
abbrev gT : List (Ex × List (Nat × Kd)) := [(.ret, [(2, .list TyE), (3, .int .i64), (100000, .ar 144 .str)]), (.exit 0, [(4, .own 3 TyE), (100000, .ar 144 .str)])]
def eB (x : Shape.den fK) : Option (Shape.den fK ⊕ aV gT) := match x with
 | (v4, v12, v13, v14, v100000, ()) =>
  bif ltI v14 v13 then
   bif aP v14 v12.2.2 then bif Nat.blt ((v12.2.1 + v14.toNat) * 1) (eS v100000 v12.1) then aB (pA ((gA v100000 v12.1 ((v12.2.1 + v14.toNat) * 1) ByteArray.empty), ())) fun y2 =>
   bif y2.2.1 then
    bif ltI 1000000000 y2.1 then
     some (.inr (.inl ([], 4, v100000, ())))
    else bif ltI y2.1 (-1000000000) then
     some (.inr (.inl ([], 4, v100000, ())))
    else bif Nat.ble [y2.1].length 1048576 then bif Nat.ble v4.length 1048576 then some (.inl ((v4 ++ [y2.1]), (v12.1, v12.2.1, v12.2.2), v13, (aJ .i64 (v14 + 1)), v100000, ())) else none else none
   else some (.inr (.inl ([], 4, v100000, ()))) else none else none
  else some (.inr (.inr ((v4, v100000, ()))))
def iV (x : Shape.den fK) : Option (aV gT) := bS eB (2 ^ 64) x
def gS (u0 : Unit) (x : aH [.hnd 1]) (A : List (List ByteArray)) : Option ((aH [.list TyE, .int .i64]) × List (List ByteArray)) := match x with
 | (v0, ()) =>
  bif !(ltI ((v0.2.2 : Nat) : Int) 0) then bif !(ltI 1048576 ((v0.2.2 : Nat) : Int)) then aB (iV ((List.replicate 0 0), (v0.1, v0.2.1, v0.2.2), ((v0.2.2 : Nat) : Int), 0, A, ())) fun z3 =>
  kT z3 (fun a4 => some ((a4.1, a4.2.1, ()), a4.2.2.1)) fun b5 =>
  some ((b5.1, 0, ()), b5.2.1) else none else none
noncomputable def l3 : Code := aT Tryz.f82
abbrev p6 : Env := bI [ID]
theorem sO : aZ Tryz.prog p6 := aY ⟨IS, trivial⟩
noncomputable def iF : Code := eD l3 0
def oV (id : Nat) : Option aR := bif Nat.beq id 3 then some ⟨fK, gT, iV⟩ else none
theorem zT : ∀ x, dZ Tryz.prog p6 39 (aC Tryz.f82) oV iF fK gT x = eB x := by
 rintro ⟨v4, v12, v13, v14, v100000, ⟨⟩⟩
 kernel_rfl
theorem ED : aF iF = [] := by kernel_rfl
theorem zV : aG iF = 3 := by kernel_rfl
theorem BE : cL Tryz.prog 39 iF ⟨fK, gT, iV⟩ := by
 exact cS sO.callee aK.mixed _ (aE ED trivial) zT
theorem CX : aF l3 = [iF] := by kernel_rfl
theorem ET : ∀ l x A, U6 Tryz.prog p6 Tryz.f82 (aC Tryz.f82) oV l3 144 .str .none [.hnd 1] (.data [.list TyE, .int .i64]) l x A = gS l x A := by
 rintro u0 ⟨v0, ⟨⟩⟩ A
 kernel_rfl
theorem IB : ZB Tryz.prog 82 144 .str .none [.hnd 1] (.data [.list TyE, .int .i64]) gS := by
 exact T7 aK sO Tryz.func82 (c := l3) (by kernel_rfl) (aU := aC Tryz.f82) (lt := oV) (by rfl) (aE CX ⟨cR zV rfl BE, trivial⟩) ET
abbrev vO : Shr := (82, arH 144 .str .none [.hnd 1] (.data [.list TyE, .int .i64]) gS)
theorem D4 : I8 Tryz.prog vO := UQ IB

/-! schisma/lattice.longsOf -/
abbrev gK : List (Nat × Kd) := [(3, .own 137 (.hnd 1)), (6, .list TyD), (7, .int .i64), (8, .int .i64), (100000, .ar 144 .str)]
abbrev iR : List (Ex × List (Nat × Kd)) := [(.exit 0, [(3, .own 137 (.hnd 1)), (100000, .ar 144 .str)])]
def fH (x : Shape.den gK) : Option (Shape.den gK ⊕ aV iR) := match x with
 | (v3, v6, v7, v8, v100000, ()) =>
  bif ltI v8 v7 then
   bif aP v8 v6.length then aB (jW ((v6.getD v8.toNat []), ())) fun y2 =>
   bif Nat.ble [(v100000.length, 0, y2.length)].length 1048576 then bif Nat.ble v3.length 1048576 then some (.inl ((v3 ++ [(v100000.length, 0, y2.length)]), v6, v7, (aJ .i64 (v8 + 1)), (v100000 ++ [y2]), ())) else none else none else none
  else some (.inr ((v3, v100000, ())))
def kF (x : Shape.den gK) : Option (aV iR) := bS fH (2 ^ 64) x
def iZ (u0 : Unit) (x : aH [.list TyD]) (A : List (List ByteArray)) : Option ((List (Nat × Nat × Nat)) × List (List ByteArray)) := match x with
 | (v0, ()) =>
  aB (kF ([], v0, (v0.length : Int), 0, A, ())) fun z3 =>
  some (z3.1, z3.2.1)
noncomputable def nO : Code := aT Tryz.f77
abbrev rZ : Env := aGC [] [vT]
theorem uT : aZ Tryz.prog rZ := DD trivial ⟨zD, trivial⟩
noncomputable def jQ : Code := eD nO 0
def qP (id : Nat) : Option aR := bif Nat.beq id 3 then some ⟨gK, iR, kF⟩ else none
theorem CW : ∀ x, dZ Tryz.prog rZ 19 (aC Tryz.f77) qP jQ gK iR x = fH x := by
 rintro ⟨v3, v6, v7, v8, v100000, ⟨⟩⟩
 kernel_rfl
theorem GU : aF jQ = [] := by kernel_rfl
theorem C1 : aG jQ = 3 := by kernel_rfl
theorem EI : cL Tryz.prog 19 jQ ⟨gK, iR, kF⟩ := by
 exact cS uT.callee aK.mixed _ (aE GU trivial) CW
theorem FL : aF nO = [jQ] := by kernel_rfl
theorem HM : ∀ l x A, U6 Tryz.prog rZ Tryz.f77 (aC Tryz.f77) qP nO 144 .str .none [.list TyD] (.own 137 (.hnd 1)) l x A = iZ l x A := by
 rintro u0 ⟨v0, ⟨⟩⟩ A
 kernel_rfl
theorem JY : ZB Tryz.prog 77 144 .str .none [.list TyD] (.own 137 (.hnd 1)) iZ := by
 exact T7 aK uT Tryz.func77 (c := nO) (by kernel_rfl) (aU := aC Tryz.f77) (lt := qP) (by rfl) (aE FL ⟨cR C1 rfl EI, trivial⟩) HM
abbrev yX : Shr := (77, arH 144 .str .none [.list TyD] (.own 137 (.hnd 1)) iZ)
theorem HT : I8 Tryz.prog yX := UQ JY

/-! (schisma/lattice.longs).form -/
abbrev eH : List (Nat × Kd) := [(0, .own 137 (.hnd 1)), (1, .int .i64), (5, .int .i64), (6, .int .i64), (7, .int .i64), (8, .int .i64), (100000, .ar 144 .str)]
abbrev fZ : List (Ex × List (Nat × Kd)) := [(.exit 4, [(0, .own 137 (.hnd 1)), (1, .int .i64), (5, .int .i64), (6, .int .i64), (7, .int .i64), (100000, .ar 144 .str)])]
def bX (x : Shape.den eH) : Option (Shape.den eH ⊕ aV fZ) := match x with
 | (v0, v1, v5, v6, v7, v8, v100000, ()) =>
  bif ltI v8 (v0.length : Int) then
   bif aP v8 v0.length then bif Nat.blt v8.toNat v0.length then bif aP v6 ((v0.getD v8.toNat (0, 0, 0)).2.2) then bif Nat.blt (((v0.getD v8.toNat (0, 0, 0)).2.1 + v6.toNat) * 1) (eS v100000 ((v0.getD v8.toNat (0, 0, 0)).1)) then bif !(eqS (gA v100000 ((v0.getD v8.toNat (0, 0, 0)).1) (((v0.getD v8.toNat (0, 0, 0)).2.1 + v6.toNat) * 1) ByteArray.empty) (ByteArray.mk #[48])) then
    bif ltI v7 0 then
     some (.inl (v0, v1, v5, v6, v8, (aJ .i64 (v8 + 1)), v100000, ()))
    else bif aP v8 v0.length then bif Nat.blt v8.toNat v0.length then bif aP v6 ((v0.getD v8.toNat (0, 0, 0)).2.2) then bif Nat.blt (((v0.getD v8.toNat (0, 0, 0)).2.1 + v6.toNat) * 1) (eS v100000 ((v0.getD v8.toNat (0, 0, 0)).1)) then aB (tH ((gA v100000 ((v0.getD v8.toNat (0, 0, 0)).1) (((v0.getD v8.toNat (0, 0, 0)).2.1 + v6.toNat) * 1) ByteArray.empty), ())) fun y4 =>
    bif aP v7 v0.length then bif Nat.blt v7.toNat v0.length then bif aP v6 ((v0.getD v7.toNat (0, 0, 0)).2.2) then bif Nat.blt (((v0.getD v7.toNat (0, 0, 0)).2.1 + v6.toNat) * 1) (eS v100000 ((v0.getD v7.toNat (0, 0, 0)).1)) then aB (tH ((gA v100000 ((v0.getD v7.toNat (0, 0, 0)).1) (((v0.getD v7.toNat (0, 0, 0)).2.1 + v6.toNat) * 1) ByteArray.empty), ())) fun y5 =>
    aB (n8 (y4.1, y5.1, ())) fun y6 =>
    bif ltI y6.1 0 then
     some (.inl (v0, v1, v5, v6, v8, (aJ .i64 (v8 + 1)), v100000, ()))
    else some (.inl (v0, v1, v5, v6, v7, (aJ .i64 (v8 + 1)), v100000, ())) else none else none else none else none else none else none else none else none
   else some (.inl (v0, v1, v5, v6, v7, (aJ .i64 (v8 + 1)), v100000, ())) else none else none else none else none
  else some (.inr ((v0, v1, v5, v6, v7, v100000, ())))
def fA (x : Shape.den eH) : Option (aV fZ) := bS bX (2 ^ 64) x
abbrev eE : List (Nat × Kd) := [(0, .own 137 (.hnd 1)), (1, .int .i64), (5, .int .i64), (6, .int .i64), (9, .bool), (10, .int .i64), (100000, .ar 144 .str)]
abbrev fX : List (Ex × List (Nat × Kd)) := [(.exit 6, [(0, .own 137 (.hnd 1)), (1, .int .i64), (5, .int .i64), (6, .int .i64), (9, .bool), (100000, .ar 144 .str)])]
def cV (x : Shape.den eE) : Option (Shape.den eE ⊕ aV fX) := match x with
 | (v0, v1, v5, v6, v9, v10, v100000, ()) =>
  bif ltI v10 (v0.length : Int) then
   bif aP v10 v0.length then bif Nat.blt v10.toNat v0.length then bif aP v6 ((v0.getD v10.toNat (0, 0, 0)).2.2) then bif Nat.blt (((v0.getD v10.toNat (0, 0, 0)).2.1 + v6.toNat) * 1) (eS v100000 ((v0.getD v10.toNat (0, 0, 0)).1)) then bif aP v5 v0.length then bif Nat.blt v5.toNat v0.length then bif aP v6 ((v0.getD v5.toNat (0, 0, 0)).2.2) then bif Nat.blt (((v0.getD v5.toNat (0, 0, 0)).2.1 + v6.toNat) * 1) (eS v100000 ((v0.getD v5.toNat (0, 0, 0)).1)) then aB (lA ((gA v100000 ((v0.getD v10.toNat (0, 0, 0)).1) (((v0.getD v10.toNat (0, 0, 0)).2.1 + v6.toNat) * 1) ByteArray.empty), (gA v100000 ((v0.getD v5.toNat (0, 0, 0)).1) (((v0.getD v5.toNat (0, 0, 0)).2.1 + v6.toNat) * 1) ByteArray.empty), ())) fun y10 =>
   bif aP v10 v0.length then bif Nat.blt v10.toNat v0.length then bif aP v5 v0.length then bif Nat.blt v5.toNat v0.length then aB (eT () (((v0.getD v10.toNat (0, 0, 0)).1, (v0.getD v10.toNat (0, 0, 0)).2.1, (v0.getD v10.toNat (0, 0, 0)).2.2), y10.1, ((v0.getD v5.toNat (0, 0, 0)).1, (v0.getD v5.toNat (0, 0, 0)).2.1, (v0.getD v5.toNat (0, 0, 0)).2.2), ()) v100000) fun y11 =>
   bif v9 then
    some (.inl (v0, v1, v5, v6, true, (aJ .i64 (v10 + 1)), y11.2, ()))
   else some (.inl (v0, v1, v5, v6, !(eqS y10.2.1 (ByteArray.mk #[48])), (aJ .i64 (v10 + 1)), y11.2, ())) else none else none else none else none else none else none else none else none else none else none else none else none
  else some (.inr ((v0, v1, v5, v6, v9, v100000, ())))
def gX (x : Shape.den eE) : Option (aV fX) := bS cV (2 ^ 64) x
abbrev eF : List (Nat × Kd) := [(0, .own 137 (.hnd 1)), (1, .int .i64), (5, .int .i64), (6, .int .i64), (142, .int .i64), (143, .int .i64), (100000, .ar 144 .str)]
abbrev gC : List (Ex × List (Nat × Kd)) := [(.exit 8, [(0, .own 137 (.hnd 1)), (1, .int .i64), (5, .int .i64), (6, .int .i64), (100000, .ar 144 .str)])]
def fE (x : Shape.den eF) : Option (Shape.den eF ⊕ aV gC) := match x with
 | (v0, v1, v5, v6, v142, v143, v100000, ()) =>
  bif ltI v143 v142 then
   bif aP v143 v0.length then bif Nat.blt v143.toNat v0.length then bif aP v6 ((v0.getD v143.toNat (0, 0, 0)).2.2) then bif Nat.blt (((v0.getD v143.toNat (0, 0, 0)).2.1 + v6.toNat) * 1) (eS v100000 ((v0.getD v143.toNat (0, 0, 0)).1)) then bif aP v5 v0.length then bif Nat.blt v5.toNat v0.length then bif aP v6 ((v0.getD v5.toNat (0, 0, 0)).2.2) then bif Nat.blt (((v0.getD v5.toNat (0, 0, 0)).2.1 + v6.toNat) * 1) (eS v100000 ((v0.getD v5.toNat (0, 0, 0)).1)) then aB (lA ((gA v100000 ((v0.getD v143.toNat (0, 0, 0)).1) (((v0.getD v143.toNat (0, 0, 0)).2.1 + v6.toNat) * 1) ByteArray.empty), (gA v100000 ((v0.getD v5.toNat (0, 0, 0)).1) (((v0.getD v5.toNat (0, 0, 0)).2.1 + v6.toNat) * 1) ByteArray.empty), ())) fun y17 =>
   bif aP v143 v0.length then bif Nat.blt v143.toNat v0.length then bif aP v5 v0.length then bif Nat.blt v5.toNat v0.length then aB (eT () (((v0.getD v143.toNat (0, 0, 0)).1, (v0.getD v143.toNat (0, 0, 0)).2.1, (v0.getD v143.toNat (0, 0, 0)).2.2), y17.1, ((v0.getD v5.toNat (0, 0, 0)).1, (v0.getD v5.toNat (0, 0, 0)).2.1, (v0.getD v5.toNat (0, 0, 0)).2.2), ()) v100000) fun y18 =>
   some (.inl (v0, v1, v5, v6, v142, (aJ .i64 (v143 + 1)), y18.2, ())) else none else none else none else none else none else none else none else none else none else none else none else none
  else some (.inr ((v0, v1, v5, v6, v100000, ())))
def bV (x : Shape.den eF) : Option (aV gC) := bS fE (2 ^ 64) x
abbrev eG : List (Nat × Kd) := [(0, .own 137 (.hnd 1)), (1, .int .i64), (5, .int .i64), (6, .int .i64), (100000, .ar 144 .str)]
abbrev gD : List (Ex × List (Nat × Kd)) := [(.exit 2, [(0, .own 137 (.hnd 1)), (1, .int .i64), (5, .int .i64), (6, .int .i64), (100000, .ar 144 .str)])]
def bY (x : Shape.den eG) : Option (Shape.den eG ⊕ aV gD) := match x with
 | (v0, v1, v5, v6, v100000, ()) =>
  aB (fA (v0, v1, v5, v6, (-1), v5, v100000, ())) fun z21 =>
  bif ltI z21.2.2.2.2.1 0 then
   some (.inr ((z21.1, z21.2.1, z21.2.2.1, z21.2.2.2.1, z21.2.2.2.2.2.1, ())))
  else bif aP z21.2.2.2.2.1 z21.1.length then bif Nat.blt z21.2.2.2.2.1.toNat z21.1.length then bif aP z21.2.2.1 z21.1.length then bif Nat.blt z21.2.2.1.toNat z21.1.length then bif aP z21.2.2.1 z21.1.length then bif Nat.blt z21.2.2.1.toNat z21.1.length then bif aP z21.2.2.2.2.1 (z21.1.set z21.2.2.1.toNat ((z21.1.getD z21.2.2.2.2.1.toNat (0, 0, 0)).1, (z21.1.getD z21.2.2.2.2.1.toNat (0, 0, 0)).2.1, (z21.1.getD z21.2.2.2.2.1.toNat (0, 0, 0)).2.2)).length then bif Nat.blt z21.2.2.2.2.1.toNat (z21.1.set z21.2.2.1.toNat ((z21.1.getD z21.2.2.2.2.1.toNat (0, 0, 0)).1, (z21.1.getD z21.2.2.2.2.1.toNat (0, 0, 0)).2.1, (z21.1.getD z21.2.2.2.2.1.toNat (0, 0, 0)).2.2)).length then aB (gX (((z21.1.set z21.2.2.1.toNat ((z21.1.getD z21.2.2.2.2.1.toNat (0, 0, 0)).1, (z21.1.getD z21.2.2.2.2.1.toNat (0, 0, 0)).2.1, (z21.1.getD z21.2.2.2.2.1.toNat (0, 0, 0)).2.2)).set z21.2.2.2.2.1.toNat ((z21.1.getD z21.2.2.1.toNat (0, 0, 0)).1, (z21.1.getD z21.2.2.1.toNat (0, 0, 0)).2.1, (z21.1.getD z21.2.2.1.toNat (0, 0, 0)).2.2)), z21.2.1, z21.2.2.1, z21.2.2.2.1, false, (aJ .i64 (z21.2.2.1 + 1)), z21.2.2.2.2.2.1, ())) fun z22 =>
  bif z22.2.2.2.2.1 then
   some (.inl (z22.1, z22.2.1, z22.2.2.1, z22.2.2.2.1, z22.2.2.2.2.2.1, ()))
  else bif aP z22.2.2.1 z22.1.length then bif Nat.blt z22.2.2.1.toNat z22.1.length then bif aP z22.2.2.2.1 ((z22.1.getD z22.2.2.1.toNat (0, 0, 0)).2.2) then bif Nat.blt (((z22.1.getD z22.2.2.1.toNat (0, 0, 0)).2.1 + z22.2.2.2.1.toNat) * 1) (eS z22.2.2.2.2.2.1 ((z22.1.getD z22.2.2.1.toNat (0, 0, 0)).1)) then aB (mQ ((gA z22.2.2.2.2.2.1 ((z22.1.getD z22.2.2.1.toNat (0, 0, 0)).1) (((z22.1.getD z22.2.2.1.toNat (0, 0, 0)).2.1 + z22.2.2.2.1.toNat) * 1) ByteArray.empty), ())) fun y23 =>
  bif ltI y23.1 0 then
   bif aP z22.2.2.1 z22.1.length then bif Nat.blt z22.2.2.1.toNat z22.1.length then aB (dQ () (((z22.1.getD z22.2.2.1.toNat (0, 0, 0)).1, (z22.1.getD z22.2.2.1.toNat (0, 0, 0)).2.1, (z22.1.getD z22.2.2.1.toNat (0, 0, 0)).2.2), ()) z22.2.2.2.2.2.1) fun y24 =>
   aB (bV (z22.1, z22.2.1, z22.2.2.1, z22.2.2.2.1, z22.2.2.1, 0, y24.2, ())) fun z25 =>
   some (.inr ((z25.1, z25.2.1, (aJ .i64 (z25.2.2.1 + 1)), z25.2.2.2.1, z25.2.2.2.2.1, ()))) else none else none
  else aB (bV (z22.1, z22.2.1, z22.2.2.1, z22.2.2.2.1, z22.2.2.1, 0, z22.2.2.2.2.2.1, ())) fun z26 =>
  some (.inr ((z26.1, z26.2.1, (aJ .i64 (z26.2.2.1 + 1)), z26.2.2.2.1, z26.2.2.2.2.1, ()))) else none else none else none else none else none else none else none else none else none else none else none else none
def fF (x : Shape.den eG) : Option (aV gD) := bS bY (2 ^ 64) x
abbrev eC : List (Nat × Kd) := [(0, .own 137 (.hnd 1)), (1, .int .i64), (5, .int .i64), (6, .int .i64), (100000, .ar 144 .str)]
abbrev fW : List (Ex × List (Nat × Kd)) := [(.exit 0, [(0, .own 137 (.hnd 1)), (5, .int .i64), (100000, .ar 144 .str)])]
def cW (x : Shape.den eC) : Option (Shape.den eC ⊕ aV fW) := match x with
 | (v0, v1, v5, v6, v100000, ()) =>
  bif ltI v6 v1 then
   bif ltI v5 (v0.length : Int) then
    aB (fF (v0, v1, v5, v6, v100000, ())) fun z28 =>
    some (.inl (z28.1, z28.2.1, z28.2.2.1, (aJ .i64 (z28.2.2.2.1 + 1)), z28.2.2.2.2.1, ()))
   else some (.inr ((v0, v5, v100000, ())))
  else some (.inr ((v0, v5, v100000, ())))
def gW (x : Shape.den eC) : Option (aV fW) := bS cW (2 ^ 64) x
def fR (v0 : List (Nat × Nat × Nat)) (x : aH [.int .i64]) (A : List (List ByteArray)) : Option ((List (Nat × Nat × Nat)) × List (List ByteArray)) := match x with
 | (v1, ()) =>
  aB (gW (v0, v1, 0, 0, A, ())) fun z29 =>
  bif Nat.beq z29.1.length 0 then
   bif !(ltI z29.2.1 0) then bif Nat.beq z29.2.1.toNat 0 then some (z29.1, z29.2.2.1) else none else none
  else bif !(ltI z29.2.1 0) then bif Nat.ble 0 z29.2.1.toNat then bif Nat.ble z29.2.1.toNat z29.1.length then bif Nat.blt 0 z29.1.length then some (z29.1.take (z29.2.1.toNat - 0), z29.2.2.1) else none else none else none else none
noncomputable def kP : Code := aT Tryz.f78
abbrev eL : Env := aGC [YJ, LW, EA, K5] [wW, uW]
theorem eJ : aZ Tryz.prog eL := DD ⟨aCU, QJ, E6, JT, trivial⟩ ⟨FQ, CZ, trivial⟩
noncomputable def eY : Code := eD kP 0
noncomputable def cX : Code := eD eY 0
noncomputable def gN : Code := eD cX 0
noncomputable def gO : Code := eD cX 1
noncomputable def gQ : Code := eD cX 2
def dT (id : Nat) : Option aR := bif Nat.beq id 7 then some ⟨eH, fZ, fA⟩ else bif Nat.beq id 15 then some ⟨eE, fX, gX⟩ else bif Nat.beq id 24 then some ⟨eF, gC, bV⟩ else bif Nat.beq id 5 then some ⟨eG, gD, fF⟩ else bif Nat.beq id 3 then some ⟨eC, fW, gW⟩ else none
theorem xI : ∀ x, dZ Tryz.prog eL 181 (aC Tryz.f78) dT gN eH fZ x = bX x := by
 rintro ⟨v0, v1, v5, v6, v7, v8, v100000, ⟨⟩⟩
 kernel_rfl
theorem AU : aF gN = [] := by kernel_rfl
theorem wY : aG gN = 7 := by kernel_rfl
theorem yU : cL Tryz.prog 181 gN ⟨eH, fZ, fA⟩ := by
 exact cS eJ.callee aK.mixed _ (aE AU trivial) xI
theorem wV : ∀ x, dZ Tryz.prog eL 181 (aC Tryz.f78) dT gO eE fX x = cV x := by
 rintro ⟨v0, v1, v5, v6, v9, v10, v100000, ⟨⟩⟩
 kernel_rfl
theorem B1 : aF gO = [] := by kernel_rfl
theorem wZ : aG gO = 15 := by kernel_rfl
theorem yV : cL Tryz.prog 181 gO ⟨eE, fX, gX⟩ := by
 exact cS eJ.callee aK.mixed _ (aE B1 trivial) wV
theorem xO : ∀ x, dZ Tryz.prog eL 181 (aC Tryz.f78) dT gQ eF gC x = fE x := by
 rintro ⟨v0, v1, v5, v6, v142, v143, v100000, ⟨⟩⟩
 kernel_rfl
theorem BB : aF gQ = [] := by kernel_rfl
theorem xW : aG gQ = 24 := by kernel_rfl
theorem yQ : cL Tryz.prog 181 gQ ⟨eF, gC, bV⟩ := by
 exact cS eJ.callee aK.mixed _ (aE BB trivial) xO
theorem xC : ∀ x, dZ Tryz.prog eL 181 (aC Tryz.f78) dT cX eG gD x = bY x := by
 rintro ⟨v0, v1, v5, v6, v100000, ⟨⟩⟩
 kernel_rfl
theorem B3 : aF cX = [gN, gO, gQ] := by kernel_rfl
theorem wT : aG cX = 5 := by kernel_rfl
theorem yK : cL Tryz.prog 181 cX ⟨eG, gD, fF⟩ := by
 exact cS eJ.callee aK.mixed _ (aE B3 ⟨cR wY rfl yU, cR wZ rfl yV, cR xW rfl yQ, trivial⟩) xC
theorem xT : ∀ x, dZ Tryz.prog eL 181 (aC Tryz.f78) dT eY eC fW x = cW x := by
 rintro ⟨v0, v1, v5, v6, v100000, ⟨⟩⟩
 kernel_rfl
theorem BL : aF eY = [cX] := by kernel_rfl
theorem xY : aG eY = 3 := by kernel_rfl
theorem yG : cL Tryz.prog 181 eY ⟨eC, fW, gW⟩ := by
 exact cS eJ.callee aK.mixed _ (aE BL ⟨cR wT rfl yK, trivial⟩) xT
theorem zZ : aF kP = [eY] := by kernel_rfl
theorem CP : ∀ l x A, U6 Tryz.prog eL Tryz.f78 (aC Tryz.f78) dT kP 144 .str (.own 137 (.hnd 1)) [.int .i64] (.own 137 (.hnd 1)) l x A = fR l x A := by
 rintro u0 ⟨v1, ⟨⟩⟩ A
 kernel_rfl
theorem EJ : ZB Tryz.prog 78 144 .str (.own 137 (.hnd 1)) [.int .i64] (.own 137 (.hnd 1)) fR := by
 exact T7 aK eJ Tryz.func78 (c := kP) (by kernel_rfl) (aU := aC Tryz.f78) (lt := dT) (by rfl) (aE zZ ⟨cR xY rfl yG, trivial⟩) CP
abbrev tM : Shr := (78, arH 144 .str (.own 137 (.hnd 1)) [.int .i64] (.own 137 (.hnd 1)) fR)
theorem CI : I8 Tryz.prog tM := UQ EJ
end Go.PM
set_option linter.unusedSimpArgs false
set_option linter.unusedVariables false
namespace Go.PM
open Go Go.RowKit
def aLP (P : Program) (E : Env) (fn : Func) (aU : Nat) (lt rt : Nat → Option aR) (c : Code) (ae : TypeId) (t : Ty) (tk : Tk) (args : List Kd) (an : An) (l : tk.den) (x : aH args) (A : List (List t.den)) : Option (an.den × List (List t.den)) :=
 bif Nat.ble (tk.pv 0 ++ iE args x).length fn.ntmps then rT P E fn.ntmps aU lt rt false [] c (start aU 0 (tk.pv 0 ++ iE args x)) (yF (tk.ow l 0) ++ [some (arB ae t A)]) (aWR P fn.results.toList ae t an) else none
section
variable {P : Program} {n0 : Nat → Prop} {w w' : World} {G G1 G2 : Gd} {μ μ2 : Mp} {H H' : Heap} {ae : TypeId} {t : Ty} {A B : List (List t.den)}
theorem aWK {E : Env} (hP : A8 P) (hE : aZ P E) {g : Nat} {fn : Func} (hg : P.funcs[g]? = some fn) {c : Code} (hc : fn.body = some c) {aU : Nat} {lt rt : Nat → Option aR} {ae : TypeId} {t : Ty} {tk : Tk} {args : List Kd} {an : An} {f : tk.den → aH args → List (List t.den) → Option (an.den × List (List t.den))}
  (hd : FV args = true) (hl : ∀ a ∈ cD c, E3 P fn.ntmps lt rt false [] a) (hb : ∀ l x A, aLP P E fn aU lt rt c ae t tk args an l x A = f l x A) : ZB P g ae t tk args an f := by
 intro l x A y B hy n0 G μ H w us ra r hW har ho hv
 rw [← hb] at hy
 unfold aLP at hy
 obtain ⟨hlen, hy⟩ := aI hy
 obtain ⟨⟨ex, F', H'⟩, h1, h2⟩ := jG hE.callee hP.mixed c _ _ _ _ hl hy
 obtain ⟨vs, B', hex, hvs, hB, hq, rfl⟩ : ∃ vs B', (ex = .normal ∨ ex = .ret) ∧ mT P F' H' fn.results.toList = some vs ∧ aP1 ae t H' = some B' ∧ aLG an (dU vs) H' = some y ∧ B'.2 = B := by
  unfold aWR at h1
  split at h1
  ·cases h1
  ·rename_i hne
   split at h1
   ·rename_i vs hvs
    split at h1
    ·rename_i B' hB
     split at h1
     ·rename_i y' hy'
      simp only [Option.some.injEq, Prod.mk.injEq] at h1
      obtain ⟨rfl, h1⟩ := h1
      refine ⟨vs, B', ?_, hvs, hB, hy', h1⟩
      cases ex with
      | normal => exact .inl rfl
      | ret => exact .inr rfl
      | exit i => exact absurd rfl (hne i)
     ·cases h1
    ·cases h1
   ·cases h1
 have hargs : VRs w G (mpA μ (tk.ow l r) A.length) (tk.pv 0 ++ iE args x) us := by
  have hn := AB args x hd
  cases tk with
  | none => exact VRs.bF (cM _ _ hn hv)
  | own e u =>
   change VRs w G μ (.own r u.size :: iE args x) us at hv
   change VRs w G _ (.own 0 u.size :: iE args x) us
   rw [VRs] at hv ⊢
   obtain ⟨v, us', rfl, q1, q2⟩ := hv
   refine ⟨v, us', rfl, ?_, VRs.bF (cM _ _ hn q2)⟩
   rw [VR] at q1 ⊢
   exact q1
 have howb : yF (tk.ow l 0) = yF (tk.ow l r) := by cases tk <;> rfl
 have hW1 := QN hW ho har
 rw [← howb] at hW1
 have e0 : Ext (wrA w G μ (tk.ow l r)) w G aM w G (mpA μ (tk.ow l r) A.length) :=
  ⟨⟨fun b hb => ⟨hb, rfl⟩, fun _ _ h => (by cases h), fun _ _ h => (by cases h), fun _ _ h => h, fun _ _ h => h⟩, rfl, rfl, rfl, Nat.le_refl _, Nat.le_refl _, fun _ _ _ => rfl, fun _ h => .inl h⟩
 refine ⟨enters hg (hP.names g fn hg) (by rw [hc]; rfl) _ _, (callsIn_wide (n := 0)).1 (callsIn_of_wp_marks hg hc trivial ?_)⟩
 have hI : I (wrA w G μ (tk.ow l r)) w G aM fn.ntmps (start aU 0 (tk.pv 0 ++ iE args x)) (yF (tk.ow l 0) ++ [some (arB ae t A)]) ⟨us.toArray ++ Array.replicate (fn.ntmps - us.toArray.size) undef, []⟩ w :=
  ⟨G, _, e0, hW1, qI (by simpa using hargs) (Nat.le_of_ble_eq_true hlen)⟩
 refine wpIn_mono (h2 none 0 _ w G aM _ w (fun _ => rfl) (fun r _ => ⟨rfl, rfl⟩) hI.a5A) ?_
 rintro e1 ⟨tm, ds⟩ w' ⟨rfl, hI', _⟩
 have hend : ∀ w', IM (wrA w G μ (tk.ow l r)) w G aM fn.ntmps F' H' { tmps := tm, defers := [] } w' → LeavesIn Fence.wide 0 P fn tm (fun en w' => ∃ v' G'' μ'', en = .returned v' ∧ Ext n0 w G μ w' G'' μ'' ∧ aW n0 G'' μ'' (((DC (tk.ow l r) H).set ra none) ++ (some (arB ae t B'.2) :: an.hp y)) w' ∧ VR w' G'' μ'' (an.pv y (H.length + 1)) v') [] .returning w' := by
  rintro w' ⟨G1, μ1, ee, hW', hF', _⟩
  obtain ⟨ws, h3, h4⟩ := k9 (P := P) hW' hF' hvs
  have hres : (results fn tm).run P w' = .ok (if hh : ws.toArray.size = 1 then ws.toArray[0] else .tuple ws.toArray) w' := by
   rw [s8, Array.mapM_eq_mapM_toList]
   simp only [Sem.run_bind, Sem.run_map, h3, Result.andThen_ok, Sem.run_pure]
  have hrb := OH hW' hB
  obtain ⟨G2, μ3, b1, b2, b3⟩ : ∃ G2 μ3, Ext n0 w G μ w' G2 μ3 ∧ aW n0 G2 μ3 (((DC (tk.ow l r) H).set ra none) ++ (some (arB ae t B'.2) :: an.hp y)) w' ∧ VR w' G2 μ3 (an.pv y (H.length + 1)) (if hh : ws.toArray.size = 1 then ws.toArray[0] else .tuple ws.toArray) := by
   have hvr := mY h4
   cases an with
   | data rets =>
    simp only [aLG] at hq
    split at hq
    ·rename_i q hq'
     have hb := XT (G2 := ⟨fun b => G1 b ∨ ∃ s k, H'[s]? = some (some k) ∧ k.frozen = false ∧ μ1.loc s = some b, G1.row⟩) hW ho har ee hW' hrb (os := none) ⟨fun _ _ _ h => by cases h⟩ (fun _ => rfl) (fun b hb => .inl hb) (fun b hb => by
      rcases hb with h | ⟨s, k, z1, z2, z3⟩
      ·exact .inl h
      ·exact .inr ⟨s, k, z1, z2, z3, fun _ _ _ h => by cases h⟩)
     refine ⟨_, _, hb.1, hb.2, ?_⟩
     have := AP (G' := ⟨fun b => G1 b ∨ ∃ s k, H'[s]? = some (some k) ∧ k.frozen = false ∧ μ1.loc s = some b, G1.row⟩) hW' (fun _ _ h => h) (fun b hb => .inl hb) (fun s k1 b hs _ hb => by
      obtain ⟨_, _, _, _, g5, _⟩ := hW'.blk s k1 b hs hb
      cases hf : k1.frozen with
      | true => exact .inl (g5 hf)
      | false => exact .inr ⟨s, k1, hs, hf, hb⟩) depth _ q _ hq' hvr
     exact (L0 hq this).bF
    ·cases hq
   | own e u =>
    simp only [aLG] at hq
    obtain ⟨r1, l0, hos, hvv⟩ := YW hW' hq hvr
    have hb := XT (G2 := G1) hW ho har ee hW' hrb hos (fun _ => rfl) (fun b hb => hb) (fun b hb => .inl hb)
    refine ⟨_, _, hb.1, hb.2, hvv _ _ _ ?_ ?_⟩
    ·have h1 : ¬ H.length + 1 < H.length := by omega
     simp [nY, h1, aW9]
    ·have h1 : ¬ H.length + 1 < H.length := by omega
     simp [nY, h1, aU7]
  exact ⟨_, hres, _, G2, μ3, rfl, b1, b2, b3⟩
 rcases hex with rfl | rfl
 ·exact uS (fun b hb => (QN hW ho har).base b hb) hend ds w' hI'
 ·exact uS (fun b hb => (QN hW ho har).base b hb) hend ds w' hI'
end
end Go.PM
set_option linter.unusedSimpArgs false
set_option linter.unusedVariables false
namespace Go.PM
open Go Go.RowKit Go.Proofs
set_option maxRecDepth 100000
set_option maxHeartbeats 4000000
/-! schisma/row.fits -/
def FJ (x : aH [.int .i64]) : Option (aH [.bool]) := match x with
 | (v0, ()) =>
  bif !(ltI v0 (-1000000000)) then
   some (!(ltI 1000000000 v0), ())
  else some (false, ())
noncomputable def T0 : Code := aT Tryz.f60
abbrev aEA : Env := bI []
theorem aF6 : aZ Tryz.prog aEA := aY trivial
def aBI (id : Nat) : Option aR := none
theorem aCI : aF T0 = [] := by kernel_rfl
theorem aFM : ∀ x, bQ Tryz.prog aEA Tryz.f60 (aC Tryz.f60) aBI T0 [.int .i64] [.bool] x = FJ x := by
 rintro ⟨v0, ⟨⟩⟩
 kernel_rfl
theorem aK2 : cO Tryz.prog 60 [.int .i64] [.bool] FJ := by
 exact bA aK aF6 Tryz.func60 (c := T0) (by kernel_rfl) (aU := aC Tryz.f60) (lt := aBI) (aE aCI trivial) aFM
abbrev aC3 : Ent := ⟨60, [.int .i64], [.bool], FJ⟩
theorem aFJ : Ent.OK Tryz.prog aC3 := aK2

/-! schisma/row.Check$1 -/
def uK (x : aH [.int .i64]) : Option (aH [.bool]) := match x with
 | (v0, ()) =>
  aB (FJ (v0, ())) fun y1 =>
  bif y1.1 then
   some (false, ())
  else some (true, ())
noncomputable def HN : Code := aT Tryz.f59
abbrev QZ : Env := bI [aC3]
theorem XC : aZ Tryz.prog QZ := aY ⟨aFJ, trivial⟩
def NJ (id : Nat) : Option aR := none
theorem S7 : aF HN = [] := by kernel_rfl
theorem WN : ∀ x, bQ Tryz.prog QZ Tryz.f59 (aC Tryz.f59) NJ HN [.int .i64] [.bool] x = uK x := by
 rintro ⟨v0, ⟨⟩⟩
 kernel_rfl
theorem aCD : cO Tryz.prog 59 [.int .i64] [.bool] uK := by
 exact bA aK XC Tryz.func59 (c := HN) (by kernel_rfl) (aU := aC Tryz.f59) (lt := NJ) (aE S7 trivial) WN
abbrev P1 : Ent := ⟨59, [.int .i64], [.bool], uK⟩
theorem XD : Ent.OK Tryz.prog P1 := aCD

/-! slices.IndexFunc[schisma/api.Row,int] -/
abbrev cK : List (Nat × Kd) := [(0, .list TyE), (1, .fn 59), (7, .int .i64), (8, .int .i64)]
abbrev dC : List (Ex × List (Nat × Kd)) := [(.ret, [(4, .int .i64)]), (.exit 0, [])]
def cB (x : Shape.den cK) : Option (Shape.den cK ⊕ aV dC) := match x with
 | (v0, v1, v7, v8, ()) =>
  bif ltI v8 v7 then
   bif aP v8 v0.length then aB (uK ((v0.getD v8.toNat 0), ())) fun y2 =>
   bif y2.1 then
    some (.inr (.inl (v8, ())))
   else some (.inl (v0, (), v7, (aJ .i64 (v8 + 1)), ())) else none
  else some (.inr (.inr ((()))))
def eR (x : Shape.den cK) : Option (aV dC) := bS cB (2 ^ 64) x
def eO (x : aH [.list TyE, .fn 59]) : Option (aH [.int .i64]) := match x with
 | (v0, v1, ()) =>
  aB (eR (v0, (), (v0.length : Int), 0, ())) fun z3 =>
  kT z3 (fun a4 => some (a4.1, ())) fun b5 =>
  some ((-1), ())
noncomputable def gF : Code := aT Tryz.f73
abbrev j8 : Env := bI [P1]
theorem mB : aZ Tryz.prog j8 := aY ⟨XD, trivial⟩
noncomputable def dK : Code := eD gF 0
def jJ (id : Nat) : Option aR := bif Nat.beq id 2 then some ⟨cK, dC, eR⟩ else none
theorem rY : ∀ x, dZ Tryz.prog j8 19 (aC Tryz.f73) jJ dK cK dC x = cB x := by
 rintro ⟨v0, v1, v7, v8, ⟨⟩⟩
 kernel_rfl
theorem uH : aF dK = [] := by kernel_rfl
theorem sG : aG dK = 2 := by kernel_rfl
theorem sQ : cL Tryz.prog 19 dK ⟨cK, dC, eR⟩ := by
 exact cS mB.callee aK.mixed _ (aE uH trivial) rY
theorem sY : aF gF = [dK] := by kernel_rfl
theorem uG : ∀ x, bQ Tryz.prog j8 Tryz.f73 (aC Tryz.f73) jJ gF [.list TyE, .fn 59] [.int .i64] x = eO x := by
 rintro ⟨v0, v1, ⟨⟩⟩
 kernel_rfl
theorem vM : cO Tryz.prog 73 [.list TyE, .fn 59] [.int .i64] eO := by
 exact bA aK mB Tryz.func73 (c := gF) (by kernel_rfl) (aU := aC Tryz.f73) (lt := jJ) (aE sY ⟨cR sG rfl sQ, trivial⟩) uG
abbrev nU : Ent := ⟨73, [.list TyE, .fn 59], [.int .i64], eO⟩
theorem uC : Ent.OK Tryz.prog nU := vM

/-! slices.ContainsFunc[schisma/api.Row,int] -/
def dE (x : aH [.list TyE, .fn 59]) : Option (aH [.bool]) := match x with
 | (v0, v1, ()) =>
  aB (eO (v0, (), ())) fun y1 =>
  some (!(ltI y1.1 0), ())
noncomputable def iL : Code := aT Tryz.f55
abbrev l8 : Env := bI [nU]
theorem sA : aZ Tryz.prog l8 := aY ⟨uC, trivial⟩
def lX (id : Nat) : Option aR := none
theorem rH : aF iL = [] := by kernel_rfl
theorem rX : ∀ x, bQ Tryz.prog l8 Tryz.f55 (aC Tryz.f55) lX iL [.list TyE, .fn 59] [.bool] x = dE x := by
 rintro ⟨v0, v1, ⟨⟩⟩
 kernel_rfl
theorem tA : cO Tryz.prog 55 [.list TyE, .fn 59] [.bool] dE := by
 exact bA aK sA Tryz.func55 (c := iL) (by kernel_rfl) (aU := aC Tryz.f55) (lt := lX) (aE rH trivial) rX
abbrev mD : Ent := ⟨55, [.list TyE, .fn 59], [.bool], dE⟩
theorem r9 : Ent.OK Tryz.prog mD := tA

/-! schisma/row.Check -/
def sV (x : aH [.list TyE]) : Option (aH [.int .i64]) := match x with
 | (v0, ()) =>
  bif ltI 64 (v0.length : Int) then
   some (4, ())
  else aB (dE (v0, (), ())) fun y1 =>
  bif y1.1 then
   some (4, ())
  else some (0, ())
noncomputable def PQ : Code := aT Tryz.f37
abbrev X0 : Env := bI [mD]
theorem aCT : aZ Tryz.prog X0 := aY ⟨r9, trivial⟩
def V1 (id : Nat) : Option aR := none
theorem YZ : aF PQ = [] := by kernel_rfl
theorem aCL : ∀ x, bQ Tryz.prog X0 Tryz.f37 (aC Tryz.f37) V1 PQ [.list TyE] [.int .i64] x = sV x := by
 rintro ⟨v0, ⟨⟩⟩
 kernel_rfl
theorem aJR : cO Tryz.prog 37 [.list TyE] [.int .i64] sV := by
 exact bA aK aCT Tryz.func37 (c := PQ) (by kernel_rfl) (aU := aC Tryz.f37) (lt := V1) (aE YZ trivial) aCL
abbrev O4 : Ent := ⟨37, [.list TyE], [.int .i64], sV⟩
theorem NQ : Ent.OK Tryz.prog O4 := aJR

/-! schisma/row.CheckAll -/
abbrev lF : List (Nat × Kd) := [(1, .int .i64), (8, .list TyD), (9, .int .i64), (10, .int .i64)]
abbrev nV : List (Ex × List (Nat × Kd)) := [(.ret, [(4, .int .i64)]), (.exit 0, [])]
def j6 (x : Shape.den lF) : Option (Shape.den lF ⊕ aV nV) := match x with
 | (v1, v8, v9, v10, ()) =>
  bif ltI v10 v9 then
   bif aP v10 v8.length then aB (sV ((v8.getD v10.toNat []), ())) fun y2 =>
   bif !(eqI y2.1 0) then
    some (.inr (.inl (y2.1, ())))
   else bif !(eqI ((v8.getD v10.toNat []).length : Int) v1) then
    some (.inr (.inl (5, ())))
   else some (.inl (v1, v8, v9, (aJ .i64 (v10 + 1)), ())) else none
  else some (.inr (.inr ((()))))
def pE (x : Shape.den lF) : Option (aV nV) := bS j6 (2 ^ 64) x
def pV (x : aH [.list TyD, .int .i64]) : Option (aH [.int .i64]) := match x with
 | (v0, v1, ()) =>
  aB (pE (v1, v0, (v0.length : Int), 0, ())) fun z3 =>
  kT z3 (fun a4 => some (a4.1, ())) fun b5 =>
  some (0, ())
noncomputable def wR : Code := aT Tryz.f99
abbrev D2 : Env := bI [O4]
theorem FH : aZ Tryz.prog D2 := aY ⟨NQ, trivial⟩
noncomputable def pK : Code := eD wR 0
def BN (id : Nat) : Option aR := bif Nat.beq id 2 then some ⟨lF, nV, pE⟩ else none
theorem MU : ∀ x, dZ Tryz.prog D2 24 (aC Tryz.f99) BN pK lF nV x = j6 x := by
 rintro ⟨v1, v8, v9, v10, ⟨⟩⟩
 kernel_rfl
theorem TC : aF pK = [] := by kernel_rfl
theorem M4 : aG pK = 2 := by kernel_rfl
theorem OZ : cL Tryz.prog 24 pK ⟨lF, nV, pE⟩ := by
 exact cS FH.callee aK.mixed _ (aE TC trivial) MU
theorem RM : aF wR = [pK] := by kernel_rfl
theorem TK : ∀ x, bQ Tryz.prog D2 Tryz.f99 (aC Tryz.f99) BN wR [.list TyD, .int .i64] [.int .i64] x = pV x := by
 rintro ⟨v0, v1, ⟨⟩⟩
 kernel_rfl
theorem ZC : cO Tryz.prog 99 [.list TyD, .int .i64] [.int .i64] pV := by
 exact bA aK FH Tryz.func99 (c := wR) (by kernel_rfl) (aU := aC Tryz.f99) (lt := BN) (aE RM ⟨cR M4 rfl OZ, trivial⟩) TK
abbrev ND : Ent := ⟨99, [.list TyD, .int .i64], [.int .i64], pV⟩
theorem SX : Ent.OK Tryz.prog ND := ZC

/-! schisma/lattice.check -/
def lJ (x : aH [.int .i64, .list TyD]) : Option (aH [.int .i64]) := match x with
 | (v0, v1, ()) =>
  bif ltI v0 0 then
   some (3, ())
  else bif ltI 12 v0 then
   some (3, ())
  else bif ltI 12 (v1.length : Int) then
   some (4, ())
  else aB (pV (v1, v0, ())) fun y1 =>
  some (y1.1, ())
noncomputable def BK : Code := aT Tryz.f76
abbrev KJ : Env := bI [ND]
theorem Q7 : aZ Tryz.prog KJ := aY ⟨SX, trivial⟩
def I4 (id : Nat) : Option aR := none
theorem OL : aF BK = [] := by kernel_rfl
theorem SI : ∀ x, bQ Tryz.prog KJ Tryz.f76 (aC Tryz.f76) I4 BK [.int .i64, .list TyD] [.int .i64] x = lJ x := by
 rintro ⟨v0, v1, ⟨⟩⟩
 kernel_rfl
theorem WH : cO Tryz.prog 76 [.int .i64, .list TyD] [.int .i64] lJ := by
 exact bA aK Q7 Tryz.func76 (c := BK) (by kernel_rfl) (aU := aC Tryz.f76) (lt := I4) (aE OL trivial) SI
abbrev A7 : Ent := ⟨76, [.int .i64, .list TyD], [.int .i64], lJ⟩
theorem C7 : Ent.OK Tryz.prog A7 := WH

/-! (schisma/lattice.longs).short -/
abbrev eN : List (Nat × Kd) := [(4, .bag 116 TyE 23 TyD none), (6, .bag 116 TyE 23 TyD none), (13, .own 137 (.hnd 1)), (14, .int .i64), (15, .int .i64), (100000, .ar 144 .str)]
abbrev fY : List (Ex × List (Nat × Kd)) := [(.ret, [(4, .bag 116 TyE 23 TyD none), (5, .int .i64), (100000, .ar 144 .str)]), (.exit 0, [(4, .bag 116 TyE 23 TyD none), (6, .bag 116 TyE 23 TyD none), (100000, .ar 144 .str)])]
def dJ (x : Shape.den eN) : Option (Shape.den eN ⊕ aV fY) := match x with
 | (v4, v6, v13, v14, v15, v100000, ()) =>
  bif ltI v15 v14 then
   bif aP v15 v13.length then bif Nat.blt v15.toNat v13.length then aB (gS () (((v13.getD v15.toNat (0, 0, 0)).1, (v13.getD v15.toNat (0, 0, 0)).2.1, (v13.getD v15.toNat (0, 0, 0)).2.2), ()) v100000) fun y2 =>
   bif !(eqI y2.1.2.1 0) then
    some (.inr (.inl ((0, ([], ())), y2.1.2.1, y2.2, ())))
   else bif Nat.ble [y2.1.1].length 1048576 then bif Nat.ble v6.2.1.length 1048576 then some (.inl ((v4.1, (v4.2.1, ())), (v6.1, ((v6.2.1 ++ [y2.1.1]), ())), v13, v14, (aJ .i64 (v15 + 1)), y2.2, ())) else none else none else none else none
  else some (.inr (.inr (((v4.1, (v4.2.1, ())), (v6.1, (v6.2.1, ())), v100000, ()))))
def gY (x : Shape.den eN) : Option (aV fY) := bS dJ (2 ^ 64) x
def fQ (v0 : List (Nat × Nat × Nat)) (x : aH [.int .i64]) (A : List (List ByteArray)) : Option ((aH [.agg (.prod TyE TyC), .int .i64]) × List (List ByteArray)) := match x with
 | (v1, ()) =>
  aB (gY ((0, ([], ())), (v1, ([], ())), v0, (v0.length : Int), 0, A, ())) fun z3 =>
  kT z3 (fun a4 => some (((a4.1.1, a4.1.2.1), a4.2.1, ()), a4.2.2.1)) fun b5 =>
  some (((b5.2.1.1, b5.2.1.2.1), 0, ()), b5.2.2.1)
noncomputable def kL : Code := aT Tryz.f79
abbrev oA : Env := aGC [] [vO]
theorem qR : aZ Tryz.prog oA := DD trivial ⟨D4, trivial⟩
noncomputable def gP : Code := inLoop (KX kL 0)
def nF (id : Nat) : Option aR := bif Nat.beq id 3 then some ⟨eN, fY, gY⟩ else none
def nA (id : Nat) : Option aR := none
theorem yC : aG gP = 3 := by kernel_rfl
theorem AZ : cD gP = [] := by kernel_rfl
theorem xS : ∀ x, YN Tryz.prog oA 36 (rU Tryz.f79) nF nA false [] gP eN fY x = dJ x := by
 rintro ⟨v4, v6, v13, v14, v15, v100000, ⟨⟩⟩
 kernel_rfl
theorem yN : vG Tryz.prog 36 false [] (.loop gP) ⟨eN, fY, gY⟩ := by
 exact RU qR.callee aK.mixed _ (nP AZ trivial) xS
theorem zQ : cD kL = [.loop gP] := by kernel_rfl
theorem A6 : ∀ l x A, aLP Tryz.prog oA Tryz.f79 (rU Tryz.f79) nF nA kL 144 .str (.own 137 (.hnd 1)) [.int .i64] (.data [.agg (.prod TyE TyC), .int .i64]) l x A = fQ l x A := by
 rintro u0 ⟨v1, ⟨⟩⟩ A
 kernel_rfl
theorem ES : ZB Tryz.prog 79 144 .str (.own 137 (.hnd 1)) [.int .i64] (.data [.agg (.prod TyE TyC), .int .i64]) fQ := by
 exact aWK aK qR Tryz.func79 (c := kL) (by kernel_rfl) (aU := rU Tryz.f79) (lt := nF) (rt := nA) (by rfl) (nP zQ ⟨X6 yC rfl yN, trivial⟩) A6
abbrev tS : Shr := (79, arH 144 .str (.own 137 (.hnd 1)) [.int .i64] (.data [.agg (.prod TyE TyC), .int .i64]) fQ)
theorem BQ : I8 Tryz.prog tS := UQ ES

/-! schisma/lattice.Of -/
def jE (x : aH [.int .i64, .list TyD]) : Option (aH [.agg (.prod TyE TyC), .int .i64]) := match x with
 | (v0, v1, ()) =>
  aB (lJ (v0, v1, ())) fun y1 =>
  bif !(eqI y1.1 0) then
   some ((0, []), y1.1, ())
  else aB (iZ () (v1, ()) []) fun y2 =>
  aB (fR y2.1 (v0, ()) y2.2) fun y3 =>
  aB (fQ y3.1 (v0, ()) y3.2) fun y4 =>
  some ((y4.1.1.1, y4.1.1.2), y4.1.2.1, ())
noncomputable def KH : Code := aT Tryz.f67
abbrev V7 : Env := aGC [A7] [yX, tM, tS]
theorem aAG : aZ Tryz.prog V7 := DD ⟨C7, trivial⟩ ⟨HT, CI, BQ, trivial⟩
def QO (id : Nat) : Option aR := none
theorem W5 : aF KH = [] := by kernel_rfl
theorem ZE : ∀ x, aUF Tryz.prog V7 Tryz.f67 (aC Tryz.f67) QO KH 144 .str [.int .i64, .list TyD] [.agg (.prod TyE TyC), .int .i64] x = jE x := by
 rintro ⟨v0, v1, ⟨⟩⟩
 kernel_rfl
theorem aEW : cO Tryz.prog 67 [.int .i64, .list TyD] [.agg (.prod TyE TyC), .int .i64] jE := by
 exact a5K aK aAG Tryz.func67 (c := KH) (by kernel_rfl) (aU := aC Tryz.f67) (lt := QO) (aE W5 trivial) ZE
abbrev WC : Ent := ⟨67, [.int .i64, .list TyD], [.agg (.prod TyE TyC), .int .i64], jE⟩
theorem ZR : Ent.OK Tryz.prog WC := aEW
end Go.PM
set_option linter.unusedSimpArgs false
set_option linter.unusedVariables false
namespace Go.PM
open Go Go.RowKit Go.Proofs
set_option maxRecDepth 100000
set_option maxHeartbeats 4000000
/-! schisma/lattice.longOf -/
abbrev iY : List (Nat × Kd) := [(3, .own 144 .str), (9, .list TyE), (10, .int .i64), (11, .int .i64)]
abbrev kW : List (Ex × List (Nat × Kd)) := [(.exit 0, [(3, .own 144 .str)])]
def vR (x : Shape.den iY) : Option (Shape.den iY ⊕ aV kW) := match x with
 | (v3, v9, v10, v11, ()) =>
  bif ltI v11 v10 then
   bif aP v11 v9.length then aB (gI ((v9.getD v11.toNat 0), ())) fun y2 =>
   bif Nat.ble [y2.1].length 1048576 then bif Nat.ble v3.length 1048576 then some (.inl ((v3 ++ [y2.1]), v9, v10, (aJ .i64 (v11 + 1)), ())) else none else none else none
  else some (.inr ((v3, ())))
def l4 (x : Shape.den iY) : Option (aV kW) := bS vR (2 ^ 64) x
def j4 (x : aH [.list TyE]) : Option (aH [.list .str]) := match x with
 | (v0, ()) =>
  bif !(ltI (v0.length : Int) 0) then bif !(ltI 1048576 (v0.length : Int)) then aB (l4 ((List.replicate 0 ByteArray.empty), v0, (v0.length : Int), 0, ())) fun z3 =>
  some (z3.1, ()) else none else none
noncomputable def rE : Code := aT Tryz.f100
abbrev vW : Env := bI [AK]
theorem zA : aZ Tryz.prog vW := aY ⟨uY, trivial⟩
noncomputable def lO : Code := eD rE 0
def uR (id : Nat) : Option aR := bif Nat.beq id 3 then some ⟨iY, kW, l4⟩ else none
theorem HZ : ∀ x, dZ Tryz.prog vW 22 (aC Tryz.f100) uR lO iY kW x = vR x := by
 rintro ⟨v3, v9, v10, v11, ⟨⟩⟩
 kernel_rfl
theorem MR : aF lO = [] := by kernel_rfl
theorem HJ : aG lO = 3 := by kernel_rfl
theorem JO : cL Tryz.prog 22 lO ⟨iY, kW, l4⟩ := by
 exact cS zA.callee aK.mixed _ (aE MR trivial) HZ
theorem LL : aF rE = [lO] := by kernel_rfl
theorem MP : ∀ x, bQ Tryz.prog vW Tryz.f100 (aC Tryz.f100) uR rE [.list TyE] [.list .str] x = j4 x := by
 rintro ⟨v0, ⟨⟩⟩
 kernel_rfl
theorem QB : cO Tryz.prog 100 [.list TyE] [.list .str] j4 := by
 exact bA aK zA Tryz.func100 (c := rE) (by kernel_rfl) (aU := aC Tryz.f100) (lt := uR) (aE LL ⟨cR HJ rfl JO, trivial⟩) MP
abbrev FY : Ent := ⟨100, [.list TyE], [.list .str], j4⟩
theorem MN : Ent.OK Tryz.prog FY := QB

/-! (schisma/lattice.Lattice).pivots$1 -/
abbrev dB : List (Nat × Kd) := [(0, .val), (7, .list TyD), (8, .int .i64), (9, .int .i64)]
abbrev eV : List (Ex × List (Nat × Kd)) := [(.exit 0, [])]
def dY (x : Shape.den dB) : Option (List (Value × aH [.int .i64, .list .str]) × (Shape.den dB ⊕ aV eV)) := match x with
 | (v0, v7, v8, v9, ()) =>
  bif ltI v9 v8 then
   bif aP v9 v7.length then aB (j4 ((v7.getD v9.toNat []), ())) fun y3 =>
   aB (hX (y3.1, ())) fun y4 =>
   outs [(v0, (y4.1, y3.1, ()))] (some ([], .inl (v0, v7, v8, (aJ .i64 (v9 + 1)), ()))) else none
  else some ([], .inr ((())))
def fV (x : Shape.den dB) : Option (List (Value × aH [.int .i64, .list .str]) × aV eV) := PY dY (2 ^ 64) x
def lH (v0 : Value) (x : uJ [(.prod TyE TyC)]) : Option (List (Value × aH [.int .i64, .list .str])) := match x with
 | (v1, ()) =>
  aRW (aJF (fV (v0, v1.2, (v1.2.length : Int), 0, ())) fun z5 =>
  some ([], ()))
noncomputable def iQ : Code := aT Tryz.f141
abbrev lG : Env := aGC [FY, A0] []
theorem oT : aZ Tryz.prog lG := DD ⟨MN, JI, trivial⟩ trivial
noncomputable def fG : Code := inLoop (KX iQ 0)
def kZ (id : Nat) : Option aR := none
def kX (id : Nat) : Option (D8 (Value × aH [.int .i64, .list .str])) := bif Nat.beq id 1 then some ⟨dB, eV, fV⟩ else none
theorem uQ : aG fG = 1 := by kernel_rfl
theorem xK : cD fG = [] := by kernel_rfl
theorem vH : ∀ x, aKR Tryz.prog lG 22 (aC Tryz.f141) kZ [.int .i64, .list .str] kX fG dB eV x = dY x := by
 rintro ⟨v0, v7, v8, v9, ⟨⟩⟩
 kernel_rfl
theorem vJ : aI9 Tryz.prog 22 [.int .i64, .list .str] fG ⟨dB, eV, fV⟩ := by
 exact aHS oT.callee aK.mixed _ (QR xK trivial) vH
theorem vV : cD iQ = [.loop fG] := by kernel_rfl
theorem xF : ∀ v0 x, aM3 Tryz.prog lG Tryz.f141 (aC Tryz.f141) kZ [.int .i64, .list .str] kX iQ [(.prod TyE TyC)] v0 x = lH v0 x := by
 rintro v0 ⟨v1, ⟨⟩⟩
 kernel_rfl
theorem xE {f : uJ [(.prod TyE TyC)] → Option (List (aH [.int .i64, .list .str]))} (h : ∀ yv x all, f x = some all → lH yv x = some (all.map fun e => (yv, e))) : O5 Tryz.prog 141 [(.prod TyE TyC)] [.int .i64, .list .str] f := by
 exact aMW aK oT Tryz.func141 (c := iQ) (by kernel_rfl) (by kernel_rfl) (aU := aC Tryz.f141) (lt := kZ) (li := kX) (QR vV ⟨aHC uQ rfl rfl vJ, trivial⟩) (fun yv x all hx => (xF yv x).trans (h yv x all hx))

/-! the iterator pivots -/
def aBH : List (List Int) → Option (List (aH [.int .i64, .list .str]))
 | [] => some []
 | r :: l => aB (j4 (r, ())) fun y => aB (hX (y.1, ())) fun z => aB (aBH l) fun rest => some ((z.1, y.1, ()) :: rest)
def QM (x : uJ [(.prod TyE TyC)]) : Option (List (aH [.int .i64, .list .str])) := match x with
 | ((_, b), ()) => bif Nat.ble b.length 1048576 then aBH b else none
theorem V5 (yv : Value) (l : List (List Int)) (hl : l.length ≤ 1048576) : ∀ (rest pre : List (List Int)) (all : List (aH [.int .i64, .list .str])) (N : Nat), aBH rest = some all → pre ++ rest = l → rest.length < N →
  PY dY N (yv, l, (l.length : Int), (pre.length : Int), ()) = some (all.map fun e => (yv, e), ())
 | [], pre, all, N + 1, h, hp, _ => by
  obtain rfl := Option.some.inj h
  rw [List.append_nil] at hp
  subst hp
  have h1 : ltI (pre.length : Int) (pre.length : Int) = false := by simp [aL]
  simp only [PY, dY, h1, cond_false]
  rfl
 | r :: rest, pre, all, N + 1, h, hp, hN => by
  obtain ⟨y, hy, h⟩ := oC h
  obtain ⟨z, hz, h⟩ := oC h
  obtain ⟨all', ha, h⟩ := oC h
  obtain rfl := Option.some.inj h
  have hlen : l.length = pre.length + (rest.length + 1) := by rw [← hp]; simp
  have h1 : ltI (pre.length : Int) (l.length : Int) = true := by simp [aL]; omega
  have h2 : aP (pre.length : Int) l.length = true := by simp [bB]; omega
  have h3 : l.getD ((pre.length : Int)).toNat [] = r := by rw [← hp]; simp
  have h4 := V5 yv l hl rest (pre ++ [r]) all' N ha (by rw [← hp]; simp) (by simp at hN; omega)
  have h5 : aJ .i64 ((pre.length : Int) + 1) = ((pre ++ [r]).length : Int) := by rw [wrap64 (by omega) (by omega)]; simp
  simp only [PY, dY, h1, cond_true, h2, h3, hy, aD, hz, outs, h5]
  rw [h4]
  rfl
theorem aQA : O5 Tryz.prog 141 [(.prod TyE TyC)] [.int .i64, .list .str] QM := by
 refine xE ?_
 rintro yv ⟨⟨n, b⟩, ⟨⟩⟩ all h
 unfold QM at h
 dsimp only at h
 obtain ⟨hb, h⟩ := aI h
 have hb := Nat.le_of_ble_eq_true hb
 have := V5 yv b hb b [] all (2 ^ 64) h rfl (by omega)
 unfold lH
 dsimp only
 unfold fV
 have h0 : ((([] : List (List Int)).length : Nat) : Int) = 0 := rfl
 rw [h0] at this
 rw [this]
 simp [aJF, outs, aRW]
end Go.PM
