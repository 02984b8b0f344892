/- Texts of one proof, joined (6). -/
import Derived.Test.YtjgapmocogjkmaaGreatDoorQB5
set_option linter.unusedSimpArgs false
set_option linter.unusedVariables false
namespace Go.PM
open Go Go.RowKit
structure CV (Y : Type) where
 sh : List (Nat × Kd)
 exits : List (Ex × List (Nat × Kd))
 run : Shape.den sh → Option (List Y × aT exits)
def aX0 (o : Oper) : Bool := match o.op with
 | .call c => match c.callee with
  | .value (.tmp _) => true
  | _ => false
 | _ => false
def aTC : List Oper → Nat → Option Nat
 | [], _ => none
 | o :: r, i => bif aX0 o then some i else aTC r (i + 1)
def outs {Y α : Type} (l : List Y) : Option (List Y × α) → Option (List Y × α)
 | some (m, z) => some (l ++ m, z)
 | none => none
def aGS {Y τ α : Type} (r : Option (List Y × τ)) (k : τ → Option (List Y × α)) : Option (List Y × α) := match r with
 | some (l, z) => outs l (k z)
 | none => none
def aNF {Y : Type} : Option (List Y × Unit) → Option (List Y)
 | some (l, _) => some l
 | none => none
section
variable {α : Type} (P : Program) (E : Env) (nt aQ : Nat) (lt : Nat → Option aO) (ks : List Kd) (li : Nat → Option (CV (Value × aJ ks)))
def aXP (ops : Array Oper) (o : Oper) (rest : List Oper) (F : Frm) (H : Heap) (k : Frm → Heap → Option (List (Value × aJ ks) × α)) (kx : Frm → Heap → Option Unit) : Option (List (Value × aJ ks) × α) :=
 aC0 F ops.toList o fun F b => bif b then (match o.op with
  | .call c => match c.callee with
   | .value f => match ev F f with
    | .lit yv => bif b8.noRefs (c.args.toList.map (ev F)) && ks.all Kd.plain then (match aD0 ks (c.args.toList.map (ev F)) with
     | some e => match DM nt F o.dst (.lit (.bool true)), DM nt F o.dst (.lit (.bool false)) with
      | some F1, some F2 => match yC P E nt ops.toList rest F2 H kx with
       | some _ => outs [(yv, e)] (yC P E nt ops.toList rest F1 H k)
       | none => none
      | _, _ => none
     | none => none) else none
    | _ => none
   | _ => none
  | _ => none) else match DM nt F o.dst (.lit undef) with
   | some F1 => yC P E nt ops.toList rest F1 H k
   | none => none
def vU : Code → Frm → Heap → (Ex → Frm → Heap → Option (List (Value × aJ ks) × α)) → (Ex → Frm → Heap → Option Unit) → Option (List (Value × aJ ks) × α)
 | .skip, F, H, k, _ => k .normal F H
 | .label _, F, H, k, _ => k .normal F H
 | .region _ ops draw, F, H, k, kx => match aTC ops.toList 0 with
  | none => bif FK ops then rL P E nt ops draw F H fun F H => IN aQ F fun F => k .normal F H else none
  | some s => bif VD ops s then match ops.toList.drop s with
   | o :: rest => bif rest.all (fun o => !aD1 o.op) then
     (bif draw then rL P E nt (ops.toList.take s).toArray true F H else yC P E nt ops.toList (ops.toList.take s) F H) fun F H =>
      aXP P E nt ks ops o rest F H (fun F H => IN aQ F fun F => k .normal F H) (fun F H => kx .normal F H)
    else none
   | [] => none
   else none
 | .seq a b, F, H, k, kx => vU a F H (fun ex F H => match ex with
  | .normal => vU b F H k kx
  | .exit i => k (.exit i) F H
  | .ret => k .ret F H) (fun ex F H => match ex with
  | .normal => pB P E nt aQ lt (fun _ => none) true [] b F H kx
  | .exit i => kx (.exit i) F H
  | .ret => kx .ret F H)
 | .cond c a b, F, H, k, kx => match ev F c with
  | .lit (.bool t) => aIY F c t fun F t => bif t then vU a F H k kx else vU b F H k kx
  | _ => none
 | .block id a, F, H, k, kx => vU a F H (fun ex F H => match ex with
  | .exit i => bif Nat.beq i id then k .normal F H else k (.exit i) F H
  | .normal => k .normal F H
  | .ret => k .ret F H) (fun ex F H => match ex with
  | .exit i => bif Nat.beq i id then kx .normal F H else kx (.exit i) F H
  | .normal => kx .normal F H
  | .ret => kx .ret F H)
 | .loop a, F, H, k, _ => match li (aF a) with
  | some s => match oA [] s.sh F H with
   | some x => aGS (s.run x) fun z => aIA s.exits z k
   | none => none
  | none => match lt (aF a) with
   | some s => match oA [] s.sh F H with
    | some x => aB (s.run x) fun z => aIA s.exits z k
    | none => none
   | none => none
 | .exit id, F, H, k, _ => k (.exit id) F H
 | .ret, F, H, k, _ => k .ret F H
 | _, _, _, _, _ => none
end
def aS2 : Ex → Frm → Heap → Option Unit := fun ex _ _ => match ex with
 | .ret => some ()
 | _ => none
def aNP {Y : Type} (sh : List (Nat × Kd)) (exits : List (Ex × List (Nat × Kd))) (ex : Ex) (F : Frm) (H : Heap) : Option (List Y × (Shape.den sh ⊕ aT exits)) := match TR [] sh exits ex F H with
 | some z => some ([], z)
 | none => none
def aH6 (P : Program) (E : Env) (nt aQ : Nat) (lt : Nat → Option aO) (ks : List Kd) (li : Nat → Option (CV (Value × aJ ks))) (a : Code) (sh : List (Nat × Kd)) (exits : List (Ex × List (Nat × Kd))) (x : Shape.den sh) : Option (List (Value × aJ ks) × (Shape.den sh ⊕ aT exits)) :=
 vU P E nt aQ lt ks li a (mV sh x 0) (uC sh x) (aNP sh exits) aS2
def N1 {Y σ τ : Type} (step : σ → Option (List Y × (σ ⊕ τ))) : Nat → σ → Option (List Y × τ)
 | 0, _ => none
 | n + 1, x => match step x with
  | some (l, .inl y) => outs l (N1 step n y)
  | some (l, .inr z) => some (l, z)
  | none => none

theorem QI {Y α : Type} {l : List Y} {r : Option (List Y × α)} {m : List Y} {z : α} (h : outs l r = some (m, z)) : ∃ m', r = some (m', z) ∧ m = l ++ m' := by
 cases r with
 | none => cases h
 | some p =>
  obtain ⟨m', z'⟩ := p
  simp only [outs, Option.some.injEq, Prod.mk.injEq] at h
  obtain ⟨h1, h2⟩ := h
  subst h2
  exact ⟨m', rfl, h1.symm⟩

section
variable {P : Program} {E : Env} {nt aQ : Nat} {lt : Nat → Option aO} {ks : List Kd} {li : Nat → Option (CV (Value × aJ ks))}
variable {Φ : (Nat → Prop) → (Nat → Prop) → World → Prop} {G0 G G' : Gd} {μ μ' : Mp} {H H' : Heap} {A A' W : World} {F F' : Frm} {n : Nat} {a : Act}
theorem Sg.aN3 (h : Sg Φ G0 G μ H A) : ∃ n0, aP n0 G μ H A ∧ (∀ b, G0 b → G b) ∧ ∀ A' G' μ' H', Ext n0 A G aG A' G' μ' → aP n0 G' μ' H' A' → Sg Φ G0 G' μ' H' A' := by
 obtain ⟨T, X, B, GB, μB, h1, h2, h3, h4, h5, h6, h7⟩ := h
 refine ⟨_, h7, fun b hb => (h6.good b (h5 b hb)).1, fun A' G' μ' H' e w => ⟨T, X, B, GB, aG, h1, h2, h3, h4, h5, ?_, w⟩⟩
 have h6' : Ext (fun b => X b ∨ B.heap.size ≤ b) B GB aG A G aG := h6.plain
 exact h6'.trans e
theorem aJZ {c : Code} {r : Ex × Frm × Heap} (h : aFM P nt true [] c F H r) {Q : Exit → Act → World → Prop} (hS : Sg Φ G0 G μ H A) (hF : dF A G μ nt F a)
  (hQ : ∀ G' μ' a' A', Sg Φ G0 G' μ' r.2.2 A' → dF A' G' μ' nt r.2.1 a' → Q r.1.to a' A') : c.wpIn Fence.wide n P Q a A := by
 obtain ⟨n0, hW, _, hS2⟩ := hS.aN3
 have e0 : Ext n0 A G aG A G μ := { good := fun _ h => ⟨h, rfl⟩, map := fun _ _ h => (by cases h), len := fun _ _ h => (by cases h), room := fun _ _ h => h, row := fun _ _ h => h, os := rfl, tape := rfl, output := rfl, size := Nat.le_refl _, old := fun _ _ _ => rfl, new := fun _ h => .inl h }
 refine wpIn_mono (h none n n0 A G aG a A (fun h => (by cases h)) (fun r _ => ⟨rfl, rfl⟩) ⟨G, μ, e0, hW, hF.same, by rw [hF.defers]; trivial⟩) ?_
 rintro e a' w' ⟨rfl, ⟨G', μ', e', hW', hF', _⟩, hd⟩
 refine hQ G' μ' a' w' (hS2 _ _ _ _ e' hW') ⟨hF'.size, hF'.slot, ?_⟩
 rw [hd rfl]; exact hF.defers

def aZA (P : Program) (ks : List Kd) (l : Nat) (G0 : Gd) (all : List (aJ ks)) (J Jx : List (aJ ks) → (Nat → Prop) → (Nat → Prop) → World → Prop) : Prop :=
 ∀ pre e post T X B T' X' A us Gx m', all = pre ++ e :: post → J pre T X B → Stp X B A → (∀ b, T' b → (T b ∨ B.heap.size ≤ b) ∧ b < A.heap.size) → (∀ b, X' b → T' b ∧ (X b ∨ B.heap.size ≤ b)) →
   (∀ b, Gx b → (G0 b ∨ T' b) ∧ ¬ X' b) → VRs A (Gd.of Gx) aG (fQ ks e) us →
   YieldAt Fence.wide m' P l us.toArray A fun en C =>
    ((∀ b, b < A.heap.size → G0 b ∨ T' b → C.heap[b]? = A.heap[b]?) ∧ (∀ b n, Room A b n → Room C b n) ∧ A.heap.size ≤ C.heap.size) ∧ ((en = .returned (.bool true) ∧ J (pre ++ [e]) T' X' C) ∨ (en = .returned (.bool false) ∧ Jx (pre ++ [e]) T' X' C))
def aNT (P : Program) (nt : Nat) (ks : List Kd) (c : Code) (F : Frm) (H : Heap) (ys : List (Value × aJ ks)) (r : Ex × Frm × Heap) (kx : Ex → Frm → Heap → Option Unit) : Prop :=
 ∀ (l : Nat) (yv : Value), yv = .func (.yield l) #[] #[] → ∀ (G0 : Gd) (all : List (aJ ks)) (J Jx : List (aJ ks) → (Nat → Prop) → (Nat → Prop) → World → Prop), aZA P ks l G0 all J Jx →
  ∀ (pre post : List (aJ ks)) (n : Nat) (a : Act) (A : World) (G : Gd) (μ : Mp), all = pre ++ (ys.map (·.2) ++ post) → (∀ y ∈ ys, y.1 = yv) → Sg (J pre) G0 G μ H A → dF A G μ nt F a →
  c.wpIn Fence.wide n P (fun e a' A' => (e = r.1.to ∧ ∃ G' μ', Sg (J (pre ++ ys.map (·.2))) G0 G' μ' r.2.2 A' ∧ dF A' G' μ' nt r.2.1 a') ∨
   (∃ ex' F' H' pre' G' μ', kx ex' F' H' = some () ∧ e = ex'.to ∧ Sg (Jx pre') G0 G' μ' H' A' ∧ dF A' G' μ' nt F' a')) a A
def aGU (P : Program) (nt : Nat) (ks : List Kd) (a : Code) (s : CV (Value × aJ ks)) : Prop :=
 ∀ x ys z, s.run x = some (ys, z) → aNT P nt ks (.loop a) (mV s.sh x 0) (uC s.sh x) ys (pT s.exits z) aS2
def SU (P : Program) (nt : Nat) (lt : Nat → Option aO) (ks : List Kd) (li : Nat → Option (CV (Value × aJ ks))) : Code → Prop
 | .loop a => (∀ s, lt (aF a) = some s → r9 P nt true [] (.loop a) s) ∧ (∀ s, li (aF a) = some s → aGU P nt ks a s)
 | _ => True

theorem D3 {c : Code} {r : Ex × Frm × Heap} {kx : Ex → Frm → Heap → Option Unit} (h : aFM P nt true [] c F H r) : aNT P nt ks c F H [] r kx := by
 intro l yv hyv G0 all J Jx hY pre post n a A G μ hall hys hS hF
 refine aJZ h hS hF fun G' μ' a' A' hS' hF' => .inl ⟨rfl, G', μ', ?_, hF'⟩
 rw [List.map_nil, List.append_nil]; exact hS'
theorem aEC (hcl : bX P (cR P E)) (hP : P.follows .mixedOrders = true) {α : Type} {id : Nat} {ops : Array Oper} {draw : Bool} {k : Ex → Frm → Heap → Option α} {z : α} (h : rL P E nt ops draw F H (fun F H => IN aQ F fun F => k .normal F H) = some z) (hd : FK ops = true) :
  ∃ r : Ex × Frm × Heap, k r.1 r.2.1 r.2.2 = some z ∧ aFM P nt true [] (.region id ops draw) F H r := by
 obtain ⟨F1, H1, h1, h2⟩ := YX (id := id) hcl hP hd h
 obtain ⟨F2, h3, h4⟩ := yJ aQ F1 fun F => k .normal F H1
 rw [h3] at h1
 exact ⟨(.normal, F2, H1), h1, fun _ _ _ _ _ _ _ _ _ _ hI => h2 hI fun a' w' hd' hI' => ⟨rfl, hI'.aSM h4, fun _ => hd'⟩⟩
theorem XS (hcl : bX P (cR P E)) {ops : Array Oper} {l : List Oper} (hrun : C5 P (cR P E) nt ops.toList l F H = some (F', H')) (hnd : (l.all fun o => !aD1 o.op) = true) {Q : Exit → Act → World → Prop}
  (hS : Sg Φ G0 G μ H A) (hF : dF A G μ nt F a) (hQ : ∀ G' μ' a' A', Sg Φ G0 G' μ' H' A' → dF A' G' μ' nt F' a' → Q .normal a' A') : wpListIn Fence.wide n P ops Q l a A := by
 obtain ⟨n0, hW, _, hS2⟩ := hS.open_
 have h1 := pY (Q := fun e a' w' => e = .normal ∧ I n0 A G μ nt F' H' a' w') hcl l F H a A hrun ⟨G, μ, Ext.refl _ _ _ _, hW, hF⟩ (fun a' w' h => ⟨rfl, h⟩)
 have h2 := O4 (ro := none) (n := n) (ds := []) (Q' := Q) (fun a w h => by cases h.1) (fun e a' w' h => by
  obtain ⟨rfl, G', μ', e, hW', hF'⟩ := h
  have e1 : lI [] a' = a' := by simp [lI]
  rw [e1]
  exact hQ G' μ' a' w' (hS2 _ _ _ _ e hW') hF') (fun o ho c hc => by
  have := List.all_eq_true.1 hnd o ho
  rw [hc] at this
  cases this) h1
 have e1 : lI [] a = a := by simp [lI]
 rw [e1] at h2
 exact h2
theorem aLY (hcl : bX P (cR P E)) (hP : P.follows .mixedOrders = true) {α : Type} {id s : Nat} {ops : Array Oper} {draw : Bool} (hsp : VD ops s = true) {k : Frm → Heap → Option α} {z : α}
  (h : (bif draw then rL P E nt (ops.toList.take s).toArray true F H else yC P E nt ops.toList (ops.toList.take s) F H) k = some z) :
  ∃ F1 H1, k F1 H1 = some z ∧ ∀ {Φ : (Nat → Prop) → (Nat → Prop) → World → Prop} {G0 G : Gd} {μ : Mp} {A : World} {a : Act} {n : Nat} {Q : Exit → Act → World → Prop}, Sg Φ G0 G μ H A → dF A G μ nt F a →
   (∀ G' μ' a' A', Sg Φ G0 G' μ' H1 A' → dF A' G' μ' nt F1 a' → wpListIn Fence.wide n P ops Q (ops.toList.drop s) a' A') → (Code.region id ops draw).wpIn Fence.wide n P Q a A := by
 obtain ⟨F1, H1, hrun, hk⟩ : ∃ F1 H1, (bif draw then E3 P (cR P E) nt (ops.toList.take s).toArray F H else C5 P (cR P E) nt ops.toList (ops.toList.take s) F H) = some (F1, H1) ∧ k F1 H1 = some z := by
  cases draw with
  | true =>
   simp only [cond_true] at h ⊢
   exact F8 h
  | false =>
   simp only [cond_false] at h ⊢
   obtain ⟨F1, H1, h2, h3⟩ := nE h
   exact ⟨F1, H1, h2, h3⟩
 refine ⟨F1, H1, hk, ?_⟩
 intro Φ G0 G μ A a n Q hS hF hQ
 obtain ⟨n0, hW, _, hS2⟩ := hS.open_
 have := aB9 (ro := none) (n := n) (ds := []) (Q := Q) hcl hP (id := id) hsp hrun (n0 := n0) (wi := A) (Gi := G) (μi := μ) (a := a) (w := A) ⟨G, μ, Ext.refl _ _ _ _, hW, hF⟩ (fun a' w' h => by
  obtain ⟨G', μ', e, hW', hF'⟩ := h
  have e1 : lI [] a' = a' := by simp [lI]
  rw [e1]
  exact hQ G' μ' a' w' (hS2 _ _ _ _ e hW') hF')
 have e1 : lI [] a = a := by simp [lI]
 rw [e1] at this
 exact this
theorem aOI {l : List Operand} (hF : dF A G μ nt F a) : VRs A G μ (l.map (ev F)) (l.map a.eval) := by
 induction l with
 | nil => rw [List.map_nil, List.map_nil, VRs]
 | cons x l ih =>
  rw [List.map_cons, List.map_cons, VRs]
  exact ⟨_, _, rfl, bK hF x, ih⟩

theorem mL {α : Type} (hcl : bX P (cR P E)) (hP : P.follows .mixedOrders = true) : ∀ (c : Code) (F : Frm) (H : Heap) (k : Ex → Frm → Heap → Option (List (Value × aJ ks) × α)) (kx : Ex → Frm → Heap → Option Unit) (ys : List (Value × aJ ks)) (z : α),
  (∀ F H, kx .ret F H = some ()) → (∀ a ∈ bN c, SU P nt lt ks li a) → vU P E nt aQ lt ks li c F H k kx = some (ys, z) →
  ∃ ys1 ys2 r, k r.1 r.2.1 r.2.2 = some (ys2, z) ∧ ys = ys1 ++ ys2 ∧ aNT P nt ks c F H ys1 r kx
 | .skip, F, H, k, kx, ys, z, hx, hl, h => ⟨[], ys, (.normal, F, H), h, rfl, D3 fun _ _ _ _ _ _ _ _ _ _ hI => wpIn_skip ⟨rfl, hI, fun _ => rfl⟩⟩
 | .label l, F, H, k, kx, ys, z, hx, hl, h => ⟨[], ys, (.normal, F, H), h, rfl, D3 fun _ _ _ _ _ _ _ _ _ _ hI => wpIn_label ⟨rfl, hI, fun _ => rfl⟩⟩
 | .exit id, F, H, k, kx, ys, z, hx, hl, h => ⟨[], ys, (.exit id, F, H), h, rfl, D3 fun _ _ _ _ _ _ _ _ _ _ hI => wpIn_exit ⟨rfl, hI, fun _ => rfl⟩⟩
 | .ret, F, H, k, kx, ys, z, hx, hl, h => ⟨[], ys, (.ret, F, H), h, rfl, D3 fun _ _ _ _ _ _ _ _ _ _ hI => wpIn_ret ⟨rfl, hI, fun _ => rfl⟩⟩
 | .region id ops draw, F, H, k, kx, ys, z, hx, hl, h => by
  simp only [vU] at h
  split at h
  ·obtain ⟨hd, h⟩ := aI h
   obtain ⟨r, h1, h2⟩ := aEC (id := id) hcl hP h hd
   exact ⟨[], ys, r, h1, rfl, D3 h2⟩
  ·rename_i s hs
   obtain ⟨hsp, h⟩ := aI h
   split at h
   ·rename_i o rest hdrop
    obtain ⟨hnd, h⟩ := aI h
    obtain ⟨F1, H1, hk, hsplit⟩ := aLY (id := id) hcl hP hsp h
    unfold aXP at hk
    obtain ⟨b, hg, hk⟩ := SV hk
    cases b with
    | true =>
     simp only [cond_true] at hk
     split at hk
     ·rename_i c hoc
      split at hk
      ·rename_i f hcf
       split at hk
       ·rename_i yv hyv
        obtain ⟨hnr, hk⟩ := aI hk
        rw [Bool.and_eq_true] at hnr
        obtain ⟨hnr, hplk⟩ := hnr
        split at hk
        ·rename_i e he
         split at hk
         ·rename_i F2 F3 hp2 hp3
          split at hk
          ·rename_i u hstop
           obtain ⟨ys2, hlive, rfl⟩ := QI hk
           obtain ⟨F4, H4, hrun4, hk4⟩ := nE hlive
           obtain ⟨F5, H5, hrun5, hk5⟩ := nE hstop
           obtain ⟨F6, h6, h7⟩ := yJ aQ F4 fun F => k .normal F H4
           rw [h6] at hk4
           refine ⟨[(yv, e)], ys2, (.normal, F6, H4), hk4, rfl, ?_⟩
           intro l yv' hyv' G0 all J Jx hY pre post n a A G μ hall hys hS hF
           have hyy := hys _ (List.mem_singleton.2 rfl)
           dsimp only at hyy
           subst hyy
           refine hsplit hS hF fun G1 μ1 a1 A1 hS1 hF1 => ?_
           rw [hdrop]
           have hw := oH hF1 hg
           have hv := aOI (l := c.args.toList) hF1
           have hv0 := bP _ _ hnr hv
           have hve := vK ks he hv0
           have hfe := bK hF1 f
           rw [hyv, VR] at hfe
           have hall' : all = pre ++ e :: post := by rw [hall]; rfl
           refine aPE hoc hcf hw (hfe.trans hyv') (us := (c.args.toList.map a1.eval).toArray) (by rw [← Array.toList_map]) (fun m' => hS1.yield hY hall' hve (XX ks e hplk) m') ?_
           rintro en C ⟨hmo, hout⟩
           rcases hout with ⟨rfl, hS2⟩ | ⟨rfl, hS2⟩
           ·refine ⟨_, rfl, XS hcl hrun4 hnd hS2 ((hF1.mono hmo).X1 hp2 (by rw [VR])) fun G2 μ2 a2 A2 hS3 hF3 => .inl ⟨rfl, G2, μ2, hS3, ?_⟩⟩
            exact ⟨hF3.size, fun t => by
             rcases h7 t with h8 | h8
             ·rw [h8]; exact hF3.slot t
             ·rw [h8, VR]; trivial, hF3.defers⟩
           ·exact ⟨_, rfl, XS hcl hrun5 hnd hS2 ((hF1.mono hmo).X1 hp3 (by rw [VR])) fun G2 μ2 a2 A2 hS3 hF3 => .inr ⟨.normal, F5, H5, _, G2, μ2, hk5, rfl, hS3, hF3⟩⟩
          ·cases hk
         ·cases hk
        ·cases hk
       ·cases hk
      ·cases hk
     ·cases hk
    | false =>
     simp only [cond_false] at hk
     split at hk
     ·rename_i F2 hp2
      obtain ⟨F4, H4, hrun4, hk4⟩ := nE hk
      obtain ⟨F6, h6, h7⟩ := yJ aQ F4 fun F => k .normal F H4
      rw [h6] at hk4
      refine ⟨[], ys, (.normal, F6, H4), hk4, rfl, ?_⟩
      intro l yv' hyv' G0 all J Jx hY pre post n a A G μ hall hys hS hF
      refine hsplit hS hF fun G1 μ1 a1 A1 hS1 hF1 => ?_
      rw [hdrop]
      refine aRI (oH hF1 hg) (XS hcl hrun4 hnd hS1 (hF1.X1 hp2 (by rw [VR])) fun G2 μ2 a2 A2 hS3 hF3 => .inl ⟨rfl, G2, μ2, ?_, ?_⟩)
      ·rw [List.map_nil, List.append_nil]; exact hS3
      ·exact ⟨hF3.size, fun t => by
        rcases h7 t with h8 | h8
        ·rw [h8]; exact hF3.slot t
        ·rw [h8, VR]; trivial, hF3.defers⟩
     ·cases hk
   ·cases h
 | .seq x y, F, H, k, kx, ys, z, hx, hl, h => by
  simp only [vU] at h
  obtain ⟨ys1, ys2, ⟨ex, F1, H1⟩, h1, rfl, h2⟩ := mL hcl hP x F H _ _ ys z (by intro F H; exact hx F H) (fun a ha => hl a (by simp [bN, ha])) h
  have stop : ∀ {l : Nat} {yv : Value} {G0 : Gd} {all : List (aJ ks)} {J Jx : List (aJ ks) → (Nat → Prop) → (Nat → Prop) → World → Prop} {n : Nat} {R : Exit → Act → World → Prop},
    (∀ e a' A', (∃ ex' F' H' pre' G' μ', kx ex' F' H' = some () ∧ e = ex'.to ∧ Sg (Jx pre') G0 G' μ' H' A' ∧ dF A' G' μ' nt F' a') → R e a' A') → ∀ ex' F' H' pre' G' μ' a' A',
    (match ex' with
     | Ex.normal => pB P E nt aQ lt (fun _ => none) true [] y F' H' kx
     | Ex.exit i => kx (Ex.exit i) F' H'
     | Ex.ret => kx Ex.ret F' H') = some () → Sg (Jx pre') G0 G' μ' H' A' → dF A' G' μ' nt F' a' →
    Exit.then (y.wpIn Fence.wide n P R) R ex'.to a' A' := by
   intro l yv G0 all J Jx n R hR ex' F' H' pre' G' μ' a' A' hm hS hF
   cases ex' with
   | normal =>
    obtain ⟨r, h3, h4⟩ := fK hcl hP y F' H' kx () (fun a ha => by
     have := hl a (by simp [bN, ha])
     cases a with
     | loop b => exact this.1
     | rangeFunc g ps as1 b => intro h; cases h
     | _ => trivial) hm
    refine aJZ h4 hS hF fun G2 μ2 a2 A2 hS2 hF2 => hR _ _ _ ⟨r.1, r.2.1, r.2.2, pre', G2, μ2, h3, rfl, hS2, hF2⟩
   | exit i => exact hR _ _ _ ⟨.exit i, F', H', pre', G', μ', hm, rfl, hS, hF⟩
   | ret => exact hR _ _ _ ⟨.ret, F', H', pre', G', μ', hm, rfl, hS, hF⟩
  cases ex with
  | normal =>
   obtain ⟨ys3, ys4, r, h3, rfl, h4⟩ := mL hcl hP y F1 H1 k kx ys2 z hx (fun a ha => hl a (by simp [bN, ha])) h1
   refine ⟨ys1 ++ ys3, ys4, r, h3, by rw [List.append_assoc], ?_⟩
   intro l yv hyv G0 all J Jx hY pre post n a A G μ hall hys hS hF
   refine wpIn_seq (wpIn_mono (h2 l yv hyv G0 all J Jx hY pre (ys3.map (·.2) ++ post) n a A G μ (by rw [hall, List.map_append, List.append_assoc]) (fun y hy => hys y (List.mem_append_left _ hy)) hS hF) ?_)
   rintro e a' w' (⟨rfl, G', μ', hS', hF'⟩ | ⟨ex', F', H', pre', G', μ', hm, rfl, hS', hF'⟩)
   ·refine wpIn_mono (h4 l yv hyv G0 all J Jx hY (pre ++ ys1.map (·.2)) post n a' w' G' μ' (by rw [hall, List.map_append, List.append_assoc, List.append_assoc]) (fun y hy => hys y (List.mem_append_right _ hy)) hS' hF') ?_
    rintro e a'' w'' (⟨rfl, G2, μ2, hS2, hF2⟩ | hst)
    ·refine .inl ⟨rfl, G2, μ2, ?_, hF2⟩
     rw [List.map_append, ← List.append_assoc]; exact hS2
    ·exact .inr hst
   ·exact stop (l := l) (yv := yv) (all := all) (J := J) (fun e a' A' h => Or.inr h) ex' F' H' pre' G' μ' a' w' hm hS' hF'
  | exit i =>
   refine ⟨ys1, ys2, (.exit i, F1, H1), h1, rfl, ?_⟩
   intro l yv hyv G0 all J Jx hY pre post n a A G μ hall hys hS hF
   refine wpIn_seq (wpIn_mono (h2 l yv hyv G0 all J Jx hY pre post n a A G μ hall hys hS hF) ?_)
   rintro e a' w' (⟨rfl, G', μ', hS', hF'⟩ | ⟨ex', F', H', pre', G', μ', hm, rfl, hS', hF'⟩)
   ·exact .inl ⟨rfl, G', μ', hS', hF'⟩
   ·exact stop (l := l) (yv := yv) (all := all) (J := J) (fun e a' A' h => Or.inr h) ex' F' H' pre' G' μ' a' w' hm hS' hF'
  | ret =>
   refine ⟨ys1, ys2, (.ret, F1, H1), h1, rfl, ?_⟩
   intro l yv hyv G0 all J Jx hY pre post n a A G μ hall hys hS hF
   refine wpIn_seq (wpIn_mono (h2 l yv hyv G0 all J Jx hY pre post n a A G μ hall hys hS hF) ?_)
   rintro e a' w' (⟨rfl, G', μ', hS', hF'⟩ | ⟨ex', F', H', pre', G', μ', hm, rfl, hS', hF'⟩)
   ·exact .inl ⟨rfl, G', μ', hS', hF'⟩
   ·exact stop (l := l) (yv := yv) (all := all) (J := J) (fun e a' A' h => Or.inr h) ex' F' H' pre' G' μ' a' w' hm hS' hF'
 | .cond c x y, F, H, k, kx, ys, z, hx, hl, h => by
  simp only [vU] at h
  split at h
  ·rename_i t ht
   replace h := DE h ht
   have hc : ∀ {A : World} {G : Gd} {μ : Mp} {a : Act}, dF A G μ nt F a → a.eval c = .bool t := fun {A G μ a} hF => by
    have hc := bK hF c
    rw [ht, VR] at hc
    exact hc
   cases t with
   | true =>
    obtain ⟨ys1, ys2, r, h3, h4, h5⟩ := mL hcl hP x F H k kx ys z hx (fun a ha => hl a (by simp [bN, ha])) h
    exact ⟨ys1, ys2, r, h3, h4, fun l yv hyv G0 all J Jx hY pre post n a A G μ hall hys hS hF => wpIn_cond (hc hF) (h5 l yv hyv G0 all J Jx hY pre post n a A G μ hall hys hS hF)⟩
   | false =>
    obtain ⟨ys1, ys2, r, h3, h4, h5⟩ := mL hcl hP y F H k kx ys z hx (fun a ha => hl a (by simp [bN, ha])) h
    exact ⟨ys1, ys2, r, h3, h4, fun l yv hyv G0 all J Jx hY pre post n a A G μ hall hys hS hF => wpIn_cond (hc hF) (h5 l yv hyv G0 all J Jx hY pre post n a A G μ hall hys hS hF)⟩
  ·cases h
 | .block id x, F, H, k, kx, ys, z, hx, hl, h => by
  simp only [vU] at h
  obtain ⟨ys1, ys2, ⟨ex, F1, H1⟩, h1, rfl, h2⟩ := mL hcl hP x F H _ _ ys z (by intro F H; exact hx F H) (fun a ha => hl a (by simp [bN, ha])) h
  have stop : ∀ (ex' : Ex) (F' : Frm) (H' : Heap), (match ex' with
     | Ex.exit i => bif Nat.beq i id then kx .normal F' H' else kx (.exit i) F' H'
     | Ex.normal => kx Ex.normal F' H'
     | Ex.ret => kx Ex.ret F' H') = some () → ∃ ex2 : Ex, kx ex2 F' H' = some () ∧ ∀ (Q : Exit → Act → World → Prop) a w, Q ex2.to a w → ex'.to.inBlock id Q a w := by
   intro ex' F' H' hm
   cases ex' with
   | normal => exact ⟨.normal, hm, fun Q a w h => h⟩
   | ret => exact ⟨.ret, hm, fun Q a w h => h⟩
   | exit i =>
    simp only at hm
    cases hi : Nat.beq i id with
    | true =>
     rw [hi] at hm
     have := Nat.eq_of_beq_eq_true hi
     subst this
     exact ⟨.normal, hm, fun Q a w h => by simp only [Ex.to, Exit.inBlock, if_true]; exact h⟩
    | false =>
     rw [hi] at hm
     have hne : ¬ i = id := fun e => by rw [e] at hi; simp at hi
     exact ⟨.exit i, hm, fun Q a w h => by simp only [Ex.to, Exit.inBlock, hne, if_false]; exact h⟩
  have live : ∃ ex2 : Ex, k ex2 F1 H1 = some (ys2, z) ∧ ∀ (Q : Exit → Act → World → Prop) a w, Q ex2.to a w → ex.to.inBlock id Q a w := by
   cases ex with
   | normal => exact ⟨.normal, h1, fun Q a w h => h⟩
   | ret => exact ⟨.ret, h1, fun Q a w h => h⟩
   | exit i =>
    simp only at h1
    cases hi : Nat.beq i id with
    | true =>
     rw [hi] at h1
     have := Nat.eq_of_beq_eq_true hi
     subst this
     exact ⟨.normal, h1, fun Q a w h => by simp only [Ex.to, Exit.inBlock, if_true]; exact h⟩
    | false =>
     rw [hi] at h1
     have hne : ¬ i = id := fun e => by rw [e] at hi; simp at hi
     exact ⟨.exit i, h1, fun Q a w h => by simp only [Ex.to, Exit.inBlock, hne, if_false]; exact h⟩
  obtain ⟨ex2, hk2, hex2⟩ := live
  refine ⟨ys1, ys2, (ex2, F1, H1), hk2, rfl, ?_⟩
  intro l yv hyv G0 all J Jx hY pre post n a A G μ hall hys hS hF
  refine wpIn_block (wpIn_mono (h2 l yv hyv G0 all J Jx hY pre post n a A G μ hall hys hS hF) ?_)
  rintro e a' w' (⟨rfl, G', μ', hS', hF'⟩ | ⟨ex', F', H', pre', G', μ', hm, rfl, hS', hF'⟩)
  ·exact hex2 _ _ _ (Or.inl ⟨rfl, G', μ', hS', hF'⟩)
  ·obtain ⟨ex3, h3, h4⟩ := stop ex' F' H' hm
   exact h4 _ _ _ (Or.inr ⟨ex3, F', H', pre', G', μ', h3, rfl, hS', hF'⟩)
 | .loop x, F, H, k, kx, ys, z, hx, hl, h => by
  simp only [vU] at h
  have hsub := hl (.loop x) (by simp [bN])
  split at h
  ·rename_i s hs
   split at h
   ·rename_i x0 hx0
    unfold aGS at h
    split at h
    ·rename_i ys1 z1 hr
     obtain ⟨ys2, h1, rfl⟩ := QI h
     refine ⟨ys1, ys2, pT s.exits z1, yF h1, rfl, ?_⟩
     intro l yv hyv G0 all J Jx hY pre post n a A G μ hall hys hS hF
     obtain ⟨n0, hW, _, hS2⟩ := hS.aN3
     have e0 : Ext n0 A G aG A G μ := { good := fun _ h => ⟨h, rfl⟩, map := fun _ _ h => (by cases h), len := fun _ _ h => (by cases h), room := fun _ _ h => h, row := fun _ _ h => h, os := rfl, tape := rfl, output := rfl, size := Nat.le_refl _, old := fun _ _ _ => rfl, new := fun _ h => .inl h }
     obtain ⟨G1, μ1, e1, hW1, hF1⟩ := tD hx0 (fun r _ => ⟨rfl, rfl⟩) (⟨G, μ, e0, hW, hF⟩ : I n0 A G aG nt F H a A)
     refine wpIn_mono (hsub.2 s hs x0 ys1 z1 hr l yv hyv G0 all J Jx hY pre post n a A G1 μ1 hall hys (hS2 _ _ _ _ e1 hW1) hF1) ?_
     rintro e a' w' (h | ⟨ex', F', H', pre', G', μ', hm, rfl, hS', hF'⟩)
     ·exact .inl h
     ·refine .inr ⟨ex', F', H', pre', G', μ', ?_, rfl, hS', hF'⟩
      cases ex' with
      | ret => exact hx F' H'
      | normal => cases hm
      | exit i => cases hm
    ·cases h
   ·cases h
  ·split at h
   ·rename_i s hs
    split at h
    ·rename_i x0 hx0
     obtain ⟨y, h1, h2⟩ := lX h
     refine ⟨[], ys, pT s.exits y, yF h2, rfl, D3 fun ro n n0 wi Gi μi a w hro hfl hI => ?_⟩
     exact hsub.1 s hs x0 y h1 ro n n0 wi Gi μi a w hro hfl (hI.dec hfl hx0)
    ·cases h
   ·cases h
 | .scope x, F, H, k, kx, ys, z, hx, hl, h => by simp only [vU] at h; cases h
 | .rangeFunc g ps as1 x, F, H, k, kx, ys, z, hx, hl, h => by simp only [vU] at h; cases h
 | .goto l, F, H, k, kx, ys, z, hx, hl, h => by simp only [vU] at h; cases h
 | .refuse s, F, H, k, kx, ys, z, hx, hl, h => by simp only [vU] at h; cases h

theorem aBD {Y : Type} {sh : List (Nat × Kd)} {exits : List (Ex × List (Nat × Kd))} {ex : Ex} {F : Frm} {H : Heap} {l : List Y} {y : Shape.den sh ⊕ aT exits} (h : aNP sh exits ex F H = some (l, y)) : l = [] ∧ TR [] sh exits ex F H = some y := by
 unfold aNP at h
 split at h
 ·rename_i z hz
  simp only [Option.some.injEq, Prod.mk.injEq] at h
  obtain ⟨h1, h2⟩ := h
  subst h2
  exact ⟨h1.symm, hz⟩
 ·cases h
theorem aJN {F1 : Frm} {H1 : Heap} (hs : ∀ {n0 : Nat → Prop}, I n0 A G aG nt F H a A → I n0 A G aG nt F1 H1 a A) (hS : Sg Φ G0 G μ H A) (hF : dF A G μ nt F a) : ∃ G' μ', Sg Φ G0 G' μ' H1 A ∧ dF A G' μ' nt F1 a := by
 obtain ⟨n0, hW, _, hS2⟩ := hS.aN3
 have e0 : Ext n0 A G aG A G μ := { good := fun _ h => ⟨h, rfl⟩, map := fun _ _ h => (by cases h), len := fun _ _ h => (by cases h), room := fun _ _ h => h, row := fun _ _ h => h, os := rfl, tape := rfl, output := rfl, size := Nat.le_refl _, old := fun _ _ _ => rfl, new := fun _ h => .inl h }
 obtain ⟨G1, μ1, e1, hW1, hF1⟩ := hs ⟨G, μ, e0, hW, hF⟩
 exact ⟨G1, μ1, hS2 _ _ _ _ e1 hW1, hF1⟩
theorem aDA : ∀ {l : List (Ex × List (Nat × Kd))} {z : aT l} {ex : Ex}, DB [] l ex F H = some z → (pT l z).1 = ex ∧ ∀ {n0 : Nat → Prop}, I n0 A G aG nt F H a A → I n0 A G aG nt (pT l z).2.1 (pT l z).2.2 a A := by
 intro l z ex h
 obtain ⟨h1, sh, x, h2, h3, h4⟩ := xW h
 refine ⟨h1, fun hI => ?_⟩
 rw [h3, h4]
 exact tD h2 (fun r _ => ⟨rfl, rfl⟩) hI
theorem aE2 (hcl : bX P (cR P E)) (hP : P.follows .mixedOrders = true) {b : Code} {sh : List (Nat × Kd)} {exits : List (Ex × List (Nat × Kd))} {step : Shape.den sh → Option (List (Value × aJ ks) × (Shape.den sh ⊕ aT exits))} (L : Nat)
  (hl : ∀ a ∈ bN b, SU P nt lt ks li a) (hr : ∀ x, aH6 P E nt aQ lt ks li b sh exits x = step x) : aGU P nt ks b ⟨sh, exits, N1 step L⟩ := by
 intro x ys z hz l yv hyv G0 all J Jx hY pre post n a A G μ hall hys hS hF
 refine wpIn_loop_ghost (fun k a A => ∃ pre1 ys1 x G μ, N1 step k x = some (ys1, z) ∧ pre ++ ys.map (·.2) = pre1 ++ ys1.map (·.2) ∧ (∀ y ∈ ys1, y.1 = yv) ∧ Sg (J pre1) G0 G μ (uC sh x) A ∧ dF A G μ nt (mV sh x 0) a) L ⟨pre, ys, x, G, μ, hz, rfl, hys, hS, hF⟩ ?_
 rintro k a1 A1 ⟨pre1, ys1, x, G, μ, hz, hpre, hys1, hS, hF⟩
 cases k with
 | zero => cases hz
 | succ k =>
  simp only [N1] at hz
  have hall1 : all = pre1 ++ (ys1.map (·.2) ++ post) := by rw [hall, ← List.append_assoc, hpre, List.append_assoc]
  split at hz
  ·rename_i m y hs
   obtain ⟨m2, hz2, rfl⟩ := QI hz
   rw [← hr] at hs
   obtain ⟨y1, y2, ⟨ex, F', H'⟩, h1, h2, h3⟩ := mL hcl hP b _ _ _ aS2 m _ (fun _ _ => rfl) hl hs
   obtain ⟨e1, h4⟩ := aBD h1
   clear h1
   subst e1
   rw [List.append_nil] at h2
   subst h2
   refine wpIn_mono (h3 l yv hyv G0 all J Jx hY pre1 (m2.map (·.2) ++ post) n a1 A1 G μ (by rw [hall1, List.map_append, List.append_assoc]) (fun y hy => hys1 y (List.mem_append_left _ hy)) hS hF) ?_
   rintro e a' A' (⟨rfl, G', μ', hS', hF'⟩ | ⟨ex', F', H', pre', G', μ', hm, rfl, hS', hF'⟩)
   ·rcases DL h4 with ⟨y', e1, e2, e3⟩ | ⟨z', e1, _, _⟩
    ·cases e1
     dsimp only at e2
     subst e2
     obtain ⟨G2, μ2, hS2, hF2⟩ := aJN (fun hI => tD e3 (fun r _ => ⟨rfl, rfl⟩) hI) hS' hF'
     exact ⟨k, by omega, _, m2, y, G2, μ2, hz2, by rw [hpre, List.map_append, List.append_assoc], fun y hy => hys1 y (List.mem_append_right _ hy), hS2, hF2⟩
    ·cases e1
   ·cases ex' with
    | ret => exact .inr ⟨.ret, F', H', pre', G', μ', rfl, rfl, hS', hF'⟩
    | normal => cases hm
    | exit i => cases hm
  ·rename_i m y hs
   simp only [Option.some.injEq, Prod.mk.injEq] at hz
   obtain ⟨rfl, rfl⟩ := hz
   rw [← hr] at hs
   obtain ⟨y1, y2, ⟨ex, F', H'⟩, h1, h2, h3⟩ := mL hcl hP b _ _ _ aS2 m _ (fun _ _ => rfl) hl hs
   obtain ⟨e1, h4⟩ := aBD h1
   clear h1
   subst e1
   rw [List.append_nil] at h2
   subst h2
   refine wpIn_mono (h3 l yv hyv G0 all J Jx hY pre1 post n a1 A1 G μ hall1 hys1 hS hF) ?_
   rintro e a' A' (⟨rfl, G', μ', hS', hF'⟩ | ⟨ex', F', H', pre', G', μ', hm, rfl, hS', hF'⟩)
   ·rcases DL h4 with ⟨y', e1, e2, e3⟩ | ⟨z', e1, e2, e3⟩
    ·cases e1
    ·cases e1
     dsimp only at e2 e3
     obtain ⟨h5, h6⟩ := aDA (A := A') (G := G') (a := a') (nt := nt) e3
     obtain ⟨G2, μ2, hS2, hF2⟩ := aJN (fun hI => h6 hI) hS' hF'
     have hout : (Exit.normal ≠ ex.to → True) := fun _ => trivial
     cases ex with
     | normal => exact absurd rfl e2
     | exit i => exact .inl ⟨by rw [h5], G2, μ2, by rw [hpre]; exact hS2, hF2⟩
     | ret => exact .inl ⟨by rw [h5], G2, μ2, by rw [hpre]; exact hS2, hF2⟩
   ·cases ex' with
    | ret => exact .inr ⟨.ret, F', H', pre', G', μ', rfl, rfl, hS', hF'⟩
    | normal => cases hm
    | exit i => cases hm
  ·cases hz

def aJT (P : Program) (E : Env) (fn : Func) (aQ : Nat) (lt : Nat → Option aO) (ks : List Kd) (li : Nat → Option (CV (Value × aJ ks))) (c : Code) (ts : List Ty) (yv : Value) (x : tI ts) : Option (List (Value × aJ ks)) :=
 bif Nat.ble (1 + (EZ ts x).length) fn.ntmps then aNF (vU P E fn.ntmps aQ lt ks li c (start aQ 0 (.lit yv :: EZ ts x)) [] (fun ex _ _ => match ex with
  | .exit _ => none
  | _ => some ([], ())) (fun ex _ _ => match ex with
  | .exit _ => none
  | _ => some ())) else none
theorem aJ6 (hP : yS P) (hE : aW P E) {g : Nat} {fn : Func} (hg : P.funcs[g]? = some fn) {c : Code} (hc : fn.body = some c) (hres : fn.results = #[]) {ts : List Ty} {f : tI ts → Option (List (aJ ks))}
  (hl : ∀ a ∈ bN c, SU P fn.ntmps lt ks li a) (hb : ∀ yv x all, f x = some all → aJT P E fn aQ lt ks li c ts yv x = some (all.map fun e => (yv, e))) : MD P g ts ks f := by
 intro x all hall m l W G vs hlt hvs J Jx hY hJ
 obtain ⟨yv, hyv⟩ : ∃ yv : Value, yv = .func (.yield l) #[] #[] := ⟨_, rfl⟩
 have hbx := hb yv x all hall
 unfold aJT at hbx
 obtain ⟨hlen, hbx⟩ := aI hbx
 unfold aNF at hbx
 split at hbx
 ·rename_i l0 u hex
  have hl0 := Option.some.inj hbx
  obtain ⟨ys1, ys2, ⟨ex, F', H'⟩, h1, h2, h3⟩ := mL hE.callee hP.mixed c _ _ _ _ _ _ (fun _ _ => rfl) hl hex
  have hex : (ex = .normal ∨ ex = .ret) ∧ ys2 = [] := by
   cases ex with
   | exit i => cases h1
   | normal =>
    simp only [Option.some.injEq, Prod.mk.injEq] at h1
    exact ⟨.inl rfl, h1.1.symm⟩
   | ret =>
    simp only [Option.some.injEq, Prod.mk.injEq] at h1
    exact ⟨.inr rfl, h1.1.symm⟩
  obtain ⟨hex, rfl⟩ := hex
  rw [List.append_nil] at h2
  subst h2
  have hys : ∀ y ∈ l0, y.1 = yv := by
   intro y hy
   rw [hl0] at hy
   obtain ⟨e, -, rfl⟩ := List.mem_map.1 hy
   rfl
  have hmap : l0.map (·.2) = all := by
   rw [hl0, List.map_map]
   exact List.map_id all
  refine callsIn_of_wp hg hc trivial ?_ rfl
  have hargs : VRs W (Gd.of G) aG (.lit yv :: EZ ts x) ((#[.func (.yield l) #[] #[]] : Array Value) ++ vs.toArray).toList := by
   rw [← hyv]
   simp only [Array.toList_append, List.cons_append, List.nil_append]
   rw [VRs]
   exact ⟨yv, vs, rfl, by rw [VR], hvs⟩
  have hF0 := pF (m := aQ) (n := fn.ntmps) hargs (by simpa [Nat.add_comm] using Nat.le_of_ble_eq_true hlen)
  have hS0 : Sg (J []) (Gd.of G) (Gd.of G) aG [] W := Sg.start hlt hJ
  have post : ∀ (ex : Exit) (a : Act) (A : World), (ex = .normal ∨ ex = .ret) → a.defers = [] → ∀ (T X : Nat → Prop) (B : World), Stp X B A → (J all T X B ∨ ∃ pre, Jx pre T X B) →
    bodyPost P fn (fun en C => (∃ v, en = .returned v) ∧ ∃ T X B, Stp X B C ∧ (J all T X B ∨ ∃ pre, Jx pre T X B)) ex a A := by
   intro ex a A hex hd T X B hst hj
   have hr : (results fn a.tmps).run P A = .ok (.tuple #[]) A := by simp [results, hres]
   rcases hex with rfl | rfl
   ·exact ⟨hd, _, hr, ⟨_, rfl⟩, T, X, B, hst, hj⟩
   ·exact ⟨hd, _, hr, ⟨_, rfl⟩, T, X, B, hst, hj⟩
  refine wpIn_mono (h3 l yv hyv (Gd.of G) all J Jx hY [] [] m _ W (Gd.of G) aG (by rw [hmap]; simp) hys hS0 hF0) ?_
  rintro e a' A' (⟨rfl, G', μ', hS', hF'⟩ | ⟨ex', F', H', pre', G', μ', hm, rfl, hS', hF'⟩)
  ·obtain ⟨T, X, B, hst, hj⟩ := hS'.stp
   rw [List.nil_append, hmap] at hj
   refine post _ a' A' ?_ hF'.defers T X B hst (.inl hj)
   rcases hex with rfl | rfl
   ·exact .inl rfl
   ·exact .inr rfl
  ·obtain ⟨T, X, B, hst, hj⟩ := hS'.stp
   refine post _ a' A' ?_ hF'.defers T X B hst (.inr ⟨_, hj⟩)
   cases ex' with
   | normal => exact .inl rfl
   | ret => exact .inr rfl
   | exit i => cases hm
 ·cases hbx
theorem aLH {a : Code} {i : Nat} {s0 : aO} (hf : aF a = i) (hlt : lt i = some s0) (hli : li i = none) (h : r9 P nt true [] (.loop a) s0) : SU P nt lt ks li (.loop a) := by
 refine ⟨fun s hs => ?_, fun s hs => ?_⟩
 ·rw [hf, hlt] at hs
  cases hs
  exact h
 ·rw [hf, hli] at hs
  cases hs
theorem aF8 {a : Code} {i : Nat} {s0 : CV (Value × aJ ks)} (hf : aF a = i) (hlt : lt i = none) (hli : li i = some s0) (h : aGU P nt ks a s0) : SU P nt lt ks li (.loop a) := by
 refine ⟨fun s hs => ?_, fun s hs => ?_⟩
 ·rw [hf, hlt] at hs
  cases hs
 ·rw [hf, hli] at hs
  cases hs
  exact h
def WQ (P : Program) (nt : Nat) (lt : Nat → Option aO) (ks : List Kd) (li : Nat → Option (CV (Value × aJ ks))) : List Code → Prop
 | [] => True
 | c :: r => SU P nt lt ks li c ∧ WQ P nt lt ks li r
theorem PC : ∀ {l : List Code}, WQ P nt lt ks li l → ∀ a ∈ l, SU P nt lt ks li a
 | [], _, a, ha => by cases ha
 | c :: r, h, a, ha => by
  rcases List.mem_cons.1 ha with rfl | ha
  ·exact h.1
  ·exact PC h.2 a ha
theorem OA {c : Code} {l : List Code} (hc : bN c = l) (h : WQ P nt lt ks li l) : ∀ a ∈ bN c, SU P nt lt ks li a := by
 rw [hc]; exact PC h
end
end Go.PM
set_option linter.unusedSimpArgs false
set_option linter.unusedVariables false
namespace Go.PM
open Go Go.RowKit Go.Proofs
set_option maxRecDepth 100000
set_option maxHeartbeats 4000000
/-! schisma/isomorphy.turns$1 -/
abbrev KA : List (Nat × Kd) := [(0, .val), (1, .ptr (.list TyF)), (4, .box 27 TyB), (5, .bool), (8, .int .i64), (26, .list TyF), (27, .int .i64), (28, .int .i64)]
abbrev OO : List (Ex × List (Nat × Kd)) := [(.exit 2, [(0, .val), (1, .ptr (.list TyF)), (4, .box 27 TyB), (5, .bool), (8, .int .i64)])]
def aAG (x : Shape.den KA) : Option (Shape.den KA ⊕ aT OO) := match x with
 | (v0, v1, v4, v5, v8, v26, v27, v28, ()) =>
  bif ltI v28 v27 then
   bif bD v28 v26.length then bif v5 then
    aB (f63 (v1, ((aK .i64 ((aK .i64 (v4.1 * ((v26.getD v28.toNat (0, 0)).1))) + (aK .i64 (v4.2.1 * ((v26.getD v28.toNat (0, 0)).2))))), (aK .i64 ((aK .i64 (v4.2.2.1 * ((v26.getD v28.toNat (0, 0)).1))) + (aK .i64 (v4.2.2.2 * ((v26.getD v28.toNat (0, 0)).2)))))), ())) fun y2 =>
    some (.inl (v0, v1, v4, y2.1, v8, v26, v27, (aK .i64 (v28 + 1)), ()))
   else some (.inl (v0, v1, v4, false, v8, v26, v27, (aK .i64 (v28 + 1)), ())) else none
  else some (.inr ((v0, v1, v4, v5, v8, ())))
def SE (x : Shape.den KA) : Option (aT OO) := bZ aAG (2 ^ 64) x
abbrev KD : List (Nat × Kd) := [(0, .val), (1, .ptr (.list TyF)), (8, .int .i64)]
abbrev OM : List (Ex × List (Nat × Kd)) := [(.exit 0, [])]
def aBN (x : Shape.den KD) : Option (List (Value × aJ [.agg TyB]) × (Shape.den KD ⊕ aT OM)) := match x with
 | (v0, v1, v8, ()) =>
  bif ltI v8 81 then
   aB (SE (v0, v1, ((aK .i64 ((aK .i64 (v8.tdiv 27)) - 1)), ((aK .i64 (((aK .i64 (v8.tdiv 9)).tmod 3) - 1)), ((aK .i64 (((aK .i64 (v8.tdiv 3)).tmod 3) - 1)), (aK .i64 ((v8.tmod 3) - 1))))), true, v8, v1, (v1.length : Int), 0, ())) fun z4 =>
   bif z4.2.2.2.1 then
    bif !(eqI (aK .i64 ((aK .i64 (z4.2.2.1.1 * z4.2.2.1.2.2.2)) - (aK .i64 (z4.2.2.1.2.1 * z4.2.2.1.2.2.1)))) 0) then
     outs [(z4.1, (z4.2.2.1, ()))] (some ([], .inl (z4.1, z4.2.1, (aK .i64 (z4.2.2.2.2.1 + 1)), ())))
    else some ([], .inl (z4.1, z4.2.1, (aK .i64 (z4.2.2.2.2.1 + 1)), ()))
   else some ([], .inl (z4.1, z4.2.1, (aK .i64 (z4.2.2.2.2.1 + 1)), ()))
  else some ([], .inr ((())))
def RX (x : Shape.den KD) : Option (List (Value × aJ [.agg TyB]) × aT OM) := N1 aBN (2 ^ 64) x
def aQI (v0 : Value) (x : tI [(.list TyF)]) : Option (List (Value × aJ [.agg TyB])) := match x with
 | (v1, ()) =>
  aNF (aGS (RX (v0, v1, 0, ())) fun z5 =>
  some ([], ()))
noncomputable def aQP : Code := aR Tryz.f62
abbrev aQS : Env := aBV [e63] []
theorem aCC : aW Tryz.prog aQS := B8 ⟨aXA, trivial⟩ trivial
noncomputable def RH : Code := inLoop (G7 aQP 0)
noncomputable def X4 : Code := inLoop (G7 RH 0)
def aJ1 (id : Nat) : Option aO := bif Nat.beq id 6 then some ⟨KA, OO, SE⟩ else none
def aNB (id : Nat) : Option (CV (Value × aJ [.agg TyB])) := bif Nat.beq id 1 then some ⟨KD, OM, RX⟩ else none
theorem aHP : aF X4 = 6 := by kernel_rfl
theorem aRO : bN X4 = [] := by kernel_rfl
theorem aI7 : ∀ x, QJ Tryz.prog aQS 83 (aC Tryz.f62) aJ1 (fun _ => none) true [] X4 KA OO x = aAG x := by
 rintro ⟨v0, v1, v4, v5, v8, v26, v27, v28, ⟨⟩⟩
 kernel_rfl
theorem aKK : r9 Tryz.prog 83 true [] (.loop X4) ⟨KA, OO, SE⟩ := by
 exact IY aCC.callee aM.mixed _ (lQ aRO trivial) aI7
theorem aJF : aF RH = 1 := by kernel_rfl
theorem aQU : bN RH = [.loop X4] := by kernel_rfl
theorem aIS : ∀ x, aH6 Tryz.prog aQS 83 (aC Tryz.f62) aJ1 [.agg TyB] aNB RH KD OM x = aBN x := by
 rintro ⟨v0, v1, v8, ⟨⟩⟩
 kernel_rfl
theorem aLC : aGU Tryz.prog 83 [.agg TyB] RH ⟨KD, OM, RX⟩ := by
 exact aE2 aCC.callee aM.mixed _ (OA aQU ⟨aLH aHP rfl rfl aKK, trivial⟩) aIS
theorem aPO : bN aQP = [.loop RH] := by kernel_rfl
theorem aS4 : ∀ v0 x, aJT Tryz.prog aQS Tryz.f62 (aC Tryz.f62) aJ1 [.agg TyB] aNB aQP [(.list TyF)] v0 x = aQI v0 x := by
 rintro v0 ⟨v1, ⟨⟩⟩
 kernel_rfl
theorem aSV {f : tI [(.list TyF)] → Option (List (aJ [.agg TyB]))} (h : ∀ yv x all, f x = some all → aQI yv x = some (all.map fun e => (yv, e))) : MD Tryz.prog 62 [(.list TyF)] [.agg TyB] f := by
 exact aJ6 aM aCC Tryz.func62 (c := aQP) (by kernel_rfl) (by kernel_rfl) (aQ := aC Tryz.f62) (lt := aJ1) (li := aNB) (OA aPO ⟨aF8 aJF rfl rfl aLC, trivial⟩) (fun yv x all hx => (aS4 yv x).trans (h yv x all hx))

/-! the neighbours and the symmetries, in order -/
abbrev S4 : Type := Int × Int × Int × Int
def aJ0 : List (Int × Int) := [(1, 0), ((-1), 0), (0, 1), (0, (-1))]
def aKC : List (Int × Int) := [(1, 0), ((-1), 0), (0, 1), (0, (-1)), (1, (-1)), ((-1), 1)]
def aDX : List S4 := [((-1), 0, 0, (-1)), ((-1), 0, 0, 1), (0, (-1), (-1), 0), (0, (-1), 1, 0), (0, 1, (-1), 0), (0, 1, 1, 0), (1, 0, 0, (-1)), (1, 0, 0, 1)]
def aB0 : List S4 := [((-1), (-1), 0, 1), ((-1), (-1), 1, 0), ((-1), 0, 0, (-1)), ((-1), 0, 1, 1), (0, (-1), (-1), 0), (0, (-1), 1, 1), (0, 1, (-1), (-1)), (0, 1, 1, 0), (1, 0, (-1), (-1)), (1, 0, 0, 1), (1, 1, (-1), 0), (1, 1, 0, (-1))]
def eqK : List (Int × Int) → List (Int × Int) → Bool
 | [], [] => true
 | a :: l, b :: m => bif eqI a.1 b.1 && eqI a.2 b.2 then eqK l m else false
 | _, _ => false
theorem aH9 : ∀ {l m : List (Int × Int)}, eqK l m = true → l = m
 | [], [], _ => rfl
 | [], _ :: _, h => by cases h
 | _ :: _, [], h => by cases h
 | (a1, a2) :: l, (b1, b2) :: m, h => by
  simp only [eqK, hM] at h
  by_cases h1 : a1 = b1
  ·by_cases h2 : a2 = b2
   ·simp [h1, h2] at h
    rw [h1, h2, aH9 h]
   ·simp [h2] at h
  ·simp [h1] at h
def JF (x : tI [(.list TyF)]) : Option (List (aJ [.agg TyB])) := match x with
 | (near, ()) => bif eqK near aJ0 then some (aDX.map fun g => (g, ())) else bif eqK near aKC then some (aB0.map fun g => (g, ())) else none
theorem aZQ (yv : Value) : aQI yv (aJ0, ()) = some ((aDX.map fun g => (g, ())).map fun e => (yv, e)) := by kernel_rfl
theorem aZR (yv : Value) : aQI yv (aKC, ()) = some ((aB0.map fun g => (g, ())).map fun e => (yv, e)) := by kernel_rfl
theorem aSA : MD Tryz.prog 62 [(.list TyF)] [.agg TyB] JF := by
 refine aSV ?_
 rintro yv ⟨near, ⟨⟩⟩ all h
 unfold JF at h
 dsimp only at h
 cases h4 : eqK near aJ0 with
 | true =>
  rw [h4, cond_true] at h
  rw [aH9 h4, aZQ, Option.some.inj h]
 | false =>
  rw [h4, cond_false] at h
  cases h6 : eqK near aKC with
  | true =>
   rw [h6, cond_true] at h
   rw [aH9 h6, aZR, Option.some.inj h]
  | false => rw [h6, cond_false] at h; cases h
end Go.PM
set_option linter.unusedSimpArgs false
set_option linter.unusedVariables false
namespace Go.PM
open Go Go.RowKit
abbrev arB (ae : TypeId) (t : Ty) (A : List (List t.den)) : Blk := ⟨aH (.rows t) A, ae, false, false, some ⟨.rows t, A⟩⟩
abbrev owB (e : TypeId) (t : Ty) (l : List t.den) : Blk := ⟨aH t l, e, true, false, some ⟨t, l⟩⟩
abbrev OwA := Option (Nat × Blk)
def BQ : OwA → Heap → Heap
 | none, H => H
 | some (r, _), H => H.set r none
def wV : OwA → Heap
 | none => []
 | some (_, k) => [some k]
def aX7 (μ : Mp) : OwA → Option Nat
 | none => none
 | some (r, _) => μ.loc r
def aZB (μ : Mp) : OwA → Option Nat
 | none => none
 | some (r, _) => μ.len r
def wrA (w : World) (G : Gd) (μ : Mp) (ow : OwA) : Nat → Prop := fun b => w.heap.size ≤ b ∨ aX7 μ ow = some b ∨ ∃ j, G.row j = some b
def mpA (μ : Mp) (ow : OwA) (n : Nat) : Mp := ⟨fun q => if q < (wV ow).length then aX7 μ ow else none, fun q => if q < (wV ow).length then aZB μ ow else if q = (wV ow).length then some n else none⟩
structure aLD (H : Heap) (ow : OwA) : Prop where
 at_ : ∀ r k, ow = some (r, k) → H[r]? = some (some k) ∧ k.grown = true ∧ k.frozen = false ∧ k.tag.isSome = true

section
variable {P : Program} {n0 : Nat → Prop} {w w' : World} {G G1 G2 : Gd} {μ μ2 : Mp} {H H' : Heap} {ae : TypeId} {t : Ty} {A B : List (List t.den)}
theorem aML {ow : OwA} {s : Nat} {k : Blk} (h : (BQ ow H)[s]? = some (some k)) : H[s]? = some (some k) ∧ ∀ r k', ow = some (r, k') → s ≠ r := by
 cases ow with
 | none => exact ⟨h, fun r k' e => by cases e⟩
 | some p =>
  obtain ⟨r, k'⟩ := p
  obtain ⟨h1, h2⟩ := iR h
  exact ⟨h1, fun r' k2 e => by cases e; exact h2⟩
theorem aDB {ow : OwA} : (BQ ow H).length = H.length := by
 cases ow with
 | none => rfl
 | some p => simp [BQ]
theorem aU4 (hW : aP n0 G μ H w) {ow : OwA} (ho : aLD H ow) : ∀ b, wrA w G μ ow b → n0 b := by
 rintro b (h | h | ⟨j, h⟩)
 ·exact hW.base b h
 ·cases ow with
  | none => cases h
  | some p =>
   obtain ⟨r, k⟩ := p
   obtain ⟨h1, _, h3, _⟩ := ho.at_ r k rfl
   obtain ⟨_, _, _, _, _, h6⟩ := hW.blk r k b h1 h
   exact (h6 h3).1
 ·exact (hW.rows.sep j b h).2.1
theorem aL0 (hW : aP n0 G μ H w) {ow : OwA} (ho : aLD H ow) {s : Nat} {k : Blk} {b : Nat} (hs : H[s]? = some (some k)) (hne : ∀ r k', ow = some (r, k') → s ≠ r) (hb : μ.loc s = some b) : ¬ wrA w G μ ow b := by
 rintro (h | h | ⟨j, h⟩)
 ·exact Nat.not_lt.2 h (hW.fP hs hb)
 ·cases ow with
  | none => cases h
  | some p =>
   obtain ⟨r, k'⟩ := p
   obtain ⟨h1, _, h3, _⟩ := ho.at_ r k' rfl
   cases hf : k.frozen with
   | false => exact hne r k' rfl (hW.inj s r k k' b hs h1 hf h3 hb h)
   | true =>
    obtain ⟨_, _, _, _, h5, _⟩ := hW.blk s k b hs hb
    obtain ⟨_, _, _, _, _, h6⟩ := hW.blk r k' b h1 h
    exact (h6 h3).2 (h5 hf)
 ·obtain ⟨_, _, a3, a4⟩ := hW.rows.sep j b h
  cases hf : k.frozen with
  | false => exact a4 s k hs hf hb
  | true =>
   obtain ⟨_, _, _, _, h5, _⟩ := hW.blk s k b hs hb
   exact a3 (h5 hf)
theorem O9 (hW : aP n0 G μ H w) {ow : OwA} (ho : aLD H ow) {ra : Nat} (har : H[ra]? = some (some (arB ae t A))) :
  aP (wrA w G μ ow) G (mpA μ ow A.length) (wV ow ++ [some (arB ae t A)]) w := by
 have key : ∀ (s : Nat) (k : Blk), (wV ow ++ [some (arB ae t A)])[s]? = some (some k) → (s < (wV ow).length ∧ ∃ r, ow = some (r, k) ∧ s = 0) ∨ (s = (wV ow).length ∧ k = arB ae t A) := by
  intro s k hs
  rcases zT (H := wV ow) s k hs with ⟨h1, h2⟩ | ⟨h1, h2⟩
  ·exact .inr ⟨h1, h2⟩
  ·left
   refine ⟨h1, ?_⟩
   cases ow with
   | none => simp [wV] at h1
   | some p =>
    obtain ⟨r, k'⟩ := p
    simp only [wV, List.length_cons, List.length_nil] at h1
    have : s = 0 := by omega
    subst this
    simp only [wV, List.getElem?_cons_zero, Option.some.injEq] at h2
    subst h2
    exact ⟨r, rfl, rfl⟩
 refine ⟨?_, ?_, ?_, hW.lt, ?_, fun b hb => .inl hb, ?_⟩
 ·intro s k b hs hb
  rcases key s k hs with ⟨h1, r, rfl, rfl⟩ | ⟨h1, rfl⟩
  ·have hb : μ.loc r = some b := by
    have : (mpA μ (some (r, k)) A.length).loc 0 = μ.loc r := rfl
    rw [this] at hb; exact hb
   obtain ⟨q1, q2, q3, q4⟩ := ho.at_ r k rfl
   obtain ⟨c, a1, a2, a3, a4, a5⟩ := hW.blk r k b q1 hb
   refine ⟨c, a1, ?_, a3, a4, fun hf => ⟨.inr (.inl hb), (a5 hf).2⟩⟩
   obtain ⟨g, hg⟩ := Option.isSome_iff_exists.1 q4
   rw [(hW.tags r k g q1 hg).1] at a2 ⊢
   exact gW (dU _ _) a2
  ·subst h1
   simp only [mpA, Nat.lt_irrefl, if_false] at hb
   cases hb
 ·intro s k g hs hg
  rcases key s k hs with ⟨h1, r, rfl, rfl⟩ | ⟨h1, rfl⟩
  ·obtain ⟨q1, _⟩ := ho.at_ r k rfl
   obtain ⟨a1, a2⟩ := hW.tags r k g q1 hg
   exact ⟨a1, a2⟩
  ·cases hg
   subst h1
   refine ⟨rfl, ?_⟩
   simp only [mpA, Nat.lt_irrefl, if_false, if_true]
 ·intro s1 s2 k1 k2 b h1 h2 f1 f2 m1 m2
  rcases key s1 k1 h1 with ⟨p1, r1, e1, rfl⟩ | ⟨p1, rfl⟩
  ·rcases key s2 k2 h2 with ⟨p2, r2, e2, rfl⟩ | ⟨p2, rfl⟩
   ·rfl
   ·subst p2
    simp only [mpA, Nat.lt_irrefl, if_false] at m2
    cases m2
  ·subst p1
   simp only [mpA, Nat.lt_irrefl, if_false] at m1
   cases m1
 ·intro s hs
  rw [List.length_append] at hs
  simp only [List.length_cons, List.length_nil] at hs
  have h1 : ¬ s < (wV ow).length := by omega
  have h2 : ¬ s = (wV ow).length := by omega
  simp only [mpA, h1, h2, if_false, and_self]
 ·refine (hW.rows.rel (fun s s' => (s < (wV ow).length ∧ ∃ r k, ow = some (r, k) ∧ s' = r) ∨ (s = (wV ow).length ∧ s' = ra)) ?_ ?_).aLK fun j b hj _ => .inr (.inr ⟨j, hj⟩)
  ·rintro s s2 q (⟨h1, r, k, h3, h4⟩ | ⟨h1, h3⟩) (⟨h2, r2, k2, h5, h6⟩ | ⟨h2, h5⟩)
   ·have : (wV ow).length ≤ 1 := by rw [h3]; simp [wV]
    omega
   ·exfalso
    obtain ⟨q1, q2, _⟩ := ho.at_ r k h3
    rw [← h4, h5, har] at q1
    cases q1
    cases q2
   ·exfalso
    obtain ⟨q1, q2, _⟩ := ho.at_ r2 k2 h5
    rw [← h6, h3, har] at q1
    cases q1
    cases q2
   ·rw [h1, h2]
  ·intro s k' hs
   rcases key s k' hs with ⟨h1, r, rfl, rfl⟩ | ⟨h1, rfl⟩
   ·exact ⟨r, k', .inl ⟨h1, r, k', rfl, rfl⟩, (ho.at_ r k' rfl).1, rfl, rfl, rfl, rfl, rfl⟩
   ·refine ⟨ra, _, .inr ⟨h1, rfl⟩, har, rfl, rfl, rfl, rfl, ?_⟩
    subst h1
    simp only [mpA, Nat.lt_irrefl, if_false]
    exact (hW.rows.arn ra _ t A har rfl rfl).1.symm

abbrev OsA := Option (Nat × Blk × Blk)
def aHQ : OsA → Heap
 | none => []
 | some (_, _, k) => [some k]
def aR4 (μ : Mp) : OsA → Option Nat
 | none => none
 | some (r, _, _) => μ.loc r
def aOW : OsA → Option Nat
 | none => none
 | some (_, _, k) => match k.tag with
  | some g => some g.l.length
  | none => none
structure aU2 (H : Heap) (os : OsA) : Prop where
 at_ : ∀ r k k', os = some (r, k, k') → H[r]? = some (some k) ∧ k'.grown = true ∧ k.frozen = false ∧ k'.frozen = false ∧ k'.ty = k.ty ∧ ∃ g n, k'.tag = some g ∧ k'.cells = aH g.t g.l ∧ k'.cells = k.cells.take n
def l5 (μ μ2 : Mp) (N n : Nat) (os : OsA) : Mp := ⟨fun q => if q < N then μ.loc q else if q = N + 1 then aR4 μ2 os else none, fun q => if q < N then μ.len q else if q = N then some n else if q = N + 1 then aOW os else none⟩
theorem U4 (hW : aP n0 G μ H w) {ow : OwA} (ho : aLD H ow) {ra : Nat} (har : H[ra]? = some (some (arB ae t A))) (ee : Ext (wrA w G μ ow) w G aG w' G1 μ2) (hW' : aP (wrA w G μ ow) G1 μ2 H' w')
  {rb : Nat} (hrb : H'[rb]? = some (some (arB ae t B))) {os : OsA} (hos : aU2 H' os) (hrow : ∀ j, G2.row j = G1.row j) (h12 : ∀ b, G1 b → G2 b)
  (h21 : ∀ b, G2 b → G1 b ∨ ∃ s k, H'[s]? = some (some k) ∧ k.frozen = false ∧ μ2.loc s = some b ∧ ∀ r k' k2, os = some (r, k', k2) → s ≠ r) :
  Ext n0 w G μ w' G2 (l5 μ μ2 H.length B.length os) ∧ aP n0 G2 (l5 μ μ2 H.length B.length os) (((BQ ow H).set ra none) ++ (some (arB ae t B) :: aHQ os)) w' := by
 have hwr := aU4 hW ho
 have hblk : ∀ s k b, H'[s]? = some (some k) → k.frozen = false → μ2.loc s = some b → wrA w G μ ow b := fun s k b hs hf hb => by
  obtain ⟨_, _, _, _, _, h6⟩ := hW'.blk s k b hs hb
  exact (h6 hf).1
 have hG2 : ∀ b, G2 b → G b ∨ wrA w G μ ow b := fun b hb => by
  rcases h21 b hb with h | ⟨s, k, h1, h2, h3, _⟩
  ·exact ee.new b h
  ·exact .inr (hblk s k b h1 h2 h3)
 have hlt2 : Lt w' G2.ok := hW'.lt.step (fun b hb => ⟨h12 b hb, rfl⟩) fun b hb => by
  rcases h21 b hb with h | ⟨s, k, h1, _, h3, _⟩
  ·exact hW'.lt b h
  ·exact hW'.fP h1 h3
 have e2 : Ext n0 w G μ w' G2 (l5 μ μ2 H.length B.length os) := {
  good := fun b hb => ⟨h12 b (ee.good b hb).1, (ee.good b hb).2⟩
  map := fun r b hr => by
   have : r < H.length := by
    rcases Nat.lt_or_ge r H.length with h | h
    ·exact h
    ·rw [(hW.top r h).1] at hr; cases hr
   simp only [l5, this, if_true]; exact hr
  len := fun r b hr => by
   have : r < H.length := by
    rcases Nat.lt_or_ge r H.length with h | h
    ·exact h
    ·rw [(hW.top r h).2] at hr; cases hr
   simp only [l5, this, if_true]; exact hr
  room := ee.room
  row := fun j b hj => by rw [hrow]; exact ee.row j b hj
  os := ee.os
  tape := ee.tape
  output := ee.output
  size := ee.size
  old := fun b hb hn => ee.old b hb fun h => hn (hwr b h)
  new := fun b hb => (hG2 b hb).imp id (hwr b) }
 have hlen : ((BQ ow H).set ra none).length = H.length := by rw [List.length_set, aDB]
 have key : ∀ (s : Nat) (k : Blk), (((BQ ow H).set ra none) ++ (some (arB ae t B) :: aHQ os))[s]? = some (some k) →
   (s < H.length ∧ s ≠ ra ∧ H[s]? = some (some k) ∧ ∀ r k', ow = some (r, k') → s ≠ r) ∨ (s = H.length ∧ k = arB ae t B) ∨ (s = H.length + 1 ∧ ∃ r k0, os = some (r, k0, k)) := by
  intro s k hs
  rcases Nat.lt_or_ge s H.length with hl | hl
  ·rw [List.getElem?_append_left (by rw [hlen]; exact hl)] at hs
   obtain ⟨h1, h2⟩ := iR hs
   obtain ⟨h3, h4⟩ := aML h1
   exact .inl ⟨hl, h2, h3, h4⟩
  ·rw [List.getElem?_append_right (by rw [hlen]; exact hl), hlen] at hs
   rcases Nat.eq_zero_or_pos (s - H.length) with h0 | h0
   ·rw [h0] at hs
    simp only [List.getElem?_cons_zero, Option.some.injEq] at hs
    exact .inr (.inl ⟨by omega, hs.symm⟩)
   ·obtain ⟨m, hm⟩ : ∃ m, s - H.length = m + 1 := ⟨s - H.length - 1, by omega⟩
    rw [hm, List.getElem?_cons_succ] at hs
    cases os with
    | none => simp [aHQ] at hs
    | some p =>
     obtain ⟨r, k0, k'⟩ := p
     cases m with
     | zero =>
      simp only [aHQ, List.getElem?_cons_zero, Option.some.injEq] at hs
      subst hs
      exact .inr (.inr ⟨by omega, r, k0, rfl⟩)
     | succ m => simp [aHQ] at hs
 have l0 : ∀ s, s < H.length → (l5 μ μ2 H.length B.length os).loc s = μ.loc s ∧ (l5 μ μ2 H.length B.length os).len s = μ.len s := fun s hs => by simp [l5, hs]
 have l1 : (l5 μ μ2 H.length B.length os).loc H.length = none ∧ (l5 μ μ2 H.length B.length os).len H.length = some B.length := by simp [l5]
 have l2 : (l5 μ μ2 H.length B.length os).loc (H.length + 1) = aR4 μ2 os ∧ (l5 μ μ2 H.length B.length os).len (H.length + 1) = aOW os := by
  have h1 : ¬ H.length + 1 < H.length := by omega
  have h2 : ¬ H.length + 1 = H.length := by omega
  simp only [l5, h1, h2, if_false, if_true, and_self]
 have hold : ∀ s k b, H[s]? = some (some k) → (∀ r k', ow = some (r, k') → s ≠ r) → μ.loc s = some b → w'.heap[b]? = w.heap[b]? ∧ ¬ wrA w G μ ow b := fun s k b h1 h2 h3 => by
  have h4 := aL0 hW ho h1 h2 h3
  exact ⟨ee.old b (hW.fP h1 h3) h4, h4⟩
 refine ⟨e2, ?_, ?_, ?_, hlt2, ?_, fun b hb => hW.base b (Nat.le_trans ee.size hb), ?_⟩
 ·intro s k b hs hb
  rcases key s k hs with ⟨h1, h2, h3, h4⟩ | ⟨h1, rfl⟩ | ⟨h1, r, k0, h2⟩
  ·rw [(l0 s h1).1] at hb
   obtain ⟨c, a1, a2, a3, a4, a5⟩ := hW.blk s k b h3 hb
   obtain ⟨g1, g2⟩ := hold s k b h3 h4 hb
   refine ⟨c, g1.trans a1, aN.mono e2.toMono g1 0 _ a2, a3, fun hf => h12 b (ee.good b (a4 hf)).1, fun hf => ⟨(a5 hf).1, fun hg => ?_⟩⟩
   rcases hG2 b hg with h | h
   ·exact (a5 hf).2 h
   ·exact g2 h
  ·subst h1
   rw [l1.1] at hb; cases hb
  ·subst h1; subst h2
   rw [l2.1] at hb
   obtain ⟨q1, q2, q3, q4, q5, g, nc, q6, q7, q8⟩ := hos.at_ r k0 k rfl
   obtain ⟨c, a1, a2, a3, a4, a5⟩ := hW'.blk r k0 b q1 hb
   refine ⟨c, by rw [q5]; exact a1, ?_, (fun hf => by rw [q2] at hf; cases hf), (fun hf => by rw [q4] at hf; cases hf), fun hf => ⟨hwr b (a5 q3).1, fun hg => ?_⟩⟩
   ·replace a2 := a2.take nc
    rw [← q8, q7] at a2
    rw [q7]
    obtain ⟨us, u1, u2⟩ := a2.values
    have m12 : Mono w' G1 aG w' G2 (l5 μ μ2 H.length B.length (some (r, k0, k))) := ⟨fun b hb => ⟨h12 b hb, rfl⟩, fun _ _ h => (by cases h), fun _ _ h => (by cases h), fun _ _ h => h, fun j b hj => by rw [hrow]; exact hj⟩
    exact aN.iC (VRs.mono m12 _ _ (bP _ _ (dU _ _) u1)) u2
   ·rcases h21 b hg with h | ⟨s2, k2, z1, z2, z3, z4⟩
    ·exact (a5 q3).2 h
    ·exact z4 r k0 k rfl (hW'.inj s2 r k2 k0 b z1 q1 z2 q3 z3 hb)
 ·intro s k g hs hg
  rcases key s k hs with ⟨h1, h2, h3, h4⟩ | ⟨h1, rfl⟩ | ⟨h1, r, k0, h2⟩
  ·rw [(l0 s h1).2]
   exact hW.tags s k g h3 hg
  ·cases hg
   subst h1
   exact ⟨rfl, l1.2⟩
  ·subst h1; subst h2
   rw [l2.2]
   obtain ⟨_, _, _, _, _, g', _, q6, q7, _⟩ := hos.at_ r k0 k rfl
   rw [hg] at q6
   cases q6
   exact ⟨q7, by simp only [aOW, hg]⟩
 ·intro s1 s2 k1 k2 b h1 h2 f1 f2 m1 m2
  rcases key s1 k1 h1 with ⟨p1, p2, p3, p4⟩ | ⟨p1, rfl⟩ | ⟨p1, r, k0, p2⟩
  ·rw [(l0 s1 p1).1] at m1
   rcases key s2 k2 h2 with ⟨q1, q2, q3, q4⟩ | ⟨q1, rfl⟩ | ⟨q1, r2, k02, q2⟩
   ·rw [(l0 s2 q1).1] at m2
    exact hW.inj s1 s2 k1 k2 b p3 q3 f1 f2 m1 m2
   ·subst q1; rw [l1.1] at m2; cases m2
   ·subst q1; subst q2
    rw [l2.1] at m2
    exact absurd (hblk r2 k02 b (hos.at_ r2 k02 k2 rfl).1 (hos.at_ r2 k02 k2 rfl).2.2.1 m2) (hold s1 k1 b p3 p4 m1).2
  ·subst p1; rw [l1.1] at m1; cases m1
  ·subst p1; subst p2
   rw [l2.1] at m1
   rcases key s2 k2 h2 with ⟨q1, q2, q3, q4⟩ | ⟨q1, rfl⟩ | ⟨q1, r2, k02, q2⟩
   ·rw [(l0 s2 q1).1] at m2
    exact absurd (hblk r k0 b (hos.at_ r k0 k1 rfl).1 (hos.at_ r k0 k1 rfl).2.2.1 m1) (hold s2 k2 b q3 q4 m2).2
   ·subst q1; rw [l1.1] at m2; cases m2
   ·exact q1.symm
 ·intro s hs
  rw [List.length_append, hlen, List.length_cons] at hs
  have h1 : ¬ s < H.length := by omega
  have h2 : ¬ s = H.length := by omega
  by_cases h3 : s = H.length + 1
  ·cases os with
   | none => rw [h3]; exact l2
   | some p =>
    obtain ⟨r, k0, k1⟩ := p
    simp only [aHQ, List.length_cons, List.length_nil] at hs
    omega
  ·simp [l5, h1, h2, h3]
 ·have hr' := hW'.rows
  refine ⟨fun i j b h1 h2 => hr'.inj i j b (by rw [← hrow]; exact h1) (by rw [← hrow]; exact h2), ?_, ?_, ?_, ?_⟩
  ·intro j b hj
   rw [hrow] at hj
   obtain ⟨a1, a2, a3, a4⟩ := hr'.sep j b hj
   refine ⟨a1, hwr b a2, fun hg => ?_, fun s k hs hf hl => ?_⟩
   ·rcases h21 b hg with h | ⟨s, k, z1, z2, z3, _⟩
    ·exact a3 h
    ·exact a4 s k z1 z2 z3
   ·rcases key s k hs with ⟨p1, p2, p3, p4⟩ | ⟨p1, rfl⟩ | ⟨p1, r, k0, p2⟩
    ·rw [(l0 s p1).1] at hl
     exact (hold s k b p3 p4 hl).2 a2
    ·subst p1; rw [l1.1] at hl; cases hl
    ·subst p1; subst p2
     rw [l2.1] at hl
     exact a4 r k0 (hos.at_ r k0 k rfl).1 (hos.at_ r k0 k rfl).2.2.1 hl
  ·intro j b hj
   rw [hrow] at hj
   exact hr'.cel j b hj
  ·intro s k t1 l1' hs hg ht
   rcases key s k hs with ⟨p1, p2, p3, p4⟩ | ⟨p1, rfl⟩ | ⟨p1, r, k0, p2⟩
   ·exact absurd (hW.rows.one s ra k _ t1 l1' t A p3 hg ht har rfl rfl) p2
   ·cases ht
    subst p1
    obtain ⟨_, a2, a3⟩ := hr'.arn rb _ t B hrb rfl rfl
    refine ⟨l1.1, fun j hj => by rw [hrow]; exact a2 j hj, fun j row hj => ?_⟩
    rcases a3 j row hj with h | ⟨b, z1, z2⟩
    ·exact .inl h
    ·have m12 : Mono w' G1 aG w' G2 aG := ⟨fun b hb => ⟨h12 b hb, rfl⟩, fun _ _ h => h, fun _ _ h => h, fun _ _ h => h, fun j b hj => by rw [hrow]; exact hj⟩
     exact .inr ⟨b, by rw [hrow]; exact z1, z2.mono m12 rfl⟩
   ·subst p2
    rw [(hos.at_ r k0 k rfl).2.1] at hg; cases hg
  ·have only : ∀ (s : Nat) (k : Blk) (t1 : Ty) (l1' : List (List t1.den)), (((BQ ow H).set ra none) ++ (some (arB ae t B) :: aHQ os))[s]? = some (some k) → k.grown = false → k.tag = some ⟨.rows t1, l1'⟩ → s = H.length := by
    intro s k t1 l1' hs hg ht
    rcases key s k hs with ⟨p1, p2, p3, p4⟩ | ⟨p1, _⟩ | ⟨p1, r, k0, p2⟩
    ·exact absurd (hW.rows.one s ra k _ t1 l1' t A p3 hg ht har rfl rfl) p2
    ·exact p1
    ·subst p2
     rw [(hos.at_ r k0 k rfl).2.1] at hg; cases hg
   intro r s k k' t1 l1' t2 l2' h1 g1 t1' h2 g2 t2'
   rw [only r k t1 l1' h1 g1 t1', only s k' t2 l2' h2 g2 t2']
end
end Go.PM
set_option linter.unusedSimpArgs false
set_option linter.unusedVariables false
namespace Go.PM
open Go Go.RowKit
theorem PQ : ∀ (ts : List Ty) (x : tI ts), b8.noRefs (EZ ts x) = true
 | [], _ => rfl
 | t :: r, (x, xs) => by simp only [EZ, b8.noRefs, b8, PQ r xs, Bool.and_self]
theorem aF3 : ∀ (k : Kd) (x : k.den) (r : List Kd), DF (k :: r) = true → b8 (nX k x 0) = true ∧ DF r = true
 | .int _, _, _, h => ⟨rfl, h⟩
 | .bool, _, _, h => ⟨rfl, h⟩
 | .str, _, _, h => ⟨rfl, h⟩
 | .list _, _, _, h => ⟨rfl, h⟩
 | .agg t, x, _, h => ⟨by simp only [nX, b8]; exact uP t x, h⟩
 | .own _ _, _, _, h => by simp only [DF] at h; cases h
 | .box _ _, _, _, h => by simp only [DF] at h; cases h
 | .win _ _, _, _, h => by simp only [DF] at h; cases h
 | .bown _ _ _, _, _, h => by simp only [DF] at h; cases h
 | .bag _ _ _ _ _, _, _, h => by simp only [DF] at h; cases h
 | .ar _ _, _, _, h => by simp only [DF] at h; cases h
 | .hnd _, _, _, h => ⟨rfl, h⟩
 | .mpk _, _, _, h => ⟨rfl, h⟩
 | .ptr t, x, _, h => ⟨rfl, h⟩
 | .fn _, _, _, h => ⟨rfl, h⟩
 | .nil0, _, _, h => ⟨rfl, h⟩
 | .val, _, _, h => ⟨rfl, h⟩
 | .nilI, _, _, h => ⟨rfl, h⟩
 | .clo _ ts, x, _, h => ⟨by simp only [nX, b8, b8.noRefs, PQ ts x, Bool.and_self], h⟩
theorem xL : ∀ (l : List Kd) (x : aJ l), DF l = true → b8.noRefs (fQ l x) = true
 | [], _, _ => rfl
 | k :: r, (x, xs), h => by
  obtain ⟨h1, h2⟩ := aF3 k x r h
  simp only [fQ, b8.noRefs, h1, xL r xs h2, Bool.and_self]

inductive Tk where
 | none
 | own (e : TypeId) (t : Ty)
@[reducible] def Tk.den : Tk → Type
 | .none => Unit
 | .own _ t => List t.den
def Tk.pv : Tk → Nat → List PV
 | .none, _ => []
 | .own _ t, r => [.own r t.size]
def Tk.ow : (k : Tk) → k.den → Nat → OwA
 | .none, _, _ => Option.none
 | .own e t, l, r => some (r, owB e t l)
inductive An where
 | data (l : List Kd)
 | own (e : TypeId) (t : Ty)
@[reducible] def An.den : An → Type
 | .data l => aJ l
 | .own _ t => List t.den
def An.pv : (a : An) → a.den → Nat → PV
 | .data l, y, _ => aCF l y
 | .own _ t, _, n => .own n t.size
def An.hp : (a : An) → a.den → Heap
 | .data _, _ => []
 | .own e t, l => [some (owB e t l)]

def YS (P : Program) (g : FuncId) (ae : TypeId) (t : Ty) (tk : Tk) (args : List Kd) (an : An) (f : tk.den → aJ args → List (List t.den) → Option (an.den × List (List t.den))) : Prop :=
 ∀ l x A y B, f l x A = some (y, B) → ∀ {n0 G μ H w us ra r}, aP n0 G μ H w → H[ra]? = some (some (arB ae t A)) → aLD H (tk.ow l r) → VRs w G μ (tk.pv r ++ fQ args x) us →
  nG P n0 w G μ g us.toArray (an.pv y (H.length + 1)) (((BQ (tk.ow l r) H).set ra none) ++ (some (arB ae t B) :: an.hp y))

def aLB (ae : TypeId) (t : Ty) (H : Heap) : Option (Nat × List (List t.den)) := match OT 0 H with
 | some (r, k) => match k.tag with
  | some g => match tY g.t (.rows t) g.l with
   | some l => bif Nat.beq k.ty ae && !k.frozen then some (r, l) else none
   | none => none
  | none => none
 | none => none
def aVH (e : TypeId) (t : Ty) (H : Heap) : PV → Option (List t.den)
 | .own r sz => CP e t (.own r sz) H r
 | .win r lo n sz => bif Nat.beq lo 0 then match CP e t (.own r sz) H r with
  | some l => some (l.take n)
  | none => none
  else none
 | _ => none
def aIC : (an : An) → PV → Heap → Option an.den
 | .data l, q, H => match inl false H depth q with
  | some q' => aFG l q'
  | none => none
 | .own e t, q, H => aVH e t H q
def aR3 (P : Program) (rs : List ResultVar) (ae : TypeId) (t : Ty) (an : An) (ex : Ex) (F : Frm) (H : Heap) : Option (an.den × List (List t.den)) := match ex with
 | .exit _ => none
 | _ => match kU P F H rs with
  | some vs => match aLB ae t H with
   | some B => match aIC an (dN vs) H with
    | some y => some (y, B.2)
    | none => none
   | none => none
  | none => none
def TK (P : Program) (E : Env) (fn : Func) (aQ : Nat) (lt : Nat → Option aO) (c : Code) (ae : TypeId) (t : Ty) (tk : Tk) (args : List Kd) (an : An) (l : tk.den) (x : aJ args) (A : List (List t.den)) : Option (an.den × List (List t.den)) :=
 bif Nat.ble (tk.pv 0 ++ fQ args x).length fn.ntmps then rF P E fn.ntmps aQ lt c (start aQ 0 (tk.pv 0 ++ fQ args x)) (wV (tk.ow l 0) ++ [some (arB ae t A)]) (aR3 P fn.results.toList ae t an) else none

section
variable {P : Program} {n0 : Nat → Prop} {w w' : World} {G G1 G2 : Gd} {μ μ2 : Mp} {H H' : Heap} {ae : TypeId} {t : Ty} {A B : List (List t.den)}
theorem L0 (hW : aP n0 G μ H w) {p : Nat × List (List t.den)} (h : aLB ae t H = some p) : H[p.1]? = some (some (arB ae t p.2)) := by
 unfold aLB at h
 split at h
 ·rename_i r k hk
  obtain ⟨h1, h2⟩ := EC hk
  split at h
  ·rename_i g hg
   split at h
   ·rename_i l hc
    obtain ⟨hb, h⟩ := aI h
    simp only [Bool.and_eq_true, Bool.not_eq_true'] at hb
    simp only [Option.some.injEq] at h
    subst h
    have hb3 := Nat.eq_of_beq_eq_true hb.1
    have ht := (hW.tags r k g h1 hg).1
    have hge := aFO hc
    rw [hge] at hg ht
    rw [h1]
    obtain ⟨k1, k2, k3, k4, k5⟩ := k
    dsimp only at ht hg hb hb3 h2 ⊢
    rw [ht, hg, hb3, h2, hb.2]
   ·cases h
  ·cases h
 ·cases h
theorem YF (hW : aP n0 G μ H w) {e : TypeId} {u : Ty} {p : PV} {l : List u.den} {v : Value} (h : aVH e u H p = some l) (hv : VR w G μ p v) :
  ∃ r l0, aU2 H (some (r, owB e u l0, owB e u l)) ∧ ∀ G2 μ3 n, μ3.loc n = μ.loc r → μ3.len n = some l.length → VR w G2 μ3 (.own n u.size) v := by
 have key : ∀ (l0 : List u.den) (r m : Nat), H[r]? = some (some (owB e u l0)) → aU2 H (some (r, owB e u l0, owB e u (l0.take m))) := fun l0 r m h0 => ⟨fun r' k k' he => by
  cases he
  exact ⟨h0, rfl, rfl, rfl, rfl, ⟨u, l0.take m⟩, m * u.size, rfl, rfl, (mG u m l0).symm⟩⟩
 unfold aVH at h
 split at h
 ·rename_i r sz
  obtain ⟨h1, h2⟩ := pU hW h
  cases h1
  refine ⟨r, l, by have := key l r l.length h2; rwa [List.take_length] at this, fun G2 μ3 n q1 q2 => ?_⟩
  rw [VR] at hv ⊢
  obtain ⟨m, a1, a2⟩ := hv
  have := (hW.tags r _ _ h2 rfl).2
  rw [this] at a1
  cases a1
  refine ⟨_, q2, ?_⟩
  rw [q1]
  exact a2
 ·rename_i r lo n sz
  obtain ⟨hb, h⟩ := aI h
  have hb := Nat.eq_of_beq_eq_true hb
  subst hb
  split at h
  ·rename_i l0 hl0
   obtain rfl := Option.some.inj h
   obtain ⟨h1, h2⟩ := pU hW hl0
   cases h1
   refine ⟨r, l0, key l0 r n h2, fun G2 μ3 m q1 q2 => ?_⟩
   rw [VR] at hv
   rw [VR]
   obtain ⟨b, c, m', a1, a2, a3, a4, a5, a6, a7⟩ := hv
   have := (hW.tags r _ _ h2 rfl).2
   rw [this] at a5
   cases a5
   refine ⟨n, by rw [q2, List.length_take]; change 0 + n ≤ l0.length at a6; congr 1; omega, .inr ⟨b, c, by rw [q1]; exact a1, by rw [a2, Nat.zero_mul], a3, ?_⟩⟩
   simpa using a4
  ·cases h
 ·cases h

theorem aKW {α : Type 1} {b : Bool} {x : Option α} {y : α} (h : (bif b then x else none) = some y) : b = true ∧ x = some y := by
 cases b with
 | true => exact ⟨rfl, h⟩
 | false => cases h
theorem QZ {E : Env} (hP : yS P) (hE : aW P E) {g : Nat} {fn : Func} (hg : P.funcs[g]? = some fn) {c : Code} (hc : fn.body = some c) {aQ : Nat} {lt : Nat → Option aO} {ae : TypeId} {t : Ty} {tk : Tk} {args : List Kd} {an : An} {f : tk.den → aJ args → List (List t.den) → Option (an.den × List (List t.den))}
  (hd : DF args = true) (hl : ∀ a ∈ aE c, ∀ s, lt (aF a) = some s → cA P fn.ntmps a s) (hb : ∀ l x A, TK P E fn aQ lt c ae t tk args an l x A = f l x A) : YS P g ae t tk args an f := by
 intro l x A y B hy n0 G μ H w us ra r hW har ho hv
 rw [← hb] at hy
 unfold TK at hy
 obtain ⟨hlen, hy⟩ := aI hy
 obtain ⟨⟨ex, F', H'⟩, h1, h2⟩ := gG hE.callee hP.mixed c _ _ _ _ hl hy
 obtain ⟨vs, B', hex, hvs, hB, hq, rfl⟩ : ∃ vs B', (ex = .normal ∨ ex = .ret) ∧ kU P F' H' fn.results.toList = some vs ∧ aLB ae t H' = some B' ∧ aIC an (dN vs) H' = some y ∧ B'.2 = B := by
  unfold aR3 at h1
  split at h1
  ·cases h1
  ·rename_i hne
   split at h1
   ·rename_i vs hvs
    split at h1
    ·rename_i B' hB
     split at h1
     ·rename_i y' hy'
      simp only [Option.some.injEq, Prod.mk.injEq] at h1
      obtain ⟨rfl, h1⟩ := h1
      refine ⟨vs, B', ?_, hvs, hB, hy', h1⟩
      cases ex with
      | normal => exact .inl rfl
      | ret => exact .inr rfl
      | exit i => exact absurd rfl (hne i)
     ·cases h1
    ·cases h1
   ·cases h1
 have hargs : VRs w G (mpA μ (tk.ow l r) A.length) (tk.pv 0 ++ fQ args x) us := by
  have hn := xL args x hd
  cases tk with
  | none => exact VRs.aZ (bP _ _ hn hv)
  | own e u =>
   change VRs w G μ (.own r u.size :: fQ args x) us at hv
   change VRs w G _ (.own 0 u.size :: fQ args x) us
   rw [VRs] at hv ⊢
   obtain ⟨v, us', rfl, q1, q2⟩ := hv
   refine ⟨v, us', rfl, ?_, VRs.aZ (bP _ _ hn q2)⟩
   rw [VR] at q1 ⊢
   exact q1
 have howb : wV (tk.ow l 0) = wV (tk.ow l r) := by cases tk <;> rfl
 have hW1 := O9 hW ho har
 rw [← howb] at hW1
 have e0 : Ext (wrA w G μ (tk.ow l r)) w G aG w G (mpA μ (tk.ow l r) A.length) :=
  ⟨⟨fun b hb => ⟨hb, rfl⟩, fun _ _ h => (by cases h), fun _ _ h => (by cases h), fun _ _ h => h, fun _ _ h => h⟩, rfl, rfl, rfl, Nat.le_refl _, fun _ _ _ => rfl, fun _ h => .inl h⟩
 refine ⟨enters hg (hP.names g fn hg) (by rw [hc]; rfl) _ _, calls_of_wp hg hc ?_⟩
 have hI : I (wrA w G μ (tk.ow l r)) w G aG fn.ntmps (start aQ 0 (tk.pv 0 ++ fQ args x)) (wV (tk.ow l 0) ++ [some (arB ae t A)]) ⟨us.toArray ++ Array.replicate (fn.ntmps - us.toArray.size) undef, []⟩ w :=
  ⟨G, _, e0, hW1, pF (by simpa using hargs) (Nat.le_of_ble_eq_true hlen)⟩
 refine wp_mono (h2 _ w G aG _ w (fun r => ⟨rfl, rfl⟩) hI) ?_
 rintro e1 a' w' ⟨rfl, G1, μ1, ee, hW', hF'⟩
 obtain ⟨ws, h3, h4⟩ := jG (P := P) hW' hF' hvs
 have hres : (results fn a'.tmps).run P w' = .ok (if hh : ws.toArray.size = 1 then ws.toArray[0] else .tuple ws.toArray) w' := by
  rw [rP, Array.mapM_eq_mapM_toList]
  simp only [Sem.run_bind, Sem.run_map, h3, Result.andThen_ok, Sem.run_pure]
 have hrb := L0 hW' hB
 obtain ⟨G2, μ3, b1, b2, b3⟩ : ∃ G2 μ3, Ext n0 w G μ w' G2 μ3 ∧ aP n0 G2 μ3 (((BQ (tk.ow l r) H).set ra none) ++ (some (arB ae t B'.2) :: an.hp y)) w' ∧ VR w' G2 μ3 (an.pv y (H.length + 1)) (if hh : ws.toArray.size = 1 then ws.toArray[0] else .tuple ws.toArray) := by
  have hvr := lF h4
  cases an with
  | data rets =>
   simp only [aIC] at hq
   split at hq
   ·rename_i q hq'
    have hb := U4 (G2 := ⟨fun b => G1 b ∨ ∃ s k, H'[s]? = some (some k) ∧ k.frozen = false ∧ μ1.loc s = some b, G1.row⟩) hW ho har ee hW' hrb (os := none) ⟨fun _ _ _ h => by cases h⟩ (fun _ => rfl) (fun b hb => .inl hb) (fun b hb => by
     rcases hb with h | ⟨s, k, z1, z2, z3⟩
     ·exact .inl h
     ·exact .inr ⟨s, k, z1, z2, z3, fun _ _ _ h => by cases h⟩)
    refine ⟨_, _, hb.1, hb.2, ?_⟩
    have := uH (G' := ⟨fun b => G1 b ∨ ∃ s k, H'[s]? = some (some k) ∧ k.frozen = false ∧ μ1.loc s = some b, G1.row⟩) hW' (fun _ _ h => h) (fun b hb => .inl hb) (fun s k1 b hs _ hb => by
     obtain ⟨_, _, _, _, g5, _⟩ := hW'.blk s k1 b hs hb
     cases hf : k1.frozen with
     | true => exact .inl (g5 hf)
     | false => exact .inr ⟨s, k1, hs, hf, hb⟩) depth _ q _ hq' hvr
    exact (J0 hq this).aZ
   ·cases hq
  | own e u =>
   simp only [aIC] at hq
   obtain ⟨r1, l0, hos, hvv⟩ := YF hW' hq hvr
   have hb := U4 (G2 := G1) hW ho har ee hW' hrb hos (fun _ => rfl) (fun b hb => hb) (fun b hb => .inl hb)
   refine ⟨_, _, hb.1, hb.2, hvv _ _ _ ?_ ?_⟩
   ·have h1 : ¬ H.length + 1 < H.length := by omega
    simp [l5, h1, aR4]
   ·have h1 : ¬ H.length + 1 < H.length := by omega
    simp [l5, h1, aOW]
 have hpost : a'.defers = [] ∧ ∃ v, (results fn a'.tmps).run P w' = .ok v w' ∧ (∃ v' G'' μ'', Ending.returned v = .returned v' ∧ Ext n0 w G μ w' G'' μ'' ∧ aP n0 G'' μ'' (((BQ (tk.ow l r) H).set ra none) ++ (some (arB ae t B'.2) :: an.hp y)) w' ∧ VR w' G'' μ'' (an.pv y (H.length + 1)) v') :=
  ⟨hF'.defers, _, hres, _, G2, μ3, rfl, b1, b2, b3⟩
 rcases hex with rfl | rfl
 ·exact hpost
 ·exact hpost

def aP9 (P : Program) (E : Env) (fn : Func) (aQ : Nat) (lt : Nat → Option aO) (c : Code) (ae : TypeId) (t : Ty) (args rets : List Kd) (x : aJ args) : Option (aJ rets) :=
 bif Nat.ble (fQ args x).length fn.ntmps then rF P E fn.ntmps aQ lt c (start aQ 0 (fQ args x)) [some (arB ae t [])] (aGH P fn.results.toList rets) else none
theorem aXV {E : Env} (hP : yS P) (hE : aW P E) {g : Nat} {fn : Func} (hg : P.funcs[g]? = some fn) {c : Code} (hc : fn.body = some c) {aQ : Nat} {lt : Nat → Option aO} {ae : TypeId} {t : Ty} {args rets : List Kd} {f : aJ args → Option (aJ rets)}
  (hl : ∀ a ∈ aE c, ∀ s, lt (aF a) = some s → cA P fn.ntmps a s) (hb : ∀ x, aP9 P E fn aQ lt c ae t args rets x = f x) : bW P g args rets f := by
 intro x y hy
 rw [← hb] at hy
 unfold aP9 at hy
 obtain ⟨hlen, hy⟩ := aI hy
 obtain ⟨⟨ex, F', H'⟩, h1, h2⟩ := gG hE.callee hP.mixed c _ _ _ _ hl hy
 obtain ⟨vs, q, hex, hvs, hq, hd⟩ : ∃ vs q, (ex = .normal ∨ ex = .ret) ∧ kU P F' H' fn.results.toList = some vs ∧ aHM H' (dN vs) = some q ∧ aFG rets q = some y := by
  unfold aGH at h1
  split at h1
  ·cases h1
  ·rename_i hne
   split at h1
   ·rename_i vs hvs
    split at h1
    ·rename_i q hq
     refine ⟨vs, q, ?_, hvs, hq, h1⟩
     cases ex with
     | normal => exact .inl rfl
     | ret => exact .inr rfl
     | exit i => exact absurd rfl (hne i)
    ·cases h1
   ·cases h1
 obtain ⟨hq1, hq2⟩ := yE hq
 intro w G us hlt hv
 have at0 : ∀ (s : Nat) (k1 : Blk), ([some (arB ae t [])] : Heap)[s]? = some (some k1) → s = 0 ∧ k1 = arB ae t [] := by
  intro s k1 hs
  cases s with
  | zero => simp only [List.getElem?_cons_zero, Option.some.injEq] at hs; exact ⟨rfl, hs.symm⟩
  | succ s => simp at hs
 have hW : aP (mI w) (Gd.of G) ⟨fun _ => none, fun r => if r = 0 then some 0 else none⟩ [some (arB ae t [])] w := by
  refine ⟨(fun r k b h hb => by cases hb), (fun r k g h hg => ?_), (fun r s k l b h _ _ _ hb => by cases hb), hlt, (fun r hr => ⟨rfl, ?_⟩), fun _ h => h, ⟨(fun _ _ _ h => by cases h), (fun _ _ h => by cases h), (fun _ _ h => by cases h), (fun r k u l h hgr ht => ?_), (fun r s k k' u l u' l' h1 g1 t1 h2 g2 t2 => by rw [(at0 r k h1).1, (at0 s k' h2).1])⟩⟩
  ·obtain ⟨rfl, rfl⟩ := at0 r k h
   cases hg
   exact ⟨rfl, rfl⟩
  ·have : r ≠ 0 := by rintro rfl; simp at hr
   simp [this]
  ·obtain ⟨rfl, rfl⟩ := at0 r k h
   cases ht
   exact ⟨rfl, fun _ _ => rfl, fun j row hj => by simp at hj⟩
 have e0 : Ext (mI w) w (Gd.of G) aG w (Gd.of G) ⟨fun _ => none, fun r => if r = 0 then some 0 else none⟩ :=
  ⟨⟨fun b hb => ⟨hb, rfl⟩, fun _ _ h => (by cases h), fun _ _ h => (by cases h), fun _ _ h => h, fun _ _ h => h⟩, rfl, rfl, rfl, Nat.le_refl _, fun _ _ _ => rfl, fun _ h => .inl h⟩
 refine ⟨enters hg (hP.names g fn hg) (by rw [hc]; rfl) _ _, calls_of_wp hg hc ?_⟩
 have hI : I (mI w) w (Gd.of G) aG fn.ntmps (start aQ 0 (fQ args x)) [some (arB ae t [])] ⟨us ++ Array.replicate (fn.ntmps - us.size) undef, []⟩ w := ⟨Gd.of G, _, e0, hW, pF hv.aZ (Nat.le_of_ble_eq_true hlen)⟩
 refine wp_mono (h2 _ w (Gd.of G) aG _ w (fun r => ⟨rfl, rfl⟩) hI) ?_
 rintro e a' w' ⟨rfl, G1, μ1, e1, e2, hF'⟩
 obtain ⟨ws, h3, h4⟩ := jG (P := P) e2 hF' hvs
 have hres : (results fn a'.tmps).run P w' = .ok (if hh : ws.toArray.size = 1 then ws.toArray[0] else .tuple ws.toArray) w' := by
  rw [rP, Array.mapM_eq_mapM_toList]
  simp only [Sem.run_bind, Sem.run_map, h3, Result.andThen_ok, Sem.run_pure]
 have hval := vP (G := ⟨fun b => G1 b ∨ ∃ r k, H'[r]? = some (some k) ∧ μ1.loc r = some b, G1.row⟩) (G' := Gd.of fun b => G1 b ∨ ∃ r k, H'[r]? = some (some k) ∧ μ1.loc r = some b) (fun b h => h) _ _ _ hq2
   (uH (G' := ⟨fun b => G1 b ∨ ∃ r k, H'[r]? = some (some k) ∧ μ1.loc r = some b, G1.row⟩) e2 (fun _ _ h => h) (fun b hb => .inl hb) (fun r k b hr _ hb => .inr ⟨r, k, hr, hb⟩) depth _ q _ hq1 (lF h4))
 have hext : Ext (mI w) w (Gd.of G) aG w' (Gd.of fun b => G1 b ∨ ∃ r k, H'[r]? = some (some k) ∧ μ1.loc r = some b) aG := {
  good := fun b hb => ⟨.inl (e1.good b hb).1, (e1.good b hb).2⟩
  map := fun _ _ h => h
  len := fun _ _ h => h
  room := e1.room
  row := fun _ _ h => h
  os := e1.os
  tape := e1.tape
  output := e1.output
  size := e1.size
  old := e1.old
  new := fun b hb => by
   rcases hb with hb | ⟨r, k, hr, hb⟩
   ·exact e1.new b hb
   ·obtain ⟨c, _, _, _, g5, g6⟩ := e2.blk r k b hr hb
    cases hf : k.frozen with
    | true => exact e1.new b (g5 hf)
    | false => exact .inr (g6 hf).1 }
 have hlt' : ∀ b, (G1 b ∨ ∃ r k, H'[r]? = some (some k) ∧ μ1.loc r = some b) → b < w'.heap.size := by
  rintro b (hb | ⟨r, k, hr, hb⟩)
  ·exact e2.lt b hb
  ·exact e2.fP hr hb
 have hpost : a'.defers = [] ∧ ∃ v, (results fn a'.tmps).run P w' = .ok v w' ∧ (∃ v' G', Ending.returned v = .returned v' ∧ Ext (mI w) w (Gd.of G) aG w' (Gd.of G') aG ∧ (∀ b, G' b → b < w'.heap.size) ∧ VR w' (Gd.of G') aG (aCF rets y) v') :=
  ⟨hF'.defers, _, hres, _, _, rfl, hext, hlt', J0 hd hval⟩
 rcases hex with rfl | rfl
 ·exact hpost
 ·exact hpost

def aEW (e : TypeId) (t : Ty) (H : Heap) : List PV → Option (List t.den × Nat × List PV)
 | .own r sz :: ps => match CP e t (.own r sz) H r with
  | some l => some (l, r, ps)
  | none => none
 | _ => none
def Tk.dec : (tk : Tk) → List PV → Heap → Option (tk.den × Nat × List PV)
 | .none, qs, _ => some ((), 0, qs)
 | .own e t, qs, H => aEW e t H qs
theorem TG (hW : aP n0 G μ H w) {e : TypeId} {u : Ty} {qs : List PV} {l : List u.den} {r : Nat} {ps : List PV} (h : aEW e u H qs = some (l, r, ps)) : H[r]? = some (some (owB e u l)) ∧ qs = .own r u.size :: ps := by
 unfold aEW at h
 split at h
 ·rename_i r1 sz ps1
  split at h
  ·rename_i l1 hl1
   simp only [Option.some.injEq, Prod.mk.injEq] at h
   obtain ⟨rfl, rfl, rfl⟩ := h
   obtain ⟨g1, g2⟩ := pU hW hl1
   exact ⟨g2, by rw [g1]⟩
  ·cases h
 ·cases h
theorem Tk.aLE (hW : aP n0 G μ H w) {tk : Tk} {qs : List PV} {l : tk.den} {r : Nat} {ps : List PV} (h : tk.dec qs H = some (l, r, ps)) : aLD H (tk.ow l r) ∧ qs = tk.pv r ++ ps := by
 cases tk with
 | none =>
  simp only [Tk.dec, Option.some.injEq, Prod.mk.injEq] at h
  obtain ⟨_, _, rfl⟩ := h
  exact ⟨⟨fun _ _ h => by cases h⟩, rfl⟩
 | own e u =>
  obtain ⟨h1, h2⟩ := TG hW (h : aEW e u H qs = some (l, r, ps))
  refine ⟨⟨fun r' k he => ?_⟩, h2⟩
  cases he
  exact ⟨h1, rfl, rfl, rfl⟩
def arH (ae : TypeId) (t : Ty) (tk : Tk) (args : List Kd) (an : An) (f : tk.den → aJ args → List (List t.den) → Option (an.den × List (List t.den))) (qs : List PV) (H : Heap) : Option aGO := match tk.dec qs H with
 | some (l, r, ps) => match aLB ae t H with
  | some (ra, A) => match aD0 args ps with
   | some x => bif b8.noRefs ps then some ⟨an.den × List (List t.den), f l x A, fun y => (an.pv y.1 (H.length + 1), ((BQ (tk.ow l r) H).set ra none) ++ (some (arB ae t y.2) :: an.hp y.1))⟩ else none
   | none => none
  | none => none
 | none => none
theorem RB {g : FuncId} {tk : Tk} {args : List Kd} {an : An} {f : tk.den → aJ args → List (List t.den) → Option (an.den × List (List t.den))} (hf : YS P g ae t tk args an f) :
  ∀ qs H r, arH ae t tk args an f qs H = some r → ∀ y, r.val = some y → ∀ {n0 G μ w vs}, aP n0 G μ H w → VRs w G μ qs vs → nG P n0 w G μ g vs.toArray (r.out y).1 (r.out y).2 := by
 intro qs H rh h y hy n0 G μ w vs hW hv
 unfold arH at h
 split at h
 ·rename_i l r ps hl
  split at h
  ·rename_i ra A hA
   split at h
   ·rename_i x hx
    obtain ⟨hb, h⟩ := aKW h
    simp only [Option.some.injEq] at h
    subst h
    obtain ⟨ho, rfl⟩ := Tk.aLE hW hl
    have hv' : VRs w G μ (tk.pv r ++ fQ args x) vs := by
     cases tk with
     | none => exact (vK args hx (bP _ _ hb hv)).aZ
     | own e u =>
      change VRs w G μ (.own r u.size :: ps) vs at hv
      change VRs w G μ (.own r u.size :: fQ args x) vs
      rw [VRs] at hv ⊢
      obtain ⟨v, us, rfl, q1, q2⟩ := hv
      exact ⟨v, us, rfl, q1, (vK args hx (bP _ _ hb q2)).aZ⟩
    obtain ⟨y1, y2⟩ := y
    exact hf l x A y1 y2 hy hW (L0 hW hA) ho hv'
   ·cases h
  ·cases h
 ·cases h
end
end Go.PM
set_option linter.unusedSimpArgs false
set_option linter.unusedVariables false
namespace Go.PM
open Go Go.RowKit Go.Proofs
set_option maxRecDepth 100000
set_option maxHeartbeats 4000000
/-! schisma/whole.split -/
def bY (x : aJ [.str]) : Option (aJ [.bool, .str]) := match x with
 | (v0, ()) =>
  bif ltI 0 (v0.size : Int) then
   bif bD 0 v0.size then bif eqI (aRH v0 0) 45 then
    bif Nat.ble 1 v0.size then bif Nat.ble v0.size v0.size then some (true, (v0.extract 1 v0.size), ()) else none else none
   else some (false, v0, ()) else none
  else some (false, v0, ())
noncomputable def FE : Code := aR Tryz.f130
abbrev NK : Env := bF []
theorem UO : aW Tryz.prog NK := aU trivial
def LL (id : Nat) : Option aO := none
theorem QM : aE FE = [] := by kernel_rfl
theorem T7 : ∀ x, bH Tryz.prog NK Tryz.f130 (aC Tryz.f130) LL FE [.str] [.bool, .str] x = bY x := by
 rintro ⟨v0, ⟨⟩⟩
 kernel_rfl
theorem Y8 : bW Tryz.prog 130 [.str] [.bool, .str] bY := by
 exact aX aM UO Tryz.func130 (c := FE) (by kernel_rfl) (aQ := aC Tryz.f130) (lt := LL) (aD QM trivial) T7
abbrev nI : Ent := ⟨130, [.str], [.bool, .str], bY⟩
theorem kR : Ent.OK Tryz.prog nI := Y8

/-! schisma/whole.join -/
def aA (x : aJ [.bool, .str]) : Option (aJ [.str]) := match x with
 | (v0, v1, ()) =>
  bif v0 then
   bif !(eqS v1 (ByteArray.mk #[48])) then
    bif Nat.ble ((ByteArray.mk #[45]).size + v1.size) 9223372036854775807 then some (((ByteArray.mk #[45]) ++ v1), ()) else none
   else some (v1, ())
  else some (v1, ())
noncomputable def H9 : Code := aR Tryz.f136
abbrev S0 : Env := bF []
theorem YT : aW Tryz.prog S0 := aU trivial
def NW (id : Nat) : Option aO := none
theorem UF : aE H9 = [] := by kernel_rfl
theorem XO : ∀ x, bH Tryz.prog S0 Tryz.f136 (aC Tryz.f136) NW H9 [.bool, .str] [.str] x = aA x := by
 rintro ⟨v0, v1, ⟨⟩⟩
 kernel_rfl
theorem aC2 : bW Tryz.prog 136 [.bool, .str] [.str] aA := by
 exact aX aM YT Tryz.func136 (c := H9) (by kernel_rfl) (aQ := aC Tryz.f136) (lt := NW) (aD UF trivial) XO
abbrev vF : Ent := ⟨136, [.bool, .str], [.str], aA⟩
theorem tE : Ent.OK Tryz.prog vF := aC2

/-! schisma/whole.little -/
def gY (x : aJ [.str, .int .i64]) : Option (aJ [.int .i64, .bool]) := match x with
 | (v0, v1, ()) =>
  bif ltI v1 (v0.size : Int) then
   some (0, false, ())
  else aB (uV (v0, ())) fun y1 =>
  some (y1.1, true, ())
noncomputable def DC : Code := aR Tryz.f132
abbrev K0 : Env := bF [LG]
theorem R1 : aW Tryz.prog K0 := aU ⟨QQ, trivial⟩
def JW (id : Nat) : Option aO := none
theorem PK : aE DC = [] := by kernel_rfl
theorem RZ : ∀ x, bH Tryz.prog K0 Tryz.f132 (aC Tryz.f132) JW DC [.str, .int .i64] [.int .i64, .bool] x = gY x := by
 rintro ⟨v0, v1, ⟨⟩⟩
 kernel_rfl
theorem X8 : bW Tryz.prog 132 [.str, .int .i64] [.int .i64, .bool] gY := by
 exact aX aM R1 Tryz.func132 (c := DC) (by kernel_rfl) (aQ := aC Tryz.f132) (lt := JW) (aD PK trivial) RZ
abbrev uW : Ent := ⟨132, [.str, .int .i64], [.int .i64, .bool], gY⟩
theorem uD : Ent.OK Tryz.prog uW := X8

/-! schisma/whole.Of -/
def fJ (x : aJ [.int .i64]) : Option (aJ [.str]) := match x with
 | (v0, ()) =>
  aB (k7 (v0, ())) fun y1 =>
  some (y1.1, ())
noncomputable def RF : Code := aR Tryz.f115
abbrev aBH : Env := bF [CC]
theorem aC7 : aW Tryz.prog aBH := aU ⟨DI, trivial⟩
def YC (id : Nat) : Option aO := none
theorem ZK : aE RF = [] := by kernel_rfl
theorem aCL : ∀ x, bH Tryz.prog aBH Tryz.f115 (aC Tryz.f115) YC RF [.int .i64] [.str] x = fJ x := by
 rintro ⟨v0, ⟨⟩⟩
 kernel_rfl
theorem aHO : bW Tryz.prog 115 [.int .i64] [.str] fJ := by
 exact aX aM aC7 Tryz.func115 (c := RF) (by kernel_rfl) (aQ := aC Tryz.f115) (lt := YC) (aD ZK trivial) aCL
abbrev yH : Ent := ⟨115, [.int .i64], [.str], fJ⟩
theorem sY : Ent.OK Tryz.prog yH := aHO

/-! schisma/whole.Small -/
def sW (x : aJ [.str]) : Option (aJ [.int .i64, .bool]) := match x with
 | (v0, ()) =>
  aB (oV (v0, 10, 64, ())) fun y1 =>
  some (y1.1, true, ())
noncomputable def GA : Code := aR Tryz.f109
abbrev N6 : Env := bF [BW]
theorem UB : aW Tryz.prog N6 := aU ⟨IL, trivial⟩
def K8 (id : Nat) : Option aO := none
theorem QN : aE GA = [] := by kernel_rfl
theorem UY : ∀ x, bH Tryz.prog N6 Tryz.f109 (aC Tryz.f109) K8 GA [.str] [.int .i64, .bool] x = sW x := by
 rintro ⟨v0, ⟨⟩⟩
 kernel_rfl
theorem ZS : bW Tryz.prog 109 [.str] [.int .i64, .bool] sW := by
 exact aX aM UB Tryz.func109 (c := GA) (by kernel_rfl) (aQ := aC Tryz.f109) (lt := K8) (aD QN trivial) UY
abbrev EJ : Ent := ⟨109, [.str], [.int .i64, .bool], sW⟩
theorem GX : Ent.OK Tryz.prog EJ := ZS

/-! schisma/whole.Sign -/
def sH (x : aJ [.str]) : Option (aJ [.int .i64]) := match x with
 | (v0, ()) =>
  bif eqS v0 (ByteArray.mk #[48]) then
   some (0, ())
  else bif bD 0 v0.size then bif eqI (aRH v0 0) 45 then
   some ((-1), ())
  else some (1, ()) else none
noncomputable def II : Code := aR Tryz.f105
abbrev TW : Env := bF []
theorem XZ : aW Tryz.prog TW := aU trivial
def PD (id : Nat) : Option aO := none
theorem UP : aE II = [] := by kernel_rfl
theorem YN : ∀ x, bH Tryz.prog TW Tryz.f105 (aC Tryz.f105) PD II [.str] [.int .i64] x = sH x := by
 rintro ⟨v0, ⟨⟩⟩
 kernel_rfl
theorem aCH : bW Tryz.prog 105 [.str] [.int .i64] sH := by
 exact aX aM XZ Tryz.func105 (c := II) (by kernel_rfl) (aQ := aC Tryz.f105) (lt := PD) (aD UP trivial) YN
abbrev I6 : Ent := ⟨105, [.str], [.int .i64], sH⟩
theorem JB : Ent.OK Tryz.prog I6 := aCH

/-! schisma/decimal.Of -/
def mM (x : aJ [.int .u64]) : Option (aJ [.str]) := match x with
 | (v0, ()) =>
  aB (lO (v0, 10, ())) fun y1 =>
  some (y1.1, ())
noncomputable def IU : Code := aR Tryz.f156
abbrev TV : Env := bF [xD]
theorem YQ : aW Tryz.prog TV := aU ⟨FX, trivial⟩
def NJ (id : Nat) : Option aO := none
theorem UM : aE IU = [] := by kernel_rfl
theorem XH : ∀ x, bH Tryz.prog TV Tryz.f156 (aC Tryz.f156) NJ IU [.int .u64] [.str] x = mM x := by
 rintro ⟨v0, ⟨⟩⟩
 kernel_rfl
theorem aCM : bW Tryz.prog 156 [.int .u64] [.str] mM := by
 exact aX aM YQ Tryz.func156 (c := IU) (by kernel_rfl) (aQ := aC Tryz.f156) (lt := NJ) (aD UM trivial) XH
abbrev u5 : Ent := ⟨156, [.int .u64], [.str], mM⟩
theorem tA : Ent.OK Tryz.prog u5 := aCM

/-! schisma/decimal.Small -/
def o3 (x : aJ [.str]) : Option (aJ [.int .u64, .bool]) := match x with
 | (v0, ()) =>
  aB (mX (v0, 10, 64, ())) fun y1 =>
  some (y1.1, true, ())
noncomputable def yO : Code := aR Tryz.f185
abbrev H6 : Env := bF [AB]
theorem P4 : aW Tryz.prog H6 := aU ⟨HG, trivial⟩
def GP (id : Nat) : Option aO := none
theorem MT : aE yO = [] := by kernel_rfl
theorem PF : ∀ x, bH Tryz.prog H6 Tryz.f185 (aC Tryz.f185) GP yO [.str] [.int .u64, .bool] x = o3 x := by
 rintro ⟨v0, ⟨⟩⟩
 kernel_rfl
theorem UJ : bW Tryz.prog 185 [.str] [.int .u64, .bool] o3 := by
 exact aX aM P4 Tryz.func185 (c := yO) (by kernel_rfl) (aQ := aC Tryz.f185) (lt := GP) (aD MT trivial) PF
abbrev JH : Ent := ⟨185, [.str], [.int .u64, .bool], o3⟩
theorem OB : Ent.OK Tryz.prog JH := UJ

/-! schisma/decimal.both -/
def lB (x : aJ [.str, .str]) : Option (aJ [.int .u64, .int .u64, .bool]) := match x with
 | (v0, v1, ()) =>
  bif ltI 18 (v0.size : Int) then
   some (0, 0, false, ())
  else bif ltI 18 (v1.size : Int) then
   some (0, 0, false, ())
  else aB (o3 (v0, ())) fun y1 =>
  aB (o3 (v1, ())) fun y2 =>
  some (y1.1, y2.1, true, ())
noncomputable def CH : Code := aR Tryz.f155
abbrev K6 : Env := bF [JH]
theorem R5 : aW Tryz.prog K6 := aU ⟨OB, trivial⟩
def JM (id : Nat) : Option aO := none
theorem P1 : aE CH = [] := by kernel_rfl
theorem RP : ∀ x, bH Tryz.prog K6 Tryz.f155 (aC Tryz.f155) JM CH [.str, .str] [.int .u64, .int .u64, .bool] x = lB x := by
 rintro ⟨v0, v1, ⟨⟩⟩
 kernel_rfl
theorem VM : bW Tryz.prog 155 [.str, .str] [.int .u64, .int .u64, .bool] lB := by
 exact aX aM R5 Tryz.func155 (c := CH) (by kernel_rfl) (aQ := aC Tryz.f155) (lt := JM) (aD P1 trivial) RP
abbrev q9 : Ent := ⟨155, [.str, .str], [.int .u64, .int .u64, .bool], lB⟩
theorem p9 : Ent.OK Tryz.prog q9 := VM

/-! schisma/decimal.Compare -/
def dT (x : aJ [.str, .str]) : Option (aJ [.int .i64]) := match x with
 | (v0, v1, ()) =>
  bif !(eqI (v0.size : Int) (v1.size : Int)) then
   some ((if (if (-1) < (aK .i64 ((v0.size : Int) - (v1.size : Int))) then (aK .i64 ((v0.size : Int) - (v1.size : Int))) else (-1)) < 1 then (if (-1) < (aK .i64 ((v0.size : Int) - (v1.size : Int))) then (aK .i64 ((v0.size : Int) - (v1.size : Int))) else (-1)) else 1), ())
  else bif ltS v0 v1 then
   some ((-1), ())
  else bif !(ltS v0 v1 || eqS v0 v1) then
   some (1, ())
  else some (0, ())
noncomputable def uI : Code := aR Tryz.f131
abbrev D7 : Env := bF []
theorem KI : aW Tryz.prog D7 := aU trivial
def BO (id : Nat) : Option aO := none
theorem I2 : aE uI = [] := by kernel_rfl
theorem KL : ∀ x, bH Tryz.prog D7 Tryz.f131 (aC Tryz.f131) BO uI [.str, .str] [.int .i64] x = dT x := by
 rintro ⟨v0, v1, ⟨⟩⟩
 kernel_rfl
theorem NP : bW Tryz.prog 131 [.str, .str] [.int .i64] dT := by
 exact aX aM KI Tryz.func131 (c := uI) (by kernel_rfl) (aQ := aC Tryz.f131) (lt := BO) (aD I2 trivial) KL
abbrev qA : Ent := ⟨131, [.str, .str], [.int .i64], dT⟩
theorem qH : Ent.OK Tryz.prog qA := NP

/-! schisma/whole.Compare -/
def tF (x : aJ [.str, .str]) : Option (aJ [.int .i64]) := match x with
 | (v0, v1, ()) =>
  aB (sH (v0, ())) fun y1 =>
  aB (sH (v1, ())) fun y2 =>
  bif !(eqI y1.1 y2.1) then
   bif ltI y1.1 y2.1 then
    some ((-1), ())
   else some (1, ())
  else aB (bY (v0, ())) fun y3 =>
  aB (bY (v1, ())) fun y4 =>
  bif y3.1 then
   aB (dT (y4.2.1, y3.2.1, ())) fun y5 =>
   some (y5.1, ())
  else aB (dT (y3.2.1, y4.2.1, ())) fun y6 =>
  some (y6.1, ())
noncomputable def AJ : Code := aR Tryz.f101
abbrev IZ : Env := bF [qA, I6, nI]
theorem NZ : aW Tryz.prog IZ := aU ⟨qH, JB, kR, trivial⟩
def GY (id : Nat) : Option aO := none
theorem MS : aE AJ = [] := by kernel_rfl
theorem PG : ∀ x, bH Tryz.prog IZ Tryz.f101 (aC Tryz.f101) GY AJ [.str, .str] [.int .i64] x = tF x := by
 rintro ⟨v0, v1, ⟨⟩⟩
 kernel_rfl
theorem UT : bW Tryz.prog 101 [.str, .str] [.int .i64] tF := by
 exact aX aM NZ Tryz.func101 (c := AJ) (by kernel_rfl) (aQ := aC Tryz.f101) (lt := GY) (aD MS trivial) PG
abbrev IA : Ent := ⟨101, [.str, .str], [.int .i64], tF⟩
theorem OY : Ent.OK Tryz.prog IA := UT

/-! schisma/whole.Neg -/
def zZ (x : aJ [.str]) : Option (aJ [.str]) := match x with
 | (v0, ()) =>
  aB (bY (v0, ())) fun y1 =>
  bif y1.1 then
   aB (aA (false, y1.2.1, ())) fun y2 =>
   some (y2.1, ())
  else aB (aA (true, y1.2.1, ())) fun y3 =>
  some (y3.1, ())
noncomputable def MP : Code := aR Tryz.f139
abbrev YA : Env := bF [vF, nI]
theorem ZY : aW Tryz.prog YA := aU ⟨tE, kR, trivial⟩
def SR (id : Nat) : Option aO := none
theorem VL : aE MP = [] := by kernel_rfl
theorem Z2 : ∀ x, bH Tryz.prog YA Tryz.f139 (aC Tryz.f139) SR MP [.str] [.str] x = zZ x := by
 rintro ⟨v0, ⟨⟩⟩
 kernel_rfl
theorem aFY : bW Tryz.prog 139 [.str] [.str] zZ := by
 exact aX aM ZY Tryz.func139 (c := MP) (by kernel_rfl) (aQ := aC Tryz.f139) (lt := SR) (aD VL trivial) Z2
abbrev LW : Ent := ⟨139, [.str], [.str], zZ⟩
theorem K2 : Ent.OK Tryz.prog LW := aFY

/-! schisma/whole.Abs -/
def zX (x : aJ [.str]) : Option (aJ [.str]) := match x with
 | (v0, ()) =>
  aB (bY (v0, ())) fun y1 =>
  some (y1.2.1, ())
noncomputable def MK : Code := aR Tryz.f102
abbrev XM : Env := bF [nI]
theorem ZR : aW Tryz.prog XM := aU ⟨kR, trivial⟩
def TU (id : Nat) : Option aO := none
theorem V2 : aE MK = [] := by kernel_rfl
theorem ZV : ∀ x, bH Tryz.prog XM Tryz.f102 (aC Tryz.f102) TU MK [.str] [.str] x = zX x := by
 rintro ⟨v0, ⟨⟩⟩
 kernel_rfl
theorem aEX : bW Tryz.prog 102 [.str] [.str] zX := by
 exact aX aM ZR Tryz.func102 (c := MK) (by kernel_rfl) (aQ := aC Tryz.f102) (lt := TU) (aD V2 trivial) ZV
abbrev V3 : Ent := ⟨102, [.str], [.str], zX⟩
theorem Z1 : Ent.OK Tryz.prog V3 := aEX

/-! schisma/decimal.Add -/
def fV (x : aJ [.str, .str]) : Option (aJ [.str]) := match x with
 | (v0, v1, ()) =>
  aB (lB (v0, v1, ())) fun y1 =>
  bif y1.2.2.1 then aB (mM ((aK .u64 (y1.1 + y1.2.1)), ())) fun y2 =>
  some (y2.1, ()) else none
noncomputable def FV : Code := aR Tryz.f134
abbrev N3 : Env := bF [u5, q9]
theorem T4 : aW Tryz.prog N3 := aU ⟨tA, p9, trivial⟩
def KZ (id : Nat) : Option aO := none
theorem SN : aE FV = [] := by kernel_rfl
theorem T3 : ∀ x, bH Tryz.prog N3 Tryz.f134 (aC Tryz.f134) KZ FV [.str, .str] [.str] x = fV x := by
 rintro ⟨v0, v1, ⟨⟩⟩
 kernel_rfl
theorem ZZ : bW Tryz.prog 134 [.str, .str] [.str] fV := by
 exact aX aM T4 Tryz.func134 (c := FV) (by kernel_rfl) (aQ := aC Tryz.f134) (lt := KZ) (aD SN trivial) T3
abbrev F7 : Ent := ⟨134, [.str, .str], [.str], fV⟩
theorem G6 : Ent.OK Tryz.prog F7 := ZZ

/-! schisma/decimal.Sub -/
def dP (x : aJ [.str, .str]) : Option (aJ [.str, .int .i64]) := match x with
 | (v0, v1, ()) =>
  aB (dT (v0, v1, ())) fun y1 =>
  bif ltI y1.1 0 then
   some ((ByteArray.mk #[]), 3, ())
  else aB (lB (v0, v1, ())) fun y2 =>
  bif y2.2.2.1 then aB (mM ((aK .u64 (y2.1 - y2.2.1)), ())) fun y3 =>
  some (y3.1, 0, ()) else none
noncomputable def EK : Code := aR Tryz.f135
abbrev NL : Env := bF [qA, u5, q9]
theorem UX : aW Tryz.prog NL := aU ⟨qH, tA, p9, trivial⟩
def K7 (id : Nat) : Option aO := none
theorem SA : aE EK = [] := by kernel_rfl
theorem UL : ∀ x, bH Tryz.prog NL Tryz.f135 (aC Tryz.f135) K7 EK [.str, .str] [.str, .int .i64] x = dP x := by
 rintro ⟨v0, v1, ⟨⟩⟩
 kernel_rfl
theorem ZA : bW Tryz.prog 135 [.str, .str] [.str, .int .i64] dP := by
 exact aX aM UX Tryz.func135 (c := EK) (by kernel_rfl) (aQ := aC Tryz.f135) (lt := K7) (aD SA trivial) UL
abbrev EI : Ent := ⟨135, [.str, .str], [.str, .int .i64], dP⟩
theorem GJ : Ent.OK Tryz.prog EI := ZA

/-! schisma/decimal.Mul -/
def gA (x : aJ [.str, .str]) : Option (aJ [.str]) := match x with
 | (v0, v1, ()) =>
  bif !(ltI 18 (aK .i64 ((v0.size : Int) + (v1.size : Int)))) then aB (lB (v0, v1, ())) fun y1 =>
  aB (mM ((aK .u64 (y1.1 * y1.2.1)), ())) fun y2 =>
  some (y2.1, ()) else none
noncomputable def EN : Code := aR Tryz.f166
abbrev OE : Env := bF [u5, q9]
theorem UZ : aW Tryz.prog OE := aU ⟨tA, p9, trivial⟩
def LK (id : Nat) : Option aO := none
theorem QD : aE EN = [] := by kernel_rfl
theorem UI : ∀ x, bH Tryz.prog OE Tryz.f166 (aC Tryz.f166) LK EN [.str, .str] [.str] x = gA x := by
 rintro ⟨v0, v1, ⟨⟩⟩
 kernel_rfl
theorem Y9 : bW Tryz.prog 166 [.str, .str] [.str] gA := by
 exact aX aM UZ Tryz.func166 (c := EN) (by kernel_rfl) (aQ := aC Tryz.f166) (lt := LK) (aD QD trivial) UI
abbrev NU : Ent := ⟨166, [.str, .str], [.str], gA⟩
theorem UD : Ent.OK Tryz.prog NU := Y9

/-! schisma/decimal.DivMod -/
def nY (x : aJ [.str, .str]) : Option (aJ [.str, .str, .int .i64]) := match x with
 | (v0, v1, ()) =>
  bif eqS v1 (ByteArray.mk #[48]) then
   some ((ByteArray.mk #[]), (ByteArray.mk #[]), 17, ())
  else aB (lB (v0, v1, ())) fun y1 =>
  bif y1.2.2.1 then bif eqI y1.2.1 0 then none else aB (mM ((aK .u64 (y1.1.tdiv y1.2.1)), ())) fun y2 =>
  bif eqI y1.2.1 0 then none else aB (mM ((y1.1.tmod y1.2.1), ())) fun y3 =>
  some (y2.1, y3.1, 0, ()) else none
noncomputable def wJ : Code := aR Tryz.f133
abbrev GG : Env := bF [u5, q9]
theorem LX : aW Tryz.prog GG := aU ⟨tA, p9, trivial⟩
def D8 (id : Nat) : Option aO := none
theorem KQ : aE wJ = [] := by kernel_rfl
theorem NC : ∀ x, bH Tryz.prog GG Tryz.f133 (aC Tryz.f133) D8 wJ [.str, .str] [.str, .str, .int .i64] x = nY x := by
 rintro ⟨v0, v1, ⟨⟩⟩
 kernel_rfl
theorem R8 : bW Tryz.prog 133 [.str, .str] [.str, .str, .int .i64] nY := by
 exact aX aM LX Tryz.func133 (c := wJ) (by kernel_rfl) (aQ := aC Tryz.f133) (lt := D8) (aD KQ trivial) NC
abbrev GF : Ent := ⟨133, [.str, .str], [.str, .str, .int .i64], nY⟩
theorem L3 : Ent.OK Tryz.prog GF := R8

/-! schisma/whole.Add -/
def FT (x : aJ [.str, .str]) : Option (aJ [.str]) := match x with
 | (v0, v1, ()) =>
  aB (gY (v0, 18, ())) fun y1 =>
  bif y1.2.1 then
   aB (gY (v1, 18, ())) fun y2 =>
   bif y2.2.1 then
    aB (fJ ((aK .i64 (y1.1 + y2.1)), ())) fun y3 =>
    some (y3.1, ())
   else aB (bY (v0, ())) fun y4 =>
   aB (bY (v1, ())) fun y5 =>
   bif y4.1 then
    bif y5.1 then
     aB (fV (y4.2.1, y5.2.1, ())) fun y6 =>
     aB (aA (y4.1, y6.1, ())) fun y7 =>
     some (y7.1, ())
    else aB (dT (y4.2.1, y5.2.1, ())) fun y8 =>
    bif ltI y8.1 0 then
     aB (dP (y5.2.1, y4.2.1, ())) fun y9 =>
     aB (aA (y5.1, y9.1, ())) fun y10 =>
     some (y10.1, ())
    else aB (dP (y4.2.1, y5.2.1, ())) fun y11 =>
    aB (aA (y4.1, y11.1, ())) fun y12 =>
    some (y12.1, ())
   else bif y5.1 then
    aB (dT (y4.2.1, y5.2.1, ())) fun y13 =>
    bif ltI y13.1 0 then
     aB (dP (y5.2.1, y4.2.1, ())) fun y14 =>
     aB (aA (y5.1, y14.1, ())) fun y15 =>
     some (y15.1, ())
    else aB (dP (y4.2.1, y5.2.1, ())) fun y16 =>
    aB (aA (y4.1, y16.1, ())) fun y17 =>
    some (y17.1, ())
   else aB (fV (y4.2.1, y5.2.1, ())) fun y18 =>
   aB (aA (y4.1, y18.1, ())) fun y19 =>
   some (y19.1, ())
  else aB (bY (v0, ())) fun y20 =>
  aB (bY (v1, ())) fun y21 =>
  bif y20.1 then
   bif y21.1 then
    aB (fV (y20.2.1, y21.2.1, ())) fun y22 =>
    aB (aA (y20.1, y22.1, ())) fun y23 =>
    some (y23.1, ())
   else aB (dT (y20.2.1, y21.2.1, ())) fun y24 =>
   bif ltI y24.1 0 then
    aB (dP (y21.2.1, y20.2.1, ())) fun y25 =>
    aB (aA (y21.1, y25.1, ())) fun y26 =>
    some (y26.1, ())
   else aB (dP (y20.2.1, y21.2.1, ())) fun y27 =>
   aB (aA (y20.1, y27.1, ())) fun y28 =>
   some (y28.1, ())
  else bif y21.1 then
   aB (dT (y20.2.1, y21.2.1, ())) fun y29 =>
   bif ltI y29.1 0 then
    aB (dP (y21.2.1, y20.2.1, ())) fun y30 =>
    aB (aA (y21.1, y30.1, ())) fun y31 =>
    some (y31.1, ())
   else aB (dP (y20.2.1, y21.2.1, ())) fun y32 =>
   aB (aA (y20.1, y32.1, ())) fun y33 =>
   some (y33.1, ())
  else aB (fV (y20.2.1, y21.2.1, ())) fun y34 =>
  aB (aA (y20.1, y34.1, ())) fun y35 =>
  some (y35.1, ())
noncomputable def MU : Code := aR Tryz.f165
abbrev X7 : Env := bF [F7, qA, EI, yH, vF, uW, nI]
theorem ZU : aW Tryz.prog X7 := aU ⟨G6, qH, GJ, sY, tE, uD, kR, trivial⟩
def TT (id : Nat) : Option aO := none
theorem W2 : aE MU = [] := by kernel_rfl
theorem ZB : ∀ x, bH Tryz.prog X7 Tryz.f165 (aC Tryz.f165) TT MU [.str, .str] [.str] x = FT x := by
 rintro ⟨v0, v1, ⟨⟩⟩
 kernel_rfl
theorem aEF : bW Tryz.prog 165 [.str, .str] [.str] FT := by
 exact aX aM ZU Tryz.func165 (c := MU) (by kernel_rfl) (aQ := aC Tryz.f165) (lt := TT) (aD W2 trivial) ZB
abbrev XW : Ent := ⟨165, [.str, .str], [.str], FT⟩
theorem Y2 : Ent.OK Tryz.prog XW := aEF

/-! schisma/whole.Sub -/
def AG (x : aJ [.str, .str]) : Option (aJ [.str]) := match x with
 | (v0, v1, ()) =>
  aB (zZ (v1, ())) fun y1 =>
  aB (FT (v0, y1.1, ())) fun y2 =>
  some (y2.1, ())
noncomputable def LU : Code := aR Tryz.f137
abbrev WC : Env := bF [XW, LW]
theorem ZQ : aW Tryz.prog WC := aU ⟨Y2, K2, trivial⟩
def S2 (id : Nat) : Option aO := none
theorem X6 : aE LU = [] := by kernel_rfl
theorem ZN : ∀ x, bH Tryz.prog WC Tryz.f137 (aC Tryz.f137) S2 LU [.str, .str] [.str] x = AG x := by
 rintro ⟨v0, v1, ⟨⟩⟩
 kernel_rfl
theorem aHA : bW Tryz.prog 137 [.str, .str] [.str] AG := by
 exact aX aM ZQ Tryz.func137 (c := LU) (by kernel_rfl) (aQ := aC Tryz.f137) (lt := S2) (aD X6 trivial) ZN
abbrev MC : Ent := ⟨137, [.str, .str], [.str], AG⟩
theorem LD : Ent.OK Tryz.prog MC := aHA

/-! schisma/whole.Mul -/
def zV (x : aJ [.str, .str]) : Option (aJ [.str]) := match x with
 | (v0, v1, ()) =>
  aB (gY (v0, 9, ())) fun y1 =>
  bif y1.2.1 then
   aB (gY (v1, 9, ())) fun y2 =>
   bif y2.2.1 then
    aB (fJ ((aK .i64 (y1.1 * y2.1)), ())) fun y3 =>
    some (y3.1, ())
   else aB (bY (v0, ())) fun y4 =>
   aB (bY (v1, ())) fun y5 =>
   bif y4.1 then
    bif y5.1 then
     aB (gA (y4.2.1, y5.2.1, ())) fun y6 =>
     aB (aA (false, y6.1, ())) fun y7 =>
     some (y7.1, ())
    else aB (gA (y4.2.1, y5.2.1, ())) fun y8 =>
    aB (aA (true, y8.1, ())) fun y9 =>
    some (y9.1, ())
   else bif y5.1 then
    aB (gA (y4.2.1, y5.2.1, ())) fun y10 =>
    aB (aA (true, y10.1, ())) fun y11 =>
    some (y11.1, ())
   else aB (gA (y4.2.1, y5.2.1, ())) fun y12 =>
   aB (aA (false, y12.1, ())) fun y13 =>
   some (y13.1, ())
  else aB (bY (v0, ())) fun y14 =>
  aB (bY (v1, ())) fun y15 =>
  bif y14.1 then
   bif y15.1 then
    aB (gA (y14.2.1, y15.2.1, ())) fun y16 =>
    aB (aA (false, y16.1, ())) fun y17 =>
    some (y17.1, ())
   else aB (gA (y14.2.1, y15.2.1, ())) fun y18 =>
   aB (aA (true, y18.1, ())) fun y19 =>
   some (y19.1, ())
  else bif y15.1 then
   aB (gA (y14.2.1, y15.2.1, ())) fun y20 =>
   aB (aA (true, y20.1, ())) fun y21 =>
   some (y21.1, ())
  else aB (gA (y14.2.1, y15.2.1, ())) fun y22 =>
  aB (aA (false, y22.1, ())) fun y23 =>
  some (y23.1, ())
noncomputable def L7 : Code := aR Tryz.f138
abbrev XA : Env := bF [NU, yH, vF, uW, nI]
theorem ZM : aW Tryz.prog XA := aU ⟨UD, sY, tE, uD, kR, trivial⟩
def S9 (id : Nat) : Option aO := none
theorem XY : aE L7 = [] := by kernel_rfl
theorem Z3 : ∀ x, bH Tryz.prog XA Tryz.f138 (aC Tryz.f138) S9 L7 [.str, .str] [.str] x = zV x := by
 rintro ⟨v0, v1, ⟨⟩⟩
 kernel_rfl
theorem aGX : bW Tryz.prog 138 [.str, .str] [.str] zV := by
 exact aX aM ZM Tryz.func138 (c := L7) (by kernel_rfl) (aQ := aC Tryz.f138) (lt := S9) (aD XY trivial) Z3
abbrev M7 : Ent := ⟨138, [.str, .str], [.str], zV⟩
theorem LH : Ent.OK Tryz.prog M7 := aGX

/-! schisma/whole.DivMod -/
def oF (x : aJ [.str, .str]) : Option (aJ [.str, .str, .int .i64]) := match x with
 | (v0, v1, ()) =>
  bif eqS v1 (ByteArray.mk #[48]) then
   some ((ByteArray.mk #[]), (ByteArray.mk #[]), 17, ())
  else aB (gY (v0, 18, ())) fun y1 =>
  bif y1.2.1 then
   aB (gY (v1, 18, ())) fun y2 =>
   bif y2.2.1 then
    bif eqI y2.1 0 then none else bif eqI y2.1 0 then none else bif !(eqI (y1.1.tmod y2.1) 0) then
     bif ltI (y1.1.tmod y2.1) 0 then
      bif ltI y2.1 0 then
       aB (fJ ((aK .i64 (y1.1.tdiv y2.1)), ())) fun y3 =>
       aB (fJ ((y1.1.tmod y2.1), ())) fun y4 =>
       some (y3.1, y4.1, 0, ())
      else aB (fJ ((aK .i64 ((aK .i64 (y1.1.tdiv y2.1)) - 1)), ())) fun y5 =>
      aB (fJ ((aK .i64 ((y1.1.tmod y2.1) + y2.1)), ())) fun y6 =>
      some (y5.1, y6.1, 0, ())
     else bif ltI y2.1 0 then
      aB (fJ ((aK .i64 ((aK .i64 (y1.1.tdiv y2.1)) - 1)), ())) fun y7 =>
      aB (fJ ((aK .i64 ((y1.1.tmod y2.1) + y2.1)), ())) fun y8 =>
      some (y7.1, y8.1, 0, ())
     else aB (fJ ((aK .i64 (y1.1.tdiv y2.1)), ())) fun y9 =>
     aB (fJ ((y1.1.tmod y2.1), ())) fun y10 =>
     some (y9.1, y10.1, 0, ())
    else aB (fJ ((aK .i64 (y1.1.tdiv y2.1)), ())) fun y11 =>
    aB (fJ ((y1.1.tmod y2.1), ())) fun y12 =>
    some (y11.1, y12.1, 0, ())
   else aB (bY (v0, ())) fun y13 =>
   aB (bY (v1, ())) fun y14 =>
   aB (nY (y13.2.1, y14.2.1, ())) fun y15 =>
   bif !(eqI y15.2.2.1 0) then
    some ((ByteArray.mk #[]), (ByteArray.mk #[]), y15.2.2.1, ())
   else bif y13.1 then
    bif y14.1 then
     bif y13.1 then
      bif y14.1 then
       aB (aA (false, y15.1, ())) fun y16 =>
       aB (aA (y14.1, y15.2.1, ())) fun y17 =>
       some (y16.1, y17.1, 0, ())
      else aB (aA (true, y15.1, ())) fun y18 =>
      aB (aA (y14.1, y15.2.1, ())) fun y19 =>
      some (y18.1, y19.1, 0, ())
     else bif y14.1 then
      aB (aA (true, y15.1, ())) fun y20 =>
      aB (aA (y14.1, y15.2.1, ())) fun y21 =>
      some (y20.1, y21.1, 0, ())
     else aB (aA (false, y15.1, ())) fun y22 =>
     aB (aA (y14.1, y15.2.1, ())) fun y23 =>
     some (y22.1, y23.1, 0, ())
    else bif !(eqS y15.2.1 (ByteArray.mk #[48])) then
     aB (fV (y15.1, (ByteArray.mk #[49]), ())) fun y24 =>
     aB (dP (y14.2.1, y15.2.1, ())) fun y25 =>
     bif y13.1 then
      bif y14.1 then
       aB (aA (false, y24.1, ())) fun y26 =>
       aB (aA (y14.1, y25.1, ())) fun y27 =>
       some (y26.1, y27.1, 0, ())
      else aB (aA (true, y24.1, ())) fun y28 =>
      aB (aA (y14.1, y25.1, ())) fun y29 =>
      some (y28.1, y29.1, 0, ())
     else bif y14.1 then
      aB (aA (true, y24.1, ())) fun y30 =>
      aB (aA (y14.1, y25.1, ())) fun y31 =>
      some (y30.1, y31.1, 0, ())
     else aB (aA (false, y24.1, ())) fun y32 =>
     aB (aA (y14.1, y25.1, ())) fun y33 =>
     some (y32.1, y33.1, 0, ())
    else bif y13.1 then
     bif y14.1 then
      aB (aA (false, y15.1, ())) fun y34 =>
      aB (aA (y14.1, y15.2.1, ())) fun y35 =>
      some (y34.1, y35.1, 0, ())
     else aB (aA (true, y15.1, ())) fun y36 =>
     aB (aA (y14.1, y15.2.1, ())) fun y37 =>
     some (y36.1, y37.1, 0, ())
    else bif y14.1 then
     aB (aA (true, y15.1, ())) fun y38 =>
     aB (aA (y14.1, y15.2.1, ())) fun y39 =>
     some (y38.1, y39.1, 0, ())
    else aB (aA (false, y15.1, ())) fun y40 =>
    aB (aA (y14.1, y15.2.1, ())) fun y41 =>
    some (y40.1, y41.1, 0, ())
   else bif y14.1 then
    bif !(eqS y15.2.1 (ByteArray.mk #[48])) then
     aB (fV (y15.1, (ByteArray.mk #[49]), ())) fun y42 =>
     aB (dP (y14.2.1, y15.2.1, ())) fun y43 =>
     bif y13.1 then
      bif y14.1 then
       aB (aA (false, y42.1, ())) fun y44 =>
       aB (aA (y14.1, y43.1, ())) fun y45 =>
       some (y44.1, y45.1, 0, ())
      else aB (aA (true, y42.1, ())) fun y46 =>
      aB (aA (y14.1, y43.1, ())) fun y47 =>
      some (y46.1, y47.1, 0, ())
     else bif y14.1 then
      aB (aA (true, y42.1, ())) fun y48 =>
      aB (aA (y14.1, y43.1, ())) fun y49 =>
      some (y48.1, y49.1, 0, ())
     else aB (aA (false, y42.1, ())) fun y50 =>
     aB (aA (y14.1, y43.1, ())) fun y51 =>
     some (y50.1, y51.1, 0, ())
    else bif y13.1 then
     bif y14.1 then
      aB (aA (false, y15.1, ())) fun y52 =>
      aB (aA (y14.1, y15.2.1, ())) fun y53 =>
      some (y52.1, y53.1, 0, ())
     else aB (aA (true, y15.1, ())) fun y54 =>
     aB (aA (y14.1, y15.2.1, ())) fun y55 =>
     some (y54.1, y55.1, 0, ())
    else bif y14.1 then
     aB (aA (true, y15.1, ())) fun y56 =>
     aB (aA (y14.1, y15.2.1, ())) fun y57 =>
     some (y56.1, y57.1, 0, ())
    else aB (aA (false, y15.1, ())) fun y58 =>
    aB (aA (y14.1, y15.2.1, ())) fun y59 =>
    some (y58.1, y59.1, 0, ())
   else bif y13.1 then
    bif y14.1 then
     aB (aA (false, y15.1, ())) fun y60 =>
     aB (aA (y14.1, y15.2.1, ())) fun y61 =>
     some (y60.1, y61.1, 0, ())
    else aB (aA (true, y15.1, ())) fun y62 =>
    aB (aA (y14.1, y15.2.1, ())) fun y63 =>
    some (y62.1, y63.1, 0, ())
   else bif y14.1 then
    aB (aA (true, y15.1, ())) fun y64 =>
    aB (aA (y14.1, y15.2.1, ())) fun y65 =>
    some (y64.1, y65.1, 0, ())
   else aB (aA (false, y15.1, ())) fun y66 =>
   aB (aA (y14.1, y15.2.1, ())) fun y67 =>
   some (y66.1, y67.1, 0, ())
  else aB (bY (v0, ())) fun y68 =>
  aB (bY (v1, ())) fun y69 =>
  aB (nY (y68.2.1, y69.2.1, ())) fun y70 =>
  bif !(eqI y70.2.2.1 0) then
   some ((ByteArray.mk #[]), (ByteArray.mk #[]), y70.2.2.1, ())
  else bif y68.1 then
   bif y69.1 then
    bif y68.1 then
     bif y69.1 then
      aB (aA (false, y70.1, ())) fun y71 =>
      aB (aA (y69.1, y70.2.1, ())) fun y72 =>
      some (y71.1, y72.1, 0, ())
     else aB (aA (true, y70.1, ())) fun y73 =>
     aB (aA (y69.1, y70.2.1, ())) fun y74 =>
     some (y73.1, y74.1, 0, ())
    else bif y69.1 then
     aB (aA (true, y70.1, ())) fun y75 =>
     aB (aA (y69.1, y70.2.1, ())) fun y76 =>
     some (y75.1, y76.1, 0, ())
    else aB (aA (false, y70.1, ())) fun y77 =>
    aB (aA (y69.1, y70.2.1, ())) fun y78 =>
    some (y77.1, y78.1, 0, ())
   else bif !(eqS y70.2.1 (ByteArray.mk #[48])) then
    aB (fV (y70.1, (ByteArray.mk #[49]), ())) fun y79 =>
    aB (dP (y69.2.1, y70.2.1, ())) fun y80 =>
    bif y68.1 then
     bif y69.1 then
      aB (aA (false, y79.1, ())) fun y81 =>
      aB (aA (y69.1, y80.1, ())) fun y82 =>
      some (y81.1, y82.1, 0, ())
     else aB (aA (true, y79.1, ())) fun y83 =>
     aB (aA (y69.1, y80.1, ())) fun y84 =>
     some (y83.1, y84.1, 0, ())
    else bif y69.1 then
     aB (aA (true, y79.1, ())) fun y85 =>
     aB (aA (y69.1, y80.1, ())) fun y86 =>
     some (y85.1, y86.1, 0, ())
    else aB (aA (false, y79.1, ())) fun y87 =>
    aB (aA (y69.1, y80.1, ())) fun y88 =>
    some (y87.1, y88.1, 0, ())
   else bif y68.1 then
    bif y69.1 then
     aB (aA (false, y70.1, ())) fun y89 =>
     aB (aA (y69.1, y70.2.1, ())) fun y90 =>
     some (y89.1, y90.1, 0, ())
    else aB (aA (true, y70.1, ())) fun y91 =>
    aB (aA (y69.1, y70.2.1, ())) fun y92 =>
    some (y91.1, y92.1, 0, ())
   else bif y69.1 then
    aB (aA (true, y70.1, ())) fun y93 =>
    aB (aA (y69.1, y70.2.1, ())) fun y94 =>
    some (y93.1, y94.1, 0, ())
   else aB (aA (false, y70.1, ())) fun y95 =>
   aB (aA (y69.1, y70.2.1, ())) fun y96 =>
   some (y95.1, y96.1, 0, ())
  else bif y69.1 then
   bif !(eqS y70.2.1 (ByteArray.mk #[48])) then
    aB (fV (y70.1, (ByteArray.mk #[49]), ())) fun y97 =>
    aB (dP (y69.2.1, y70.2.1, ())) fun y98 =>
    bif y68.1 then
     bif y69.1 then
      aB (aA (false, y97.1, ())) fun y99 =>
      aB (aA (y69.1, y98.1, ())) fun y100 =>
      some (y99.1, y100.1, 0, ())
     else aB (aA (true, y97.1, ())) fun y101 =>
     aB (aA (y69.1, y98.1, ())) fun y102 =>
     some (y101.1, y102.1, 0, ())
    else bif y69.1 then
     aB (aA (true, y97.1, ())) fun y103 =>
     aB (aA (y69.1, y98.1, ())) fun y104 =>
     some (y103.1, y104.1, 0, ())
    else aB (aA (false, y97.1, ())) fun y105 =>
    aB (aA (y69.1, y98.1, ())) fun y106 =>
    some (y105.1, y106.1, 0, ())
   else bif y68.1 then
    bif y69.1 then
     aB (aA (false, y70.1, ())) fun y107 =>
     aB (aA (y69.1, y70.2.1, ())) fun y108 =>
     some (y107.1, y108.1, 0, ())
    else aB (aA (true, y70.1, ())) fun y109 =>
    aB (aA (y69.1, y70.2.1, ())) fun y110 =>
    some (y109.1, y110.1, 0, ())
   else bif y69.1 then
    aB (aA (true, y70.1, ())) fun y111 =>
    aB (aA (y69.1, y70.2.1, ())) fun y112 =>
    some (y111.1, y112.1, 0, ())
   else aB (aA (false, y70.1, ())) fun y113 =>
   aB (aA (y69.1, y70.2.1, ())) fun y114 =>
   some (y113.1, y114.1, 0, ())
  else bif y68.1 then
   bif y69.1 then
    aB (aA (false, y70.1, ())) fun y115 =>
    aB (aA (y69.1, y70.2.1, ())) fun y116 =>
    some (y115.1, y116.1, 0, ())
   else aB (aA (true, y70.1, ())) fun y117 =>
   aB (aA (y69.1, y70.2.1, ())) fun y118 =>
   some (y117.1, y118.1, 0, ())
  else bif y69.1 then
   aB (aA (true, y70.1, ())) fun y119 =>
   aB (aA (y69.1, y70.2.1, ())) fun y120 =>
   some (y119.1, y120.1, 0, ())
  else aB (aA (false, y70.1, ())) fun y121 =>
  aB (aA (y69.1, y70.2.1, ())) fun y122 =>
  some (y121.1, y122.1, 0, ())
noncomputable def CK : Code := aR Tryz.f103
abbrev LI : Env := bF [F7, GF, EI, yH, vF, uW, nI]
theorem RC : aW Tryz.prog LI := aU ⟨G6, L3, GJ, sY, tE, uD, kR, trivial⟩
def HX (id : Nat) : Option aO := none
theorem P3 : aE CK = [] := by kernel_rfl
theorem SP : ∀ x, bH Tryz.prog LI Tryz.f103 (aC Tryz.f103) HX CK [.str, .str] [.str, .str, .int .i64] x = oF x := by
 rintro ⟨v0, v1, ⟨⟩⟩
 kernel_rfl
theorem XN : bW Tryz.prog 103 [.str, .str] [.str, .str, .int .i64] oF := by
 exact aX aM RC Tryz.func103 (c := CK) (by kernel_rfl) (aQ := aC Tryz.f103) (lt := HX) (aD P3 trivial) SP
abbrev C2 : Ent := ⟨103, [.str, .str], [.str, .str, .int .i64], oF⟩
theorem DP : Ent.OK Tryz.prog C2 := XN
end Go.PM
set_option linter.unusedSimpArgs false
set_option linter.unusedVariables false
namespace Go.PM
open Go Go.RowKit
section
variable {P : Program} {n0 : Nat → Prop} {w w' : World} {G G' : Gd} {μ μ1 : Mp} {H H1 : Heap}
theorem aF6 (hW : aP n0 G μ H w) {r : Nat} (hr : H[r]? = some none) (k : Blk) (hf : k.frozen = false) (hg : k.grown = true)
  (hblk : ∀ b, μ.loc r = some b → (∃ c, w.heap[b]? = some (.cells c k.ty (0, 0)) ∧ aN w G μ b 0 k.cells) ∧ n0 b ∧ ¬ G b ∧ (∀ s k1, H[s]? = some (some k1) → k1.frozen = false → μ.loc s ≠ some b) ∧ ∀ j, G.row j ≠ some b)
  (htag : ∀ g, k.tag = some g → k.cells = aH g.t g.l ∧ μ.len r = some g.l.length) : aP n0 G μ (H.set r (some k)) w := by
 have hlt : r < H.length := (List.getElem?_eq_some_iff.1 hr).1
 have key : ∀ s k1, (H.set r (some k))[s]? = some (some k1) → (s = r ∧ k1 = k) ∨ (s ≠ r ∧ H[s]? = some (some k1)) := by
  intro s k1 hs
  by_cases e : r = s
  ·subst e
   rw [List.getElem?_set_self hlt] at hs
   exact .inl ⟨rfl, (Option.some.inj (Option.some.inj hs)).symm⟩
  ·rw [List.getElem?_set_ne e] at hs
   exact .inr ⟨Ne.symm e, hs⟩
 refine ⟨?_, ?_, ?_, hW.lt, fun s hs => hW.top s (by simpa using hs), hW.base, ?_⟩
 ·intro s k1 b hs hb
  rcases key s k1 hs with ⟨rfl, rfl⟩ | ⟨_, hs⟩
  ·obtain ⟨⟨c, h1, h2⟩, h3, h4, _⟩ := hblk b hb
   exact ⟨c, h1, h2, fun h => (by rw [hg] at h; cases h), fun h => (by rw [hf] at h; cases h), fun _ => ⟨h3, h4⟩⟩
  ·exact hW.blk s k1 b hs hb
 ·intro s k1 g hs h1
  rcases key s k1 hs with ⟨rfl, rfl⟩ | ⟨_, hs⟩
  ·exact htag g h1
  ·exact hW.tags s k1 g hs h1
 ·intro s1 s2 k1 k2 b h1 h2 f1 f2 m1 m2
  rcases key s1 k1 h1 with ⟨rfl, rfl⟩ | ⟨_, h3⟩
  ·rcases key s2 k2 h2 with ⟨rfl, rfl⟩ | ⟨_, h4⟩
   ·rfl
   ·exact absurd m2 ((hblk b m1).2.2.2.1 s2 k2 h4 f2)
  ·rcases key s2 k2 h2 with ⟨rfl, rfl⟩ | ⟨_, h4⟩
   ·exact absurd m1 ((hblk b m2).2.2.2.1 s1 k1 h3 f1)
   ·exact hW.inj s1 s2 k1 k2 b h3 h4 f1 f2 m1 m2
 ·refine ⟨hW.rows.inj, ?_, hW.rows.cel, ?_, ?_⟩
  ·intro j b hj
   obtain ⟨a1, a2, a3, a4⟩ := hW.rows.sep j b hj
   refine ⟨a1, a2, a3, fun s k1 hs f1 m1 => ?_⟩
   rcases key s k1 hs with ⟨rfl, rfl⟩ | ⟨_, hs⟩
   ·exact (hblk b m1).2.2.2.2 j hj
   ·exact a4 s k1 hs f1 m1
  ·intro s k1 t l hs h1 h2
   rcases key s k1 hs with ⟨rfl, rfl⟩ | ⟨_, hs⟩
   ·rw [hg] at h1; cases h1
   ·exact hW.rows.arn s k1 t l hs h1 h2
  ·intro s1 s2 k1 k2 t l t' l' h1 g1 t1 h2 g2 t2
   rcases key s1 k1 h1 with ⟨rfl, rfl⟩ | ⟨_, h1⟩
   ·rw [hg] at g1; cases g1
   ·rcases key s2 k2 h2 with ⟨rfl, rfl⟩ | ⟨_, h2⟩
    ·rw [hg] at g2; cases g2
    ·exact hW.rows.one s1 s2 k1 k2 t l t' l' h1 g1 t1 h2 g2 t2

def aP7 (P : Program) (g : FuncId) (e : TypeId) (t : Ty) (args : List Kd) (f : List t.den → aJ args → Option (List t.den)) : Prop :=
 ∀ l x l', f l x = some l' → ∀ {n0 G μ H w us r}, aP n0 G μ H w → H[r]? = some (some (owB e t l)) → VRs w G μ (.own r t.size :: fQ args x) us → cK.noRows (fQ args x) = true → nG P n0 w G μ g us.toArray (.tuple []) (H.set r (some (owB e t l')))
def aO7 {t : Ty} {args : List Kd} (f : Unit → aJ (.hnd t.size :: args) → List (List t.den) → Option (aJ [] × List (List t.den))) (l : List t.den) (x : aJ args) : Option (List t.den) := match f () ((0, 0, l.length), x) [l] with
 | some ((), [l']) => bif Nat.beq l'.length l.length then some l' else none
 | _ => none
theorem aMS {g : FuncId} {e : TypeId} {t : Ty} {args : List Kd} {f : Unit → aJ (.hnd t.size :: args) → List (List t.den) → Option (aJ [] × List (List t.den))} (hf : YS P g e t .none (.hnd t.size :: args) (.data []) f) (hd : DF args = true) (hpl : t.plain = true) (he : e ≠ B6 := by decide) : aP7 P g e t args (aO7 f) := by
 intro l x l' hy n0 G μ H w us r hW hk hv hnr
 unfold aO7 at hy
 split at hy
 ·rename_i l1 hfl
  obtain ⟨hlen, hy⟩ := aI hy
  obtain rfl := Option.some.inj hy
  have hlen := Nat.eq_of_beq_eq_true hlen
  have ht2 := (hW.tags r _ _ hk rfl).2
  have hlt : r < H.length := (List.getElem?_eq_some_iff.1 hk).1
  obtain ⟨rb, hrb⟩ : ∃ rb : Option Nat, rb = if l = [] then none else μ.loc r := ⟨_, rfl⟩
  have hrbl : ∀ b, rb = some b → μ.loc r = some b ∧ l ≠ [] := fun b hb => by
   rw [hrb] at hb
   split at hb
   ·cases hb
   ·rename_i hne; exact ⟨hb, hne⟩
  have hmine : ∀ b, μ.loc r = some b → n0 b ∧ ¬ G b := fun b hb => by
   obtain ⟨_, _, _, _, _, h6⟩ := hW.blk r _ b hk hb
   exact h6 rfl
  have hrow : ∀ j b, G.row j = some b → μ.loc r ≠ some b := fun j b hj => (hW.rows.sep j b hj).2.2.2 r _ hk rfl
  obtain ⟨u, us', rfl, q1, q2⟩ : ∃ u us', us = u :: us' ∧ VR w G μ (.own r t.size) u ∧ VRs w G μ (fQ args x) us' := by
   rw [VRs] at hv; exact hv
  have at0 : ∀ (s : Nat) (k1 : Blk), ([some (arB e t [l])] : Heap)[s]? = some (some k1) → s = 0 ∧ k1 = arB e t [l] := by
   intro s k1 hs
   cases s with
   | zero => simp only [List.getElem?_cons_zero, Option.some.injEq] at hs; exact ⟨rfl, hs.symm⟩
   | succ s => simp at hs
  have hG0 : ∃ G0 : Gd, G0 = ⟨G.ok, fun j => if j = 0 then rb else none⟩ := ⟨_, rfl⟩
  obtain ⟨G0, hG0⟩ := hG0
  have hok : G0.ok = G.ok := by rw [hG0]
  have hr0 : ∀ j b, G0.row j = some b → j = 0 ∧ rb = some b := fun j b hj => by
   rw [hG0] at hj
   dsimp only at hj
   split at hj
   ·exact ⟨‹_›, hj⟩
   ·cases hj
  have hW1 : aP (fun b => w.heap.size ≤ b ∨ rb = some b) G0 ⟨fun _ => none, fun s => if s = 0 then some 1 else none⟩ [some (arB e t [l])] w := by
   refine ⟨fun s k1 b hs hb => (by cases hb), ?_, fun s1 s2 k1 k2 b _ _ _ _ m => (by cases m), by rw [hok]; exact hW.lt, ?_, fun b hb => .inl hb, ?_⟩
   ·intro s k1 gg hs hg
    obtain ⟨rfl, rfl⟩ := at0 s k1 hs
    cases hg
    exact ⟨rfl, rfl⟩
   ·intro s hs
    have : s ≠ 0 := by rintro rfl; simp at hs
    exact ⟨rfl, by simp [this]⟩
   ·refine ⟨fun i j b h1 h2 => (hr0 i b h1).1.trans (hr0 j b h2).1.symm, fun j b hj => ?_, fun j b hj => ?_, fun s k1 t1 l1 hs h1 h2 => ?_, fun s1 s2 k1 k2 t1 l1 t2 l2 h1 _ _ h2 _ _ => ((at0 s1 k1 h1).1.trans (at0 s2 k2 h2).1.symm)⟩
    ·obtain ⟨_, h2⟩ := hr0 j b hj
     exact ⟨hW.fP hk (hrbl b h2).1, .inr h2, by rw [hok]; exact (hmine b (hrbl b h2).1).2, fun _ _ _ _ h => by cases h⟩
    ·obtain ⟨_, h2⟩ := hr0 j b hj
     obtain ⟨c, h3, _⟩ := hW.blk r _ b hk (hrbl b h2).1
     exact .inl ⟨c, _, _, h3⟩
    ·obtain ⟨rfl, rfl⟩ := at0 s k1 hs
     cases h2
     refine ⟨rfl, fun j hj => ?_, fun j row hj => ?_⟩
     ·rw [hG0]
      have : j ≠ 0 := by rintro rfl; simp at hj
      simp [this]
     ·cases j with
      | zero =>
       simp only [List.getElem?_cons_zero, Option.some.injEq] at hj
       subst hj
       by_cases hl : l = []
       ·exact .inl ⟨hl, he⟩
       ·right
        rw [VR] at q1
        obtain ⟨n, z1, z2⟩ := q1
        rw [ht2] at z1
        obtain rfl := Option.some.inj z1
        rcases z2 with ⟨z2, _⟩ | ⟨b, c, z2, _⟩
        ·exact absurd (List.eq_nil_of_length_eq_zero z2) hl
        ·obtain ⟨cc, a1, a2, _⟩ := hW.blk r _ b hk z2
         refine ⟨b, by rw [hG0, hrb]; simp [hl, z2], .inl ⟨he, cc, a1, ?_⟩⟩
         exact kV (G := G) (G' := G0) (fun b h => by rw [hok]; exact h) _ _ _ _ (nJ t hpl l) (gW (dU _ _) a2)
      | succ j => simp at hj
  have hv1 : VRs w G0 ⟨fun _ => none, fun s => if s = 0 then some 1 else none⟩ (Tk.none.pv 0 ++ fQ (.hnd t.size :: args) ((0, 0, l.length), x)) (u :: us') := by
   change VRs w G0 _ (.row 0 0 l.length t.size :: fQ args x) (u :: us')
   rw [VRs]
   refine ⟨u, us', rfl, ?_, VRs.aZ (jI (G := G) (G' := G0) (fun b h => by rw [hok]; exact h) _ _ _ hnr (bP _ _ (xL args x hd) q2))⟩
   rw [VR] at q1
   rw [VR]
   obtain ⟨n, z1, z2⟩ := q1
   rw [ht2] at z1
   obtain rfl := Option.some.inj z1
   rcases z2 with ⟨z2, ao, rfl⟩ | ⟨b, c, z2, rfl, z3, z4⟩
   ·exact ⟨ao, 0, by rw [show l.length = 0 from z2], by rw [show l.length = 0 from z2]; exact Nat.le_refl _, .inl z2⟩
   ·refine ⟨_, c, rfl, z3, ?_⟩
    by_cases hl : l = []
    ·exact .inl (by rw [hl]; rfl)
    ·exact .inr ⟨b, by rw [hG0, hrb]; simp [hl, z2], by simp, by simpa using z4⟩
  obtain ⟨c1, c2⟩ := hf () ((0, 0, l.length), x) [l] () [l1] hfl (ra := 0) (r := 0) hW1 rfl ⟨fun _ _ h => by cases h⟩ hv1
  refine ⟨c1, c2.mono ?_⟩
  rintro e' w' ⟨v', G1, μ1, rfl, ee, hW', hvv⟩
  have hb1 : ∀ b, rb = some b → G1.row 0 = some b := fun b hb => ee.row 0 b (by rw [hG0]; simp [hb])
  have hH1 : (((BQ (Tk.none.ow () 0) [some (arB e t [l])]).set 0 none) ++ (some (arB e t [l1]) :: (An.data []).hp ()) : Heap)[1]? = some (some (arB e t [l1])) := rfl
  have hn0 : ∀ b, b < w.heap.size → ¬ n0 b → w'.heap[b]? = w.heap[b]? := fun b hb hn => ee.old b hb (by
   rintro (h | h)
   ·exact Nat.not_le.2 hb h
   ·exact hn (hmine b (hrbl b h).1).1)
  have hgg : ∀ b, G b → G0 b := fun b hb => by rw [hok]; exact hb
  have e2 : Ext n0 w G μ w' (G1.with G) μ := {
   good := fun b hb => ⟨(ee.good b (hgg b hb)).1, (ee.good b (hgg b hb)).2⟩
   map := fun _ _ h => h
   len := fun _ _ h => h
   room := ee.room
   row := fun _ _ h => h
   os := ee.os
   tape := ee.tape
   output := ee.output
   size := ee.size
   old := hn0
   new := fun b hb => by
    rcases ee.new b hb with h | h | h
    ·rw [hok] at h; exact .inl h
    ·exact .inr (hW.base b h)
    ·exact .inr (hmine b (hrbl b h).1).1 }
  have hold : ∀ b, b < w.heap.size → rb ≠ some b → w'.heap[b]? = w.heap[b]? ∧ (G1 b → G b) := fun b hb hne =>
   ⟨ee.old b hb (by rintro (h | h); exact Nat.not_le.2 hb h; exact hne h), fun hg => by
    rcases ee.new b hg with h | h | h
    ·rw [hok] at h; exact h
    ·exact absurd hb (Nat.not_lt.2 h)
    ·exact absurd h hne⟩
  have hk2 : aP n0 (G1.with G) μ (H.set r none) w' := by
   refine (sI hW r).aQ e2 ⟨fun _ => rfl, fun j b hj => hold b (hW.rows.sep j b hj).1 fun h => hrow j b hj (hrbl b h).1⟩ ?_ (fun b hb => hW'.lt b hb)
   intro s k1 b hs hb
   obtain ⟨hs, hsr⟩ := iR hs
   refine hold b (hW.fP hs hb) fun h => ?_
   have hrb := (hrbl b h).1
   cases hf : k1.frozen with
   | false => exact hsr (hW.inj s r k1 _ b hs hk hf rfl hb hrb)
   | true =>
    obtain ⟨_, _, _, _, h5, _⟩ := hW.blk s k1 b hs hb
    exact (hmine b hrb).2 (h5 hf)
  have hfin : aP n0 (G1.with G) μ (H.set r (some (owB e t l1))) w' := by
   have := aF6 hk2 (r := r) (List.getElem?_set_self hlt) (owB e t l1) rfl rfl ?_ ?_
   ·rwa [List.set_set] at this
   ·intro b hb
    have hcells : (∃ c, w'.heap[b]? = some (.cells c e (0, 0)) ∧ aN w' (G1.with G) μ b 0 (aH t l1)) ∧ ¬ G1 b := by
     by_cases hl : l = []
     ·have hl1 : l1 = [] := List.eq_nil_of_length_eq_zero (by rw [hlen, hl]; rfl)
      have hne : rb ≠ some b := fun h => (hrbl b h).2 hl
      obtain ⟨o1, o2⟩ := hold b (hW.fP hk hb) hne
      obtain ⟨c, h3, _⟩ := hW.blk r _ b hk hb
      refine ⟨⟨c, o1.trans h3, ?_⟩, fun h => (hmine b hb).2 (o2 h)⟩
      rw [hl1]; simp [aH, aN]
     ·have hbb : rb = some b := by rw [hrb, if_neg hl]; exact hb
      have hrow1 := hb1 b hbb
      obtain ⟨_, _, a3⟩ := hW'.rows.arn 1 _ t [l1] hH1 rfl rfl
      rcases a3 0 l1 rfl with h | ⟨b', z1, z2⟩
      ·exact absurd (List.eq_nil_of_length_eq_zero (by rw [← hlen, h.1]; rfl)) hl
      ·rw [hrow1] at z1
       obtain rfl := Option.some.inj z1
       obtain ⟨c0, y1, _⟩ := hW.blk r _ b hk hb
       obtain ⟨c, z2, z3⟩ := z2.cells (.inr (e2.room b 0 ⟨c0, _, _, y1, Nat.zero_le _⟩))
       refine ⟨⟨c, z2, ?_⟩, (hW'.rows.sep 0 b hrow1).2.2.1⟩
       exact kV (G := G1) (G' := G1.with G) (fun b h => h) _ _ _ _ (nJ t hpl l1) (gW (dU _ _) z3)
    refine ⟨hcells.1, (hmine b hb).1, hcells.2, fun s k1 hs hf hsb => ?_, fun j hj => hrow j b hj hb⟩
    obtain ⟨hs, hsr⟩ := iR hs
    exact hsr (hW.inj s r k1 _ b hs hk hf rfl hsb hb)
   ·intro g hg
    cases hg
    exact ⟨rfl, by rw [ht2, hlen]⟩
  refine ⟨v', G1.with G, μ, rfl, e2, hfin, ?_⟩
  have hvv : VR w' G1 μ1 (.tuple []) v' := hvv
  rw [VR] at hvv ⊢
  obtain ⟨vs, h1, h2⟩ := hvv
  rw [VRs] at h2
  exact ⟨vs, h1, by rw [VRs]; exact h2⟩
 ·cases hy
def aQV (e : TypeId) (t : Ty) (args : List Kd) (f : List t.den → aJ args → Option (List t.den)) (qs : List PV) (H : Heap) : Option aGO := match aEW e t H qs with
 | some (l, r, ps) => match aD0 args ps with
  | some x => bif b8.noRefs ps && cK.noRows (fQ args x) then some ⟨List t.den, f l x, fun l' => (.tuple [], H.set r (some (owB e t l')))⟩ else none
  | none => none
 | none => none
theorem aSY {g : FuncId} {e : TypeId} {t : Ty} {args : List Kd} {f : List t.den → aJ args → Option (List t.den)} (hf : aP7 P g e t args f) : DH P (g, aQV e t args f) := by
 intro qs H rh h y hy n0 G μ w vs hW hv
 change aQV e t args f qs H = some rh at h
 show nG P n0 w G μ g vs.toArray (rh.out y).1 (rh.out y).2
 unfold aQV at h
 split at h
 ·rename_i l r ps hl
  split at h
  ·rename_i x hx
   obtain ⟨hb, h⟩ := Q7 h
   simp only [Option.some.injEq] at h
   subst h
   simp only [Bool.and_eq_true] at hb
   obtain ⟨h0, rfl⟩ := TG hW hl
   rw [VRs] at hv
   obtain ⟨u, us, rfl, q1, q2⟩ := hv
   exact hf l x y hy hW h0 (by rw [VRs]; exact ⟨u, us, rfl, q1, (vK args hx (bP _ _ hb.1 q2)).aZ⟩) hb.2
  ·cases h
 ·cases h
end
end Go.PM
set_option linter.unusedSimpArgs false
set_option linter.unusedVariables false
namespace Go.PM
open Go Go.RowKit Go.Proofs
set_option maxRecDepth 100000
set_option maxHeartbeats 4000000
/-! schisma/lattice.longOf -/
abbrev gE : List (Nat × Kd) := [(3, .own 144 .str), (9, .list TyE), (10, .int .i64), (11, .int .i64)]
abbrev iS : List (Ex × List (Nat × Kd)) := [(.exit 0, [(3, .own 144 .str)])]
def gO (x : Shape.den gE) : Option (Shape.den gE ⊕ aT iS) := match x with
 | (v3, v9, v10, v11, ()) =>
  bif ltI v11 v10 then
   bif bD v11 v9.length then aB (fJ ((v9.getD v11.toNat 0), ())) fun y2 =>
   bif Nat.ble [y2.1].length 1048576 then bif Nat.ble v3.length 1048576 then some (.inl ((v3 ++ [y2.1]), v9, v10, (aK .i64 (v11 + 1)), ())) else none else none else none
  else some (.inr ((v3, ())))
def kC (x : Shape.den gE) : Option (aT iS) := bZ gO (2 ^ 64) x
def lR (x : aJ [.list TyE]) : Option (List ByteArray) := match x with
 | (v0, ()) =>
  bif !(ltI (v0.length : Int) 0) then bif !(ltI 1048576 (v0.length : Int)) then aB (kC ((List.replicate 0 ByteArray.empty), v0, (v0.length : Int), 0, ())) fun z3 =>
  some z3.1 else none else none
noncomputable def p7 : Code := aR Tryz.f100
abbrev uR : Env := bF [yH]
theorem xB : aW Tryz.prog uR := aU ⟨sY, trivial⟩
noncomputable def jL : Code := eJ p7 0
def tB (id : Nat) : Option aO := bif Nat.beq id 3 then some ⟨gE, iS, kC⟩ else none
theorem EV : ∀ x, eA Tryz.prog uR 22 (aC Tryz.f100) tB jL gE iS x = gO x := by
 rintro ⟨v3, v9, v10, v11, ⟨⟩⟩
 kernel_rfl
theorem KR : aE jL = [] := by kernel_rfl
theorem GC : aF jL = 3 := by kernel_rfl
theorem HP : cA Tryz.prog 22 jL ⟨gE, iS, kC⟩ := by
 exact cN xB.callee aM.mixed _ (aD KR trivial) EV
theorem H7 : aE p7 = [jL] := by kernel_rfl
theorem KU : ∀ x, aNA Tryz.prog uR Tryz.f100 (aC Tryz.f100) tB p7 [.list TyE] 2 144 .str x = lR x := by
 rintro ⟨v0, ⟨⟩⟩
 kernel_rfl
theorem NN : aOZ Tryz.prog 100 [.list TyE] 144 .str lR := by
 exact aR9 aM xB Tryz.func100 (c := p7) (by kernel_rfl) (aQ := aC Tryz.f100) (lt := tB) (t := 2) (by kernel_rfl) (aD H7 ⟨cT GC rfl HP, trivial⟩) KU
abbrev uF : Shr := (100, aUJ [.list TyE] 144 .str lR)
theorem xG : DH Tryz.prog uF := aRJ NN

/-! (schisma/lattice.long).less -/
abbrev eD : List (Nat × Kd) := [(0, .hnd 1), (1, .str), (10, .hnd 1), (11, .int .i64), (12, .int .i64), (100000, .ar 144 .str)]
abbrev fN : List (Ex × List (Nat × Kd)) := [(.exit 0, [(100000, .ar 144 .str)])]
def qE (x : Shape.den eD) : Option (Shape.den eD ⊕ aT fN) := match x with
 | (v0, v1, v10, v11, v12, v100000, ()) =>
  bif ltI v12 v11 then
   bif bD v12 v10.2.2 then bif Nat.blt ((v10.2.1 + v12.toNat) * 1) (jQ v100000 v10.1) then bif bD v12 v0.2.2 then bif Nat.blt ((v0.2.1 + v12.toNat) * 1) (jQ v100000 v0.1) then aB (zV (v1, (oL v100000 v10.1 ((v10.2.1 + v12.toNat) * 1) ByteArray.empty), ())) fun y3 =>
   aB (AG ((oL v100000 v0.1 ((v0.2.1 + v12.toNat) * 1) ByteArray.empty), y3.1, ())) fun y4 =>
   bif bD v12 v0.2.2 then bif Nat.blt ((v0.2.1 + v12.toNat) * 1) (jQ v100000 v0.1) then some (.inl ((v0.1, v0.2.1, v0.2.2), v1, (v10.1, v10.2.1, v10.2.2), v11, (aK .i64 (v12 + 1)), (IX v100000 v0.1 ((v0.2.1 + v12.toNat) * 1) y4.1), ())) else none else none else none else none else none else none
  else some (.inr ((v100000, ())))
def kM (x : Shape.den eD) : Option (aT fN) := bZ qE (2 ^ 64) x
def hZ (u0 : Unit) (x : aJ [.hnd 1, .str, .hnd 1]) (A : List (List ByteArray)) : Option ((aJ []) × List (List ByteArray)) := match x with
 | (v0, v1, v2, ()) =>
  bif eqS v1 (ByteArray.mk #[48]) then
   some ((()), A)
  else aB (kM ((v0.1, v0.2.1, v0.2.2), v1, (v2.1, v2.2.1, v2.2.2), ((v2.2.2 : Nat) : Int), 0, A, ())) fun z5 =>
  some ((()), z5.1)
noncomputable def kY : Code := aR Tryz.f104
abbrev pJ : Env := bF [M7, MC]
theorem sK : aW Tryz.prog pJ := aU ⟨LH, LD, trivial⟩
noncomputable def fT : Code := eJ kY 0
def oM (id : Nat) : Option aO := bif Nat.beq id 2 then some ⟨eD, fN, kM⟩ else none
theorem yX : ∀ x, eA Tryz.prog pJ 29 (aC Tryz.f104) oM fT eD fN x = qE x := by
 rintro ⟨v0, v1, v10, v11, v12, v100000, ⟨⟩⟩
 kernel_rfl
theorem D1 : aE fT = [] := by kernel_rfl
theorem zG : aF fT = 2 := by kernel_rfl
theorem A5 : cA Tryz.prog 29 fT ⟨eD, fN, kM⟩ := by
 exact cN sK.callee aM.mixed _ (aD D1 trivial) yX
theorem CW : aE kY = [fT] := by kernel_rfl
theorem D5 : ∀ l x A, TK Tryz.prog pJ Tryz.f104 (aC Tryz.f104) oM kY 144 .str .none [.hnd 1, .str, .hnd 1] (.data []) l x A = hZ l x A := by
 rintro u0 ⟨v0, v1, v2, ⟨⟩⟩ A
 kernel_rfl
theorem HJ : YS Tryz.prog 104 144 .str .none [.hnd 1, .str, .hnd 1] (.data []) hZ := by
 exact QZ aM sK Tryz.func104 (c := kY) (by kernel_rfl) (aQ := aC Tryz.f104) (lt := oM) (by rfl) (aD CW ⟨cT zG rfl A5, trivial⟩) D5
abbrev vI : Shr := (104, arH 144 .str .none [.hnd 1, .str, .hnd 1] (.data []) hZ)
theorem D2 : DH Tryz.prog vI := RB HJ

/-! (schisma/lattice.long).less -/
abbrev eC : List (Nat × Kd) := [(0, .hnd 1), (1, .str), (10, .list .str), (11, .int .i64), (12, .int .i64), (100000, .ar 144 .str)]
abbrev fI : List (Ex × List (Nat × Kd)) := [(.exit 0, [(100000, .ar 144 .str)])]
def qC (x : Shape.den eC) : Option (Shape.den eC ⊕ aT fI) := match x with
 | (v0, v1, v10, v11, v12, v100000, ()) =>
  bif ltI v12 v11 then
   bif bD v12 v10.length then bif bD v12 v0.2.2 then bif Nat.blt ((v0.2.1 + v12.toNat) * 1) (jQ v100000 v0.1) then aB (zV (v1, (v10.getD v12.toNat ByteArray.empty), ())) fun y3 =>
   aB (AG ((oL v100000 v0.1 ((v0.2.1 + v12.toNat) * 1) ByteArray.empty), y3.1, ())) fun y4 =>
   bif bD v12 v0.2.2 then bif Nat.blt ((v0.2.1 + v12.toNat) * 1) (jQ v100000 v0.1) then some (.inl ((v0.1, v0.2.1, v0.2.2), v1, v10, v11, (aK .i64 (v12 + 1)), (IX v100000 v0.1 ((v0.2.1 + v12.toNat) * 1) y4.1), ())) else none else none else none else none else none
  else some (.inr ((v100000, ())))
def kO (x : Shape.den eC) : Option (aT fI) := bZ qC (2 ^ 64) x
def gZ (u0 : Unit) (x : aJ [.hnd 1, .str, .list .str]) (A : List (List ByteArray)) : Option ((aJ []) × List (List ByteArray)) := match x with
 | (v0, v1, v2, ()) =>
  bif eqS v1 (ByteArray.mk #[48]) then
   some ((()), A)
  else aB (kO ((v0.1, v0.2.1, v0.2.2), v1, v2, (v2.length : Int), 0, A, ())) fun z5 =>
  some ((()), z5.1)
noncomputable def kS : Code := aR Tryz.f104
abbrev pG : Env := bF [M7, MC]
theorem sD : aW Tryz.prog pG := aU ⟨LH, LD, trivial⟩
noncomputable def fW : Code := eJ kS 0
def oP (id : Nat) : Option aO := bif Nat.beq id 2 then some ⟨eC, fI, kO⟩ else none
theorem zH : ∀ x, eA Tryz.prog pG 29 (aC Tryz.f104) oP fW eC fI x = qC x := by
 rintro ⟨v0, v1, v10, v11, v12, v100000, ⟨⟩⟩
 kernel_rfl
theorem DN : aE fW = [] := by kernel_rfl
theorem zD : aF fW = 2 := by kernel_rfl
theorem BB : cA Tryz.prog 29 fW ⟨eC, fI, kO⟩ := by
 exact cN sD.callee aM.mixed _ (aD DN trivial) zH
theorem CX : aE kS = [fW] := by kernel_rfl
theorem DT : ∀ l x A, TK Tryz.prog pG Tryz.f104 (aC Tryz.f104) oP kS 144 .str .none [.hnd 1, .str, .list .str] (.data []) l x A = gZ l x A := by
 rintro u0 ⟨v0, v1, v2, ⟨⟩⟩ A
 kernel_rfl
theorem HE : YS Tryz.prog 104 144 .str .none [.hnd 1, .str, .list .str] (.data []) gZ := by
 exact QZ aM sD Tryz.func104 (c := kS) (by kernel_rfl) (aQ := aC Tryz.f104) (lt := oP) (by rfl) (aD CX ⟨cT zD rfl BB, trivial⟩) DT
theorem FM : aP7 Tryz.prog 104 144 .str [.str, .list .str] (aO7 gZ) := aMS HE (by rfl) (by rfl)
abbrev tW : Shr := (104, aQV 144 .str [.str, .list .str] (aO7 gZ))
theorem CZ : DH Tryz.prog tW := aSY FM

/-! (schisma/lattice.long).negate -/
abbrev dM : List (Nat × Kd) := [(0, .hnd 1), (4, .hnd 1), (5, .int .i64), (6, .int .i64), (100000, .ar 144 .str)]
abbrev fA : List (Ex × List (Nat × Kd)) := [(.exit 0, [(100000, .ar 144 .str)])]
def oT (x : Shape.den dM) : Option (Shape.den dM ⊕ aT fA) := match x with
 | (v0, v4, v5, v6, v100000, ()) =>
  bif ltI v6 v5 then
   bif bD v6 v4.2.2 then bif Nat.blt ((v4.2.1 + v6.toNat) * 1) (jQ v100000 v4.1) then aB (zZ ((oL v100000 v4.1 ((v4.2.1 + v6.toNat) * 1) ByteArray.empty), ())) fun y2 =>
   bif bD v6 v0.2.2 then bif Nat.blt ((v0.2.1 + v6.toNat) * 1) (jQ v100000 v0.1) then some (.inl ((v0.1, v0.2.1, v0.2.2), (v4.1, v4.2.1, v4.2.2), v5, (aK .i64 (v6 + 1)), (IX v100000 v0.1 ((v0.2.1 + v6.toNat) * 1) y2.1), ())) else none else none else none else none
  else some (.inr ((v100000, ())))
def iW (x : Shape.den dM) : Option (aT fA) := bZ oT (2 ^ 64) x
def jD (u0 : Unit) (x : aJ [.hnd 1]) (A : List (List ByteArray)) : Option ((aJ []) × List (List ByteArray)) := match x with
 | (v0, ()) =>
  aB (iW ((v0.1, v0.2.1, v0.2.2), (v0.1, v0.2.1, v0.2.2), ((v0.2.2 : Nat) : Int), 0, A, ())) fun z3 =>
  some ((()), z3.1)
noncomputable def jC : Code := aR Tryz.f106
abbrev mT : Env := bF [LW]
theorem qB : aW Tryz.prog mT := aU ⟨K2, trivial⟩
noncomputable def fD : Code := eJ jC 0
def lY (id : Nat) : Option aO := bif Nat.beq id 1 then some ⟨dM, fA, iW⟩ else none
theorem wF : ∀ x, eA Tryz.prog mT 17 (aC Tryz.f106) lY fD dM fA x = oT x := by
 rintro ⟨v0, v4, v5, v6, v100000, ⟨⟩⟩
 kernel_rfl
theorem A4 : aE fD = [] := by kernel_rfl
theorem wM : aF fD = 1 := by kernel_rfl
theorem xU : cA Tryz.prog 17 fD ⟨dM, fA, iW⟩ := by
 exact cN qB.callee aM.mixed _ (aD A4 trivial) wF
theorem zF : aE jC = [fD] := by kernel_rfl
theorem BD : ∀ l x A, TK Tryz.prog mT Tryz.f106 (aC Tryz.f106) lY jC 144 .str .none [.hnd 1] (.data []) l x A = jD l x A := by
 rintro u0 ⟨v0, ⟨⟩⟩ A
 kernel_rfl
theorem DK : YS Tryz.prog 106 144 .str .none [.hnd 1] (.data []) jD := by
 exact QZ aM qB Tryz.func106 (c := jC) (by kernel_rfl) (aQ := aC Tryz.f106) (lt := lY) (by rfl) (aD zF ⟨cT wM rfl xU, trivial⟩) BD
abbrev sZ : Shr := (106, arH 144 .str .none [.hnd 1] (.data []) jD)
theorem BA : DH Tryz.prog sZ := RB DK

/-! (schisma/lattice.long).lead$1 -/
def kX (x : aJ [.str]) : Option (aJ [.bool]) := match x with
 | (v0, ()) =>
  some (!(eqS v0 (ByteArray.mk #[48])), ())
noncomputable def pL : Code := aR Tryz.f169
abbrev vB : Env := bF []
theorem DJ : aW Tryz.prog vB := aU trivial
def tV (id : Nat) : Option aO := none
theorem CR : aE pL = [] := by kernel_rfl
theorem EB : ∀ x, bH Tryz.prog vB Tryz.f169 (aC Tryz.f169) tV pL [.str] [.bool] x = kX x := by
 rintro ⟨v0, ⟨⟩⟩
 kernel_rfl
theorem HN : bW Tryz.prog 169 [.str] [.bool] kX := by
 exact aX aM DJ Tryz.func169 (c := pL) (by kernel_rfl) (aQ := aC Tryz.f169) (lt := tV) (aD CR trivial) EB
abbrev u7 : Ent := ⟨169, [.str], [.bool], kX⟩
theorem DV : Ent.OK Tryz.prog u7 := HN

/-! slices.IndexFunc[schisma/lattice.long,schisma/api.Int] -/
abbrev bE : List (Nat × Kd) := [(0, .list .str), (1, .fn 169), (7, .int .i64), (8, .int .i64)]
abbrev bJ : List (Ex × List (Nat × Kd)) := [(.ret, [(4, .int .i64)]), (.exit 0, [])]
def fL (x : Shape.den bE) : Option (Shape.den bE ⊕ aT bJ) := match x with
 | (v0, v1, v7, v8, ()) =>
  bif ltI v8 v7 then
   bif bD v8 v0.length then aB (kX ((v0.getD v8.toNat ByteArray.empty), ())) fun y2 =>
   bif y2.1 then
    some (.inr (.inl (v8, ())))
   else some (.inl (v0, (), v7, (aK .i64 (v8 + 1)), ())) else none
  else some (.inr (.inr ((()))))
def c6 (x : Shape.den bE) : Option (aT bJ) := bZ fL (2 ^ 64) x
def cJ (x : aJ [.list .str, .fn 169]) : Option (aJ [.int .i64]) := match x with
 | (v0, v1, ()) =>
  aB (c6 (v0, (), (v0.length : Int), 0, ())) fun z3 =>
  jE z3 (fun a4 => some (a4.1, ())) fun b5 =>
  some ((-1), ())
noncomputable def cI : Code := aR Tryz.f168
abbrev eB : Env := bF [u7]
theorem fZ : aW Tryz.prog eB := aU ⟨DV, trivial⟩
noncomputable def bL : Code := eJ cI 0
def dX (id : Nat) : Option aO := bif Nat.beq id 2 then some ⟨bE, bJ, c6⟩ else none
theorem lK : ∀ x, eA Tryz.prog eB 19 (aC Tryz.f168) dX bL bE bJ x = fL x := by
 rintro ⟨v0, v1, v7, v8, ⟨⟩⟩
 kernel_rfl
theorem mZ : aE bL = [] := by kernel_rfl
theorem lJ : aF bL = 2 := by kernel_rfl
theorem lS : cA Tryz.prog 19 bL ⟨bE, bJ, c6⟩ := by
 exact cN fZ.callee aM.mixed _ (aD mZ trivial) lK
theorem mC : aE cI = [bL] := by kernel_rfl
theorem mY : ∀ x, bH Tryz.prog eB Tryz.f168 (aC Tryz.f168) dX cI [.list .str, .fn 169] [.int .i64] x = cJ x := by
 rintro ⟨v0, v1, ⟨⟩⟩
 kernel_rfl
theorem oK : bW Tryz.prog 168 [.list .str, .fn 169] [.int .i64] cJ := by
 exact aX aM fZ Tryz.func168 (c := cI) (by kernel_rfl) (aQ := aC Tryz.f168) (lt := dX) (aD mC ⟨cT lJ rfl lS, trivial⟩) mY
abbrev gV : Ent := ⟨168, [.list .str, .fn 169], [.int .i64], cJ⟩
theorem nB : Ent.OK Tryz.prog gV := oK

/-! (schisma/lattice.long).lead -/
def j7 (x : aJ [.list .str]) : Option (aJ [.int .i64]) := match x with
 | (v0, ()) =>
  aB (cJ (v0, (), ())) fun y1 =>
  some (y1.1, ())
noncomputable def rO : Code := aR Tryz.f142
abbrev yW : Env := bF [gV]
theorem G8 : aW Tryz.prog yW := aU ⟨nB, trivial⟩
def xC (id : Nat) : Option aO := none
theorem FL : aE rO = [] := by kernel_rfl
theorem HD : ∀ x, bH Tryz.prog yW Tryz.f142 (aC Tryz.f142) xC rO [.list .str] [.int .i64] x = j7 x := by
 rintro ⟨v0, ⟨⟩⟩
 kernel_rfl
theorem KF : bW Tryz.prog 142 [.list .str] [.int .i64] j7 := by
 exact aX aM G8 Tryz.func142 (c := rO) (by kernel_rfl) (aQ := aC Tryz.f142) (lt := xC) (aD FL trivial) HD
abbrev yT : Ent := ⟨142, [.list .str], [.int .i64], j7⟩
theorem HS : Ent.OK Tryz.prog yT := KF

/-! (schisma/lattice.long).short -/
abbrev eQ : List (Nat × Kd) := [(4, .own 3 TyE), (12, .list .str), (13, .int .i64), (14, .int .i64)]
abbrev gC : List (Ex × List (Nat × Kd)) := [(.ret, [(2, .list TyE), (3, .int .i64)]), (.exit 0, [(4, .own 3 TyE)])]
def rC (x : Shape.den eQ) : Option (Shape.den eQ ⊕ aT gC) := match x with
 | (v4, v12, v13, v14, ()) =>
  bif ltI v14 v13 then
   bif bD v14 v12.length then aB (sW ((v12.getD v14.toNat ByteArray.empty), ())) fun y2 =>
   bif y2.2.1 then
    bif ltI 1000000000 y2.1 then
     some (.inr (.inl ([], 4, ())))
    else bif ltI y2.1 (-1000000000) then
     some (.inr (.inl ([], 4, ())))
    else bif Nat.ble [y2.1].length 1048576 then bif Nat.ble v4.length 1048576 then some (.inl ((v4 ++ [y2.1]), v12, v13, (aK .i64 (v14 + 1)), ())) else none else none
   else some (.inr (.inl ([], 4, ()))) else none
  else some (.inr (.inr ((v4, ()))))
def lA (x : Shape.den eQ) : Option (aT gC) := bZ rC (2 ^ 64) x
def lM (x : aJ [.list .str]) : Option (aJ [.list TyE, .int .i64]) := match x with
 | (v0, ()) =>
  bif !(ltI (v0.length : Int) 0) then bif !(ltI 1048576 (v0.length : Int)) then aB (lA ((List.replicate 0 0), v0, (v0.length : Int), 0, ())) fun z3 =>
  jE z3 (fun a4 => some (a4.1, a4.2.1, ())) fun b5 =>
  some (b5.1, 0, ()) else none else none
noncomputable def lP : Code := aR Tryz.f82
abbrev qO : Env := bF [EJ]
theorem tL : aW Tryz.prog qO := aU ⟨GX, trivial⟩
noncomputable def gK : Code := eJ lP 0
def pO (id : Nat) : Option aO := bif Nat.beq id 3 then some ⟨eQ, gC, lA⟩ else none
theorem A7 : ∀ x, eA Tryz.prog qO 39 (aC Tryz.f82) pO gK eQ gC x = rC x := by
 rintro ⟨v4, v12, v13, v14, ⟨⟩⟩
 kernel_rfl
theorem E1 : aE gK = [] := by kernel_rfl
theorem A6 : aF gK = 3 := by kernel_rfl
theorem CJ : cA Tryz.prog 39 gK ⟨eQ, gC, lA⟩ := by
 exact cN tL.callee aM.mixed _ (aD E1 trivial) A7
theorem DU : aE lP = [gK] := by kernel_rfl
theorem ER : ∀ x, bH Tryz.prog qO Tryz.f82 (aC Tryz.f82) pO lP [.list .str] [.list TyE, .int .i64] x = lM x := by
 rintro ⟨v0, ⟨⟩⟩
 kernel_rfl
theorem IP : bW Tryz.prog 82 [.list .str] [.list TyE, .int .i64] lM := by
 exact aX aM tL Tryz.func82 (c := lP) (by kernel_rfl) (aQ := aC Tryz.f82) (lt := pO) (aD DU ⟨cT A6 rfl CJ, trivial⟩) ER
abbrev wZ : Ent := ⟨82, [.list .str], [.list TyE, .int .i64], lM⟩
theorem GD : Ent.OK Tryz.prog wZ := IP

/-! (schisma/lattice.long).short -/
abbrev dS : List (Nat × Kd) := [(4, .own 3 TyE), (12, .hnd 1), (13, .int .i64), (14, .int .i64), (100000, .ar 144 .str)]
abbrev fC : List (Ex × List (Nat × Kd)) := [(.ret, [(2, .list TyE), (3, .int .i64), (100000, .ar 144 .str)]), (.exit 0, [(4, .own 3 TyE), (100000, .ar 144 .str)])]
def pD (x : Shape.den dS) : Option (Shape.den dS ⊕ aT fC) := match x with
 | (v4, v12, v13, v14, v100000, ()) =>
  bif ltI v14 v13 then
   bif bD v14 v12.2.2 then bif Nat.blt ((v12.2.1 + v14.toNat) * 1) (jQ v100000 v12.1) then aB (sW ((oL v100000 v12.1 ((v12.2.1 + v14.toNat) * 1) ByteArray.empty), ())) fun y2 =>
   bif y2.2.1 then
    bif ltI 1000000000 y2.1 then
     some (.inr (.inl ([], 4, v100000, ())))
    else bif ltI y2.1 (-1000000000) then
     some (.inr (.inl ([], 4, v100000, ())))
    else bif Nat.ble [y2.1].length 1048576 then bif Nat.ble v4.length 1048576 then some (.inl ((v4 ++ [y2.1]), (v12.1, v12.2.1, v12.2.2), v13, (aK .i64 (v14 + 1)), v100000, ())) else none else none
   else some (.inr (.inl ([], 4, v100000, ()))) else none else none
  else some (.inr (.inr ((v4, v100000, ()))))
def jN (x : Shape.den dS) : Option (aT fC) := bZ pD (2 ^ 64) x
def kD (u0 : Unit) (x : aJ [.hnd 1]) (A : List (List ByteArray)) : Option ((aJ [.list TyE, .int .i64]) × List (List ByteArray)) := match x with
 | (v0, ()) =>
  bif !(ltI ((v0.2.2 : Nat) : Int) 0) then bif !(ltI 1048576 ((v0.2.2 : Nat) : Int)) then aB (jN ((List.replicate 0 0), (v0.1, v0.2.1, v0.2.2), ((v0.2.2 : Nat) : Int), 0, A, ())) fun z3 =>
  jE z3 (fun a4 => some ((a4.1, a4.2.1, ()), a4.2.2.1)) fun b5 =>
  some ((b5.1, 0, ()), b5.2.1) else none else none
noncomputable def kE : Code := aR Tryz.f82
abbrev oS : Env := bF [EJ]
theorem qX : aW Tryz.prog oS := aU ⟨GX, trivial⟩
noncomputable def fM : Code := eJ kE 0
def nA (id : Nat) : Option aO := bif Nat.beq id 3 then some ⟨dS, fC, jN⟩ else none
theorem xS : ∀ x, eA Tryz.prog oS 39 (aC Tryz.f82) nA fM dS fC x = pD x := by
 rintro ⟨v4, v12, v13, v14, v100000, ⟨⟩⟩
 kernel_rfl
theorem CU : aE fM = [] := by kernel_rfl
theorem xJ : aF fM = 3 := by kernel_rfl
theorem zS : cA Tryz.prog 39 fM ⟨dS, fC, jN⟩ := by
 exact cN qX.callee aM.mixed _ (aD CU trivial) xS
theorem BC : aE kE = [fM] := by kernel_rfl
theorem CN : ∀ l x A, TK Tryz.prog oS Tryz.f82 (aC Tryz.f82) nA kE 144 .str .none [.hnd 1] (.data [.list TyE, .int .i64]) l x A = kD l x A := by
 rintro u0 ⟨v0, ⟨⟩⟩ A
 kernel_rfl
theorem FJ : YS Tryz.prog 82 144 .str .none [.hnd 1] (.data [.list TyE, .int .i64]) kD := by
 exact QZ aM qX Tryz.func82 (c := kE) (by kernel_rfl) (aQ := aC Tryz.f82) (lt := nA) (by rfl) (aD BC ⟨cT xJ rfl zS, trivial⟩) CN
abbrev tX : Shr := (82, arH 144 .str .none [.hnd 1] (.data [.list TyE, .int .i64]) kD)
theorem CE : DH Tryz.prog tX := RB FJ

/-! schisma/lattice.longsOf -/
abbrev eU : List (Nat × Kd) := [(3, .own 137 (.hnd 1)), (6, .list TyD), (7, .int .i64), (8, .int .i64), (100000, .ar 144 .str)]
abbrev gB : List (Ex × List (Nat × Kd)) := [(.exit 0, [(3, .own 137 (.hnd 1)), (100000, .ar 144 .str)])]
def rA (x : Shape.den eU) : Option (Shape.den eU ⊕ aT gB) := match x with
 | (v3, v6, v7, v8, v100000, ()) =>
  bif ltI v8 v7 then
   bif bD v8 v6.length then aB (lR ((v6.getD v8.toNat []), ())) fun y2 =>
   bif Nat.ble [(v100000.length, 0, y2.length)].length 1048576 then bif Nat.ble v3.length 1048576 then some (.inl ((v3 ++ [(v100000.length, 0, y2.length)]), v6, v7, (aK .i64 (v8 + 1)), (v100000 ++ [y2]), ())) else none else none else none
  else some (.inr ((v3, v100000, ())))
def k9 (x : Shape.den eU) : Option (aT gB) := bZ rA (2 ^ 64) x
def lN (u0 : Unit) (x : aJ [.list TyD]) (A : List (List ByteArray)) : Option ((List (Nat × Nat × Nat)) × List (List ByteArray)) := match x with
 | (v0, ()) =>
  aB (k9 ([], v0, (v0.length : Int), 0, A, ())) fun z3 =>
  some (z3.1, z3.2.1)
noncomputable def lL : Code := aR Tryz.f77
abbrev qQ : Env := aBV [] [uF]
theorem tN : aW Tryz.prog qQ := B8 trivial ⟨xG, trivial⟩
noncomputable def gP : Code := eJ lL 0
def o9 (id : Nat) : Option aO := bif Nat.beq id 3 then some ⟨eU, gB, k9⟩ else none
theorem BE : ∀ x, eA Tryz.prog qQ 19 (aC Tryz.f77) o9 gP eU gB x = rA x := by
 rintro ⟨v3, v6, v7, v8, v100000, ⟨⟩⟩
 kernel_rfl
theorem FI : aE gP = [] := by kernel_rfl
theorem A8 : aF gP = 3 := by kernel_rfl
theorem CT : cA Tryz.prog 19 gP ⟨eU, gB, k9⟩ := by
 exact cN tN.callee aM.mixed _ (aD FI trivial) BE
theorem D9 : aE lL = [gP] := by kernel_rfl
theorem FN : ∀ l x A, TK Tryz.prog qQ Tryz.f77 (aC Tryz.f77) o9 lL 144 .str .none [.list TyD] (.own 137 (.hnd 1)) l x A = lN l x A := by
 rintro u0 ⟨v0, ⟨⟩⟩ A
 kernel_rfl
theorem I8 : YS Tryz.prog 77 144 .str .none [.list TyD] (.own 137 (.hnd 1)) lN := by
 exact QZ aM tN Tryz.func77 (c := lL) (by kernel_rfl) (aQ := aC Tryz.f77) (lt := o9) (by rfl) (aD D9 ⟨cT A8 rfl CT, trivial⟩) FN
abbrev xE : Shr := (77, arH 144 .str .none [.list TyD] (.own 137 (.hnd 1)) lN)
theorem E0 : DH Tryz.prog xE := RB I8

/-! (schisma/lattice.longs).form -/
abbrev dG : List (Nat × Kd) := [(0, .own 137 (.hnd 1)), (1, .int .i64), (5, .int .i64), (6, .int .i64), (7, .int .i64), (8, .int .i64), (100000, .ar 144 .str)]
abbrev eF : List (Ex × List (Nat × Kd)) := [(.exit 4, [(0, .own 137 (.hnd 1)), (1, .int .i64), (5, .int .i64), (6, .int .i64), (7, .int .i64), (100000, .ar 144 .str)])]
def nP (x : Shape.den dG) : Option (Shape.den dG ⊕ aT eF) := match x with
 | (v0, v1, v5, v6, v7, v8, v100000, ()) =>
  bif ltI v8 (v0.length : Int) then
   bif bD v8 v0.length then bif Nat.blt v8.toNat v0.length then bif bD v6 ((v0.getD v8.toNat (0, 0, 0)).2.2) then bif Nat.blt (((v0.getD v8.toNat (0, 0, 0)).2.1 + v6.toNat) * 1) (jQ v100000 ((v0.getD v8.toNat (0, 0, 0)).1)) then bif !(eqS (oL v100000 ((v0.getD v8.toNat (0, 0, 0)).1) (((v0.getD v8.toNat (0, 0, 0)).2.1 + v6.toNat) * 1) ByteArray.empty) (ByteArray.mk #[48])) then
    bif ltI v7 0 then
     some (.inl (v0, v1, v5, v6, v8, (aK .i64 (v8 + 1)), v100000, ()))
    else bif bD v8 v0.length then bif Nat.blt v8.toNat v0.length then bif bD v6 ((v0.getD v8.toNat (0, 0, 0)).2.2) then bif Nat.blt (((v0.getD v8.toNat (0, 0, 0)).2.1 + v6.toNat) * 1) (jQ v100000 ((v0.getD v8.toNat (0, 0, 0)).1)) then aB (zX ((oL v100000 ((v0.getD v8.toNat (0, 0, 0)).1) (((v0.getD v8.toNat (0, 0, 0)).2.1 + v6.toNat) * 1) ByteArray.empty), ())) fun y4 =>
    bif bD v7 v0.length then bif Nat.blt v7.toNat v0.length then bif bD v6 ((v0.getD v7.toNat (0, 0, 0)).2.2) then bif Nat.blt (((v0.getD v7.toNat (0, 0, 0)).2.1 + v6.toNat) * 1) (jQ v100000 ((v0.getD v7.toNat (0, 0, 0)).1)) then aB (zX ((oL v100000 ((v0.getD v7.toNat (0, 0, 0)).1) (((v0.getD v7.toNat (0, 0, 0)).2.1 + v6.toNat) * 1) ByteArray.empty), ())) fun y5 =>
    aB (tF (y4.1, y5.1, ())) fun y6 =>
    bif ltI y6.1 0 then
     some (.inl (v0, v1, v5, v6, v8, (aK .i64 (v8 + 1)), v100000, ()))
    else some (.inl (v0, v1, v5, v6, v7, (aK .i64 (v8 + 1)), v100000, ())) else none else none else none else none else none else none else none else none
   else some (.inl (v0, v1, v5, v6, v7, (aK .i64 (v8 + 1)), v100000, ())) else none else none else none else none
  else some (.inr ((v0, v1, v5, v6, v7, v100000, ())))
def iM (x : Shape.den dG) : Option (aT eF) := bZ nP (2 ^ 64) x
abbrev dI : List (Nat × Kd) := [(0, .own 137 (.hnd 1)), (1, .int .i64), (5, .int .i64), (6, .int .i64), (9, .bool), (10, .int .i64), (100000, .ar 144 .str)]
abbrev eL : List (Ex × List (Nat × Kd)) := [(.exit 6, [(0, .own 137 (.hnd 1)), (1, .int .i64), (5, .int .i64), (6, .int .i64), (9, .bool), (100000, .ar 144 .str)])]
def n9 (x : Shape.den dI) : Option (Shape.den dI ⊕ aT eL) := match x with
 | (v0, v1, v5, v6, v9, v10, v100000, ()) =>
  bif ltI v10 (v0.length : Int) then
   bif bD v10 v0.length then bif Nat.blt v10.toNat v0.length then bif bD v6 ((v0.getD v10.toNat (0, 0, 0)).2.2) then bif Nat.blt (((v0.getD v10.toNat (0, 0, 0)).2.1 + v6.toNat) * 1) (jQ v100000 ((v0.getD v10.toNat (0, 0, 0)).1)) then bif bD v5 v0.length then bif Nat.blt v5.toNat v0.length then bif bD v6 ((v0.getD v5.toNat (0, 0, 0)).2.2) then bif Nat.blt (((v0.getD v5.toNat (0, 0, 0)).2.1 + v6.toNat) * 1) (jQ v100000 ((v0.getD v5.toNat (0, 0, 0)).1)) then aB (oF ((oL v100000 ((v0.getD v10.toNat (0, 0, 0)).1) (((v0.getD v10.toNat (0, 0, 0)).2.1 + v6.toNat) * 1) ByteArray.empty), (oL v100000 ((v0.getD v5.toNat (0, 0, 0)).1) (((v0.getD v5.toNat (0, 0, 0)).2.1 + v6.toNat) * 1) ByteArray.empty), ())) fun y10 =>
   bif bD v10 v0.length then bif Nat.blt v10.toNat v0.length then bif bD v5 v0.length then bif Nat.blt v5.toNat v0.length then aB (hZ () (((v0.getD v10.toNat (0, 0, 0)).1, (v0.getD v10.toNat (0, 0, 0)).2.1, (v0.getD v10.toNat (0, 0, 0)).2.2), y10.1, ((v0.getD v5.toNat (0, 0, 0)).1, (v0.getD v5.toNat (0, 0, 0)).2.1, (v0.getD v5.toNat (0, 0, 0)).2.2), ()) v100000) fun y11 =>
   bif v9 then
    some (.inl (v0, v1, v5, v6, true, (aK .i64 (v10 + 1)), y11.2, ()))
   else some (.inl (v0, v1, v5, v6, !(eqS y10.2.1 (ByteArray.mk #[48])), (aK .i64 (v10 + 1)), y11.2, ())) else none else none else none else none else none else none else none else none else none else none else none else none
  else some (.inr ((v0, v1, v5, v6, v9, v100000, ())))
def iK (x : Shape.den dI) : Option (aT eL) := bZ n9 (2 ^ 64) x
abbrev dC : List (Nat × Kd) := [(0, .own 137 (.hnd 1)), (1, .int .i64), (5, .int .i64), (6, .int .i64), (142, .int .i64), (143, .int .i64), (100000, .ar 144 .str)]
abbrev eG : List (Ex × List (Nat × Kd)) := [(.exit 8, [(0, .own 137 (.hnd 1)), (1, .int .i64), (5, .int .i64), (6, .int .i64), (100000, .ar 144 .str)])]
def nN (x : Shape.den dC) : Option (Shape.den dC ⊕ aT eG) := match x with
 | (v0, v1, v5, v6, v142, v143, v100000, ()) =>
  bif ltI v143 v142 then
   bif bD v143 v0.length then bif Nat.blt v143.toNat v0.length then bif bD v6 ((v0.getD v143.toNat (0, 0, 0)).2.2) then bif Nat.blt (((v0.getD v143.toNat (0, 0, 0)).2.1 + v6.toNat) * 1) (jQ v100000 ((v0.getD v143.toNat (0, 0, 0)).1)) then bif bD v5 v0.length then bif Nat.blt v5.toNat v0.length then bif bD v6 ((v0.getD v5.toNat (0, 0, 0)).2.2) then bif Nat.blt (((v0.getD v5.toNat (0, 0, 0)).2.1 + v6.toNat) * 1) (jQ v100000 ((v0.getD v5.toNat (0, 0, 0)).1)) then aB (oF ((oL v100000 ((v0.getD v143.toNat (0, 0, 0)).1) (((v0.getD v143.toNat (0, 0, 0)).2.1 + v6.toNat) * 1) ByteArray.empty), (oL v100000 ((v0.getD v5.toNat (0, 0, 0)).1) (((v0.getD v5.toNat (0, 0, 0)).2.1 + v6.toNat) * 1) ByteArray.empty), ())) fun y17 =>
   bif bD v143 v0.length then bif Nat.blt v143.toNat v0.length then bif bD v5 v0.length then bif Nat.blt v5.toNat v0.length then aB (hZ () (((v0.getD v143.toNat (0, 0, 0)).1, (v0.getD v143.toNat (0, 0, 0)).2.1, (v0.getD v143.toNat (0, 0, 0)).2.2), y17.1, ((v0.getD v5.toNat (0, 0, 0)).1, (v0.getD v5.toNat (0, 0, 0)).2.1, (v0.getD v5.toNat (0, 0, 0)).2.2), ()) v100000) fun y18 =>
   some (.inl (v0, v1, v5, v6, v142, (aK .i64 (v143 + 1)), y18.2, ())) else none else none else none else none else none else none else none else none else none else none else none else none
  else some (.inr ((v0, v1, v5, v6, v100000, ())))
def fG (x : Shape.den dC) : Option (aT eG) := bZ nN (2 ^ 64) x
abbrev c8 : List (Nat × Kd) := [(0, .own 137 (.hnd 1)), (1, .int .i64), (5, .int .i64), (6, .int .i64), (100000, .ar 144 .str)]
abbrev eI : List (Ex × List (Nat × Kd)) := [(.exit 2, [(0, .own 137 (.hnd 1)), (1, .int .i64), (5, .int .i64), (6, .int .i64), (100000, .ar 144 .str)])]
def oC (x : Shape.den c8) : Option (Shape.den c8 ⊕ aT eI) := match x with
 | (v0, v1, v5, v6, v100000, ()) =>
  aB (iM (v0, v1, v5, v6, (-1), v5, v100000, ())) fun z21 =>
  bif ltI z21.2.2.2.2.1 0 then
   some (.inr ((z21.1, z21.2.1, z21.2.2.1, z21.2.2.2.1, z21.2.2.2.2.2.1, ())))
  else bif bD z21.2.2.2.2.1 z21.1.length then bif Nat.blt z21.2.2.2.2.1.toNat z21.1.length then bif bD z21.2.2.1 z21.1.length then bif Nat.blt z21.2.2.1.toNat z21.1.length then bif bD z21.2.2.1 z21.1.length then bif Nat.blt z21.2.2.1.toNat z21.1.length then bif bD z21.2.2.2.2.1 (z21.1.set z21.2.2.1.toNat ((z21.1.getD z21.2.2.2.2.1.toNat (0, 0, 0)).1, (z21.1.getD z21.2.2.2.2.1.toNat (0, 0, 0)).2.1, (z21.1.getD z21.2.2.2.2.1.toNat (0, 0, 0)).2.2)).length then bif Nat.blt z21.2.2.2.2.1.toNat (z21.1.set z21.2.2.1.toNat ((z21.1.getD z21.2.2.2.2.1.toNat (0, 0, 0)).1, (z21.1.getD z21.2.2.2.2.1.toNat (0, 0, 0)).2.1, (z21.1.getD z21.2.2.2.2.1.toNat (0, 0, 0)).2.2)).length then aB (iK (((z21.1.set z21.2.2.1.toNat ((z21.1.getD z21.2.2.2.2.1.toNat (0, 0, 0)).1, (z21.1.getD z21.2.2.2.2.1.toNat (0, 0, 0)).2.1, (z21.1.getD z21.2.2.2.2.1.toNat (0, 0, 0)).2.2)).set z21.2.2.2.2.1.toNat ((z21.1.getD z21.2.2.1.toNat (0, 0, 0)).1, (z21.1.getD z21.2.2.1.toNat (0, 0, 0)).2.1, (z21.1.getD z21.2.2.1.toNat (0, 0, 0)).2.2)), z21.2.1, z21.2.2.1, z21.2.2.2.1, false, (aK .i64 (z21.2.2.1 + 1)), z21.2.2.2.2.2.1, ())) fun z22 =>
  bif z22.2.2.2.2.1 then
   some (.inl (z22.1, z22.2.1, z22.2.2.1, z22.2.2.2.1, z22.2.2.2.2.2.1, ()))
  else bif bD z22.2.2.1 z22.1.length then bif Nat.blt z22.2.2.1.toNat z22.1.length then bif bD z22.2.2.2.1 ((z22.1.getD z22.2.2.1.toNat (0, 0, 0)).2.2) then bif Nat.blt (((z22.1.getD z22.2.2.1.toNat (0, 0, 0)).2.1 + z22.2.2.2.1.toNat) * 1) (jQ z22.2.2.2.2.2.1 ((z22.1.getD z22.2.2.1.toNat (0, 0, 0)).1)) then aB (sH ((oL z22.2.2.2.2.2.1 ((z22.1.getD z22.2.2.1.toNat (0, 0, 0)).1) (((z22.1.getD z22.2.2.1.toNat (0, 0, 0)).2.1 + z22.2.2.2.1.toNat) * 1) ByteArray.empty), ())) fun y23 =>
  bif ltI y23.1 0 then
   bif bD z22.2.2.1 z22.1.length then bif Nat.blt z22.2.2.1.toNat z22.1.length then aB (jD () (((z22.1.getD z22.2.2.1.toNat (0, 0, 0)).1, (z22.1.getD z22.2.2.1.toNat (0, 0, 0)).2.1, (z22.1.getD z22.2.2.1.toNat (0, 0, 0)).2.2), ()) z22.2.2.2.2.2.1) fun y24 =>
   aB (fG (z22.1, z22.2.1, z22.2.2.1, z22.2.2.2.1, z22.2.2.1, 0, y24.2, ())) fun z25 =>
   some (.inr ((z25.1, z25.2.1, (aK .i64 (z25.2.2.1 + 1)), z25.2.2.2.1, z25.2.2.2.2.1, ()))) else none else none
  else aB (fG (z22.1, z22.2.1, z22.2.2.1, z22.2.2.2.1, z22.2.2.1, 0, z22.2.2.2.2.2.1, ())) fun z26 =>
  some (.inr ((z26.1, z26.2.1, (aK .i64 (z26.2.2.1 + 1)), z26.2.2.2.1, z26.2.2.2.2.1, ()))) else none else none else none else none else none else none else none else none else none else none else none else none
def iJ (x : Shape.den c8) : Option (aT eI) := bZ oC (2 ^ 64) x
abbrev c7 : List (Nat × Kd) := [(0, .own 137 (.hnd 1)), (1, .int .i64), (5, .int .i64), (6, .int .i64), (100000, .ar 144 .str)]
abbrev eK : List (Ex × List (Nat × Kd)) := [(.exit 0, [(0, .own 137 (.hnd 1)), (5, .int .i64), (100000, .ar 144 .str)])]
def oE (x : Shape.den c7) : Option (Shape.den c7 ⊕ aT eK) := match x with
 | (v0, v1, v5, v6, v100000, ()) =>
  bif ltI v6 v1 then
   bif ltI v5 (v0.length : Int) then
    aB (iJ (v0, v1, v5, v6, v100000, ())) fun z28 =>
    some (.inl (z28.1, z28.2.1, z28.2.2.1, (aK .i64 (z28.2.2.2.1 + 1)), z28.2.2.2.2.1, ()))
   else some (.inr ((v0, v5, v100000, ())))
  else some (.inr ((v0, v5, v100000, ())))
def iO (x : Shape.den c7) : Option (aT eK) := bZ oE (2 ^ 64) x
def iA (v0 : List (Nat × Nat × Nat)) (x : aJ [.int .i64]) (A : List (List ByteArray)) : Option ((List (Nat × Nat × Nat)) × List (List ByteArray)) := match x with
 | (v1, ()) =>
  aB (iO (v0, v1, 0, 0, A, ())) fun z29 =>
  bif Nat.beq z29.1.length 0 then
   bif !(ltI z29.2.1 0) then bif Nat.beq z29.2.1.toNat 0 then some (z29.1, z29.2.2.1) else none else none
  else bif !(ltI z29.2.1 0) then bif Nat.ble 0 z29.2.1.toNat then bif Nat.ble z29.2.1.toNat z29.1.length then bif Nat.blt 0 z29.1.length then some (z29.1.take (z29.2.1.toNat - 0), z29.2.2.1) else none else none else none else none
noncomputable def iG : Code := aR Tryz.f78
abbrev dH : Env := aBV [V3, IA, C2, I6] [vI, sZ]
theorem dA : aW Tryz.prog dH := B8 ⟨Z1, OY, DP, JB, trivial⟩ ⟨D2, BA, trivial⟩
noncomputable def dL : Code := eJ iG 0
noncomputable def bU : Code := eJ dL 0
noncomputable def eY : Code := eJ bU 0
noncomputable def eX : Code := eJ bU 1
noncomputable def eZ : Code := eJ bU 2
def cU (id : Nat) : Option aO := bif Nat.beq id 7 then some ⟨dG, eF, iM⟩ else bif Nat.beq id 15 then some ⟨dI, eL, iK⟩ else bif Nat.beq id 24 then some ⟨dC, eG, fG⟩ else bif Nat.beq id 5 then some ⟨c8, eI, iJ⟩ else bif Nat.beq id 3 then some ⟨c7, eK, iO⟩ else none
theorem vM : ∀ x, eA Tryz.prog dH 181 (aC Tryz.f78) cU eY dG eF x = nP x := by
 rintro ⟨v0, v1, v5, v6, v7, v8, v100000, ⟨⟩⟩
 kernel_rfl
theorem zQ : aE eY = [] := by kernel_rfl
theorem u6 : aF eY = 7 := by kernel_rfl
theorem wP : cA Tryz.prog 181 eY ⟨dG, eF, iM⟩ := by
 exact cN dA.callee aM.mixed _ (aD zQ trivial) vM
theorem vV : ∀ x, eA Tryz.prog dH 181 (aC Tryz.f78) cU eX dI eL x = n9 x := by
 rintro ⟨v0, v1, v5, v6, v9, v10, v100000, ⟨⟩⟩
 kernel_rfl
theorem AU : aE eX = [] := by kernel_rfl
theorem vH : aF eX = 15 := by kernel_rfl
theorem wU : cA Tryz.prog 181 eX ⟨dI, eL, iK⟩ := by
 exact cN dA.callee aM.mixed _ (aD AU trivial) vV
theorem vL : ∀ x, eA Tryz.prog dH 181 (aC Tryz.f78) cU eZ dC eG x = nN x := by
 rintro ⟨v0, v1, v5, v6, v142, v143, v100000, ⟨⟩⟩
 kernel_rfl
theorem AX : aE eZ = [] := by kernel_rfl
theorem wD : aF eZ = 24 := by kernel_rfl
theorem wS : cA Tryz.prog 181 eZ ⟨dC, eG, fG⟩ := by
 exact cN dA.callee aM.mixed _ (aD AX trivial) vL
theorem vC : ∀ x, eA Tryz.prog dH 181 (aC Tryz.f78) cU bU c8 eI x = oC x := by
 rintro ⟨v0, v1, v5, v6, v100000, ⟨⟩⟩
 kernel_rfl
theorem zC : aE bU = [eY, eX, eZ] := by kernel_rfl
theorem vR : aF bU = 5 := by kernel_rfl
theorem wR : cA Tryz.prog 181 bU ⟨c8, eI, iJ⟩ := by
 exact cN dA.callee aM.mixed _ (aD zC ⟨cT u6 rfl wP, cT vH rfl wU, cT wD rfl wS, trivial⟩) vC
theorem vE : ∀ x, eA Tryz.prog dH 181 (aC Tryz.f78) cU dL c7 eK x = oE x := by
 rintro ⟨v0, v1, v5, v6, v100000, ⟨⟩⟩
 kernel_rfl
theorem zU : aE dL = [bU] := by kernel_rfl
theorem wE : aF dL = 3 := by kernel_rfl
theorem wO : cA Tryz.prog 181 dL ⟨c7, eK, iO⟩ := by
 exact cN dA.callee aM.mixed _ (aD zU ⟨cT vR rfl wR, trivial⟩) vE
theorem yA : aE iG = [dL] := by kernel_rfl
theorem AV : ∀ l x A, TK Tryz.prog dH Tryz.f78 (aC Tryz.f78) cU iG 144 .str (.own 137 (.hnd 1)) [.int .i64] (.own 137 (.hnd 1)) l x A = iA l x A := by
 rintro u0 ⟨v1, ⟨⟩⟩ A
 kernel_rfl
theorem CF : YS Tryz.prog 78 144 .str (.own 137 (.hnd 1)) [.int .i64] (.own 137 (.hnd 1)) iA := by
 exact QZ aM dA Tryz.func78 (c := iG) (by kernel_rfl) (aQ := aC Tryz.f78) (lt := cU) (by rfl) (aD yA ⟨cT wE rfl wO, trivial⟩) AV
abbrev sG : Shr := (78, arH 144 .str (.own 137 (.hnd 1)) [.int .i64] (.own 137 (.hnd 1)) iA)
theorem AQ : DH Tryz.prog sG := RB CF
end Go.PM
set_option linter.unusedSimpArgs false
set_option linter.unusedVariables false
namespace Go.PM
open Go Go.RowKit
def aHE (P : Program) (E : Env) (fn : Func) (aQ : Nat) (lt rt : Nat → Option aO) (c : Code) (ae : TypeId) (t : Ty) (tk : Tk) (args : List Kd) (an : An) (l : tk.den) (x : aJ args) (A : List (List t.den)) : Option (an.den × List (List t.den)) :=
 bif Nat.ble (tk.pv 0 ++ fQ args x).length fn.ntmps then pB P E fn.ntmps aQ lt rt false [] c (start aQ 0 (tk.pv 0 ++ fQ args x)) (wV (tk.ow l 0) ++ [some (arB ae t A)]) (aR3 P fn.results.toList ae t an) else none
section
variable {P : Program} {n0 : Nat → Prop} {w w' : World} {G G1 G2 : Gd} {μ μ2 : Mp} {H H' : Heap} {ae : TypeId} {t : Ty} {A B : List (List t.den)}
theorem aR6 {E : Env} (hP : yS P) (hE : aW P E) {g : Nat} {fn : Func} (hg : P.funcs[g]? = some fn) {c : Code} (hc : fn.body = some c) {aQ : Nat} {lt rt : Nat → Option aO} {ae : TypeId} {t : Ty} {tk : Tk} {args : List Kd} {an : An} {f : tk.den → aJ args → List (List t.den) → Option (an.den × List (List t.den))}
  (hd : DF args = true) (hl : ∀ a ∈ bN c, BG P fn.ntmps lt rt false [] a) (hb : ∀ l x A, aHE P E fn aQ lt rt c ae t tk args an l x A = f l x A) : YS P g ae t tk args an f := by
 intro l x A y B hy n0 G μ H w us ra r hW har ho hv
 rw [← hb] at hy
 unfold aHE at hy
 obtain ⟨hlen, hy⟩ := aI hy
 obtain ⟨⟨ex, F', H'⟩, h1, h2⟩ := fK hE.callee hP.mixed c _ _ _ _ hl hy
 obtain ⟨vs, B', hex, hvs, hB, hq, rfl⟩ : ∃ vs B', (ex = .normal ∨ ex = .ret) ∧ kU P F' H' fn.results.toList = some vs ∧ aLB ae t H' = some B' ∧ aIC an (dN vs) H' = some y ∧ B'.2 = B := by
  unfold aR3 at h1
  split at h1
  ·cases h1
  ·rename_i hne
   split at h1
   ·rename_i vs hvs
    split at h1
    ·rename_i B' hB
     split at h1
     ·rename_i y' hy'
      simp only [Option.some.injEq, Prod.mk.injEq] at h1
      obtain ⟨rfl, h1⟩ := h1
      refine ⟨vs, B', ?_, hvs, hB, hy', h1⟩
      cases ex with
      | normal => exact .inl rfl
      | ret => exact .inr rfl
      | exit i => exact absurd rfl (hne i)
     ·cases h1
    ·cases h1
   ·cases h1
 have hargs : VRs w G (mpA μ (tk.ow l r) A.length) (tk.pv 0 ++ fQ args x) us := by
  have hn := xL args x hd
  cases tk with
  | none => exact VRs.aZ (bP _ _ hn hv)
  | own e u =>
   change VRs w G μ (.own r u.size :: fQ args x) us at hv
   change VRs w G _ (.own 0 u.size :: fQ args x) us
   rw [VRs] at hv ⊢
   obtain ⟨v, us', rfl, q1, q2⟩ := hv
   refine ⟨v, us', rfl, ?_, VRs.aZ (bP _ _ hn q2)⟩
   rw [VR] at q1 ⊢
   exact q1
 have howb : wV (tk.ow l 0) = wV (tk.ow l r) := by cases tk <;> rfl
 have hW1 := O9 hW ho har
 rw [← howb] at hW1
 have e0 : Ext (wrA w G μ (tk.ow l r)) w G aG w G (mpA μ (tk.ow l r) A.length) :=
  ⟨⟨fun b hb => ⟨hb, rfl⟩, fun _ _ h => (by cases h), fun _ _ h => (by cases h), fun _ _ h => h, fun _ _ h => h⟩, rfl, rfl, rfl, Nat.le_refl _, fun _ _ _ => rfl, fun _ h => .inl h⟩
 refine ⟨enters hg (hP.names g fn hg) (by rw [hc]; rfl) _ _, (callsIn_wide (n := 0)).1 (callsIn_of_wp_marks hg hc trivial ?_)⟩
 have hI : I (wrA w G μ (tk.ow l r)) w G aG fn.ntmps (start aQ 0 (tk.pv 0 ++ fQ args x)) (wV (tk.ow l 0) ++ [some (arB ae t A)]) ⟨us.toArray ++ Array.replicate (fn.ntmps - us.toArray.size) undef, []⟩ w :=
  ⟨G, _, e0, hW1, pF (by simpa using hargs) (Nat.le_of_ble_eq_true hlen)⟩
 refine wpIn_mono (h2 none 0 _ w G aG _ w (fun _ => rfl) (fun r _ => ⟨rfl, rfl⟩) hI.aVR) ?_
 rintro e1 ⟨tm, ds⟩ w' ⟨rfl, hI', _⟩
 have hend : ∀ w', IM (wrA w G μ (tk.ow l r)) w G aG fn.ntmps F' H' { tmps := tm, defers := [] } w' → LeavesIn Fence.wide 0 P fn tm (fun en w' => ∃ v' G'' μ'', en = .returned v' ∧ Ext n0 w G μ w' G'' μ'' ∧ aP n0 G'' μ'' (((BQ (tk.ow l r) H).set ra none) ++ (some (arB ae t B'.2) :: an.hp y)) w' ∧ VR w' G'' μ'' (an.pv y (H.length + 1)) v') [] .returning w' := by
  rintro w' ⟨G1, μ1, ee, hW', hF', _⟩
  obtain ⟨ws, h3, h4⟩ := jG (P := P) hW' hF' hvs
  have hres : (results fn tm).run P w' = .ok (if hh : ws.toArray.size = 1 then ws.toArray[0] else .tuple ws.toArray) w' := by
   rw [rP, Array.mapM_eq_mapM_toList]
   simp only [Sem.run_bind, Sem.run_map, h3, Result.andThen_ok, Sem.run_pure]
  have hrb := L0 hW' hB
  obtain ⟨G2, μ3, b1, b2, b3⟩ : ∃ G2 μ3, Ext n0 w G μ w' G2 μ3 ∧ aP n0 G2 μ3 (((BQ (tk.ow l r) H).set ra none) ++ (some (arB ae t B'.2) :: an.hp y)) w' ∧ VR w' G2 μ3 (an.pv y (H.length + 1)) (if hh : ws.toArray.size = 1 then ws.toArray[0] else .tuple ws.toArray) := by
   have hvr := lF h4
   cases an with
   | data rets =>
    simp only [aIC] at hq
    split at hq
    ·rename_i q hq'
     have hb := U4 (G2 := ⟨fun b => G1 b ∨ ∃ s k, H'[s]? = some (some k) ∧ k.frozen = false ∧ μ1.loc s = some b, G1.row⟩) hW ho har ee hW' hrb (os := none) ⟨fun _ _ _ h => by cases h⟩ (fun _ => rfl) (fun b hb => .inl hb) (fun b hb => by
      rcases hb with h | ⟨s, k, z1, z2, z3⟩
      ·exact .inl h
      ·exact .inr ⟨s, k, z1, z2, z3, fun _ _ _ h => by cases h⟩)
     refine ⟨_, _, hb.1, hb.2, ?_⟩
     have := uH (G' := ⟨fun b => G1 b ∨ ∃ s k, H'[s]? = some (some k) ∧ k.frozen = false ∧ μ1.loc s = some b, G1.row⟩) hW' (fun _ _ h => h) (fun b hb => .inl hb) (fun s k1 b hs _ hb => by
      obtain ⟨_, _, _, _, g5, _⟩ := hW'.blk s k1 b hs hb
      cases hf : k1.frozen with
      | true => exact .inl (g5 hf)
      | false => exact .inr ⟨s, k1, hs, hf, hb⟩) depth _ q _ hq' hvr
     exact (J0 hq this).aZ
    ·cases hq
   | own e u =>
    simp only [aIC] at hq
    obtain ⟨r1, l0, hos, hvv⟩ := YF hW' hq hvr
    have hb := U4 (G2 := G1) hW ho har ee hW' hrb hos (fun _ => rfl) (fun b hb => hb) (fun b hb => .inl hb)
    refine ⟨_, _, hb.1, hb.2, hvv _ _ _ ?_ ?_⟩
    ·have h1 : ¬ H.length + 1 < H.length := by omega
     simp [l5, h1, aR4]
    ·have h1 : ¬ H.length + 1 < H.length := by omega
     simp [l5, h1, aOW]
  exact ⟨_, hres, _, G2, μ3, rfl, b1, b2, b3⟩
 rcases hex with rfl | rfl
 ·exact nF (fun b hb => (O9 hW ho har).base b hb) hend ds w' hI'
 ·exact nF (fun b hb => (O9 hW ho har).base b hb) hend ds w' hI'
end
end Go.PM
set_option linter.unusedSimpArgs false
set_option linter.unusedVariables false
namespace Go.PM
open Go Go.RowKit Go.Proofs
set_option maxRecDepth 100000
set_option maxHeartbeats 4000000
/-! schisma/row.fits -/
def DW (x : aJ [.int .i64]) : Option (aJ [.bool]) := match x with
 | (v0, ()) =>
  bif !(ltI v0 (-1000000000)) then
   some (!(ltI 1000000000 v0), ())
  else some (false, ())
noncomputable def QT : Code := aR Tryz.f60
abbrev aA7 : Env := bF []
theorem aDF : aW Tryz.prog aA7 := aU trivial
def XL (id : Nat) : Option aO := none
theorem ZI : aE QT = [] := by kernel_rfl
theorem aCW : ∀ x, bH Tryz.prog aA7 Tryz.f60 (aC Tryz.f60) XL QT [.int .i64] [.bool] x = DW x := by
 rintro ⟨v0, ⟨⟩⟩
 kernel_rfl
theorem aJB : bW Tryz.prog 60 [.int .i64] [.bool] DW := by
 exact aX aM aDF Tryz.func60 (c := QT) (by kernel_rfl) (aQ := aC Tryz.f60) (lt := XL) (aD ZI trivial) aCW
abbrev aBI : Ent := ⟨60, [.int .i64], [.bool], DW⟩
theorem aD8 : Ent.OK Tryz.prog aBI := aJB

/-! schisma/row.Check$1 -/
def tM (x : aJ [.int .i64]) : Option (aJ [.bool]) := match x with
 | (v0, ()) =>
  aB (DW (v0, ())) fun y1 =>
  bif y1.1 then
   some (false, ())
  else some (true, ())
noncomputable def FF : Code := aR Tryz.f59
abbrev PS : Env := bF [aBI]
theorem T8 : aW Tryz.prog PS := aU ⟨aD8, trivial⟩
def LF (id : Nat) : Option aO := none
theorem QU : aE FF = [] := by kernel_rfl
theorem T6 : ∀ x, bH Tryz.prog PS Tryz.f59 (aC Tryz.f59) LF FF [.int .i64] [.bool] x = tM x := by
 rintro ⟨v0, ⟨⟩⟩
 kernel_rfl
theorem Z0 : bW Tryz.prog 59 [.int .i64] [.bool] tM := by
 exact aX aM T8 Tryz.func59 (c := FF) (by kernel_rfl) (aQ := aC Tryz.f59) (lt := LF) (aD QU trivial) T6
abbrev O2 : Ent := ⟨59, [.int .i64], [.bool], tM⟩
theorem T9 : Ent.OK Tryz.prog O2 := Z0

/-! slices.IndexFunc[schisma/api.Row,int] -/
abbrev bT : List (Nat × Kd) := [(0, .list TyE), (1, .fn 59), (7, .int .i64), (8, .int .i64)]
abbrev cG : List (Ex × List (Nat × Kd)) := [(.ret, [(4, .int .i64)]), (.exit 0, [])]
def bM (x : Shape.den bT) : Option (Shape.den bT ⊕ aT cG) := match x with
 | (v0, v1, v7, v8, ()) =>
  bif ltI v8 v7 then
   bif bD v8 v0.length then aB (tM ((v0.getD v8.toNat 0), ())) fun y2 =>
   bif y2.1 then
    some (.inr (.inl (v8, ())))
   else some (.inl (v0, (), v7, (aK .i64 (v8 + 1)), ())) else none
  else some (.inr (.inr ((()))))
def dJ (x : Shape.den bT) : Option (aT cG) := bZ bM (2 ^ 64) x
def dB (x : aJ [.list TyE, .fn 59]) : Option (aJ [.int .i64]) := match x with
 | (v0, v1, ()) =>
  aB (dJ (v0, (), (v0.length : Int), 0, ())) fun z3 =>
  jE z3 (fun a4 => some (a4.1, ())) fun b5 =>
  some ((-1), ())
noncomputable def eP : Code := aR Tryz.f73
abbrev gU : Env := bF [O2]
theorem kG : aW Tryz.prog gU := aU ⟨T9, trivial⟩
noncomputable def cP : Code := eJ eP 0
def gI (id : Nat) : Option aO := bif Nat.beq id 2 then some ⟨bT, cG, dJ⟩ else none
theorem qR : ∀ x, eA Tryz.prog gU 19 (aC Tryz.f73) gI cP bT cG x = bM x := by
 rintro ⟨v0, v1, v7, v8, ⟨⟩⟩
 kernel_rfl
theorem sV : aE cP = [] := by kernel_rfl
theorem qG : aF cP = 2 := by kernel_rfl
theorem qW : cA Tryz.prog 19 cP ⟨bT, cG, dJ⟩ := by
 exact cN kG.callee aM.mixed _ (aD sV trivial) qR
theorem rY : aE eP = [cP] := by kernel_rfl
theorem sN : ∀ x, bH Tryz.prog gU Tryz.f73 (aC Tryz.f73) gI eP [.list TyE, .fn 59] [.int .i64] x = dB x := by
 rintro ⟨v0, v1, ⟨⟩⟩
 kernel_rfl
theorem tT : bW Tryz.prog 73 [.list TyE, .fn 59] [.int .i64] dB := by
 exact aX aM kG Tryz.func73 (c := eP) (by kernel_rfl) (aQ := aC Tryz.f73) (lt := gI) (aD rY ⟨cT qG rfl qW, trivial⟩) sN
abbrev lW : Ent := ⟨73, [.list TyE, .fn 59], [.int .i64], dB⟩
theorem sS : Ent.OK Tryz.prog lW := tT

/-! slices.ContainsFunc[schisma/api.Row,int] -/
def cE (x : aJ [.list TyE, .fn 59]) : Option (aJ [.bool]) := match x with
 | (v0, v1, ()) =>
  aB (dB (v0, (), ())) fun y1 =>
  some (!(ltI y1.1 0), ())
noncomputable def fO : Code := aR Tryz.f55
abbrev kH : Env := bF [lW]
theorem qJ : aW Tryz.prog kH := aU ⟨sS, trivial⟩
def jO (id : Nat) : Option aO := none
theorem pW : aE fO = [] := by kernel_rfl
theorem qU : ∀ x, bH Tryz.prog kH Tryz.f55 (aC Tryz.f55) jO fO [.list TyE, .fn 59] [.bool] x = cE x := by
 rintro ⟨v0, v1, ⟨⟩⟩
 kernel_rfl
theorem rR : bW Tryz.prog 55 [.list TyE, .fn 59] [.bool] cE := by
 exact aX aM qJ Tryz.func55 (c := fO) (by kernel_rfl) (aQ := aC Tryz.f55) (lt := jO) (aD pW trivial) qU
abbrev kL : Ent := ⟨55, [.list TyE, .fn 59], [.bool], cE⟩
theorem qF : Ent.OK Tryz.prog kL := rR

/-! schisma/row.Check -/
def mP (x : aJ [.list TyE]) : Option (aJ [.int .i64]) := match x with
 | (v0, ()) =>
  bif ltI 64 (v0.length : Int) then
   some (4, ())
  else aB (cE (v0, (), ())) fun y1 =>
  bif y1.1 then
   some (4, ())
  else some (0, ())
noncomputable def L2 : Code := aR Tryz.f37
abbrev VK : Env := bF [kL]
theorem ZW : aW Tryz.prog VK := aU ⟨qF, trivial⟩
def S3 (id : Nat) : Option aO := none
theorem WH : aE L2 = [] := by kernel_rfl
theorem Z5 : ∀ x, bH Tryz.prog VK Tryz.f37 (aC Tryz.f37) S3 L2 [.list TyE] [.int .i64] x = mP x := by
 rintro ⟨v0, ⟨⟩⟩
 kernel_rfl
theorem aG0 : bW Tryz.prog 37 [.list TyE] [.int .i64] mP := by
 exact aX aM ZW Tryz.func37 (c := L2) (by kernel_rfl) (aQ := aC Tryz.f37) (lt := S3) (aD WH trivial) Z5
abbrev E5 : Ent := ⟨37, [.list TyE], [.int .i64], mP⟩
theorem CL : Ent.OK Tryz.prog E5 := aG0

/-! schisma/row.CheckAll -/
abbrev jK : List (Nat × Kd) := [(1, .int .i64), (8, .list TyD), (9, .int .i64), (10, .int .i64)]
abbrev lZ : List (Ex × List (Nat × Kd)) := [(.ret, [(4, .int .i64)]), (.exit 0, [])]
def zW (x : Shape.den jK) : Option (Shape.den jK ⊕ aT lZ) := match x with
 | (v1, v8, v9, v10, ()) =>
  bif ltI v10 v9 then
   bif bD v10 v8.length then aB (mP ((v8.getD v10.toNat []), ())) fun y2 =>
   bif !(eqI y2.1 0) then
    some (.inr (.inl (y2.1, ())))
   else bif !(eqI ((v8.getD v10.toNat []).length : Int) v1) then
    some (.inr (.inl (5, ())))
   else some (.inl (v1, v8, v9, (aK .i64 (v10 + 1)), ())) else none
  else some (.inr (.inr ((()))))
def rW (x : Shape.den jK) : Option (aT lZ) := bZ zW (2 ^ 64) x
def uZ (x : aJ [.list TyD, .int .i64]) : Option (aJ [.int .i64]) := match x with
 | (v0, v1, ()) =>
  aB (rW (v1, v0, (v0.length : Int), 0, ())) fun z3 =>
  jE z3 (fun a4 => some (a4.1, ())) fun b5 =>
  some (0, ())
noncomputable def uY : Code := aR Tryz.f99
abbrev C6 : Env := bF [E5]
theorem DS : aW Tryz.prog C6 := aU ⟨CL, trivial⟩
noncomputable def oB : Code := eJ uY 0
def zN (id : Nat) : Option aO := bif Nat.beq id 2 then some ⟨jK, lZ, rW⟩ else none
theorem KG : ∀ x, eA Tryz.prog C6 24 (aC Tryz.f99) zN oB jK lZ x = zW x := by
 rintro ⟨v1, v8, v9, v10, ⟨⟩⟩
 kernel_rfl
theorem QS : aE oB = [] := by kernel_rfl
theorem KN : aF oB = 2 := by kernel_rfl
theorem LM : cA Tryz.prog 24 oB ⟨jK, lZ, rW⟩ := by
 exact cN DS.callee aM.mixed _ (aD QS trivial) KG
theorem O6 : aE uY = [oB] := by kernel_rfl
theorem RM : ∀ x, bH Tryz.prog C6 Tryz.f99 (aC Tryz.f99) zN uY [.list TyD, .int .i64] [.int .i64] x = uZ x := by
 rintro ⟨v0, v1, ⟨⟩⟩
 kernel_rfl
theorem WE : bW Tryz.prog 99 [.list TyD, .int .i64] [.int .i64] uZ := by
 exact aX aM DS Tryz.func99 (c := uY) (by kernel_rfl) (aQ := aC Tryz.f99) (lt := zN) (aD O6 ⟨cT KN rfl LM, trivial⟩) RM
abbrev LJ : Ent := ⟨99, [.list TyD, .int .i64], [.int .i64], uZ⟩
theorem QB : Ent.OK Tryz.prog LJ := WE

/-! schisma/lattice.check -/
def pE (x : aJ [.int .i64, .list TyD]) : Option (aJ [.int .i64]) := match x with
 | (v0, v1, ()) =>
  bif ltI v0 0 then
   some (3, ())
  else bif ltI 12 v0 then
   some (3, ())
  else bif ltI 12 (v1.length : Int) then
   some (4, ())
  else aB (uZ (v1, v0, ())) fun y1 =>
  some (y1.1, ())
noncomputable def AH : Code := aR Tryz.f76
abbrev IC : Env := bF [LJ]
theorem N4 : aW Tryz.prog IC := aU ⟨QB, trivial⟩
def GL (id : Nat) : Option aO := none
theorem MB : aE AH = [] := by kernel_rfl
theorem O7 : ∀ x, bH Tryz.prog IC Tryz.f76 (aC Tryz.f76) GL AH [.int .i64, .list TyD] [.int .i64] x = pE x := by
 rintro ⟨v0, v1, ⟨⟩⟩
 kernel_rfl
theorem UN : bW Tryz.prog 76 [.int .i64, .list TyD] [.int .i64] pE := by
 exact aX aM N4 Tryz.func76 (c := AH) (by kernel_rfl) (aQ := aC Tryz.f76) (lt := GL) (aD MB trivial) O7
abbrev zI : Ent := ⟨76, [.int .i64, .list TyD], [.int .i64], pE⟩
theorem BU : Ent.OK Tryz.prog zI := UN

/-! (schisma/lattice.longs).short -/
abbrev cZ : List (Nat × Kd) := [(4, .bag 116 TyE 23 TyD none), (6, .bag 116 TyE 23 TyD none), (13, .own 137 (.hnd 1)), (14, .int .i64), (15, .int .i64), (100000, .ar 144 .str)]
abbrev eM : List (Ex × List (Nat × Kd)) := [(.ret, [(4, .bag 116 TyE 23 TyD none), (5, .int .i64), (100000, .ar 144 .str)]), (.exit 0, [(4, .bag 116 TyE 23 TyD none), (6, .bag 116 TyE 23 TyD none), (100000, .ar 144 .str)])]
def nK (x : Shape.den cZ) : Option (Shape.den cZ ⊕ aT eM) := match x with
 | (v4, v6, v13, v14, v15, v100000, ()) =>
  bif ltI v15 v14 then
   bif bD v15 v13.length then bif Nat.blt v15.toNat v13.length then aB (kD () (((v13.getD v15.toNat (0, 0, 0)).1, (v13.getD v15.toNat (0, 0, 0)).2.1, (v13.getD v15.toNat (0, 0, 0)).2.2), ()) v100000) fun y2 =>
   bif !(eqI y2.1.2.1 0) then
    some (.inr (.inl ((0, ([], ())), y2.1.2.1, y2.2, ())))
   else bif Nat.ble [y2.1.1].length 1048576 then bif Nat.ble v6.2.1.length 1048576 then some (.inl ((v4.1, (v4.2.1, ())), (v6.1, ((v6.2.1 ++ [y2.1.1]), ())), v13, v14, (aK .i64 (v15 + 1)), y2.2, ())) else none else none else none else none
  else some (.inr (.inr (((v4.1, (v4.2.1, ())), (v6.1, (v6.2.1, ())), v100000, ()))))
def iN (x : Shape.den cZ) : Option (aT eM) := bZ nK (2 ^ 64) x
def iF (v0 : List (Nat × Nat × Nat)) (x : aJ [.int .i64]) (A : List (List ByteArray)) : Option ((aJ [.agg (.prod TyE TyC), .int .i64]) × List (List ByteArray)) := match x with
 | (v1, ()) =>
  aB (iN ((0, ([], ())), (v1, ([], ())), v0, (v0.length : Int), 0, A, ())) fun z3 =>
  jE z3 (fun a4 => some (((a4.1.1, a4.1.2.1), a4.2.1, ()), a4.2.2.1)) fun b5 =>
  some (((b5.2.1.1, b5.2.1.2.1), 0, ()), b5.2.2.1)
noncomputable def iH : Code := aR Tryz.f79
abbrev l9 : Env := aBV [] [tX]
theorem pN : aW Tryz.prog l9 := B8 trivial ⟨CE, trivial⟩
noncomputable def eV : Code := inLoop (G7 iH 0)
def k8 (id : Nat) : Option aO := bif Nat.beq id 3 then some ⟨cZ, eM, iN⟩ else none
def kZ (id : Nat) : Option aO := none
theorem wC : aF eV = 3 := by kernel_rfl
theorem AZ : bN eV = [] := by kernel_rfl
theorem vD : ∀ x, QJ Tryz.prog l9 36 (rH Tryz.f79) k8 kZ false [] eV cZ eM x = nK x := by
 rintro ⟨v4, v6, v13, v14, v15, v100000, ⟨⟩⟩
 kernel_rfl
theorem wN : r9 Tryz.prog 36 false [] (.loop eV) ⟨cZ, eM, iN⟩ := by
 exact IY pN.callee aM.mixed _ (lQ AZ trivial) vD
theorem xP : bN iH = [.loop eV] := by kernel_rfl
theorem AW : ∀ l x A, aHE Tryz.prog l9 Tryz.f79 (rH Tryz.f79) k8 kZ iH 144 .str (.own 137 (.hnd 1)) [.int .i64] (.data [.agg (.prod TyE TyC), .int .i64]) l x A = iF l x A := by
 rintro u0 ⟨v1, ⟨⟩⟩ A
 kernel_rfl
theorem CI : YS Tryz.prog 79 144 .str (.own 137 (.hnd 1)) [.int .i64] (.data [.agg (.prod TyE TyC), .int .i64]) iF := by
 exact aR6 aM pN Tryz.func79 (c := iH) (by kernel_rfl) (aQ := rH Tryz.f79) (lt := k8) (rt := kZ) (by rfl) (lQ xP ⟨O8 wC rfl wN, trivial⟩) AW
abbrev sL : Shr := (79, arH 144 .str (.own 137 (.hnd 1)) [.int .i64] (.data [.agg (.prod TyE TyC), .int .i64]) iF)
theorem yZ : DH Tryz.prog sL := RB CI

/-! schisma/lattice.Of -/
def B4 (x : aJ [.int .i64, .list TyD]) : Option (aJ [.agg (.prod TyE TyC), .int .i64]) := match x with
 | (v0, v1, ()) =>
  aB (pE (v0, v1, ())) fun y1 =>
  bif !(eqI y1.1 0) then
   some ((0, []), y1.1, ())
  else aB (lN () (v1, ()) []) fun y2 =>
  aB (iA y2.1 (v0, ()) y2.2) fun y3 =>
  aB (iF y3.1 (v0, ()) y3.2) fun y4 =>
  some ((y4.1.1.1, y4.1.1.2), y4.1.2.1, ())
noncomputable def JJ : Code := aR Tryz.f67
abbrev TP : Env := aBV [zI] [xE, sG, sL]
theorem YU : aW Tryz.prog TP := B8 ⟨BU, trivial⟩ ⟨E0, AQ, yZ, trivial⟩
def N8 (id : Nat) : Option aO := none
theorem UA : aE JJ = [] := by kernel_rfl
theorem WO : ∀ x, aP9 Tryz.prog TP Tryz.f67 (aC Tryz.f67) N8 JJ 144 .str [.int .i64, .list TyD] [.agg (.prod TyE TyC), .int .i64] x = B4 x := by
 rintro ⟨v0, v1, ⟨⟩⟩
 kernel_rfl
theorem aB3 : bW Tryz.prog 67 [.int .i64, .list TyD] [.agg (.prod TyE TyC), .int .i64] B4 := by
 exact aXV aM YU Tryz.func67 (c := JJ) (by kernel_rfl) (aQ := aC Tryz.f67) (lt := N8) (aD UA trivial) WO
abbrev S6 : Ent := ⟨67, [.int .i64, .list TyD], [.agg (.prod TyE TyC), .int .i64], B4⟩
theorem WR : Ent.OK Tryz.prog S6 := aB3
end Go.PM
set_option linter.unusedSimpArgs false
set_option linter.unusedVariables false
namespace Go.PM
open Go Go.RowKit Go.Proofs
set_option maxRecDepth 100000
set_option maxHeartbeats 4000000
/-! schisma/lattice.longOf -/
abbrev gD : List (Nat × Kd) := [(3, .own 144 .str), (9, .list TyE), (10, .int .i64), (11, .int .i64)]
abbrev iT : List (Ex × List (Nat × Kd)) := [(.exit 0, [(3, .own 144 .str)])]
def tZ (x : Shape.den gD) : Option (Shape.den gD ⊕ aT iT) := match x with
 | (v3, v9, v10, v11, ()) =>
  bif ltI v11 v10 then
   bif bD v11 v9.length then aB (fJ ((v9.getD v11.toNat 0), ())) fun y2 =>
   bif Nat.ble [y2.1].length 1048576 then bif Nat.ble v3.length 1048576 then some (.inl ((v3 ++ [y2.1]), v9, v10, (aK .i64 (v11 + 1)), ())) else none else none else none
  else some (.inr ((v3, ())))
def oO (x : Shape.den gD) : Option (aT iT) := bZ tZ (2 ^ 64) x
def l6 (x : aJ [.list TyE]) : Option (aJ [.list .str]) := match x with
 | (v0, ()) =>
  bif !(ltI (v0.length : Int) 0) then bif !(ltI 1048576 (v0.length : Int)) then aB (oO ((List.replicate 0 ByteArray.empty), v0, (v0.length : Int), 0, ())) fun z3 =>
  some (z3.1, ()) else none else none
noncomputable def pV : Code := aR Tryz.f100
abbrev uA : Env := bF [yH]
theorem xA : aW Tryz.prog uA := aU ⟨sY, trivial⟩
noncomputable def jW : Code := eJ pV 0
def sX (id : Nat) : Option aO := bif Nat.beq id 3 then some ⟨gD, iT, oO⟩ else none
theorem E7 : ∀ x, eA Tryz.prog uA 22 (aC Tryz.f100) sX jW gD iT x = tZ x := by
 rintro ⟨v3, v9, v10, v11, ⟨⟩⟩
 kernel_rfl
theorem KV : aE jW = [] := by kernel_rfl
theorem EW : aF jW = 3 := by kernel_rfl
theorem HH : cA Tryz.prog 22 jW ⟨gD, iT, oO⟩ := by
 exact cN xA.callee aM.mixed _ (aD KV trivial) E7
theorem HZ : aE pV = [jW] := by kernel_rfl
theorem KJ : ∀ x, bH Tryz.prog uA Tryz.f100 (aC Tryz.f100) sX pV [.list TyE] [.list .str] x = l6 x := by
 rintro ⟨v0, ⟨⟩⟩
 kernel_rfl
theorem NY : bW Tryz.prog 100 [.list TyE] [.list .str] l6 := by
 exact aX aM xA Tryz.func100 (c := pV) (by kernel_rfl) (aQ := aC Tryz.f100) (lt := sX) (aD HZ ⟨cT EW rfl HH, trivial⟩) KJ
abbrev D0 : Ent := ⟨100, [.list TyE], [.list .str], l6⟩
theorem KP : Ent.OK Tryz.prog D0 := NY

/-! (schisma/lattice.Lattice).pivots$1 -/
abbrev cD : List (Nat × Kd) := [(0, .val), (7, .list TyD), (8, .int .i64), (9, .int .i64)]
abbrev dK : List (Ex × List (Nat × Kd)) := [(.exit 0, [])]
def cX (x : Shape.den cD) : Option (List (Value × aJ [.int .i64, .list .str]) × (Shape.den cD ⊕ aT dK)) := match x with
 | (v0, v7, v8, v9, ()) =>
  bif ltI v9 v8 then
   bif bD v9 v7.length then aB (l6 ((v7.getD v9.toNat []), ())) fun y3 =>
   aB (j7 (y3.1, ())) fun y4 =>
   outs [(v0, (y4.1, y3.1, ()))] (some ([], .inl (v0, v7, v8, (aK .i64 (v9 + 1)), ()))) else none
  else some ([], .inr ((())))
def eE (x : Shape.den cD) : Option (List (Value × aJ [.int .i64, .list .str]) × aT dK) := N1 cX (2 ^ 64) x
def jU (v0 : Value) (x : tI [(.prod TyE TyC)]) : Option (List (Value × aJ [.int .i64, .list .str])) := match x with
 | (v1, ()) =>
  aNF (aGS (eE (v0, v1.2, (v1.2.length : Int), 0, ())) fun z5 =>
  some ([], ()))
noncomputable def fY : Code := aR Tryz.f141
abbrev kA : Env := aBV [D0, yT] []
theorem mN : aW Tryz.prog kA := B8 ⟨KP, HS, trivial⟩ trivial
noncomputable def dQ : Code := inLoop (G7 fY 0)
def iX (id : Nat) : Option aO := none
def iV (id : Nat) : Option (CV (Value × aJ [.int .i64, .list .str])) := bif Nat.beq id 1 then some ⟨cD, dK, eE⟩ else none
theorem tC : aF dQ = 1 := by kernel_rfl
theorem vJ : bN dQ = [] := by kernel_rfl
theorem tO : ∀ x, aH6 Tryz.prog kA 22 (aC Tryz.f141) iX [.int .i64, .list .str] iV dQ cD dK x = cX x := by
 rintro ⟨v0, v7, v8, v9, ⟨⟩⟩
 kernel_rfl
theorem tU : aGU Tryz.prog 22 [.int .i64, .list .str] dQ ⟨cD, dK, eE⟩ := by
 exact aE2 mN.callee aM.mixed _ (OA vJ trivial) tO
theorem uS : bN fY = [.loop dQ] := by kernel_rfl
theorem vZ : ∀ v0 x, aJT Tryz.prog kA Tryz.f141 (aC Tryz.f141) iX [.int .i64, .list .str] iV fY [(.prod TyE TyC)] v0 x = jU v0 x := by
 rintro v0 ⟨v1, ⟨⟩⟩
 kernel_rfl
theorem vQ {f : tI [(.prod TyE TyC)] → Option (List (aJ [.int .i64, .list .str]))} (h : ∀ yv x all, f x = some all → jU yv x = some (all.map fun e => (yv, e))) : MD Tryz.prog 141 [(.prod TyE TyC)] [.int .i64, .list .str] f := by
 exact aJ6 aM mN Tryz.func141 (c := fY) (by kernel_rfl) (by kernel_rfl) (aQ := aC Tryz.f141) (lt := iX) (li := iV) (OA uS ⟨aF8 tC rfl rfl tU, trivial⟩) (fun yv x all hx => (vZ yv x).trans (h yv x all hx))

/-! the iterator pivots -/
def aIF : List (List Int) → Option (List (aJ [.int .i64, .list .str]))
 | [] => some []
 | r :: l => aB (l6 (r, ())) fun y => aB (j7 (y.1, ())) fun z => aB (aIF l) fun rest => some ((z.1, y.1, ()) :: rest)
def aDS (x : tI [(.prod TyE TyC)]) : Option (List (aJ [.int .i64, .list .str])) := match x with
 | ((_, b), ()) => bif Nat.ble b.length 1048576 then aIF b else none
theorem SX (yv : Value) (l : List (List Int)) (hl : l.length ≤ 1048576) : ∀ (rest pre : List (List Int)) (all : List (aJ [.int .i64, .list .str])) (N : Nat), aIF rest = some all → pre ++ rest = l → rest.length < N →
  N1 cX N (yv, l, (l.length : Int), (pre.length : Int), ()) = some (all.map fun e => (yv, e), ())
 | [], pre, all, N + 1, h, hp, _ => by
  obtain rfl := Option.some.inj h
  rw [List.append_nil] at hp
  subst hp
  have h1 : ltI (pre.length : Int) (pre.length : Int) = false := by simp [bA]
  simp only [N1, cX, h1, cond_false]
  rfl
 | r :: rest, pre, all, N + 1, h, hp, hN => by
  obtain ⟨y, hy, h⟩ := lX h
  obtain ⟨z, hz, h⟩ := lX h
  obtain ⟨all', ha, h⟩ := lX h
  obtain rfl := Option.some.inj h
  have hlen : l.length = pre.length + (rest.length + 1) := by rw [← hp]; simp
  have h1 : ltI (pre.length : Int) (l.length : Int) = true := by simp [bA]; omega
  have h2 : bD (pre.length : Int) l.length = true := by simp [vO]; omega
  have h3 : l.getD ((pre.length : Int)).toNat [] = r := by rw [← hp]; simp
  have h4 := SX yv l hl rest (pre ++ [r]) all' N ha (by rw [← hp]; simp) (by simp at hN; omega)
  have h5 : aK .i64 ((pre.length : Int) + 1) = ((pre ++ [r]).length : Int) := by rw [wrap64 (by omega) (by omega)]; simp
  simp only [N1, cX, h1, cond_true, h2, h3, hy, cQ, hz, outs, h5]
  rw [h4]
  rfl
theorem aL8 : MD Tryz.prog 141 [(.prod TyE TyC)] [.int .i64, .list .str] aDS := by
 refine vQ ?_
 rintro yv ⟨⟨n, b⟩, ⟨⟩⟩ all h
 unfold aDS at h
 dsimp only at h
 obtain ⟨hb, h⟩ := aI h
 have hb := Nat.le_of_ble_eq_true hb
 have := SX yv b hb b [] all (2 ^ 64) h rfl (by omega)
 unfold jU
 dsimp only
 unfold eE
 have h0 : ((([] : List (List Int)).length : Nat) : Int) = 0 := rfl
 rw [h0] at this
 rw [this]
 simp [aGS, outs, aNF]
end Go.PM
