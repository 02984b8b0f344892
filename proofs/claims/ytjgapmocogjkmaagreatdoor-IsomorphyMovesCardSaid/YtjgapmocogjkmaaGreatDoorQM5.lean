/- Texts of one proof, joined (5). -/
import Derived.OrdersIn
import Derived.TacticsIn
import Derived.RangeFuncRecord
import Derived.Sort.LoopGhostIn
import Derived.RangeFuncSeq
import Derived.Test.YtjgapmocogjkmaaGreatDoorProg
import Derived.Lib.AppendIntMem
import Derived.WalkKit
import Derived.BigCall
import Derived.BigGuard
import Derived.Lib.SmallJoins
import Derived.Lib.Walk
import Derived.Lib.SliceRun
import Derived.Lib.AppendZerosOnto
import Derived.Deep.Upon
import Derived.Test.YtjgapmocogjkmaaGreatDoorQM4
set_option linter.unusedSimpArgs false
set_option linter.unusedVariables false
namespace Go.PM
open Go Go.RowKit
@[reducible] def Fr (ro : Option Nat) : Fence := { Fence.wide with round := ro }
def nK (ds : List Deferred) (a : Act) : Act := { a with defers := a.defers ++ ds }
theorem aPS (ds : List Deferred) (a : Act) : (nK ds a).eval = a.eval := by
 funext x; cases x <;> rfl
theorem CD (ds : List Deferred) (a : Act) (d : Option Tmp) (v : Value) : (nK ds a).put d v = nK ds (a.put d v) := by
 cases d <;> rfl
theorem aL4 {ro : Option Nat} {n : Nat} {P : Program} {f : FuncId} {args : Array Value} {w : World} {R : Ending → World → Prop} (h : Calls P f args w R) : CallsIn (Fr ro) n P f args w R :=
 (callsIn_wide (n := n)).2 h
theorem aPC {ro : Option Nat} {n : Nat} {P : Program} {row : String} {args : Array Value} {w : World} {R : Value → World → Prop} (h : Rows P row args w R) : RowsIn (Fr ro) n P row args w R :=
 fun c cs _ => let ⟨v, w', r, s⟩ := h c cs; ⟨v, w', r, stepsIn_wide.2 s⟩

section
variable {P : Program} {ro : Option Nat} {n : Nat} {ds : List Deferred} {Q Q' : Exit → Act → World → Prop}
def aGX : Op → Bool
 | .defer _ => true
 | _ => false
def IH (ops : Array Oper) : Bool := ops.toList.all fun o => !aGX o.op
theorem C5 {ops : Array Oper} (h : IH ops = true) {o : Oper} (ho : o ∈ ops.toList) : ∀ c, o.op ≠ .defer c := by
 intro c hc
 have := List.all_eq_true.1 h o ho
 rw [hc] at this
 cases this
theorem aR6 {o : Oper} (h : ∀ c, o.op ≠ .defer c) (ρ : Operand → Value) : o.semAt ro ρ = execOp ρ o := by
 cases ro with
 | none => exact Oper.semAt_none ρ o
 | some l => exact Oper.semAt_some l ρ o h

theorem aGY {o : Oper} {a : Act} {w : World} {K K' : Act → World → Prop} (hd : ∀ c, o.op ≠ .defer c) (hK : ∀ a w, K a w → K' (nK ds a) w) (hQ : ∀ ch a w, Q (.panic ch) a w → Q' (.panic ch) (nK ds a) w) (hno : ∀ a w, ¬ Q .outgrown a w) (h : o.wp P a w K Q) :
  o.wpIn (Fr ro) n P (nK ds a) w K' Q' := by
 refine ⟨fun _ _ => trivial, ?_⟩
 unfold Oper.wp at h
 rw [aPS, aR6 hd]
 generalize (execOp a.eval o).run P w = r at h ⊢
 cases r with
 | ok x w' =>
  cases x with
  | value v => show K' ((nK ds a).put o.dst v) w'; rw [CD]; exact hK _ _ h
  | skip => show K' ((nK ds a).put o.dst undef) w'; rw [CD]; exact hK _ _ h
  | defer d =>
   have := hK _ _ h
   show K' (({ nK ds a with defers := d :: (nK ds a).defers } : Act).put o.dst undef) w'
   have e : (({ nK ds a with defers := d :: (nK ds a).defers } : Act).put o.dst undef) = nK ds (({ a with defers := d :: a.defers } : Act).put o.dst undef) := by
    cases o.dst <;> rfl
   rw [e]; exact this
  | enter f args =>
   refine ⟨fun h => (by cases h), aL4 (Calls.mono h ?_)⟩
   rintro e w'' he
   cases e with
   | returned v => show K' ((nK ds a).put o.dst v) w''; rw [CD]; exact hK _ _ he
   | panicked ch => exact hQ _ _ _ he
   | outgrown =>
    obtain ⟨a0, w0, h0⟩ := he
    exact (hno a0 w0 h0).elim
  | row row args => exact ⟨fun h => (by cases h), aPC (Rows.mono h fun v w'' he => by show K' ((nK ds a).put o.dst v) w''; rw [CD]; exact hK _ _ he)⟩
  | _ => exact h.elim
 | halt x w' =>
  cases x <;> first | exact hQ _ _ _ h | exact h.elim

theorem PU {ops : Array Oper} (hno : ∀ a w, ¬ Q .outgrown a w) (hQ : ∀ e a w, Q e a w → Q' e (nK ds a) w) : ∀ {l : List Oper}, (∀ o ∈ l, ∀ c, o.op ≠ .defer c) → ∀ {a w}, wpList P ops Q l a w → wpListIn (Fr ro) n P ops Q' l (nK ds a) w
 | [], _, a, w, h => hQ _ _ _ h
 | o :: l, hd, a, w, h => by
  simp only [wpList] at h
  unfold wpListIn
  split at h
  ·rename_i hw
   have hw' : Region.wanted o (yielded ops (nK ds a).tmps) = true := hw
   rw [if_pos hw']
   rcases h with h | ⟨_, a0, w0, h0⟩
   ·exact aGY (hd o List.mem_cons_self) (fun a w hk => PU hno hQ (fun o ho => hd o (List.mem_cons_of_mem _ ho)) hk) (fun _ _ _ h => hQ _ _ _ h) hno h
   ·exact (hno a0 w0 h0).elim
  ·rename_i hw
   have hw' : ¬ Region.wanted o (yielded ops (nK ds a).tmps) = true := hw
   rw [if_neg hw']
   refine ⟨fun _ _ => trivial, ?_⟩
   rw [CD]
   exact PU hno hQ (fun o ho => hd o (List.mem_cons_of_mem _ ho)) h

theorem aG5 {ops : Array Oper} {md : Region.Mode} (hno : ∀ a w, ¬ Q .outgrown a w) (hQ : ∀ e a w, Q e a w → Q' e (nK ds a) w) (hd : ∀ o ∈ ops.toList, ∀ c, o.op ≠ .defer c) : ∀ {fuel : Nat} {listed : Array Bool} {a w}, wpAny P md ops Q fuel listed a w → wpAnyIn (Fr ro) n P md ops Q' fuel listed (nK ds a) w
 | 0, listed, a, w, h => ⟨h.1, hQ _ _ _ h.2⟩
 | fuel + 1, listed, a, w, h => by
  refine ⟨fun hr => hQ _ _ _ (h.1 hr), fun i hi => ?_⟩
  have h2 := h.2 i hi
  unfold wpOp at h2
  unfold wpOpIn
  split
  ·rename_i hn
   rw [hn] at h2
   exact aG5 hno hQ hd h2
  ·rename_i o ho
   rw [ho] at h2
   simp only at h2
   have hm : o ∈ ops.toList := by
    rw [← Array.getElem?_toList] at ho
    exact List.mem_of_getElem? ho
   split at h2
   ·rename_i hw
    have hw' : Region.wanted o (yielded ops (nK ds a).tmps) = true := hw
    rw [if_pos hw']
    rcases h2 with h2 | ⟨_, a0, w0, h0⟩
    ·exact aGY (hd o hm) (fun a w hk => aG5 hno hQ hd hk) (fun _ _ _ h => hQ _ _ _ h) hno h2
    ·exact (hno a0 w0 h0).elim
   ·rename_i hw
    have hw' : ¬ Region.wanted o (yielded ops (nK ds a).tmps) = true := hw
    rw [if_neg hw']
    refine ⟨fun _ _ => trivial, ?_⟩
    rw [CD]
    exact aG5 hno hQ hd h2
end
def Marks (wi w : World) (G : Gd) : List Deferred → Prop
 | [] => True
 | d :: ds => (∃ b, d = { target := .collected b, args := #[] } ∧ w.heap[b]? = some (.deferred (some [])) ∧ wi.heap.size ≤ b ∧ ¬ G b ∧ ∀ d' ∈ ds, d' ≠ d) ∧ Marks wi w G ds
theorem Marks.mem {wi w : World} {G : Gd} : ∀ {ds : List Deferred}, Marks wi w G ds → ∀ d ∈ ds, ∃ b, d = { target := .collected b, args := #[] } ∧ w.heap[b]? = some (.deferred (some [])) ∧ wi.heap.size ≤ b ∧ ¬ G b
 | [], _, d, hd => by cases hd
 | x :: ds, h, d, hd => by
  rcases List.mem_cons.1 hd with rfl | hd
  ·obtain ⟨b, h1, h2, h3, h4, _⟩ := h.1
   exact ⟨b, h1, h2, h3, h4⟩
  ·exact Marks.mem h.2 d hd
theorem Marks.to {wi w w' : World} {G G' : Gd} : ∀ {ds : List Deferred}, Marks wi w G ds → (∀ b, ({ target := .collected b, args := #[] } : Deferred) ∈ ds → w.heap[b]? = some (.deferred (some [])) → ¬ G b → w'.heap[b]? = some (.deferred (some [])) ∧ ¬ G' b) → Marks wi w' G' ds
 | [], _, _ => trivial
 | x :: ds, h, hs => by
  obtain ⟨⟨b, rfl, h2, h3, h4, h5⟩, h6⟩ := h
  obtain ⟨k1, k2⟩ := hs b List.mem_cons_self h2 h4
  exact ⟨⟨b, rfl, k1, h3, k2, h5⟩, Marks.to h6 fun b hb => hs b (List.mem_cons_of_mem _ hb)⟩

def IM (n0 : Nat → Prop) (wi : World) (Gi : Gd) (μi : Mp) (nt : Nat) (F : Frm) (H : Heap) (a : Act) (w : World) : Prop :=
 ∃ G μ, Ext n0 wi Gi μi w G μ ∧ aW n0 G μ H w ∧ eK w G μ nt F { a with defers := [] } ∧ Marks wi w G a.defers

section
variable {P : Program} {E : Env} {n0 n1 : Nat → Prop} {w w' wi : World} {G G' Gi : Gd} {μ μ' μi : Mp} {H : Heap} {F : Frm} {a : Act} {nt : Nat}
theorem Ext.wider (h : Ext n1 w G μ w' G' μ') (hn : ∀ b, n1 b → n0 b) : Ext n0 w G μ w' G' μ' :=
 ⟨h.toMono, h.os, h.tape, h.output, h.size, h.drawn, fun b hb hnb => h.old b hb fun h1 => hnb (hn b h1), fun b hb => (h.new b hb).imp id (hn b)⟩
theorem aW.wider (h : aW n1 G μ H w) (hn : ∀ b, n1 b → n0 b) : aW n0 G μ H w :=
 ⟨fun r k b hr hb => by
  obtain ⟨c, h1, h2, h3, h4, h5⟩ := h.blk r k b hr hb
  exact ⟨c, h1, h2, h3, h4, fun hf => ⟨hn b (h5 hf).1, (h5 hf).2⟩⟩, h.tags, h.inj, h.lt, h.top, fun b hb => hn b (h.base b hb), h.rows.QK fun _ b _ => hn b⟩
theorem aW.less (h : aW n0 G μ H w) {S : Nat → Prop} (hS : ∀ b, S b → b < w.heap.size ∧ ∀ c t fr, w.heap[b]? ≠ some (.cells c t fr)) : aW (fun b => n0 b ∧ ¬ S b) G μ H w :=
 ⟨fun r k b hr hb => by
  obtain ⟨c, h1, h2, h3, h4, h5⟩ := h.blk r k b hr hb
  exact ⟨c, h1, h2, h3, h4, fun hf => ⟨⟨(h5 hf).1, fun hs => (hS b hs).2 _ _ _ h1⟩, (h5 hf).2⟩⟩, h.tags, h.inj, h.lt, h.top, fun b hb => ⟨h.base b hb, fun hs => Nat.lt_irrefl _ (Nat.lt_of_lt_of_le (hS b hs).1 hb)⟩, h.rows.QK fun j b hj hn => ⟨hn, fun hs => by obtain ⟨c, t, fr, hc⟩ := h.rows.cel j b hj; exact (hS b hs).2 c t fr hc⟩⟩
theorem eK.same (h : eK w G μ nt F a) : eK w G μ nt F { a with defers := [] } := ⟨h.size, h.slot, rfl⟩
theorem I.a5A (h : I n0 wi Gi μi nt F H a w) : IM n0 wi Gi μi nt F H a w := by
 obtain ⟨G, μ, e, hW, hF⟩ := h
 refine ⟨G, μ, e, hW, hF.same, ?_⟩
 rw [hF.defers]; trivial


theorem aA7 {nt : Nat} {id : Nat} {ops : Array Oper} {draw : Bool} {F : Frm} {H : Heap} {α : Type} {z : α} {k : Frm → Heap → Option α} (hcl : cQ P (dH P E)) (hP : P.follows .mixedOrders = true) (hd : IH ops = true) (h : rC P E nt ops draw F H k = some z) :
  ∃ F' H', k F' H' = some z ∧ ∀ {ro : Option Nat} {n : Nat} {n0 wi Gi μi} {a w} {Q : Exit → Act → World → Prop}, IM n0 wi Gi μi nt F H a w → (∀ a' w', a'.defers = a.defers → IM n0 wi Gi μi nt F' H' a' w' → Q .normal a' w') → (Code.region id ops draw).wpIn (Fr ro) n P Q a w := by
 have core : ∃ F' H', k F' H' = some z ∧ ∀ {ro : Option Nat} {n : Nat} {n0 wi Gi μi} {a w} {ds : List Deferred} {Q : Exit → Act → World → Prop}, I n0 wi Gi μi nt F H a w → (∀ a' w', I n0 wi Gi μi nt F' H' a' w' → Q .normal (nK ds a') w') → (Code.region id ops draw).wpIn (Fr ro) n P Q (nK ds a) w := by
  cases draw with
  | true =>
   obtain ⟨F', H', h2, h3⟩ := GR h
   refine ⟨F', H', h3, ?_⟩
   intro ro n n0 wi Gi μi a w ds Q hI hQ
   refine wpIn_region_any hP (aG5 (Q := fun e a' w' => e = .normal ∧ I n0 wi Gi μi nt F' H' a' w') (fun a w h => by cases h.1) (fun e a' w' h => by obtain ⟨rfl, h⟩ := h; exact hQ a' w' h) (fun o ho => C5 hd ho) ?_)
   exact LU hcl h2 hI (fun a' w' h => ⟨rfl, h⟩)
  | false =>
   unfold rC at h
   simp only [cond_false] at h
   obtain ⟨F', H', h2, h3⟩ := o7 h
   refine ⟨F', H', h3, ?_⟩
   intro ro n n0 wi Gi μi a w ds Q hI hQ
   refine wpIn_region_list (PU (Q := fun e a' w' => e = .normal ∧ I n0 wi Gi μi nt F' H' a' w') (fun a w h => by cases h.1) (fun e a' w' h => by obtain ⟨rfl, h⟩ := h; exact hQ a' w' h) (fun o ho => C5 hd ho) ?_)
   exact rQ hcl ops.toList F H _ _ h2 hI (fun a' w' h => ⟨rfl, h⟩)
 obtain ⟨F', H', h1, h2⟩ := core
 refine ⟨F', H', h1, ?_⟩
 intro ro n n0 wi Gi μi a w Q hI hQ
 obtain ⟨G, μ, e, hW, hF, hm⟩ := hI
 have hS : ∀ b, ({ target := .collected b, args := #[] } : Deferred) ∈ a.defers → b < w.heap.size ∧ ∀ c t fr, w.heap[b]? ≠ some (.cells c t fr) := by
  intro b hb
  obtain ⟨b', e1, e2, _⟩ := hm.mem _ hb
  have : b = b' := by injection e1 with e1 _; injection e1
  subst this
  exact ⟨eZ e2, fun c t fr h => by rw [e2] at h; cases h⟩
 have e0 : a = nK a.defers { a with defers := [] } := rfl
 rw [e0]
 refine h2 (n0 := fun b => n0 b ∧ ¬ ({ target := .collected b, args := #[] } : Deferred) ∈ a.defers) (wi := w) (Gi := G) (μi := μ) ⟨G, μ, Ext.refl _ _ _ _, hW.less hS, hF⟩ ?_
 rintro a' w' ⟨G', μ', e', hW', hF'⟩
 have hW2 : aW n0 G' μ' H' w' := hW'.wider fun b hb => hb.1
 have hdef : (nK a.defers a').defers = a.defers := by
  show a'.defers ++ a.defers = a.defers
  rw [hF'.defers]; rfl
 refine hQ _ _ hdef ⟨G', μ', e.trans (e'.wider fun b hb => hb.1), hW2, hF'.same, ?_⟩
 rw [hdef]
 refine hm.to fun b hb h1 h2 => ⟨?_, fun hg => ?_⟩
 ·rw [e'.old b (hS b hb).1 (fun h => h.2 hb)]; exact h1
 ·rcases e'.new b hg with h | h
  ·exact h2 h
  ·exact h.2 hb
end
end Go.PM
set_option linter.unusedSimpArgs false
set_option linter.unusedVariables false
namespace Go.PM
open Go Go.RowKit
def EN (T : List Nat) : (l : List (Ex × List (Nat × Kd))) → Ex → Frm → Heap → Option (aV l)
 | [], _, _, _ => none
 | [(e, s)], ex, F, H => bif aI8 e ex then pS T s F H else none
 | (e, s) :: b :: r, ex, F, H => bif aI8 e ex then (match pS T s F H with | some x => some (.inl x) | none => none) else (match EN T (b :: r) ex F H with | some y => some (.inr y) | none => none)
section
variable {α : Type} (P : Program) (E : Env) (nt aU : Nat) (lt rt : Nat → Option aR) (rd : Bool) (T : List Nat)
def rT : Code → Frm → Heap → (Ex → Frm → Heap → Option α) → Option α
 | .skip, F, H, k => k .normal F H
 | .label _, F, H, k => k .normal F H
 | .region _ ops draw, F, H, k => bif IH ops then rC P E nt ops draw F H fun F H => IX aU F fun F => k .normal F H else none
 | .seq a b, F, H, k => rT a F H fun ex F H => match ex with
  | .normal => rT b F H k
  | .exit i => k (.exit i) F H
  | .ret => k .ret F H
 | .cond c a b, F, H, k => match ev F c with
  | .lit (.bool t) => aI2 F c t fun F t => bif t then rT a F H k else rT b F H k
  | _ => none
 | .block id a, F, H, k => rT a F H fun ex F H => match ex with
  | .exit i => bif Nat.beq i id then k .normal F H else k (.exit i) F H
  | .normal => k .normal F H
  | .ret => k .ret F H
 | .loop a, F, H, k => match lt (aG a) with
  | some s => match pS T s.sh F H with
   | some x => aB (s.run x) fun z => aKC s.exits z k
   | none => none
  | none => none
 | .rangeFunc _ _ _ a, F, H, k => bif rd then none else match rt (aG a) with
  | some s => match pS T s.sh F H with
   | some x => aB (s.run x) fun z => aKC s.exits z k
   | none => none
  | none => none
 | .exit id, F, H, k => k (.exit id) F H
 | .ret, F, H, k => k .ret F H
 | _, _, _, _ => none
def VD (T : List Nat) (sh : List (Nat × Kd)) (exits : List (Ex × List (Nat × Kd))) (ex : Ex) (F : Frm) (H : Heap) : Option (Shape.den sh ⊕ aV exits) := match ex with
 | .normal => match pS T sh F H with
  | some y => some (.inl y)
  | none => none
 | .exit i => match EN T exits (.exit i) F H with
  | some z => some (.inr z)
  | none => none
 | .ret => match EN T exits .ret F H with
  | some z => some (.inr z)
  | none => none
def YN (a : Code) (sh : List (Nat × Kd)) (exits : List (Ex × List (Nat × Kd))) (x : Shape.den sh) : Option (Shape.den sh ⊕ aV exits) :=
 rT P E nt aU lt rt rd T a (o8 sh x 0) (wA sh x) (VD T sh exits)
end
def cD : Code → List Code
 | .seq a b => cD a ++ cD b
 | .cond _ a b => cD a ++ cD b
 | .block _ a => cD a
 | .loop a => [.loop a]
 | .rangeFunc g ps as1 a => [.rangeFunc g ps as1 a]
 | _ => []

section
variable {α : Type} {P : Program} {E : Env} {nt aU : Nat} {lt rt : Nat → Option aR} {rd : Bool} {T : List Nat}
def aH0 (P : Program) (nt : Nat) (rd : Bool) (T : List Nat) (c : Code) (F : Frm) (H : Heap) (r : Ex × Frm × Heap) : Prop :=
 ∀ (ro : Option Nat) (n : Nat) (n0 : Nat → Prop) (wi : World) (Gi : Gd) (μi : Mp) (a : Act) (w : World), (rd = false → ro = none) → (∀ r, ¬ r ∈ T → μi.loc r = none ∧ μi.len r = none) → IM n0 wi Gi μi nt F H a w →
  c.wpIn (Fr ro) n P (fun e a' w' => e = r.1.to ∧ IM n0 wi Gi μi nt r.2.1 r.2.2 a' w' ∧ (rd = true → a'.defers = a.defers)) a w
def vG (P : Program) (nt : Nat) (rd : Bool) (T : List Nat) (c : Code) (s : aR) : Prop :=
 ∀ x z, s.run x = some z → aH0 P nt rd T c (o8 s.sh x 0) (wA s.sh x) (rJ s.exits z)
def E3 (P : Program) (nt : Nat) (lt rt : Nat → Option aR) (rd : Bool) (T : List Nat) : Code → Prop
 | .loop a => ∀ s, lt (aG a) = some s → vG P nt rd T (.loop a) s
 | .rangeFunc g ps as1 a => rd = false → ∀ s, rt (aG a) = some s → vG P nt rd T (.rangeFunc g ps as1 a) s
 | _ => True

theorem IM.aOL {n0 : Nat → Prop} {wi : World} {Gi : Gd} {μi : Mp} {F F' : Frm} {H : Heap} {a : Act} {w : World} (h : IM n0 wi Gi μi nt F H a w) (hF : ∀ t, cN F' t = cN F t ∨ cN F' t = .junk) : IM n0 wi Gi μi nt F' H a w := by
 obtain ⟨G, μ, e, hW, hI, hm⟩ := h
 refine ⟨G, μ, e, hW, ⟨hI.size, fun t => ?_, rfl⟩, hm⟩
 rcases hF t with h1 | h1
 ·rw [h1]; exact hI.slot t
 ·rw [h1, VR]; trivial
theorem IM.same {n0 : Nat → Prop} {wi : World} {Gi : Gd} {μi : Mp} {F F' : Frm} {H H' : Heap} {a : Act} {w : World} (hfl : ∀ r, ¬ r ∈ T → μi.loc r = none ∧ μi.len r = none)
  (hs : ∀ {n0 : Nat → Prop} {wi : World} {Gi : Gd} {μi : Mp} {a : Act}, (∀ r, ¬ r ∈ T → μi.loc r = none ∧ μi.len r = none) → I n0 wi Gi μi nt F H a w → I n0 wi Gi μi nt F' H' a w) (h : IM n0 wi Gi μi nt F H a w) : IM n0 wi Gi μi nt F' H' a w := by
 obtain ⟨G, μ, e, hW, hF, hm⟩ := h
 have hS : ∀ b, ({ target := .collected b, args := #[] } : Deferred) ∈ a.defers → b < w.heap.size ∧ ∀ c t fr, w.heap[b]? ≠ some (.cells c t fr) := by
  intro b hb
  obtain ⟨b', e1, e2, _⟩ := hm.mem _ hb
  have : b = b' := by injection e1 with e1 _; injection e1
  subst this
  exact ⟨eZ e2, fun c t fr h => by rw [e2] at h; cases h⟩
 have e0 : Ext (fun b => n0 b ∧ ¬ ({ target := .collected b, args := #[] } : Deferred) ∈ a.defers) w G μi w G μ := ⟨⟨fun _ h => ⟨h, rfl⟩, e.map, e.len, fun _ _ h => h, fun _ _ h => h⟩, rfl, rfl, rfl, Nat.le_refl _, Nat.le_refl _, fun _ _ _ => rfl, fun _ h => .inl h⟩
 obtain ⟨G', μ', e', hW', hF'⟩ := hs (n0 := fun b => n0 b ∧ ¬ ({ target := .collected b, args := #[] } : Deferred) ∈ a.defers) (wi := w) (Gi := G) (μi := μi) (a := { a with defers := [] }) hfl ⟨G, μ, e0, hW.less hS, hF⟩
 refine ⟨G', μ', ?_, hW'.wider fun b hb => hb.1, hF', hm.to fun b hb h1 h2 => ⟨h1, fun hg => ?_⟩⟩
 ·exact {
   good := fun b hb => ⟨(e'.good b (e.good b hb).1).1, (e.good b hb).2⟩
   map := e'.map
   len := e'.len
   room := e.room
   row := fun j b hj => e'.row j b (e.row j b hj)
   os := e.os
   tape := e.tape
   output := e.output
   size := e.size
   drawn := e.drawn
   old := e.old
   new := fun b hb => by
    rcases e'.new b hb with h | h
    ·exact e.new b h
    ·exact .inr h.1 }
 ·rcases e'.new b hg with h | h
  ·exact h2 h
  ·exact h.2 hb

theorem IM.dec {n0 : Nat → Prop} {wi : World} {Gi : Gd} {μi : Mp} {F : Frm} {H : Heap} {a : Act} {w : World} (hfl : ∀ r, ¬ r ∈ T → μi.loc r = none ∧ μi.len r = none) {sh : List (Nat × Kd)} {x : Shape.den sh} (h : pS T sh F H = some x) (hI : IM n0 wi Gi μi nt F H a w) : IM n0 wi Gi μi nt (o8 sh x 0) (wA sh x) a w :=
 hI.same hfl fun hfl hI => uX h hfl hI
theorem AE {ex : Ex} {F : Frm} {H : Heap} : ∀ {l : List (Ex × List (Nat × Kd))} {z : aV l}, EN T l ex F H = some z →
  (rJ l z).1 = ex ∧ ∃ sh, ∃ x : Shape.den sh, pS T sh F H = some x ∧ (rJ l z).2.1 = o8 sh x 0 ∧ (rJ l z).2.2 = wA sh x
 | [], z, _ => Empty.elim z
 | [(e, s)], z, h => by
  simp only [EN] at h
  obtain ⟨hb, h⟩ := aI h
  exact ⟨XO hb, s, z, h, rfl, rfl⟩
 | (e, s) :: b :: r, z, h => by
  simp only [EN] at h
  cases hb : aI8 e ex with
  | true =>
   rw [hb] at h
   simp only [cond_true] at h
   split at h
   ·rename_i x hx
    simp only [Option.some.injEq] at h
    subst h
    exact ⟨XO hb, s, x, hx, rfl, rfl⟩
   ·cases h
  | false =>
   rw [hb] at h
   simp only [cond_false] at h
   split at h
   ·rename_i x hx
    simp only [Option.some.injEq] at h
    subst h
    exact AE (l := b :: r) (z := x) hx
   ·cases h
theorem IM.NG {n0 : Nat → Prop} {wi : World} {Gi : Gd} {μi : Mp} {F : Frm} {H : Heap} {a : Act} {w : World} {ex : Ex} (hfl : ∀ r, ¬ r ∈ T → μi.loc r = none ∧ μi.len r = none) {l : List (Ex × List (Nat × Kd))} {z : aV l} (h : EN T l ex F H = some z) (hI : IM n0 wi Gi μi nt F H a w) :
  (rJ l z).1 = ex ∧ IM n0 wi Gi μi nt (rJ l z).2.1 (rJ l z).2.2 a w := by
 obtain ⟨h1, sh, x, h2, h3, h4⟩ := AE h
 exact ⟨h1, by rw [h3, h4]; exact hI.dec hfl h2⟩

theorem jG (hcl : cQ P (dH P E)) (hP : P.follows .mixedOrders = true) : ∀ (c : Code) (F : Frm) (H : Heap) (k : Ex → Frm → Heap → Option α) (z : α), (∀ a ∈ cD c, E3 P nt lt rt rd T a) →
  rT P E nt aU lt rt rd T c F H k = some z → ∃ r : Ex × Frm × Heap, k r.1 r.2.1 r.2.2 = some z ∧ aH0 P nt rd T c F H r
 | .skip, F, H, k, z, hl, h => ⟨(.normal, F, H), h, fun _ _ _ _ _ _ _ _ _ _ hI => wpIn_skip ⟨rfl, hI, fun _ => rfl⟩⟩
 | .label l, F, H, k, z, hl, h => ⟨(.normal, F, H), h, fun _ _ _ _ _ _ _ _ _ _ hI => wpIn_label ⟨rfl, hI, fun _ => rfl⟩⟩
 | .region id ops draw, F, H, k, z, hl, h => by
  simp only [rT] at h
  obtain ⟨hd, h⟩ := aI h
  obtain ⟨F1, H1, h1, h2⟩ := aA7 (id := id) hcl hP hd h
  obtain ⟨F2, h3, h4⟩ := wD aU F1 fun F => k .normal F H1
  rw [h3] at h1
  exact ⟨(.normal, F2, H1), h1, fun _ _ _ _ _ _ _ _ _ _ hI => h2 hI fun a' w' hd' hI' => ⟨rfl, hI'.aOL h4, fun _ => hd'⟩⟩
 | .seq x y, F, H, k, z, hl, h => by
  simp only [rT] at h
  obtain ⟨⟨ex, F1, H1⟩, h1, h2⟩ := jG hcl hP x F H _ z (fun a ha => hl a (by simp [cD, ha])) h
  cases ex with
  | normal =>
   obtain ⟨r, h3, h4⟩ := jG hcl hP y F1 H1 k z (fun a ha => hl a (by simp [cD, ha])) h1
   refine ⟨r, h3, fun ro n n0 wi Gi μi a w hro hfl hI => wpIn_seq (wpIn_mono (h2 ro n n0 wi Gi μi a w hro hfl hI) ?_)⟩
   rintro e a' w' ⟨rfl, hI', hd'⟩
   refine wpIn_mono (h4 ro n n0 wi Gi μi a' w' hro hfl hI') ?_
   rintro e a'' w'' ⟨e1, e2, e3⟩
   exact ⟨e1, e2, fun hr => (e3 hr).trans (hd' hr)⟩
  | exit i =>
   refine ⟨(.exit i, F1, H1), h1, fun ro n n0 wi Gi μi a w hro hfl hI => wpIn_seq (wpIn_mono (h2 ro n n0 wi Gi μi a w hro hfl hI) ?_)⟩
   rintro e a' w' ⟨rfl, hI'⟩
   exact ⟨rfl, hI'⟩
  | ret =>
   refine ⟨(.ret, F1, H1), h1, fun ro n n0 wi Gi μi a w hro hfl hI => wpIn_seq (wpIn_mono (h2 ro n n0 wi Gi μi a w hro hfl hI) ?_)⟩
   rintro e a' w' ⟨rfl, hI'⟩
   exact ⟨rfl, hI'⟩
 | .cond c x y, F, H, k, z, hl, h => by
  simp only [rT] at h
  split at h
  ·rename_i t ht
   replace h := AH h ht
   have hc : ∀ {n0 wi Gi μi a w}, IM n0 wi Gi μi nt F H a w → a.eval c = .bool t := fun {n0 wi Gi μi a w} hI => by
    obtain ⟨G, μ, e, hW, hF, _⟩ := hI
    have hc := cG hF c
    rw [ht, VR] at hc
    rw [← hc]
    cases c <;> rfl
   cases t with
   | true =>
    obtain ⟨r, h3, h4⟩ := jG hcl hP x F H k z (fun a ha => hl a (by simp [cD, ha])) h
    exact ⟨r, h3, fun ro n n0 wi Gi μi a w hro hfl hI => wpIn_cond (hc hI) (h4 ro n n0 wi Gi μi a w hro hfl hI)⟩
   | false =>
    obtain ⟨r, h3, h4⟩ := jG hcl hP y F H k z (fun a ha => hl a (by simp [cD, ha])) h
    exact ⟨r, h3, fun ro n n0 wi Gi μi a w hro hfl hI => wpIn_cond (hc hI) (h4 ro n n0 wi Gi μi a w hro hfl hI)⟩
  ·cases h
 | .block id x, F, H, k, z, hl, h => by
  simp only [rT] at h
  obtain ⟨⟨ex, F1, H1⟩, h1, h2⟩ := jG hcl hP x F H _ z (fun a ha => hl a (by simp [cD, ha])) h
  cases ex with
  | normal =>
   refine ⟨(.normal, F1, H1), h1, fun ro n n0 wi Gi μi a w hro hfl hI => wpIn_block (wpIn_mono (h2 ro n n0 wi Gi μi a w hro hfl hI) ?_)⟩
   rintro e a' w' ⟨rfl, hI'⟩
   exact ⟨rfl, hI'⟩
  | ret =>
   refine ⟨(.ret, F1, H1), h1, fun ro n n0 wi Gi μi a w hro hfl hI => wpIn_block (wpIn_mono (h2 ro n n0 wi Gi μi a w hro hfl hI) ?_)⟩
   rintro e a' w' ⟨rfl, hI'⟩
   exact ⟨rfl, hI'⟩
  | exit i =>
   simp only at h1
   cases hi : Nat.beq i id with
   | true =>
    rw [hi] at h1
    have := Nat.eq_of_beq_eq_true hi
    subst this
    refine ⟨(.normal, F1, H1), h1, fun ro n n0 wi Gi μi a w hro hfl hI => wpIn_block (wpIn_mono (h2 ro n n0 wi Gi μi a w hro hfl hI) ?_)⟩
    rintro e a' w' ⟨rfl, hI'⟩
    simp only [Ex.to, Exit.inBlock, if_true]
    exact ⟨trivial, hI'⟩
   | false =>
    rw [hi] at h1
    have hne : ¬ i = id := fun e => by rw [e] at hi; simp at hi
    refine ⟨(.exit i, F1, H1), h1, fun ro n n0 wi Gi μi a w hro hfl hI => wpIn_block (wpIn_mono (h2 ro n n0 wi Gi μi a w hro hfl hI) ?_)⟩
    rintro e a' w' ⟨rfl, hI'⟩
    simp only [Ex.to, Exit.inBlock, hne, if_false]
    exact ⟨trivial, hI'⟩
 | .loop x, F, H, k, z, hl, h => by
  simp only [rT] at h
  split at h
  ·rename_i s hs
   split at h
   ·rename_i x0 hx
    obtain ⟨y, h1, h2⟩ := oC h
    exact ⟨rJ s.exits y, AL h2, fun ro n n0 wi Gi μi a w hro hfl hI => hl (.loop x) (by simp [cD]) s hs x0 y h1 ro n n0 wi Gi μi a w hro hfl (hI.dec hfl hx)⟩
   ·cases h
  ·cases h
 | .rangeFunc g ps as1 x, F, H, k, z, hl, h => by
  simp only [rT] at h
  cases hrd : rd with
  | true => rw [hrd] at h; cases h
  | false =>
   rw [hrd] at h
   simp only [cond_false] at h
   split at h
   ·rename_i s hs
    split at h
    ·rename_i x0 hx
     obtain ⟨y, h1, h2⟩ := oC h
     refine ⟨rJ s.exits y, AL h2, fun ro n n0 wi Gi μi a w hro hfl hI => ?_⟩
     have := hl (.rangeFunc g ps as1 x) (by simp [cD]) hrd s hs x0 y h1 ro n n0 wi Gi μi a w (by rw [hrd]; exact hro) hfl (hI.dec hfl hx)
     rw [hrd] at this
     exact this
    ·cases h
   ·cases h
 | .exit id, F, H, k, z, hl, h => ⟨(.exit id, F, H), h, fun _ _ _ _ _ _ _ _ _ _ hI => wpIn_exit ⟨rfl, hI, fun _ => rfl⟩⟩
 | .scope x, F, H, k, z, hl, h => by simp only [rT] at h; cases h
 | .ret, F, H, k, z, hl, h => ⟨(.ret, F, H), h, fun _ _ _ _ _ _ _ _ _ _ hI => wpIn_ret ⟨rfl, hI, fun _ => rfl⟩⟩
 | .goto l, F, H, k, z, hl, h => by simp only [rT] at h; cases h
 | .refuse s, F, H, k, z, hl, h => by simp only [rT] at h; cases h

theorem F7 {sh : List (Nat × Kd)} {exits : List (Ex × List (Nat × Kd))} {ex : Ex} {F : Frm} {H : Heap} {y : Shape.den sh ⊕ aV exits} (h : VD T sh exits ex F H = some y) :
  (∃ x, y = .inl x ∧ ex = .normal ∧ pS T sh F H = some x) ∨ (∃ z, y = .inr z ∧ ex ≠ .normal ∧ EN T exits ex F H = some z) := by
 cases ex with
 | normal =>
  simp only [VD] at h
  split at h
  ·rename_i x hx
   exact .inl ⟨x, (Option.some.inj h).symm, rfl, hx⟩
  ·cases h
 | exit i =>
  simp only [VD] at h
  split at h
  ·rename_i x hx
   exact .inr ⟨x, (Option.some.inj h).symm, by simp, hx⟩
  ·cases h
 | ret =>
  simp only [VD] at h
  split at h
  ·rename_i x hx
   exact .inr ⟨x, (Option.some.inj h).symm, by simp, hx⟩
  ·cases h

theorem RU (hcl : cQ P (dH P E)) (hP : P.follows .mixedOrders = true) {a : Code} {sh : List (Nat × Kd)} {exits : List (Ex × List (Nat × Kd))} {step : Shape.den sh → Option (Shape.den sh ⊕ aV exits)} (L : Nat)
  (hl : ∀ b ∈ cD a, E3 P nt lt rt rd T b) (hr : ∀ x, YN P E nt aU lt rt rd T a sh exits x = step x) : vG P nt rd T (.loop a) ⟨sh, exits, bS step L⟩ := by
 intro x z hz ro n n0 wi Gi μi act w hro hfl hI
 refine wpIn_loop_ghost (fun k a w => (∃ x, bS step k x = some z ∧ IM n0 wi Gi μi nt (o8 sh x 0) (wA sh x) a w) ∧ (rd = true → a.defers = act.defers)) L ⟨⟨x, hz, hI⟩, fun _ => rfl⟩ ?_
 rintro k act1 w ⟨⟨x, hz, hI⟩, hdef⟩
 cases k with
 | zero => cases hz
 | succ k =>
  simp only [bS] at hz
  split at hz
  ·rename_i y hs
   rw [← hr] at hs
   obtain ⟨⟨ex, F', H'⟩, h1, h2⟩ := jG hcl hP a _ _ _ _ hl hs
   refine wpIn_mono (h2 ro n n0 wi Gi μi act1 w hro hfl hI) ?_
   rintro e a' w' ⟨rfl, hI', hd'⟩
   rcases F7 h1 with ⟨y', e1, e2, e3⟩ | ⟨z', e1, _, _⟩
   ·cases e1
    dsimp only at e2
    subst e2
    exact ⟨k, by omega, ⟨y, hz, hI'.dec hfl e3⟩, fun hr => (hd' hr).trans (hdef hr)⟩
   ·cases e1
  ·rename_i y hs
   simp only [Option.some.injEq] at hz
   subst hz
   rw [← hr] at hs
   obtain ⟨⟨ex, F', H'⟩, h1, h2⟩ := jG hcl hP a _ _ _ _ hl hs
   refine wpIn_mono (h2 ro n n0 wi Gi μi act1 w hro hfl hI) ?_
   rintro e a' w' ⟨rfl, hI', hd'⟩
   rcases F7 h1 with ⟨y', e1, e2, e3⟩ | ⟨z', e1, e2, e3⟩
   ·cases e1
   ·cases e1
    dsimp only at e2 e3 hI'
    obtain ⟨h3, h5⟩ := hI'.NG hfl e3
    have h6 : (rd = true → a'.defers = act.defers) := fun hr => (hd' hr).trans (hdef hr)
    cases ex with
    | normal => exact absurd rfl e2
    | exit i => exact ⟨by rw [h3], h5, h6⟩
    | ret => exact ⟨by rw [h3], h5, h6⟩
  ·cases hz
end
end Go.PM
set_option linter.unusedSimpArgs false
set_option linter.unusedVariables false
namespace Go.PM
open Go Go.RowKit
def OP : Kd → Nat → List Nat
 | .own _ _, n | .box _ _, n | .bown _ _ _, n | .bag _ _ _ _ _, n => [n]
 | .win j _, _ => [j]
 | _, _ => []
def r8 : List (Nat × Kd) → Nat → List Nat
 | [], _ => []
 | (_, k) :: r, n => OP k n ++ r8 r (n + k.pos)
structure Stp (S : Nat → Prop) (B A : World) : Prop where
 aU : ∀ b, b < B.heap.size → ¬ S b → A.heap[b]? = B.heap[b]?
 room : ∀ b n, Room B b n → Room A b n
 os : A.os = B.os
 tape : A.tape = B.tape
 output : A.output = B.output
 size : B.heap.size ≤ A.heap.size
 drawn : B.drawn ≤ A.drawn
theorem Stp.trans {S : Nat → Prop} {A B C : World} (h : Stp S A B) (k : Stp S B C) : Stp S A C :=
 ⟨fun b hb hs => (k.aU b (Nat.lt_of_lt_of_le hb h.size) hs).trans (h.aU b hb hs), fun b n hr => k.room b n (h.room b n hr), k.os.trans h.os, k.tape.trans h.tape, k.output.trans h.output, Nat.le_trans h.size k.size, Nat.le_trans h.drawn k.drawn⟩

def O5 (P : Program) (gf : FuncId) (ts : List Ty) (ks : List Kd) (f : uJ ts → Option (List (aH ks))) : Prop :=
 ∀ x all, f x = some all → ∀ (m l : Nat) (W : World) (G : Nat → Prop) (vs : List Value), Lt W G → VRs W (Gd.of G) aM (HV ts x) vs →
  ∀ (J Jx : List (aH ks) → (Nat → Prop) → (Nat → Prop) → World → Prop),
  (∀ pre e post T X B T' X' A us Gx m', all = pre ++ e :: post → J pre T X B → Stp X B A → (∀ b, T' b → (T b ∨ B.heap.size ≤ b) ∧ b < A.heap.size) → (∀ b, X' b → T' b ∧ (X b ∨ B.heap.size ≤ b)) →
   (∀ b, Gx b → (G b ∨ T' b) ∧ ¬ X' b) → VRs A (Gd.of Gx) aM (iE ks e) us →
   YieldAt Fence.wide m' P l us.toArray A fun en C =>
    ((∀ b, b < A.heap.size → G b ∨ T' b → C.heap[b]? = A.heap[b]?) ∧ (∀ b n, Room A b n → Room C b n) ∧ A.heap.size ≤ C.heap.size ∧ A.drawn ≤ C.drawn) ∧ ((en = .returned (.bool true) ∧ J (pre ++ [e]) T' X' C) ∨ (en = .returned (.bool false) ∧ Jx (pre ++ [e]) T' X' C))) →
  J [] (fun _ => False) (fun _ => False) W →
  CallsIn Fence.wide m P gf ((#[.func (.yield l) #[] #[]] : Array Value) ++ vs.toArray) W fun en C => (∃ v, en = .returned v) ∧ ∃ T X B, Stp X B C ∧ (J all T X B ∨ ∃ pre, Jx pre T X B)

def qK {σ τ ε : Type} (step : σ → ε → Option (σ ⊕ τ)) (fin : σ → Option τ) : List ε → σ → Option τ
 | [], y => fin y
 | e :: es, y => match step y e with
  | some (.inl y') => qK step fin es y'
  | some (.inr z) => some z
  | none => none
def aCZ : List Nat → List PV → Frm → Frm
 | t :: ts, p :: ps, F => aCZ ts ps ((t, p) :: F)
 | _, _, F => F
def aY5 (sh : List (Nat × Kd)) (exits : List (Ex × List (Nat × Kd))) (F0 : Frm) (ex : Ex) (_ : Frm) (H : Heap) : Option (Shape.den sh ⊕ aV exits) := VD [] sh exits ex F0 H
def JX (P : Program) (E : Env) (nt aU : Nat) (lt rt : Nat → Option aR) (ps : List Nat) (assign body : Code) (ks : List Kd) (sh : List (Nat × Kd)) (exits : List (Ex × List (Nat × Kd))) (y : Shape.den sh) (e : aH ks) : Option (Shape.den sh ⊕ aV exits) :=
 bif Nat.beq ps.length ks.length && ps.all (fun t => Nat.blt t nt) then
  rT P E nt aU lt rt true (r8 sh 0) assign (aCZ ps (iE ks e) (o8 sh y 0)) (wA sh y) fun ex F H => match ex with
   | .normal => rT P E nt aU lt rt true (r8 sh 0) body F H (aY5 sh exits (o8 sh y 0))
   | _ => none
 else none
def aH1 (sh : List (Nat × Kd)) (exits : List (Ex × List (Nat × Kd))) (y : Shape.den sh) : Option (aV exits) := EN [] exits .normal (o8 sh y 0) (wA sh y)
def TT (sh : List (Nat × Kd)) (exits : List (Ex × List (Nat × Kd))) {ε : Type} (all : Shape.den sh → Option (List ε)) (step : Shape.den sh → ε → Option (Shape.den sh ⊕ aV exits)) (x : Shape.den sh) : Option (aV exits) :=
 match all x with
 | some l => qK step (aH1 sh exits) l x
 | none => none
def aAI (gf : FuncId) (ts : List Ty) (sh : List (Nat × Kd)) (g : Operand) (x : Shape.den sh) : Option (uJ ts) := bif ts.all Ty.plain then aEZ gf ts (ev (o8 sh x 0) g) else none

section
variable {P : Program} {n0 : Nat → Prop} {w wi : World} {G Gi : Gd} {μ μi : Mp} {H : Heap} {F : Frm} {a : Act} {nt : Nat}
theorem tY {l : Nat} {o o' : Obj} (hl : w.heap[l]? = some o) (ho : ∀ c t fr, o ≠ .cells c t fr) (hG : ¬ G l) : Mono w G μ (w.putObj l o') G μ :=
 ⟨fun b hb => ⟨hb, World.putObj_heap_other (by rintro rfl; exact hG hb)⟩, fun _ _ h => h, fun _ _ h => h, fun b n ⟨cs, t, fr, h1, h2⟩ => ⟨cs, t, fr, by
  rw [World.putObj_heap_other]
  ·exact h1
  ·rintro rfl
   rw [hl] at h1
   exact ho cs t fr (Option.some.inj h1), h2⟩, fun _ _ h => h⟩
theorem DF (hW : aW n0 G μ H w) {l : Nat} {o o' : Obj} (hl : w.heap[l]? = some o) (ho : ∀ c t fr, o ≠ .cells c t fr) (hG : ¬ G l) : aW n0 G μ H (w.putObj l o') := by
 have m := tY (μ := μ) (o' := o') hl ho hG
 refine ⟨?_, hW.tags, hW.inj, hW.lt.step m.good fun b hb => by rw [World.putObj_size]; exact hW.lt b hb, hW.top, fun b hb => hW.base b (by rw [World.putObj_size] at hb; exact hb), hW.rows.step m.aM (by rw [World.putObj_size]; exact Nat.le_refl _) (fun _ => rfl) (fun j b hj => ⟨?_, id, fun r k h1 h2 h3 => ⟨r, k, h1, h2, h3⟩⟩) (fun r k _ _ h1 _ _ => ⟨k, h1, rfl, rfl, rfl, rfl⟩)⟩
 case refine_2 =>
  rw [World.putObj_heap_other]
  rintro rfl
  obtain ⟨c, t, fr, hc⟩ := hW.rows.cel j _ hj
  rw [hl] at hc
  exact ho c t fr (Option.some.inj hc)
 intro r k b hr hb
 obtain ⟨c, h1, h2, h3, h4⟩ := hW.blk r k b hr hb
 have e : (w.putObj l o').heap[b]? = w.heap[b]? := by
  rw [World.putObj_heap_other]
  rintro rfl
  rw [hl] at h1
  exact ho _ _ _ (Option.some.inj h1)
 exact ⟨c, e.trans h1, aQ.mono m e 0 _ h2, h3, h4⟩
theorem IK {l : Nat} {o o' : Obj} (hl : w.heap[l]? = some o) (ho : ∀ c t fr, o ≠ .cells c t fr) (hG : ¬ G l) (hn : n0 l) : Ext n0 w G μ (w.putObj l o') G μ :=
 {toMono := tY hl ho hG
  os := rfl
  tape := rfl
  output := rfl
  size := by simp
  drawn := Nat.le_refl _
  old := fun b hb hnb => World.putObj_heap_other (by rintro rfl; exact hnb hn)
  new := fun b hb => .inl hb }

theorem aNT {T X T' Gx G1 : Nat → Prop} {A B : World} (hW : aW (fun b => n0 b ∧ ¬ T b) G μ H B) (hn : ∀ b, T b → n0 b) (hTX : ∀ b, X b → T b) (hGX : ∀ b, G b → ¬ X b) (hG1 : ∀ b, G1 b → G b) (st : Stp X B A) (hT : ∀ b, T' b → (T b ∨ B.heap.size ≤ b) ∧ b < A.heap.size) (hx : ∀ b, Gx b → G1 b ∨ T' b) :
  Ext n0 B G μ A (G.or Gx) μ := {
 good := fun b hb => ⟨.inl hb, st.aU b (hW.lt b hb) (hGX b hb)⟩
 map := fun _ _ h => h
 len := fun _ _ h => h
 room := st.room
 row := fun _ _ h => h
 os := st.os
 tape := st.tape
 output := st.output
 size := st.size
 drawn := st.drawn
 old := fun b hb hnb => st.aU b hb fun hs => hnb (hn b (hTX b hs))
 new := fun b hb => by
  rcases hb with hb | hb
  ·exact .inl hb
  ·rcases hx b hb with h | h
   ·exact .inl (hG1 b h)
   ·rcases (hT b h).1 with h | h
    ·exact .inr (hn b h)
    ·exact .inr (hW.base b h).1 }
theorem aIJ {T X T' Gx G1 : Nat → Prop} {A B : World} (hW : aW (fun b => n0 b ∧ ¬ T b) G μ H B) (hTX : ∀ b, X b → T b) (hGX : ∀ b, G b → ¬ X b) (hG1 : ∀ b, G1 b → G b) (st : Stp X B A) (hT : ∀ b, T' b → (T b ∨ B.heap.size ≤ b) ∧ b < A.heap.size) (hx : ∀ b, Gx b → G1 b ∨ T' b) :
  aW (fun b => n0 b ∧ ¬ T' b) (G.or Gx) μ H A := by
 have m : Mono B G μ A (G.or Gx) μ := ⟨fun b hb => ⟨.inl hb, st.aU b (hW.lt b hb) (hGX b hb)⟩, fun _ _ h => h, fun _ _ h => h, st.room, fun _ _ h => h⟩
 refine ⟨?_, hW.tags, hW.inj, ?_, hW.top, fun b hb => ⟨(hW.base b (Nat.le_trans st.size hb)).1, fun hs => Nat.lt_irrefl _ (Nat.lt_of_lt_of_le (hT b hs).2 hb)⟩, ?_⟩
 case refine_3 =>
  have nT : ∀ j b, G.row j = some b → ¬ T' b := fun j b hj hs => by
   obtain ⟨a1, a2, _⟩ := hW.rows.sep j b hj
   rcases (hT b hs).1 with h | h
   ·exact a2.2 h
   ·omega
  refine (hW.rows.QK (n1 := fun b => n0 b ∧ ¬ T' b) fun j b hj hn => ⟨hn.1, nT j b hj⟩).step m.aM st.size (fun _ => rfl) (fun j b hj => ⟨?_, ?_, fun r k h1 h2 h3 => ⟨r, k, h1, h2, h3⟩⟩) (fun r k _ _ h1 _ _ => ⟨k, h1, rfl, rfl, rfl, rfl⟩)
  ·obtain ⟨a1, a2, _⟩ := hW.rows.sep j b hj
   exact st.aU b a1 fun hx => a2.2 (hTX b hx)
  ·rintro (h | h)
   ·exact h
   ·rcases hx b h with h' | h'
    ·exact hG1 b h'
    ·exact absurd h' (nT j b hj)
 ·intro r k b hr hb
  obtain ⟨c, h1, h2, h3, h4, h5⟩ := hW.blk r k b hr hb
  have hlt := hW.j5 hr hb
  have hns : ¬ X b := by
   cases hf : k.frozen with
   | true => exact hGX b (h4 hf)
   | false => exact fun hx => (h5 hf).1.2 (hTX b hx)
  have e := st.aU b hlt hns
  have nT : k.frozen = false → ¬ T' b := fun hf hs => by
   rcases (hT b hs).1 with h | h
   ·exact (h5 hf).1.2 h
   ·omega
  refine ⟨c, e.trans h1, aQ.mono m e 0 _ h2, h3, fun hf => .inl (h4 hf), fun hf => ⟨⟨(h5 hf).1.1, nT hf⟩, ?_⟩⟩
  rintro (h | h)
  ·exact (h5 hf).2 h
  ·rcases hx b h with h' | h'
   ·exact (h5 hf).2 (hG1 b h')
   ·exact nT hf h'
 ·refine hW.lt.step m.good ?_
  rintro b (hb | hb)
  ·exact Nat.lt_of_lt_of_le (hW.lt b hb) st.size
  ·rcases hx b hb with h | h
   ·exact Nat.lt_of_lt_of_le (hW.lt b (hG1 b h)) st.size
   ·exact (hT b h).2

theorem aD7 : ∀ {ps : List Nat} {qs : List PV} {us : List Value} {F : Frm} {tmps : Array Value}, ps.length = qs.length → (∀ t ∈ ps, t < nt) → VRs w G μ qs us → eK w G μ nt F { tmps := tmps, defers := [] } →
  eK w G μ nt (aCZ ps qs F) { tmps := (ps.zip us).foldl (fun t (p, v) => t.setIfInBounds p v) tmps, defers := [] }
 | [], [], us, F, tmps, _, _, hv, hF => by
  simp only [aCZ, List.zip_nil_left, List.foldl_nil]; exact hF
 | t :: ts, q :: qs, us, F, tmps, hl, hb, hv, hF => by
  rw [VRs] at hv
  obtain ⟨v, vs, rfl, h1, h2⟩ := hv
  simp only [aCZ, List.zip_cons_cons, List.foldl_cons]
  exact aD7 (by simpa using hl) (fun s hs => hb s (List.mem_cons_of_mem _ hs)) h2 (hF.cons (hb t List.mem_cons_self) h1)
 | [], _ :: _, us, F, tmps, hl, _, _, _ => by simp at hl
 | _ :: _, [], us, F, tmps, hl, _, _, _ => by simp at hl
end
end Go.PM
set_option linter.unusedSimpArgs false
set_option linter.unusedVariables false
namespace Go.PM
open Go Go.RowKit
def sX (μ : Mp) (T : List Nat) : Mp := ⟨fun r => if r ∈ T then μ.loc r else none, fun r => if r ∈ T then μ.len r else none⟩

section
variable {P : Program} {n0 : Nat → Prop} {w w' wi : World} {G G' Gi : Gd} {μ μ' μi : Mp} {H : Heap} {F : Frm} {a : Act} {nt : Nat}
theorem wJ {T : List Nat} {r : Nat} (h : r ∈ T) : (sX μ T).loc r = μ.loc r ∧ (sX μ T).len r = μ.len r := by simp [sX, h]
theorem II {T : List Nat} : ∀ r, ¬ r ∈ T → (sX μ T).loc r = none ∧ (sX μ T).len r = none := fun r h => by simp [sX, h]
theorem N8 (T : List Nat) : Ext n0 w G (sX μ T) w G μ := {
 good := fun _ h => ⟨h, rfl⟩
 map := fun r b hr => by
  by_cases h : r ∈ T
  ·rw [(wJ h).1] at hr; exact hr
  ·rw [(II r h).1] at hr; cases hr
 len := fun r b hr => by
  by_cases h : r ∈ T
  ·rw [(wJ h).2] at hr; exact hr
  ·rw [(II r h).2] at hr; cases hr
 room := fun _ _ h => h
 row := fun _ _ h => h
 os := rfl
 tape := rfl
 output := rfl
 size := Nat.le_refl _
 drawn := Nat.le_refl _
 old := fun _ _ _ => rfl
 new := fun _ h => .inl h }
theorem P5 : ∀ (ts : List Ty) (x : uJ ts), cZ.noRefs (HV ts x) = true
 | [], _ => rfl
 | t :: r, (x, xs) => by simp only [HV, cZ.noRefs, cZ, P5 r xs, Bool.and_self]
theorem aP2 {T : List Nat} : ∀ (k : Kd) (x : k.den) (n : Nat) {v : Value}, (∀ r, r ∈ OP k n → r ∈ T) → VR w G μ (pO k x n) v → VR w G (sX μ T) (pO k x n) v
 | .int _, x, n, v, _, h => by simp only [pO] at h ⊢; rw [VR] at h ⊢; exact h
 | .bool, x, n, v, _, h => by simp only [pO] at h ⊢; rw [VR] at h ⊢; exact h
 | .str, x, n, v, _, h => by simp only [pO] at h ⊢; rw [VR] at h ⊢; exact h
 | .list t, x, n, v, _, h => (qH (pO (.list t) x n) v rfl h).bF
 | .agg t, x, n, v, _, h => (qH (pO (.agg t) x n) v (by simp only [pO, cZ]; exact CL t x) h).bF
 | .own e t, x, n, v, hT, h => by
  have := wJ (μ := μ) (hT n (by simp [OP]))
  simp only [pO] at h ⊢
  rw [VR] at h ⊢; rw [this.1, this.2]; exact h
 | .box e t, x, n, v, hT, h => by
  have := wJ (μ := μ) (hT n (by simp [OP]))
  simp only [pO] at h ⊢
  rw [VR] at h ⊢; rw [this.1]; exact h
 | .bown e et t, x, n, v, hT, h => by
  have := wJ (μ := μ) (hT n (by simp [OP]))
  simp only [pO] at h ⊢
  rw [VR] at h ⊢; rw [this.1]; exact h
 | .bag e t1 et t t2, x, n, v, hT, h => by
  have := wJ (μ := μ) (hT n (by simp [OP]))
  simp only [pO] at h ⊢
  rw [VR] at h ⊢; rw [this.1]; exact h
 | .ptr t, x, n, v, _, h => (qH (pO (.ptr t) x n) v rfl h).bF
 | .fn g, x, n, v, _, h => by simp only [pO] at h ⊢; rw [VR] at h ⊢; exact h
 | .nil0, x, n, v, _, h => by simp only [pO] at h ⊢; rw [VR] at h ⊢; exact h
 | .val, x, n, v, _, h => by simp only [pO] at h ⊢; rw [VR] at h ⊢; exact h
 | .hnd sz, x, n, v, _, h => (qH (pO (.hnd sz) x n) v rfl h).bF
 | .ar e t, x, n, v, _, h => by simp only [pO]; rw [VR]; trivial
 | .nilI, x, n, v, _, h => by simp only [pO] at h ⊢; rw [VR] at h ⊢; exact h
 | .clo g ts, x, n, v, _, h => (qH (pO (.clo g ts) x n) v (by simp only [pO, cZ, cZ.noRefs, P5 ts x, Bool.and_self]) h).bF
 | .win j sz, x, n, v, hT, h => by
  have := wJ (μ := μ) (hT j (by simp [OP]))
  simp only [pO] at h ⊢
  rw [VR] at h ⊢; rw [this.1, this.2]; exact h
theorem aDJ {T : List Nat} : ∀ (sh : List (Nat × Kd)) (x : Shape.den sh) (n : Nat) {t : Nat} {v : Value}, (∀ r, r ∈ r8 sh n → r ∈ T) → VR w G μ (cN (o8 sh x n) t) v → VR w G (sX μ T) (cN (o8 sh x n) t) v
 | [], _, _, t, v, _, h => by simp only [o8, cN]; rw [VR]; trivial
 | (s, k) :: r, (x, xs), n, t, v, hT, h => by
  simp only [o8] at h ⊢
  rw [dW] at h ⊢
  by_cases hs : t = s
  ·rw [if_pos hs] at h ⊢
   exact aP2 k x n (fun r hr => hT r (by simp only [r8]; exact List.mem_append_left _ hr)) h
  ·rw [if_neg hs] at h ⊢
   exact aDJ r xs (n + k.pos) (fun r hr => hT r (by simp only [r8]; exact List.mem_append_right _ hr)) h

theorem U9 (hW : aW n0 G μ H w) (o : Obj) : Ext n0 w G μ (w.alloc o) G μ ∧ aW n0 G μ H (w.alloc o) := by
 have e : Ext n0 w G μ (w.alloc o) G μ := {
  good := fun b hb => ⟨hb, Below.heap_alloc _ _ _ (hW.lt b hb)⟩
  map := fun _ _ h => h
  len := fun _ _ h => h
  room := fun b n hc => by
   obtain ⟨cs, t, fr, h1, h2⟩ := hc
   exact ⟨cs, t, fr, by rw [Below.heap_alloc _ _ _ (eZ h1)]; exact h1, h2⟩
  row := fun _ _ h => h
  os := rfl
  tape := rfl
  output := rfl
  size := by simp
  drawn := Nat.le_refl _
  old := fun b hb _ => Below.heap_alloc _ _ _ hb
  new := fun b hb => .inl hb }
 exact ⟨e, hW.aU e ⟨fun _ => rfl, fun j b hj => ⟨Below.heap_alloc _ _ _ (hW.rows.sep j b hj).1, id⟩⟩ (fun r k b hr hb => ⟨Below.heap_alloc _ _ _ (hW.j5 hr hb), id⟩) fun b hb => Nat.lt_of_lt_of_le (hW.lt b hb) e.size⟩
theorem Ext.plain (h : Ext n0 w G μ w' G' μ') : Ext n0 w G aM w' G' aM :=
 {good := h.good, map := fun _ _ h => (by cases h), len := fun _ _ h => (by cases h), room := h.room, row := h.row, os := h.os, tape := h.tape, output := h.output, size := h.size, drawn := h.drawn, old := h.old, new := h.new }
theorem Ext.back (hfl : ∀ r, μi.loc r = none ∧ μi.len r = none) (h : Ext n0 w G aM w' G' aM) : Ext n0 w G μi w' G' μ' :=
 {good := h.good, map := fun r b hr => (by rw [(hfl r).1] at hr; cases hr), len := fun r b hr => (by rw [(hfl r).2] at hr; cases hr), room := h.room, row := h.row, os := h.os, tape := h.tape, output := h.output, size := h.size, drawn := h.drawn, old := h.old, new := h.new }

def Ex.code : Ex → Code
 | .normal => .skip
 | .ret => .ret
 | .exit i => .exit i

structure Btw (n0 : Nat → Prop) (wi : World) (Gi : Gd) (μi : Mp) (nt : Nat) (a : Act) (G0 : Gd) (N L D : Nat) (F : Frm) (H : Heap) (T X : Nat → Prop) (B : World) (rec : Obj) (G : Gd) (μ : Mp) : Prop where
 ext : Ext n0 wi Gi μi B G μ
 winv : aW (fun b => n0 b ∧ ¬ T b) G μ H B
 finv : eK B G μ nt F { a with defers := [] }
 base : ∀ b, G0 b → G b
 good : ∀ b, G b → ¬ X b
 sub : ∀ b, X b → T b
 seq : ∀ b, T b → n0 b ∧ N ≤ b
 size : N ≤ B.heap.size
 notL : ¬ G L
 notD : ¬ G D
 atL : B.heap[L]? = some rec
 atD : B.heap[D]? = some (.deferred (some []))
 marks : Marks wi B G a.defers

theorem aOR {gf : FuncId} {ts : List Ty} {c : uJ ts} {v : Value} (h : VR w G aM (.clo (.func gf) [] (HV ts c)) v) : ∃ cs : Array Value, v = .func (.func gf) #[] cs ∧ VRs w G aM (HV ts c) cs.toList := by
 rw [VR] at h
 obtain ⟨fs, cs, h1, h2, h3⟩ := h
 rw [VRs] at h2
 have : fs = #[] := by
  apply Array.ext'
  simpa using h2
 subst this
 exact ⟨cs, h1, h3⟩
theorem LC : ∀ (l : List Kd) (x : aH l), (iE l x).length = l.length
 | [], _ => rfl
 | k :: r, (x, xs) => by simp only [iE, List.length_cons, LC r xs]

set_option maxHeartbeats 2000000 in
theorem aVC {E : Env} {aU : Nat} {lt rt : Nat → Option aR} (hcl : cQ P (dH P E)) (hP : P.follows .mixedOrders = true) {g : Operand} {ps : Array Tmp} {as1 body : Code} {gf : FuncId} {ts : List Ty} {ks : List Kd} {f : uJ ts → Option (List (aH ks))}
  (hit : O5 P gf ts ks f) (hgf : ∀ args w, (callFunc gf args).run P w = .ok (.enter gf args) w)
  {sh : List (Nat × Kd)} {exits : List (Ex × List (Nat × Kd))} {step : Shape.den sh → aH ks → Option (Shape.den sh ⊕ aV exits)} {all : Shape.den sh → Option (List (aH ks))}
  (has : ∀ b ∈ cD as1, E3 P nt lt rt true (r8 sh 0) b) (hbd : ∀ b ∈ cD body, E3 P nt lt rt true (r8 sh 0) b)
  (hsq : ∀ x l, all x = some l → ∃ c, aAI gf ts sh g x = some c ∧ f c = some l)
  (hr : ∀ y e, JX P E nt aU lt rt ps.toList as1 body ks sh exits y e = step y e) :
  vG P nt false [] (.rangeFunc g ps as1 body) ⟨sh, exits, TT sh exits all step⟩ := by
 intro x z hz ro n n0 wi Gi μi a w hro hfl0 hI
 have hfl : ∀ r, μi.loc r = none ∧ μi.len r = none := fun r => hfl0 r (by simp)
 have hro := hro rfl
 subst hro
 show (Code.rangeFunc g ps as1 body).wpIn Fence.wide n P _ a w
 dsimp only at hz hI ⊢
 unfold TT at hz
 obtain ⟨lst, hall⟩ : ∃ lst, all x = some lst := by
  cases h : all x with
  | none => rw [h] at hz; cases hz
  | some l => exact ⟨l, rfl⟩
 rw [hall] at hz
 dsimp only at hz
 obtain ⟨c, hc1, hc2⟩ := hsq x lst hall
 obtain ⟨G, μ, e, hW, hF, hm⟩ := hI
 have hgv : VR w G μ (ev (o8 sh x 0) g) (a.eval g) := by
  have := cG hF g
  have e1 : ({ a with defers := [] } : Act).eval g = a.eval g := by cases g <;> rfl
  rwa [e1] at this
 obtain ⟨hpl0, hc1⟩ := aI hc1
 obtain ⟨lb, hg, hvs⟩ := aOR (GM hc1 hgv)
 refine wpIn_rangeFunc ?_
 intro fn _
 obtain ⟨rec, hrec⟩ : ∃ rec : LoopState → Option Code → Loop, rec = fun st pe => { state := st, pending := pe, fn, tmps := a.tmps, params := ps, assign := as1, body, defers := w.heap.size } := ⟨_, rfl⟩
 obtain ⟨W1, hW1⟩ : ∃ W1, (w.alloc (.deferred (some []))).alloc (.loop (rec .ready none)) = W1 := ⟨_, rfl⟩
 obtain ⟨L, hLe⟩ : ∃ L, w.heap.size + 1 = L := ⟨_, rfl⟩
 obtain ⟨D, hDe⟩ : ∃ D, w.heap.size = D := ⟨_, rfl⟩
 have hs1 : W1.heap.size = w.heap.size + 2 := by rw [← hW1]; simp
 have hL1 : W1.heap[L]? = some (.loop (rec .ready none)) := by
  rw [← hW1, ← hLe]; have := World.alloc_heap_new (w.alloc (.deferred (some []))) (.loop (rec .ready none)); rwa [World.size_alloc] at this
 have hD1 : W1.heap[D]? = some (.deferred (some [])) := by
  rw [← hW1, ← hDe]; exact (Below.heap_alloc _ _ _ (by simp)).trans (World.alloc_heap_new w _)
 obtain ⟨a1, a2⟩ := U9 (n0 := n0) hW (.deferred (some []))
 obtain ⟨b1, b2⟩ := U9 (n0 := n0) a2 (.loop (rec .ready none))
 rw [hW1] at b1 b2
 have eW1 : Ext n0 wi Gi μi W1 G μ := (e.trans a1).trans b1
 have hvs1 : VRs W1 G aM (HV ts c) lb.toList := VRs.mono (a1.toMono.trans b1.toMono).aM _ _ hvs
 have hGL : ¬ G L := fun h => by have := hW.lt L h; omega
 have hGD : ¬ G D := fun h => by have := hW.lt D h; omega
 have hn0L : n0 L := hW.base L (by omega)
 have hn0D : n0 D := hW.base D (by omega)
 have marks1 : Marks wi W1 G a.defers := hm.to fun b hb h1 h2 => ⟨by rw [← hW1, Below.heap_alloc _ _ _ (by have := eZ h1; simp; omega), Below.heap_alloc _ _ _ (eZ h1)]; exact h1, h2⟩
 have markN : ∀ b, ({ target := .collected b, args := #[] } : Deferred) ∈ a.defers → b < w.heap.size := by
  intro b hb
  obtain ⟨b', e1, e2, _⟩ := hm.mem _ hb
  have : b = b' := by injection e1 with e1 _; injection e1
  subst this
  exact eZ e2
 -- the states between the rounds
 let J : List (aH ks) → (Nat → Prop) → (Nat → Prop) → World → Prop := fun pre T X B => ∃ y, qK step (aH1 sh exits) (lst.drop pre.length) y = some z ∧ ∃ G' μ', Btw n0 wi Gi μi nt a G W1.heap.size L D (o8 sh y 0) (wA sh y) T X B (.loop (rec .ready none)) G' μ'
 let Jx : List (aH ks) → (Nat → Prop) → (Nat → Prop) → World → Prop := fun pre T X B => (rJ exits z).1 ≠ .normal ∧ ∃ G' μ', Btw n0 wi Gi μi nt a G W1.heap.size L D (rJ exits z).2.1 (rJ exits z).2.2 T X B (.loop (rec .done (some (rJ exits z).1.code))) G' μ'
 refine ⟨L, [{ target := .collected D, args := #[] }], W1, { target := .fn (.func gf) lb, args := #[.func (.yield L) #[] #[]] }, W1, gf, #[.func (.yield L) #[] #[]] ++ lb, W1, ?_, ?_, fun _ _ => trivial, ?_, fun h => (by cases h), ?_⟩
 ·rw [← hW1, hrec, ← hLe, ← hDe]; exact run_enterLoop_outer _ _ _ _ _
 ·simp only [resolve, hg]
  simp [go_sem]
 ·simp [invoke, go_sem, hgf]
 ·have hcall := hit c lst hc2 (n - 1) L W1 G.ok lb.toList b2.lt (mI (G := G) (G' := Gd.of G.ok) (fun b h => h) _ _ _ (PE ts c hpl0) hvs1) J Jx ?round ?start
  ·rw [Array.toArray_toList] at hcall
   refine hcall.mono ?_
   rintro en C ⟨⟨v, rfl⟩, T, X, B, st, hJ⟩
   have hstep : ∀ {F' : Frm} {H' : Heap} {st' : LoopState} {pe : Option Code} {G' : Gd} {μ' : Mp}, Btw n0 wi Gi μi nt a G W1.heap.size L D F' H' T X B (.loop (rec st' pe)) G' μ' →
     C.heap[L]? = some (.loop (rec st' pe)) ∧ ∀ o, IM n0 wi Gi μi nt F' H' { a with defers := { target := .collected D, args := #[] } :: a.defers } (C.putObj L o) := by
    intro F' H' st' pe G' μ' bt
    have nS : ∀ b, b < W1.heap.size → ¬ X b := fun b hb hs => Nat.lt_irrefl _ (Nat.lt_of_lt_of_le hb (bt.seq b (bt.sub b hs)).2)
    have hLC : C.heap[L]? = some (.loop (rec st' pe)) := (st.aU L (eZ bt.atL) (nS L (by omega))).trans bt.atL
    have hDC : C.heap[D]? = some (.deferred (some [])) := (st.aU D (eZ bt.atD) (nS D (by omega))).trans bt.atD
    refine ⟨hLC, fun o => ?_⟩
    have x1 := aNT (T' := fun _ => False) (Gx := fun _ => False) bt.winv (fun b hb => (bt.seq b hb).1) bt.sub bt.good bt.base st (fun b hb => hb.elim) (fun b hb => hb.elim)
    have x2 := (aIJ (T' := fun _ => False) (Gx := fun _ => False) bt.winv bt.sub bt.good bt.base st (fun b hb => hb.elim) (fun b hb => hb.elim)).wider (n0 := n0) fun b hb => hb.1
    have nL : ¬ (G' L ∨ False) := fun h => h.elim bt.notL id
    have nD : ¬ (G' D ∨ False) := fun h => h.elim bt.notD id
    have x3 := DF (o' := o) x2 hLC (fun _ _ _ h => by cases h) nL
    have x4 := IK (G := G'.or fun _ => False) (n0 := n0) (μ := μ') (o' := o) hLC (fun _ _ _ h => by cases h) nL hn0L
    refine ⟨G'.or fun _ => False, μ', (bt.ext.trans x1).trans x4, x3, bt.finv.mono (x1.toMono.trans x4.toMono), ⟨D, rfl, ?_, ?_, nD, ?_⟩, ?_⟩
    ·rw [World.putObj_heap_other (by omega)]; exact hDC
    ·have := e.size; omega
    ·intro d' hd' he
     subst he
     have := markN _ hd'
     omega
    ·refine bt.marks.to fun b hb h1 h2 => ⟨?_, fun h => h.elim h2 id⟩
     have hbw := markN b hb
     rw [World.putObj_heap_other (by omega), st.aU b (eZ h1) (nS b (by omega))]
     exact h1
   rcases hJ with ⟨y, hy, G', μ', bt⟩ | ⟨pre, hne, G', μ', bt⟩
   ·obtain ⟨h1, h2⟩ := hstep bt
    rw [List.drop_length] at hy
    simp only [qK] at hy
    have hel := run_endLoop (P := P) h1 (by rw [hrec]; simp)
    have k := fun o => (h2 o).NG hfl0 hy
    have hpn : (rec .ready none).pending = none := by rw [hrec]
    rw [hpn] at hel
    exact ⟨none, _, hel, by rw [(k (.deferred none)).1]; rfl, (k _).2, fun h => by cases h⟩
   ·obtain ⟨h1, h2⟩ := hstep bt
    have hel := run_endLoop (P := P) h1 (by rw [hrec]; simp)
    have hpn : (rec .done (some (rJ exits z).1.code)).pending = some (rJ exits z).1.code := by rw [hrec]
    rw [hpn] at hel
    refine ⟨some (rJ exits z).1.code, _, hel, ?_⟩
    dsimp only
    clear hel hpn h1 bt
    generalize rJ exits z = zz at hne h2 ⊢
    obtain ⟨ex, F', H'⟩ := zz
    cases ex with
    | normal => exact absurd rfl hne
    | ret => exact wpIn_ret ⟨rfl, h2 _, fun h => by cases h⟩
    | exit i => exact wpIn_exit ⟨rfl, h2 _, fun h => by cases h⟩
  case start =>
   refine ⟨x, by simpa using hz, G, μ, eW1, b2.wider fun b hb => ⟨hb, id⟩, hF.mono (a1.toMono.trans b1.toMono), fun b h => h, fun b _ h => h, fun b h => h.elim, fun b h => h.elim, Nat.le_refl _, hGL, hGD, hL1, hD1, marks1⟩
  case round =>
   rintro pre el post T X B T' X' A us Gx m' hlst ⟨y, hy, G', μ', bt⟩ st hT' hX' hGx hus
   have hdrop : lst.drop pre.length = el :: post := by rw [hlst]; simp
   have hdrop2 : lst.drop (pre ++ [el]).length = post := by rw [hlst]; simp
   rw [hdrop] at hy
   simp only [qK] at hy
   obtain ⟨v, hv⟩ : ∃ v, step y el = some v := by
    cases h : step y el with
    | none => rw [h] at hy; cases hy
    | some v => exact ⟨v, rfl⟩
   have hrg := hr y el
   rw [hv] at hrg
   unfold JX at hrg
   obtain ⟨hck, hrg⟩ := aI hrg
   simp only [Bool.and_eq_true, List.all_eq_true] at hck
   have hpl := Nat.eq_of_beq_eq_true hck.1
   have hpt : ∀ t ∈ ps.toList, t < nt := fun t ht => fC (hck.2 t ht)
   -- the world in which the element comes
   have nT : ∀ b, b < W1.heap.size → ¬ T b := fun b hb hs => Nat.lt_irrefl _ (Nat.lt_of_lt_of_le hb (bt.seq b hs).2)
   have nS : ∀ b, b < W1.heap.size → ¬ X b := fun b hb hs => nT b hb (bt.sub b hs)
   have hLB := eZ bt.atL
   have hDB := eZ bt.atD
   have hLA : A.heap[L]? = some (.loop (rec .ready none)) := (st.aU L hLB (nS L (by omega))).trans bt.atL
   have hDA : A.heap[D]? = some (.deferred (some [])) := (st.aU D hDB (nS D (by omega))).trans bt.atD
   have x1 := aNT bt.winv (fun b hb => (bt.seq b hb).1) bt.sub bt.good bt.base st hT' (fun b hb => (hGx b hb).1)
   have x2 := aIJ bt.winv bt.sub bt.good bt.base st hT' (fun b hb => (hGx b hb).1)
   have nS' : ∀ b, b < B.heap.size → ¬ T b → ¬ T' b := by
    intro b hb hs h
    rcases (hT' b h).1 with h' | h'
    ·exact hs h'
    ·omega
   have nG2 : ∀ b, b < B.heap.size → ¬ T b → ¬ G' b → ¬ (G' b ∨ Gx b) := by
    rintro b hb ht hg (h | h)
    ·exact hg h
    ·rcases (hGx b h).1 with h' | h'
     ·exact hg (bt.base b h')
     ·exact nS' b hb ht h'
   have nL2 := nG2 L hLB (nT L (by omega)) bt.notL
   have nD2 := nG2 D hDB (nT D (by omega)) bt.notD
   have marksA : Marks wi A (G'.or Gx) a.defers := bt.marks.to fun b hb h1 h2 => ⟨by rw [st.aU b (eZ h1) (nS b (by have := markN b hb; omega))]; exact h1, nG2 b (eZ h1) (nT b (by have := markN b hb; omega)) h2⟩
   obtain ⟨G2, hG2⟩ : ∃ G2, G2 = G'.or Gx := ⟨_, rfl⟩
   rw [← hG2] at x1 x2 marksA
   have nL2 : ¬ G2 L := by rw [hG2]; exact nL2
   have nD2 : ¬ G2 D := by rw [hG2]; exact nD2
   have hxS : ∀ b, (b = L ∨ b = D ∨ ({ target := .collected b, args := #[] } : Deferred) ∈ a.defers) → b < A.heap.size ∧ ∀ c t fr, A.heap[b]? ≠ some (.cells c t fr) := by
    rintro b (rfl | rfl | hb)
    ·exact ⟨eZ hLA, fun c t fr h => by rw [hLA] at h; cases h⟩
    ·exact ⟨eZ hDA, fun c t fr h => by rw [hDA] at h; cases h⟩
    ·obtain ⟨b', e1, e2, _⟩ := marksA.mem _ hb
     have : b = b' := by injection e1 with e1 _; injection e1
     subst this
     exact ⟨eZ e2, fun c t fr h => by rw [e2] at h; cases h⟩
   have x3 := x2.less hxS
   obtain ⟨n1, hn1⟩ : ∃ n1 : Nat → Prop, n1 = fun b => (n0 b ∧ ¬ T' b) ∧ ¬ (b = L ∨ b = D ∨ ({ target := .collected b, args := #[] } : Deferred) ∈ a.defers) := ⟨_, rfl⟩
   rw [← hn1] at x3
   have n1n0 : ∀ b, n1 b → n0 b := fun b h => by rw [hn1] at h; exact h.1.1
   have n1S : ∀ b, n1 b → ¬ T' b := fun b h => by rw [hn1] at h; exact h.1.2
   have n1L : ¬ n1 L := fun h => by rw [hn1] at h; exact h.2 (.inl rfl)
   have n1D : ¬ n1 D := fun h => by rw [hn1] at h; exact h.2 (.inr (.inl rfl))
   have n1M : ∀ b, ({ target := .collected b, args := #[] } : Deferred) ∈ a.defers → ¬ n1 b := fun b hb h => by rw [hn1] at h; exact h.2 (.inr (.inr hb))
   have hFA : eK A G2 μ' nt (o8 sh y 0) { a with defers := [] } := bt.finv.mono x1.toMono
   have husA : VRs A G2 μ' (iE ks el) us := VRs.mono (⟨fun b hb => ⟨by rw [hG2]; exact .inr hb, rfl⟩, fun _ _ h => (by cases h), fun _ _ h => (by cases h), fun _ _ h => h, fun _ _ h => (by cases h)⟩ : Mono A (Gd.of Gx) aM A G2 μ') _ _ hus
   have hlen : us.length = ps.size := by
    rw [← husA.length, LC, ← hpl, Array.length_toList]
   have hyield := run_yield (P := P) (args := us.toArray) hLA (by rw [hrec]; simpa using hlen)
   have hfold : (ps.zip us.toArray).foldl (fun tmps (t, a) => tmps.setIfInBounds t a) a.tmps = (ps.toList.zip us).foldl (fun t (p, v) => t.setIfInBounds p v) a.tmps := by
    rw [← Array.foldl_toList, Array.toList_zip]
   rw [hrec] at hyield
   dsimp only at hyield
   rw [hfold] at hyield
   refine ⟨fn, _, as1, body, hyield, roundIn_of_wpIn trivial ?_⟩
   -- the assignment
   have hI0 : IM n1 A G2 (sX μ' (r8 sh 0)) nt (aCZ ps.toList (iE ks el) (o8 sh y 0)) (wA sh y) { tmps := (ps.toList.zip us).foldl (fun t (p, v) => t.setIfInBounds p v) a.tmps, defers := [] } A :=
    ⟨G2, μ', N8 _, x3, aD7 (by rw [LC]; exact hpl) hpt husA hFA, trivial⟩
   obtain ⟨⟨ex1, F1, H1⟩, hk1, hrun1⟩ := jG hcl hP as1 _ _ _ _ has hrg
   dsimp only at hk1
   cases ex1 with
   | ret => cases hk1
   | exit i => cases hk1
   | normal =>
   dsimp only at hk1
   obtain ⟨⟨ex2, F2, H2⟩, hk2, hrun2⟩ := jG hcl hP body _ _ _ _ hbd hk1
   show as1.wpIn (Fr (some L)) m' P _ _ A
   refine wpIn_mono (hrun1 (some L) m' n1 A G2 _ _ A (fun h => by cases h) (fun r h => II r h) hI0) ?_
   rintro e1 act1 A1 ⟨rfl, ⟨G3, μ3, y1, y2, y3, y4⟩, hd1⟩
   have hd1 : act1.defers = [] := hd1 rfl
   have nL3 : ¬ G3 L := fun h => (y1.new L h).elim nL2 n1L
   have hL1' : A1.heap[L]? = some (.loop (rec .ready none)) := (y1.old L (eZ hLA) n1L).trans hLA
   refine ⟨_, run_beginRound hL1' (by rw [hrec]), ?_⟩
   obtain ⟨A2, hA2⟩ : ∃ A2, A1.putObj L (.loop { rec .ready none with state := .busy }) = A2 := ⟨_, rfl⟩
   rw [hA2]
   have p1 : Mono A1 G3 μ3 A2 G3 μ3 := by rw [← hA2]; exact tY hL1' (fun _ _ _ h => by cases h) nL3
   have p2 : aW n1 G3 μ3 H1 A2 := by rw [← hA2]; exact DF y2 hL1' (fun _ _ _ h => by cases h) nL3
   have hL2' : A2.heap[L]? = some (.loop { rec .ready none with state := .busy }) := by rw [← hA2]; exact World.putObj_heap_same (eZ hL1')
   have e12 : Ext n0 A1 G3 μ3 A2 G3 μ3 := by rw [← hA2]; exact IK hL1' (fun _ _ _ h => by cases h) nL3 hn0L
   have hI2 : IM n1 A2 G3 (sX μ' (r8 sh 0)) nt F1 H1 act1 A2 :=
    ⟨G3, μ3, { N8 (n0 := n1) (w := A2) (G := G3) (μ := μ') [] with
     map := y1.map
     len := y1.len
     good := fun b hb => ⟨hb, rfl⟩
     room := fun _ _ h => h
     new := fun b hb => .inl hb }, p2, y3.mono p1, by rw [hd1]; trivial⟩
   show body.wpIn (Fr (some L)) m' P _ act1 A2
   refine wpIn_mono (hrun2 (some L) m' n1 A2 G3 _ act1 A2 (fun h => by cases h) (fun r h => II r h) hI2) ?_
   rintro e2 act2 A3 ⟨rfl, ⟨G4, μ4, z1, z2, z3, z4⟩, hd2⟩
   have nL4 : ¬ G4 L := fun h => (z1.new L h).elim nL3 n1L
   have hL3' : A3.heap[L]? = some (.loop { rec .ready none with state := .busy }) := (z1.old L (eZ hL2') n1L).trans hL2'
   have hdn : act2.defers = [] := (hd2 rfl).trans hd1
   -- back with the caller
   have hFend : eK A3 G4 μ4 nt (o8 sh y 0) { a with defers := [] } := by
    refine ⟨hFA.size, fun t => ?_, rfl⟩
    have v0 := aDJ (T := r8 sh 0) sh y 0 (fun r h => h) (hFA.slot t)
    have v1 := VR.mono (⟨y1.good, fun _ _ h => h, fun _ _ h => h, y1.room, y1.row⟩ : Mono A G2 (sX μ' (r8 sh 0)) A1 G3 (sX μ' (r8 sh 0))) _ _ v0
    have v2 := VR.mono (⟨p1.good, fun _ _ h => h, fun _ _ h => h, p1.room, p1.row⟩ : Mono A1 G3 (sX μ' (r8 sh 0)) A2 G3 (sX μ' (r8 sh 0))) _ _ v1
    exact VR.mono z1.toMono _ _ v2
   have back : ∀ (o : Obj) (F5 : Frm) (H5 : Heap), (∀ {n0 : Nat → Prop} {wi : World} {Gi : Gd} {μi : Mp} {a : Act} {w : World}, (∀ r, ¬ r ∈ ([] : List Nat) → μi.loc r = none ∧ μi.len r = none) → IM n0 wi Gi μi nt (o8 sh y 0) H2 a w → IM n0 wi Gi μi nt F5 H5 a w) →
     ∃ G5 μ5, Btw n0 wi Gi μi nt a G W1.heap.size L D F5 H5 T' X' (A3.putObj L o) o G5 μ5 := by
    intro o F5 H5 hdec
    have q1 := DF (o' := o) z2 hL3' (fun _ _ _ h => by cases h) nL4
    have q2 := tY (μ := μ4) (o' := o) hL3' (fun _ _ _ h => by cases h) nL4
    have q3 := IK (n0 := n0) (μ := μ4) (o' := o) hL3' (fun _ _ _ h => by cases h) nL4 hn0L
    have hIe : IM n1 (A3.putObj L o) G4 aM nt (o8 sh y 0) H2 { a with defers := [] } (A3.putObj L o) :=
     ⟨G4, μ4, { N8 (n0 := n1) (w := A3.putObj L o) (G := G4) (μ := μ4) [] with
      map := fun _ _ h => by cases h
      len := fun _ _ h => by cases h
      good := fun b hb => ⟨hb, rfl⟩
      room := fun _ _ h => h
      new := fun b hb => .inl hb }, q1, hFend.mono q2, trivial⟩
    obtain ⟨G5, μ5, r1, r2, r3, _⟩ := hdec (fun _ _ => ⟨rfl, rfl⟩) hIe
    have g45 : ∀ b, G5 b → G2 b ∨ n1 b := fun b h => by
     rcases r1.new b h with h | h
     ·rcases z1.new b h with h | h
      ·exact y1.new b h
      ·exact .inr h
     ·exact .inr h
    have mk : ∀ b, ({ target := .collected b, args := #[] } : Deferred) ∈ a.defers → A.heap[b]? = some (.deferred (some [])) → (A3.putObj L o).heap[b]? = some (.deferred (some [])) := by
     intro b hb h1
     have hbw := markN b hb
     have k1 := (y1.old b (eZ h1) (n1M b hb)).trans h1
     have k2 : A2.heap[b]? = some (.deferred (some [])) := by rw [← hA2, World.putObj_heap_other (by omega)]; exact k1
     have k3 := (z1.old b (eZ k2) (n1M b hb)).trans k2
     rw [World.putObj_heap_other (by omega)]; exact k3
    refine ⟨G5, μ5, ?_, r2.wider fun b hb => ⟨n1n0 b hb, n1S b hb⟩, r3, ?_, ?_, ?_, ?_, ?_, ?_, ?_, ?_, ?_, ?_⟩
    ·have t1 := ((bt.ext.plain.trans x1.plain).trans (y1.wider n1n0).plain).trans e12.plain
     exact Ext.back hfl (((t1.trans (z1.wider n1n0).plain).trans q3.plain).trans (r1.wider n1n0).plain)
    ·intro b hb
     have h2 : G2 b := by rw [hG2]; exact .inl (bt.base b hb)
     exact (r1.good b (z1.good b (y1.good b h2).1).1).1
    ·intro b hb hs
     rcases g45 b hb with h | h
     ·rw [hG2] at h
      rcases h with h | h
      ·rcases (hX' b hs).2 with h' | h'
       ·exact bt.good b h h'
       ·exact Nat.lt_irrefl _ (Nat.lt_of_lt_of_le (bt.winv.lt b h) h')
      ·exact (hGx b h).2 hs
     ·exact n1S b h (hX' b hs).1
    ·exact fun b hs => (hX' b hs).1
    ·intro b hs
     rcases (hT' b hs).1 with h | h
     ·exact bt.seq b h
     ·exact ⟨(bt.winv.base b h).1, Nat.le_trans bt.size h⟩
    ·have s1 := bt.size
     have s2 := st.size
     have s3 := y1.size
     have s4 := e12.size
     have s5 := z1.size
     rw [World.putObj_size]
     omega
    ·exact fun h => (g45 L h).elim nL2 n1L
    ·exact fun h => (g45 D h).elim nD2 n1D
    ·exact World.putObj_heap_same (eZ hL3')
    ·have k1 := (y1.old D (eZ hDA) n1D).trans hDA
     have k2 : A2.heap[D]? = some (.deferred (some [])) := by rw [← hA2, World.putObj_heap_other (by omega)]; exact k1
     have k3 := (z1.old D (eZ k2) n1D).trans k2
     rw [World.putObj_heap_other (by omega)]; exact k3
    ·refine marksA.to fun b hb h1 h2 => ⟨mk b hb h1, fun hg => ?_⟩
     exact (g45 b hg).elim h2 (n1M b hb)
   have frame : ∀ (o : Obj) (b : Nat), b < A.heap.size → G b ∨ T' b → (A3.putObj L o).heap[b]? = A.heap[b]? := by
    intro o b hb h
    have hbL : b ≠ L := by
     rintro rfl
     rcases h with h | h
     ·exact hGL h
     ·exact nS' b hLB (nT b (by omega)) h
    have k1 : A1.heap[b]? = A.heap[b]? ∧ (G3 b ∨ T' b) := by
     rcases h with h | h
     ·have := y1.good b (by rw [hG2]; exact .inl (bt.base b h))
      exact ⟨this.2, .inl this.1⟩
     ·exact ⟨y1.old b hb fun hn => n1S b hn h, .inr h⟩
    have k2 : A2.heap[b]? = A.heap[b]? := by rw [← hA2, World.putObj_heap_other hbL]; exact k1.1
    have k3 : A3.heap[b]? = A2.heap[b]? := by
     rcases k1.2 with h | h
     ·exact (z1.good b h).2
     ·refine z1.old b ?_ fun hn => n1S b hn h
      have s3 := y1.size
      have s4 := e12.size
      omega
    rw [World.putObj_heap_other hbL, k3, k2]
   have hroom : ∀ (o : Obj) (b n : Nat), Room A b n → Room (A3.putObj L o) b n := fun o b n h =>
    (tY (μ := μ4) (o' := o) hL3' (fun _ _ _ h => by cases h) nL4).room b n (z1.room b n (p1.room b n (y1.room b n h)))
   have hsz : ∀ o, A.heap.size ≤ (A3.putObj L o).heap.size ∧ A.drawn ≤ (A3.putObj L o).drawn := by
    intro o
    have s3 := y1.size
    have s4 := e12.size
    have s5 := z1.size
    have d3 := y1.drawn
    have d4 := e12.drawn
    have d5 := z1.drawn
    refine ⟨by rw [World.putObj_size]; omega, ?_⟩
    show A.drawn ≤ A3.drawn
    omega
   rw [hv] at hy
   unfold aY5 at hk2
   dsimp only at hk2
   rcases F7 hk2 with ⟨x', rfl, e2, e3⟩ | ⟨z', rfl, e2, e3⟩
   ·subst e2
    dsimp only at hy
    refine ⟨_, _, run_endRound none hL3', ⟨frame _, hroom _, (hsz _).1, (hsz _).2⟩, .inl ⟨rfl, ⟨x', by rw [hdrop2]; exact hy, ?_⟩⟩⟩
    have := back (.loop (rec .ready none)) (o8 sh x' 0) (wA sh x') (fun h hI => hI.dec h e3)
    rw [hrec] at this ⊢
    exact this
   ·dsimp only at hy
    have hzz : z' = z := Option.some.inj hy
    subst hzz
    obtain ⟨o1, _⟩ := AE e3
    have hb := back (.loop (rec .done (some ex2.code))) (rJ exits z').2.1 (rJ exits z').2.2 (fun h hI => (hI.NG h e3).2)
    rw [hrec] at hb
    cases ex2 with
    | normal => exact absurd rfl e2
    | ret =>
     refine ⟨_, _, run_endRound (some .ret) hL3', ⟨frame _, hroom _, (hsz _).1, (hsz _).2⟩, .inr ⟨rfl, by rw [o1]; exact e2, ?_⟩⟩
     rw [o1, hrec]
     exact hb
    | exit i =>
     refine ⟨_, _, run_endRound (some (.exit i)) hL3', ⟨frame _, hroom _, (hsz _).1, (hsz _).2⟩, .inr ⟨rfl, by rw [o1]; exact e2, ?_⟩⟩
     rw [o1, hrec]
     exact hb
end
end Go.PM
set_option linter.unusedSimpArgs false
set_option linter.unusedVariables false
namespace Go.PM
open Go Go.RowKit
section
variable {P : Program} {n0 : Nat → Prop} {w w' wi : World} {G G' Gi : Gd} {μ μ' μi : Mp} {H : Heap} {F : Frm} {nt n : Nat}
theorem uS {fn : Func} {tmps : Array Value} {R : Ending → World → Prop} (hb : ∀ b, wi.heap.size ≤ b → n0 b) (hend : ∀ w', IM n0 wi Gi μi nt F H { tmps := tmps, defers := [] } w' → LeavesIn Fence.wide n P fn tmps R [] .returning w') :
  ∀ (ds : List Deferred) (w : World), IM n0 wi Gi μi nt F H { tmps := tmps, defers := ds } w → LeavesInM Fence.wide n P fn tmps R ds .returning w
 | [], w, h => hend w h
 | d :: ds, w, h => by
  obtain ⟨G, μ, e, hW, hF, ⟨b, rfl, h1, h2, h3, h4⟩, hm⟩ := h
  refine ⟨by simp, .inl ⟨b, _, rfl, run_takeDeferred h1, uS hb hend ds _ ⟨G, μ, e.trans (IK h1 (fun _ _ _ h => by cases h) h3 (hb b h2)), DF hW h1 (fun _ _ _ h => by cases h) h3, hF.mono (tY h1 (fun _ _ _ h => by cases h) h3), ?_⟩⟩⟩
  refine hm.to fun b' hb' k1 k2 => ⟨?_, k2⟩
  rw [World.putObj_heap_other]
  ·exact k1
  ·rintro rfl
   exact h4 _ hb' rfl

def VU (P : Program) (E : Env) (fn : Func) (aU : Nat) (lt rt : Nat → Option aR) (c : Code) (args rets : List Kd) (x : aH args) : Option (aH rets) :=
 bif Nat.ble (iE args x).length fn.ntmps then rT P E fn.ntmps aU lt rt false [] c (start aU 0 (iE args x)) [] (aJ6 P fn.results.toList rets) else none

theorem LX {E : Env} (hP : A8 P) (hE : aZ P E) {g : Nat} {fn : Func} (hg : P.funcs[g]? = some fn) {c : Code} (hc : fn.body = some c) {aU : Nat} {lt rt : Nat → Option aR} {args rets : List Kd} {f : aH args → Option (aH rets)}
  (hl : ∀ a ∈ cD c, E3 P fn.ntmps lt rt false [] a) (hb : ∀ x, VU P E fn aU lt rt c args rets x = f x) : cO P g args rets f := by
 intro x y hy
 rw [← hb] at hy
 unfold VU at hy
 obtain ⟨hlen, hy⟩ := aI hy
 obtain ⟨⟨ex, F', H'⟩, h1, h2⟩ := jG hE.callee hP.mixed c _ _ _ _ hl hy
 obtain ⟨vs, q, hex, hvs, hq, hd⟩ : ∃ vs q, (ex = .normal ∨ ex = .ret) ∧ mT P F' H' fn.results.toList = some vs ∧ aMO H' (dU vs) = some q ∧ aH7 rets q = some y := by
  unfold aJ6 at h1
  split at h1
  ·cases h1
  ·rename_i hne
   split at h1
   ·rename_i vs hvs
    split at h1
    ·rename_i q hq
     refine ⟨vs, q, ?_, hvs, hq, h1⟩
     cases ex with
     | normal => exact .inl rfl
     | ret => exact .inr rfl
     | exit i => exact absurd rfl (hne i)
    ·cases h1
   ·cases h1
 have hcall : ∀ {n0 G μ w us}, aW n0 G μ [] w → VRs w G μ (iE args x) us → o6 P n0 w G μ g us.toArray (dU vs) H' := by
  intro n0 G μ w us hW hv
  refine ⟨enters hg (hP.names g fn hg) (by rw [hc]; rfl) _ _, (callsIn_wide (n := 0)).1 (callsIn_of_wp_marks hg hc trivial ?_)⟩
  have hI : I n0 w G μ fn.ntmps (start aU 0 (iE args x)) [] ⟨us.toArray ++ Array.replicate (fn.ntmps - us.toArray.size) undef, []⟩ w := ⟨G, μ, Ext.refl _ _ _ _, hW, qI (by simpa using hv) (Nat.le_of_ble_eq_true hlen)⟩
  refine wpIn_mono (h2 none 0 n0 w G μ _ w (fun _ => rfl) (fun r _ => hW.top r (Nat.zero_le _)) hI.a5A) ?_
  rintro e ⟨tm, ds⟩ w' ⟨rfl, hI', _⟩
  have hend : ∀ w', IM n0 w G μ fn.ntmps F' H' { tmps := tm, defers := [] } w' → LeavesIn Fence.wide 0 P fn tm (fun e w' => ∃ v' G'' μ'', e = .returned v' ∧ Ext n0 w G μ w' G'' μ'' ∧ aW n0 G'' μ'' H' w' ∧ VR w' G'' μ'' (dU vs) v') [] .returning w' := by
   rintro w' ⟨G', μ', e', hW', hF', _⟩
   obtain ⟨ws, h3, h4⟩ := k9 (P := P) hW' hF' hvs
   have hres : (results fn tm).run P w' = .ok (if hh : ws.toArray.size = 1 then ws.toArray[0] else .tuple ws.toArray) w' := by
    rw [s8, Array.mapM_eq_mapM_toList]
    simp only [Sem.run_bind, Sem.run_map, h3, Result.andThen_ok, Sem.run_pure]
   exact ⟨_, hres, _, G', μ', rfl, e', hW', mY h4⟩
  rcases hex with rfl | rfl
  ·exact uS (fun b hb => hW.base b hb) hend ds w' hI'
  ·exact uS (fun b hb => hW.base b hb) hend ds w' hI'
 have hp := BO hcall (wI hq).1 (wI hq).2
 intro w G us hlt hv
 obtain ⟨h3, h4⟩ := hp w G us hlt hv
 refine ⟨h3, h4.mono ?_⟩
 rintro e w' ⟨v', G', rfl, e1, e2, e3⟩
 exact ⟨v', G', rfl, e1, e2, L0 hd e3⟩

def aKY (P : Program) (nt : Nat) (lt rt : Nat → Option aR) (rd : Bool) (T : List Nat) : List Code → Prop
 | [] => True
 | a :: r => E3 P nt lt rt rd T a ∧ aKY P nt lt rt rd T r
theorem aBJ {lt rt : Nat → Option aR} {rd : Bool} {T : List Nat} : ∀ {l : List Code}, aKY P nt lt rt rd T l → ∀ a ∈ l, E3 P nt lt rt rd T a
 | [], _, a, ha => by simp at ha
 | b :: r, h, a, ha => by
  rcases List.mem_cons.1 ha with rfl | ha
  ·exact h.1
  ·exact aBJ h.2 a ha
theorem nP {lt rt : Nat → Option aR} {rd : Bool} {T : List Nat} {c : Code} {l : List Code} (hc : cD c = l) (h : aKY P nt lt rt rd T l) : ∀ a ∈ cD c, E3 P nt lt rt rd T a := by
 rw [hc]; exact aBJ h
theorem X6 {lt rt : Nat → Option aR} {rd : Bool} {T : List Nat} {a : Code} {i : Nat} {s0 : aR} (hf : aG a = i) (hlt : lt i = some s0) (h : vG P nt rd T (.loop a) s0) : E3 P nt lt rt rd T (.loop a) := by
 intro s hs
 rw [hf, hlt] at hs
 cases hs
 exact h
theorem aOT {lt rt : Nat → Option aR} {g : Operand} {ps : Array Tmp} {as1 a : Code} {i : Nat} {s0 : aR} (hf : aG a = i) (hrt : rt i = some s0) (h : vG P nt false [] (.rangeFunc g ps as1 a) s0) : E3 P nt lt rt false [] (.rangeFunc g ps as1 a) := by
 intro _ s hs
 rw [hf, hrt] at hs
 cases hs
 exact h
def KX (c : Code) (i : Nat) : Code := (cD c).getD i .skip
def inLoop : Code → Code
 | .loop a => a
 | .rangeFunc _ _ _ a => a
 | _ => .skip
def lS : Code → Code
 | .rangeFunc _ _ as1 _ => as1
 | _ => .skip
def DM : Code → Operand
 | .rangeFunc g _ _ _ => g
 | _ => .const undef
def RG : Code → Array Tmp
 | .rangeFunc _ ps _ _ => ps
 | _ => #[]
theorem AW {lt rt : Nat → Option aR} {r : Code} {i : Nat} {s0 : aR} (hr : r = .rangeFunc (DM r) (RG r) (lS r) (inLoop r)) (hf : aG (inLoop r) = i) (hrt : rt i = some s0) (h : vG P nt false [] r s0) : E3 P nt lt rt false [] r := by
 rw [hr] at h ⊢
 exact aOT hf hrt h
theorem GF {E : Env} {aU : Nat} {lt rt : Nat → Option aR} (hE : aZ P E) (hP : A8 P) {r : Code} (hrc : r = .rangeFunc (DM r) (RG r) (lS r) (inLoop r)) {gf : Nat} {fn : Func} {c : Code} {ts : List Ty} {ks : List Kd} {f : uJ ts → Option (List (aH ks))}
  (hg : P.funcs[gf]? = some fn) (hc : fn.body = some c) (hit : O5 P gf ts ks f)
  {sh : List (Nat × Kd)} {exits : List (Ex × List (Nat × Kd))} {step : Shape.den sh → aH ks → Option (Shape.den sh ⊕ aV exits)} {cap : Shape.den sh → uJ ts}
  (has : cD (lS r) = []) (hbd : ∀ b ∈ cD (inLoop r), E3 P nt lt rt true (r8 sh 0) b)
  (hsq : ∀ x, aAI gf ts sh (DM r) x = some (cap x))
  (hr : ∀ y e, JX P E nt aU lt rt (RG r).toList (lS r) (inLoop r) ks sh exits y e = step y e) :
  vG P nt false [] r ⟨sh, exits, TT sh exits (fun x => f (cap x)) step⟩ := by
 have := aVC (g := DM r) (ps := RG r) (as1 := lS r) (body := inLoop r) hE.callee hP.mixed hit (fun args w => enters hg (hP.names gf fn hg) (by rw [hc]; rfl) args w) (by rw [has]; intro b hb; cases hb) hbd (fun x l hl => ⟨cap x, hsq x, hl⟩) hr
 rw [← hrc] at this
 exact this
end
end Go.PM
namespace Go.PM
open Go Go.RowKit
def nG : Code → Nat
 | .region _ ops _ => LK ops.toList ops.toList 0 0
 | .seq a b => nG a ||| nG b
 | .cond c a b => aUM c ||| nG a ||| nG b
 | .block _ a => nG a
 | .loop a => nG a
 | .scope a => nG a
 | .rangeFunc g _ as1 a => aUM g ||| nG as1 ||| nG a
 | _ => 0
def rU (fn : Func) : Nat := match fn.body with
 | some c => DS fn.results.toList (nG c)
 | none => 0
end Go.PM
set_option linter.unusedSimpArgs false
set_option linter.unusedVariables false
namespace Go.PM
open Go Go.RowKit
section
variable {P : Program} {n0 : Nat → Prop} {w w' : World} {G G' : Gd} {μ μ1 : Mp} {H H1 : Heap}
def DT (μ μ1 : Mp) (h : Nat) : Mp := ⟨fun r => if r < h then μ.loc r else μ1.loc (r - h), fun r => if r < h then μ.len r else μ1.len (r - h)⟩
theorem pU {h r : Nat} (hr : r < h) : (DT μ μ1 h).loc r = μ.loc r ∧ (DT μ μ1 h).len r = μ.len r := by simp [DT, hr]
theorem pW {h r : Nat} (hr : h ≤ r) : (DT μ μ1 h).loc r = μ1.loc (r - h) ∧ (DT μ μ1 h).len r = μ1.len (r - h) := by
 have : ¬ r < h := by omega
 simp [DT, this]
theorem aIP (hW : aW n0 G μ H w) (e : Ext (tR w) w G.bare aM w' G' μ1) : Ext n0 w G μ w' (G'.with G) (DT μ μ1 H.length) := {
 good := e.good
 map := fun r b hr => by
  rcases Nat.lt_or_ge r H.length with hl | hl
  ·rw [(pU hl).1]; exact hr
  ·rw [(hW.top r hl).1] at hr; cases hr
 len := fun r b hr => by
  rcases Nat.lt_or_ge r H.length with hl | hl
  ·rw [(pU hl).2]; exact hr
  ·rw [(hW.top r hl).2] at hr; cases hr
 room := e.room
 row := fun _ _ h => h
 os := e.os
 tape := e.tape
 output := e.output
 size := e.size
 drawn := e.drawn
 old := fun b hb _ => e.old b hb (Nat.not_le.2 hb)
 new := fun b hb => by
  rcases e.new b hb with h | h
  ·exact .inl h
  ·exact .inr (hW.base b h) }
theorem aPO (hW : aW n0 G μ H w) (e : Ext (tR w) w G.bare aM w' G' μ1) (h1 : aW (tR w) G' μ1 H1 w') (ht : GL H1 = true) (hp : ∀ (r : Nat) (k : Blk), H1[r]? = some (some k) → dM.noRows k.cells = true ∧ ∀ t l, k.tag ≠ some ⟨.rows t, l⟩) : aW n0 (G'.with G) (DT μ μ1 H.length) (H ++ H1) w' := by
 have e' := aIP hW e
 have key : ∀ (r : Nat) (k : Blk), (H ++ H1)[r]? = some (some k) → (r < H.length ∧ H[r]? = some (some k)) ∨ (H.length ≤ r ∧ H1[r - H.length]? = some (some k)) := by
  intro r k hr
  rcases Nat.lt_or_ge r H.length with hl | hl
  ·rw [List.getElem?_append_left hl] at hr; exact .inl ⟨hl, hr⟩
  ·rw [List.getElem?_append_right hl] at hr; exact .inr ⟨hl, hr⟩
 refine ⟨?_, ?_, ?_, h1.lt, ?_, fun b hb => hW.base b (Nat.le_trans e.size hb), hW.rows.step e'.toMono.aM e.size (fun _ => rfl) (fun j b hj => ?_) (fun r k t l hr hg htg => ?_)⟩
 case refine_5 =>
  have hlt := (hW.rows.sep j b hj).1
  refine ⟨e.old b hlt (Nat.not_le.2 hlt), fun hg => ?_, fun r k hr hf hl => ?_⟩
  ·rcases e.new b hg with h | h
   ·exact h
   ·exact absurd hlt (Nat.not_lt.2 h)
  ·rcases key r k hr with ⟨hl2, hr⟩ | ⟨hl2, hr⟩
   ·rw [(pU hl2).1] at hl; exact ⟨r, k, hr, hf, hl⟩
   ·rw [(pW hl2).1] at hl
    obtain ⟨_, _, _, _, _, a5⟩ := h1.blk _ k b hr hl
    exact absurd hlt (Nat.not_lt.2 (a5 hf).1)
 case refine_6 =>
  rcases key r k hr with ⟨hl2, hr⟩ | ⟨hl2, hr⟩
  ·exact ⟨k, hr, rfl, rfl, rfl, (pU hl2).1⟩
  ·exact absurd htg ((hp _ k hr).2 t l)
 ·intro r k b hr hb
  rcases key r k hr with ⟨hl, hr⟩ | ⟨hl, hr⟩
  ·rw [(pU hl).1] at hb
   obtain ⟨c, a1, a2, a3, a4, a5⟩ := hW.blk r k b hr hb
   have hlt := hW.j5 hr hb
   have ho := e.old b hlt (Nat.not_le.2 hlt)
   refine ⟨c, ho.trans a1, aQ.mono e'.toMono ho 0 _ a2, a3, fun hf => (e.good b (a4 hf)).1, fun hf => ⟨(a5 hf).1, fun hg => ?_⟩⟩
   rcases e.new b hg with h | h
   ·exact (a5 hf).2 h
   ·omega
  ·rw [(pW hl).1] at hb
   obtain ⟨c, a1, a2, a3, a4, a5⟩ := h1.blk _ k b hr hb
   refine ⟨c, a1, ?_, a3, a4, fun hf => ⟨hW.base b (a5 hf).1, (a5 hf).2⟩⟩
   refine mO (G := G') (G' := G'.with G) (fun b h => h) _ _ _ _ (hp _ k hr).1 ?_
   rcases IE ht hr with hg | hg
   ·obtain ⟨g, hg⟩ := Option.isSome_iff_exists.1 hg
    have := (h1.tags _ k g hr hg).1
    rw [this] at a2 ⊢
    exact kD (fJ _ _) a2
   ·exact kD hg a2
 ·intro r k g hr hg
  rcases key r k hr with ⟨hl, hr⟩ | ⟨hl, hr⟩
  ·rw [(pU hl).2]; exact hW.tags r k g hr hg
  ·rw [(pW hl).2]; exact h1.tags _ k g hr hg
 ·intro r s k l b hr hs fk fl m1 m2
  rcases key r k hr with ⟨hl, hr⟩ | ⟨hl, hr⟩ <;> rcases key s l hs with ⟨hl2, hs⟩ | ⟨hl2, hs⟩
  ·rw [(pU hl).1] at m1
   rw [(pU hl2).1] at m2
   exact hW.inj r s k l b hr hs fk fl m1 m2
  ·rw [(pU hl).1] at m1
   rw [(pW hl2).1] at m2
   obtain ⟨_, _, _, _, _, a5⟩ := h1.blk _ l b hs m2
   have := hW.j5 hr m1
   have := (a5 fl).1
   omega
  ·rw [(pW hl).1] at m1
   rw [(pU hl2).1] at m2
   obtain ⟨_, _, _, _, _, a5⟩ := h1.blk _ k b hr m1
   have := hW.j5 hs m2
   have := (a5 fk).1
   omega
  ·rw [(pW hl).1] at m1
   rw [(pW hl2).1] at m2
   have := h1.inj _ _ k l b hr hs fk fl m1 m2
   omega
 ·intro r hr
  simp only [List.length_append] at hr
  have hl : H.length ≤ r := by omega
  rw [(pW hl).1, (pW hl).2]
  exact h1.top _ (by omega)
theorem aSG {r sz : Nat} {v : Value} (h : VR w' G' μ1 (.own r sz) v) : VR w' G' (DT μ μ1 H.length) (.own (H.length + r) sz) v := by
 have e := pW (μ := μ) (μ1 := μ1) (h := H.length) (r := H.length + r) (by omega)
 rw [VR] at h ⊢
 rw [e.1, e.2, Nat.add_sub_cancel_left]
 exact h

def aNX (P : Program) (g : FuncId) (args : List Kd) (e : TypeId) (ty : Ty) (f : aH args → Option (List ty.den)) : Prop :=
 ∀ x l, f x = some l → ∀ {n0 G μ w us}, aW n0 G μ [] w → VRs w G μ (iE args x) us → o6 P n0 w G μ g us.toArray (.own 0 ty.size) [some ⟨aO ty l, e, true, false, some ⟨ty, l⟩⟩]
def a4Y (t : Nat) (e : TypeId) (ty : Ty) (ex : Ex) (F : Frm) (H : Heap) : Option (List ty.den) := match ex with
 | .exit _ => none
 | _ => match DE [(t, .own e ty)] F H with
  | some x => some x.1
  | none => none
def aNG (P : Program) (E : Env) (fn : Func) (aU : Nat) (lt : Nat → Option aR) (c : Code) (args : List Kd) (t : Nat) (e : TypeId) (ty : Ty) (x : aH args) : Option (List ty.den) :=
 bif Nat.ble (iE args x).length fn.ntmps then sK P E fn.ntmps aU lt c (start aU 0 (iE args x)) [] (a4Y t e ty) else none
theorem aM5 {E : Env} (hP : A8 P) (hE : aZ P E) {g : Nat} {fn : Func} (hg : P.funcs[g]? = some fn) {c : Code} (hc : fn.body = some c) {aU : Nat} {lt : Nat → Option aR} {args : List Kd} {t : Nat} (hr : fn.results.toList = [.tmp t]) {e : TypeId} {ty : Ty} {f : aH args → Option (List ty.den)}
  (hl : ∀ a ∈ aF c, ∀ s, lt (aG a) = some s → cL P fn.ntmps a s) (hb : ∀ x, aNG P E fn aU lt c args t e ty x = f x) : aNX P g args e ty f := by
 intro x l hy n0 G μ w us hW hv
 rw [← hb] at hy
 unfold aNG at hy
 obtain ⟨hlen, hy⟩ := aI hy
 obtain ⟨⟨ex, F', H'⟩, h1, h2⟩ := jF hE.callee hP.mixed c _ _ _ _ hl hy
 obtain ⟨y, hex, hd, hyl⟩ : ∃ y, (ex = .normal ∨ ex = .ret) ∧ DE [(t, .own e ty)] F' H' = some y ∧ y.1 = l := by
  unfold a4Y at h1
  split at h1
  ·cases h1
  ·rename_i hne
   split at h1
   ·rename_i y hy
    simp only [Option.some.injEq] at h1
    refine ⟨y, ?_, hy, h1⟩
    cases ex with
    | normal => exact .inl rfl
    | ret => exact .inr rfl
    | exit i => exact absurd rfl (hne i)
   ·cases h1
 obtain ⟨yl, ⟨⟩⟩ := y
 dsimp only at hyl
 subst hyl
 refine ⟨enters hg (hP.names g fn hg) (by rw [hc]; rfl) _ _, calls_of_wp hg hc ?_⟩
 have hI : I n0 w G μ fn.ntmps (start aU 0 (iE args x)) [] ⟨us.toArray ++ Array.replicate (fn.ntmps - us.toArray.size) undef, []⟩ w := ⟨G, μ, Ext.refl _ _ _ _, hW, qI (by simpa using hv) (Nat.le_of_ble_eq_true hlen)⟩
 refine wp_mono (h2 n0 w G μ _ w (fun r => hW.top r (Nat.zero_le _)) hI) ?_
 rintro e0 a' w' ⟨rfl, hI'⟩
 obtain ⟨G', μ', e', hW', hF'⟩ := sP hd (fun r => hW.top r (Nat.zero_le _)) hI'
 have hvs : mT P (o8 [(t, .own e ty)] (yl, ()) 0) (wA [(t, .own e ty)] (yl, ())) fn.results.toList = some [.own 0 ty.size] := by
  rw [hr]
  simp [mT, XM, o8, pO, cN]
 obtain ⟨ws, h3, h4⟩ := k9 (P := P) hW' hF' hvs
 have hres : (results fn a'.tmps).run P w' = .ok (if hh : ws.toArray.size = 1 then ws.toArray[0] else .tuple ws.toArray) w' := by
  rw [s8, Array.mapM_eq_mapM_toList]
  simp only [Sem.run_bind, Sem.run_map, h3, Result.andThen_ok, Sem.run_pure]
 have hpost : a'.defers = [] ∧ ∃ v, (results fn a'.tmps).run P w' = .ok v w' ∧ (∃ v' G'' μ'', Ending.returned v = .returned v' ∧ Ext n0 w G μ w' G'' μ'' ∧ aW n0 G'' μ'' (wA [(t, .own e ty)] (yl, ())) w' ∧ VR w' G'' μ'' (.own 0 ty.size) v') :=
  ⟨hF'.defers, _, hres, _, G', μ', rfl, e', hW', mY h4⟩
 rcases hex with rfl | rfl
 ·exact hpost
 ·exact hpost

def aW1 (args : List Kd) (e : TypeId) (ty : Ty) (f : aH args → Option (List ty.den)) (qs : List PV) (H : Heap) : Option aKL :=
 bif cZ.noRefs qs && (dM.noRows qs && ty.plain) then match aFK args qs with
  | some x => some ⟨List ty.den, f x, fun l => (.own H.length ty.size, H ++ [some ⟨aO ty l, e, true, false, some ⟨ty, l⟩⟩])⟩
  | none => none
 else none
theorem aNI {g : FuncId} {args : List Kd} {e : TypeId} {ty : Ty} {f : aH args → Option (List ty.den)} (hf : aNX P g args e ty f) : I8 P (g, aW1 args e ty f) := by
 intro qs H r h y hy n0 G μ w vs hW hv
 dsimp only at h
 unfold aW1 at h
 obtain ⟨hn, h⟩ := aDO h
 split at h
 ·rename_i x hx
  have h := Option.some.inj h
  subst h
  simp only [Bool.and_eq_true] at hn
  obtain ⟨hn, hnr, hpl⟩ := hn
  have hW0 : aW (tR w) G.bare aM [] w := ⟨fun r k b h => by simp at h, fun r k g h => by simp at h, fun r s k l b h => by simp at h, hW.lt, fun _ _ => ⟨rfl, rfl⟩, fun _ h => h, kY.none _ _ (fun _ => rfl) _ _ (fun r k h => by simp at h)⟩
  obtain ⟨h1, h2⟩ := hf x y hy hW0 (xN args hx (mI (G := G) (G' := G.bare) (fun b h => h) _ _ _ hnr (cM _ _ hn hv)))
  refine ⟨h1, h2.mono ?_⟩
  rintro e' w' ⟨v', G', μ1, rfl, e1, e2, e3⟩
  refine ⟨v', G'.with G, DT μ μ1 H.length, rfl, aIP hW e1, aPO hW e1 e2 rfl (fun r k hr => ?_), ?_⟩
  ·cases r with
   | zero =>
    simp only [List.getElem?_cons_zero, Option.some.injEq] at hr
    subst hr
    exact ⟨pH _ hpl _, fun t l h => by simp only [Option.some.injEq, Tg.mk.injEq] at h; obtain ⟨rfl, _⟩ := h; cases hpl⟩
   | succ r => simp at hr
  have := aSG (H := H) (μ := μ) e3
  rw [VR] at this ⊢
  simpa using this
 ·cases h
end
end Go.PM
set_option linter.unusedSimpArgs false
set_option linter.unusedVariables false
namespace Go.PM
open Go
theorem bB (i : Int) (n : Nat) : aP i n = decide (0 ≤ i ∧ i < n) := by
 cases i with
 | ofNat m =>
  show Nat.blt m n = _
  rw [c6]
  by_cases h : m < n
  ·rw [decide_eq_true h, decide_eq_true]; exact ⟨Int.natCast_nonneg m, Int.ofNat_lt.2 h⟩
  ·rw [decide_eq_false h, decide_eq_false]; rintro ⟨-, h2⟩; exact h (Int.ofNat_lt.1 h2)
 | negSucc m =>
  show false = _
  rw [decide_eq_false]; rintro ⟨h, -⟩; exact absurd h (by omega)
theorem jL (m n : Nat) : Nat.ble m n = decide (m ≤ n) := by
 cases h : Nat.ble m n with
 | true => exact (decide_eq_true (Nat.le_of_ble_eq_true h)).symm
 | false =>
  refine (decide_eq_false fun hl => ?_).symm
  rw [Nat.ble_eq_true_of_le hl] at h
  cases h
theorem wrap64 {x : Int} (h1 : -9223372036854775808 ≤ x) (h2 : x < 9223372036854775808) : aJ .i64 x = x := by
 cases x with
 | ofNat m =>
  have : m < 9223372036854775808 := by have : (m : Int) < 9223372036854775808 := h2; omega
  unfold aJ
  simp only [c6, decide_eq_true this, cond_true]
 | negSucc m =>
  have : m < 9223372036854775808 := by omega
  unfold aJ
  simp only [c6, decide_eq_true this, cond_true]
theorem dO (i : Nat) (h : i < 9223372036854775807) : aJ .i64 ((i : Int) + 1) = ((i + 1 : Nat) : Int) := by
 rw [wrap64 (by omega) (by omega)]; rfl
theorem aWF {x : Int} (h1 : -9223372036854775808 ≤ x) (h2 : x < 9223372036854775808) : IntKind.wrap .i64 x = x := by
 rw [← ZY]; exact wrap64 h1 h2
theorem bC {α : Type} (p : Prop) [Decidable p] (a b : α) : (bif decide p then a else b) = if p then a else b := by
 by_cases h : p <;> simp [h]
theorem aD {τ α : Type} (x : τ) (k : τ → Option α) : aB (some x) k = k x := rfl
theorem nN (p : Prop) [Decidable p] : (!decide p) = decide (¬ p) := by by_cases h : p <;> simp [h]
theorem rF {β γ α : Type} (z : β) (f : β → Option α) (g : γ → Option α) : kT (.inl z) f g = f z := rfl
theorem iH {β γ α : Type} (z : γ) (f : β → Option α) (g : γ → Option α) : kT (.inr z) f g = g z := rfl

section
variable {σ τ : Type} {step : σ → Option (σ ⊕ τ)}
theorem bR (n : Nat) (x : σ) : bS step (n + 1) x = match step x with
  | some (.inl y) => bS step n y
  | some (.inr z) => some z
  | none => none := rfl
theorem VM (F : Nat → σ) (k : Nat) : ∀ (m j : Nat), (∀ i, j ≤ i → i < j + m → step (F i) = some (.inl (F (i + 1)))) → bS step (m + k) (F j) = bS step k (F (j + m))
 | 0, j, _ => by rw [Nat.zero_add, Nat.add_zero]
 | m + 1, j, h => by
  rw [Nat.add_right_comm, bR, h j (Nat.le_refl _) (by omega)]
  show bS step (m + k) (F (j + 1)) = _
  rw [VM F k m (j + 1) fun i h1 h2 => h i (by omega) (by omega)]
  congr 2; omega
theorem dV {N : Nat} (F : Nat → σ) (m : Nat) (z : τ) (hN : m < N) (h : ∀ i, i < m → step (F i) = some (.inl (F (i + 1)))) (he : step (F m) = some (.inr z)) : bS step N (F 0) = some z := by
 obtain ⟨k, rfl⟩ : ∃ k, N = m + (k + 1) := ⟨N - m - 1, by omega⟩
 rw [VM F (k + 1) m 0 (fun i _ h2 => h i (by omega)), Nat.zero_add, bR, he]
theorem KZ (F : Nat → σ) (stop : Nat → Option τ) (z : τ) (k : Nat) : ∀ (m j : Nat), (∀ i, j ≤ i → i < j + m → step (F i) = some (match stop i with | some y => .inr y | none => .inl (F (i + 1)))) → step (F (j + m)) = some (.inr z) →
   bS step (m + (k + 1)) (F j) = some (((List.range' j m).findSome? stop).getD z)
 | 0, j, _, he => by
  rw [Nat.zero_add, bR, show F j = F (j + 0) from rfl, he]; rfl
 | m + 1, j, h, he => by
  rw [Nat.add_right_comm, bR, h j (Nat.le_refl _) (by omega), List.range'_succ, List.findSome?_cons]
  cases hs : stop j with
  | some y => rfl
  | none =>
   show bS step (m + (k + 1)) (F (j + 1)) = _
   exact KZ F stop z k m (j + 1) (fun i h1 h2 => h i (by omega) (by omega)) (by rw [← he]; congr 2; omega)
theorem OG {N : Nat} (F : Nat → σ) (stop : Nat → Option τ) (m : Nat) (z : τ) (hN : m < N) (h : ∀ i, i < m → step (F i) = some (match stop i with | some y => .inr y | none => .inl (F (i + 1)))) (he : step (F m) = some (.inr z)) :
  bS step N (F 0) = some (((List.range m).findSome? stop).getD z) := by
 obtain ⟨k, rfl⟩ : ∃ k, N = m + (k + 1) := ⟨N - m - 1, by omega⟩
 rw [List.range_eq_range']
 exact KZ F stop z k m 0 (fun i _ h2 => h i (by omega)) (by rwa [Nat.zero_add])
end
end Go.PM
set_option linter.unusedSimpArgs false
set_option linter.unusedVariables false
namespace Go.Proofs
open Go Go.RowKit Go.Sort Go.Lib
set_option maxHeartbeats 6400000
set_option maxRecDepth 100000
theorem Tryz.MJ (u : Nat) (hu64 : u < 18446744073709551616) (w : World) (htab : Lib.TabIs Tryz.prog w "internal/strconv.uint64pow10" .u64 Lib.pow10Tab) :
  Calls Tryz.prog 205 #[.int .u64 u, .int .i64 10] w fun e w' => e = .returned (.string ⟨(Lib.decDigits u).toArray⟩) ∧ ∃ k os, w' = grow (w.drewN k) os := by
 by_cases hs : u < 100
 ·go_enter Tryz.func205, Tryz.ntmps205
  have hwr : IntKind.i64.wrap (u : Int) = (u : Int) := by rw [IntKind.wrap_i64]; omega
  go_wp2_with (go_at_call 178; refine (Tryz.internal_strconv_small u hs _).mono ?_; rintro e w' ⟨rfl, rfl⟩)
  go_ret
  exact ⟨rfl, 0, #[], by simp [World.drewN_zero]⟩
 ·have hu1 : 1 ≤ u := by omega
  have hnd20 : Lib.nDigits u ≤ 20 := by have := Lib.numDigits_eq u hu1 hu64; split at this <;> omega
  have hal : Tryz.prog.arrayLen 252 = 24 := by simp [Program.arrayLen, Tryz.underlying252]
  have hsl : ∀ W, (Instr.sliceAt 252 (.pointer (some ⟨w.heap.size, 0, none⟩)) none (some (.int .i64 (Lib.nDigits u : Int))) none).run Tryz.prog W = .ok (.slice (some ⟨w.heap.size, 0, none⟩) (Lib.nDigits u) 24) W := fun W => by
   rw [run_sliceAt_array_h W 252 ⟨w.heap.size, 0, none⟩ (by simp [Program.arrayLen, Program.elem, Tryz.underlying252]) .i64 (Lib.nDigits u : Int) (by omega) (by rw [hal]; omega)]
   go_simp
  have hH0 := Lib.holds_zero0 w 252 (Lib.nDigits u) (by omega)
  have hfmt := Tryz.internal_strconv_formatBase10 w.heap.size 0 24 u (Array.replicate (Lib.nDigits u) 0) (w.alloc (.cells Lib.zeros24 252)) hH0 (by rw [Array.size_replicate]; exact Lib.lt_pow_nDigits u) hu64 (by rw [Array.size_replicate]; omega)
  rw [Array.size_replicate] at hfmt
  have HH0 := Lib.hid hH0
  clear hH0 hal
  go_enter Tryz.func205, Tryz.ntmps205
  go_wp2_with (first
   | (go_at_call 179; refine (Tryz.internal_strconv_numDigits u hu1 hu64 _ (Lib.tabIs_alloc htab _)).mono ?_; rintro e w' ⟨rfl, rfl⟩))
  go_at_call 180
  refine hfmt.mono ?_
  rintro e w' ⟨rfl, k, v', dk, rfl, hF⟩
  have hcv : (convert 187 9 (.slice (some ⟨w.heap.size, 0, none⟩) (Lib.nDigits u) 24)).run Tryz.prog ((putRow (fun (b : UInt8) => Value.int .u8 (b.toNat : Int)) (w.alloc (.cells Lib.zeros24 252)) w.heap.size 0 dk).drewN k) = .ok (.string ⟨(Lib.decDigits u).toArray⟩) ((putRow (fun (b : UInt8) => Value.int .u8 (b.toNat : Int)) (w.alloc (.cells Lib.zeros24 252)) w.heap.size 0 dk).drewN k) := by
   have h := run_convert_bytes_back (P := Tryz.prog) ((putRow (fun (b : UInt8) => Value.int .u8 (b.toNat : Int)) (w.alloc (.cells Lib.zeros24 252)) w.heap.size 0 dk).drewN k) 187 9 5 ⟨w.heap.size, 0, none⟩ 24 (Lib.decDigits u) Tryz.underlying187 Tryz.underlying5 Tryz.underlying9 (fun j hj => by
    rw [Lib.row_is_numeral hF j hj, Lib.add_plain, World.cell?_drewN]
    exact cell?_putRow (fun (b : UInt8) => Value.int .u8 (b.toNat : Int)) _ w.heap.size 0 _ dk HH0.out (by rw [hF.size, Array.size_replicate]) j (by rw [hF.size]; rw [Lib.decDigits_length] at hj; exact hj))
   rw [Lib.decDigits_length] at h
   exact h
  go_wp2
  go_ret
  obtain ⟨os, eo⟩ := Lib.fin_at w (.cells Lib.zeros24 252) dk k 0
  exact ⟨rfl, k, os, eo⟩
theorem Tryz.JG (u : Nat) (hu64 : u < 18446744073709551616) (w : World) (htab : Lib.TabIs Tryz.prog w "internal/strconv.uint64pow10" .u64 Lib.pow10Tab) :
  Calls Tryz.prog 186 #[.int .u64 u, .int .i64 10] w fun e w' => e = .returned (.string ⟨(Lib.decDigits u).toArray⟩) ∧ ∃ k os, w' = grow (w.drewN k) os := by
 go_enter Tryz.func186, Tryz.ntmps186
 go_wp2_with (go_at_call 205; refine (Tryz.MJ u hu64 _ htab).mono ?_; rintro e w' ⟨rfl, k, os, rfl⟩)
 go_ret
 exact ⟨rfl, k, os, rfl⟩
end Go.Proofs
set_option linter.unusedSimpArgs false
set_option linter.unusedVariables false
namespace Go.PM
open Go Go.RowKit Go.Proofs
set_option maxRecDepth 100000
theorem aNQ {w : World} {G : Nat → Prop} (h : Lt w G) : Lib.TabIs Tryz.prog w "internal/strconv.uint64pow10" .u64 Lib.pow10Tab := by
 have hm : (0, aNF .u64 [1, 10, 100, 1000, 10000, 100000, 1000000, 10000000, 100000000, 1000000000, 10000000000, 100000000000, 1000000000000, 10000000000000, 100000000000000, 1000000000000000, 10000000000000000, 100000000000000000, 1000000000000000000, 10000000000000000000]) ∈ a2U := by simp [a2U]
 obtain ⟨-, t, fr, ht⟩ := h.tab _ hm
 have hg : Tryz.prog.globalNamed "internal/strconv.uint64pow10" = some 0 := by kernel_rfl
 unfold Lib.TabIs World.var?
 rw [hg]
 simp only [Option.bind_some]
 rw [ht]
 rfl
theorem aJS {w : World} {G : Nat → Prop} (hG : ∀ b, G b → b < w.heap.size) (k : Nat) (os : Array Obj) : Ext (tR w) w (Gd.of G) aM (Sort.grow (w.drewN k) os) (Gd.of G) aM :=
 have hb : ∀ b, b < w.heap.size → (Sort.grow (w.drewN k) os).heap[b]? = w.heap[b]? := fun b hb => Lib.heap_grow_old w k os b hb
 {good := fun b h => ⟨h, hb b (hG b h)⟩
  row := fun _ _ h => h
  map := fun _ _ h => (by cases h)
  len := fun _ _ h => (by cases h)
  room := fun b n ⟨c, t, fr, h1, h2⟩ => ⟨c, t, fr, by rw [hb b (eZ h1)]; exact h1, h2⟩
  os := rfl
  tape := rfl
  output := rfl
  size := by show w.heap.size ≤ (w.heap ++ os).size; simp
  drawn := Nat.le_add_right _ _
  old := fun b h _ => hb b h
  new := fun b h => .inl h }
theorem aDH {w w' : World} {G : Nat → Prop} (hG : ∀ b, G b → b < w.heap.size) (h : Below w.heap.size w w') (hd : w.drawn ≤ w'.drawn) : Ext (tR w) w (Gd.of G) aM w' (Gd.of G) aM :=
 {good := fun b hb => ⟨hb, h.block b (hG b hb)⟩
  row := fun _ _ h => h
  map := fun _ _ h => (by cases h)
  len := fun _ _ h => (by cases h)
  room := fun b n ⟨c, t, fr, h1, h2⟩ => ⟨c, t, fr, by rw [h.block b (eZ h1)]; exact h1, h2⟩
  os := h.os
  tape := h.tape
  output := h.output
  size := h.size
  drawn := hd
  old := fun b hb _ => h.block b hb
  new := fun b hb => .inl hb }
theorem T5 {w : World} {G : Nat → Prop} (hG : ∀ b, G b → b < w.heap.size) (e : TypeId) (t : ByteArray) : Ext (tR w) w (Gd.of G) aM (Lib.bytesWorld w e t) (Gd.of G) aM :=
 aDH hG (Joins.below_bytesWorld _ w e t (Nat.le_refl _)) (by
  show w.drawn ≤ ((w.drew.alloc _).freeze _ 1).drawn
  simp [World.freeze, World.alloc, World.drew, -World.alloc_eq, -World.drew_eq])
def V4 : Nat → Nat → List UInt8 → List UInt8
 | 0, _, acc => acc
 | f + 1, u, acc => bif Nat.blt u 10 then UInt8.ofNat (48 + u) :: acc else V4 f (u / 10) (UInt8.ofNat (48 + u % 10) :: acc)
theorem ZN : ∀ (f u : Nat) (acc : List UInt8), u < 10 ^ (f + 1) → V4 (f + 1) u acc = Lib.decDigits u ++ acc
 | f, u, acc, h => by
  rw [Lib.decDigits]
  by_cases h1 : u < 10
  ·rw [dif_pos h1, V4]
   have : Nat.blt u 10 = true := by rw [c6]; simpa using h1
   rw [this]; rfl
  ·rw [dif_neg h1, V4]
   have : Nat.blt u 10 = false := by rw [c6]; simpa using h1
   rw [this, cond_false]
   cases f with
   | zero => omega
   | succ f =>
    rw [ZN f (u / 10) _ (by rw [Nat.pow_succ] at h; omega)]
    simp
def aIW : Int → ByteArray
 | .ofNat u => ⟨(V4 20 u []).toArray⟩
 | .negSucc u => ⟨(45 :: V4 20 (u + 1) []).toArray⟩
theorem aAH {n : Int} (h : n.natAbs < 10 ^ 20) : aIW n = ⟨(Lib.itoa n).toArray⟩ := by
 cases n with
 | ofNat u =>
  have h1 : ¬ (Int.ofNat u < 0) := by simp
  unfold Lib.itoa
  rw [if_neg h1]
  show (⟨(V4 (19 + 1) u []).toArray⟩ : ByteArray) = ⟨(Lib.decDigits u).toArray⟩
  rw [ZN 19 u [] h, List.append_nil]
 | negSucc u =>
  have h1 : Int.negSucc u < 0 := Int.negSucc_lt_zero u
  unfold Lib.itoa
  rw [if_pos h1]
  show (⟨(45 :: V4 (19 + 1) (u + 1) []).toArray⟩ : ByteArray) = ⟨(45 :: Lib.decDigits (u + 1)).toArray⟩
  rw [ZN 19 (u + 1) [] h, List.append_nil]
def sJ (x : aH [.int .i64]) : Option (aH [.str]) := match x with
 | (n, ()) => bif !(ltI n (-9223372036854775808)) && !(ltI 9223372036854775807 n) then some (aIW n, ()) else none
def sI (x : aH [.str]) : Option (aH [.int .i64, .nilI]) := match x with
 | (s, ()) => bif Nat.ble s.size 18 then (match Lib.atoi s.data.toList with
  | some n => some (n, (), ())
  | none => none) else none
def mP (x : aH [.str, .int .i64, .int .i64]) : Option (aH [.int .i64, .nilI]) := match x with
 | (s, b, c, ()) => bif Nat.ble s.size 1000000000 && (eqI b 10 && eqI c 64) then (match Lib.parseIntB 64 s.data.toList with
  | .ok n => some (n, (), ())
  | _ => none) else none
def lM (x : aH [.str, .int .i64, .int .i64]) : Option (aH [.int .u64, .nilI]) := match x with
 | (s, b, c, ()) => bif Nat.ble s.size 1000000000 && (eqI b 10 && eqI c 64) then (match Lib.parseUintB 64 s.data.toList with
  | .ok n => some ((n : Int), (), ())
  | _ => none) else none
def kV (x : aH [.int .u64, .int .i64]) : Option (aH [.str]) := match x with
 | (n, b, ()) => bif !(ltI n 0) && (ltI n 18446744073709551616 && eqI b 10) then some (aIW n, ()) else none
theorem a4W {w : World} {G : Gd} {u : Value} {vs : Array Value} (h : VRs w G aM [.lit u] vs.toList) : vs = #[u] := by
 rw [VRs] at h
 obtain ⟨v, us, hvs, h1, h2⟩ := h
 rw [VRs] at h2
 rw [VR] at h1
 subst h2; subst h1
 exact Array.ext' (by simpa using hvs)
theorem a6L {w : World} {G : Gd} {u1 u2 : Value} {vs : Array Value} (h : VRs w G aM [.lit u1, .lit u2] vs.toList) : vs = #[u1, u2] := by
 rw [VRs] at h
 obtain ⟨v, us, hvs, h1, h2⟩ := h
 rw [VRs] at h2
 obtain ⟨v2, us2, hvs2, h3, h4⟩ := h2
 rw [VRs] at h4
 rw [VR] at h1 h3
 subst h4; subst h3; subst h1; subst hvs2
 exact Array.ext' (by simpa using hvs)
theorem a43 {w : World} {G : Gd} {u1 u2 u3 : Value} {vs : Array Value} (h : VRs w G aM [.lit u1, .lit u2, .lit u3] vs.toList) : vs = #[u1, u2, u3] := by
 rw [VRs] at h
 obtain ⟨v, us, hvs, h1, h2⟩ := h
 rw [VRs] at h2
 obtain ⟨v2, us2, hvs2, h3, h4⟩ := h2
 rw [VRs] at h4
 obtain ⟨v3, us3, hvs3, h5, h6⟩ := h4
 rw [VRs] at h6
 rw [VR] at h1 h3 h5
 subst h6; subst h5; subst h3; subst h1; subst hvs3; subst hvs2
 exact Array.ext' (by simpa using hvs)
theorem KR {w : World} {G : Gd} (k : IntKind) (n : Int) : VR w G aM (.tuple [.lit (.int k n), .lit .nilIface]) (.tuple #[.int k n, .nilIface]) := by
 rw [VR]
 refine ⟨_, rfl, ?_⟩
 show VRs w G aM _ [.int k n, .nilIface]
 rw [VRs]
 refine ⟨_, _, rfl, by rw [VR], ?_⟩
 rw [VRs]
 exact ⟨_, _, rfl, by rw [VR], by rw [VRs]⟩
theorem aSE {w : World} {G : Gd} (s : ByteArray) : VR w G aM (.lit (.string s)) (.string s) := by rw [VR]
theorem aAP : cO Tryz.prog 86 [.int .i64] [.str] sJ := by
 rintro ⟨n, ⟨⟩⟩ y h w G vs hG hv
 unfold sJ at h
 obtain ⟨hb, h⟩ := aI h
 simp only [Bool.and_eq_true, Bool.not_eq_true', aL, decide_eq_false_iff_not] at hb
 obtain rfl := Option.some.inj h
 obtain rfl := a4W hv
 refine ⟨enters Tryz.func86 (by kernel_rfl) (by kernel_rfl) _ _, (Tryz.strconv_Itoa n (by omega) (by omega) w (aNQ hG)).mono ?_⟩
 rintro e w' ⟨rfl, k, os, rfl⟩
 rw [← aAH (by omega)]
 have he := aJS hG.lt k os
 exact ⟨_, G, rfl, he, fun b hb => Nat.lt_of_lt_of_le (hG b hb) he.size, aSE _⟩
theorem aAR : cO Tryz.prog 154 [.str] [.int .i64, .nilI] sI := by
 rintro ⟨s, ⟨⟩⟩ y h w G vs hG hv
 unfold sI at h
 obtain ⟨hb, h4⟩ := aI h
 clear h
 have hl := Nat.le_of_ble_eq_true hb
 split at h4
 ·rename_i n hn
  obtain rfl := Option.some.inj h4
  obtain rfl := a4W hv
  refine ⟨enters Tryz.func154 (by kernel_rfl) (by kernel_rfl) _ _, (Tryz.strconv_Atoi s n hl hn w).mono ?_⟩
  rintro e w' ⟨rfl, t, rfl⟩
  have he := T5 hG.lt 5 t
  exact ⟨_, G, rfl, he, fun b hb => Nat.lt_of_lt_of_le (hG b hb) he.size, KR _ n⟩
 ·cases h4
theorem N4 : cO Tryz.prog 143 [.str, .int .i64, .int .i64] [.int .i64, .nilI] mP := by
 rintro ⟨s, b, c, ⟨⟩⟩ y h w G vs hG hv
 unfold mP at h
 obtain ⟨hb, h4⟩ := aI h
 clear h
 simp only [Bool.and_eq_true, dI, decide_eq_true_eq] at hb
 obtain ⟨hb1, rfl, rfl⟩ := hb
 have hl := Nat.le_of_ble_eq_true hb1
 split at h4
 ·rename_i n hn
  obtain rfl := Option.some.inj h4
  obtain rfl := a43 hv
  refine ⟨enters Tryz.func143 (by kernel_rfl) (by kernel_rfl) _ _, (Tryz.strconv_ParseInt_10_at64_ok s (by omega) n hn w).mono ?_⟩
  rintro e w' ⟨rfl, hw⟩
  rcases hw with rfl | ⟨t, rfl⟩
  ·exact ⟨_, G, rfl, Ext.refl _ _ _ _, hG.lt, KR _ n⟩
  ·have he := T5 hG.lt 5 t
   exact ⟨_, G, rfl, he, fun b hb => Nat.lt_of_lt_of_le (hG b hb) he.size, KR _ n⟩
 ·cases h4
theorem MO : cO Tryz.prog 204 [.str, .int .i64, .int .i64] [.int .u64, .nilI] lM := by
 rintro ⟨s, b, c, ⟨⟩⟩ y h w G vs hG hv
 unfold lM at h
 obtain ⟨hb, h4⟩ := aI h
 clear h
 simp only [Bool.and_eq_true, dI, decide_eq_true_eq] at hb
 obtain ⟨hb1, rfl, rfl⟩ := hb
 have hl := Nat.le_of_ble_eq_true hb1
 split at h4
 ·rename_i n hn
  obtain rfl := Option.some.inj h4
  obtain rfl := a43 hv
  refine ⟨enters Tryz.func204 (by kernel_rfl) (by kernel_rfl) _ _, (Tryz.strconv_ParseUint_10_at64_ok s (by omega) n hn w).mono ?_⟩
  rintro e w' ⟨rfl, hw⟩
  rcases hw with rfl | rfl
  ·exact ⟨_, G, rfl, Ext.refl _ _ _ _, hG.lt, KR _ n⟩
  ·have he := T5 hG.lt 5 s
   exact ⟨_, G, rfl, he, fun b hb => Nat.lt_of_lt_of_le (hG b hb) he.size, KR _ n⟩
 ·cases h4
theorem KU : cO Tryz.prog 186 [.int .u64, .int .i64] [.str] kV := by
 rintro ⟨n, b, ⟨⟩⟩ y h w G vs hG hv
 unfold kV at h
 obtain ⟨hb, h4⟩ := aI h
 clear h
 simp only [Bool.and_eq_true, Bool.not_eq_true', aL, dI, decide_eq_true_eq, decide_eq_false_iff_not] at hb
 obtain ⟨hb1, hb2, rfl⟩ := hb
 obtain rfl := Option.some.inj h4
 obtain rfl := a6L hv
 obtain ⟨u, hu⟩ : ∃ u : Nat, (n : Int) = (u : Int) := ⟨Int.toNat n, (Int.toNat_of_nonneg (Int.not_lt.1 hb1)).symm⟩
 subst hu
 refine ⟨enters Tryz.func186 (by kernel_rfl) (by kernel_rfl) _ _, (Tryz.JG u (Int.ofNat_lt.1 hb2) w (aNQ hG)).mono ?_⟩
 rintro e w' ⟨rfl, k, os, rfl⟩
 have hi : (⟨(Lib.decDigits u).toArray⟩ : ByteArray) = aIW (u : Int) := by
  have h1 : u < 10 ^ 20 := Nat.lt_trans (Int.ofNat_lt.1 hb2) (by decide)
  rw [aAH (by simpa using h1), Lib.itoa_nonneg]
 rw [hi]
 have he := aJS hG.lt k os
 exact ⟨_, G, rfl, he, fun b hb => Nat.lt_of_lt_of_le (hG b hb) he.size, aSE _⟩
abbrev NM : Ent := ⟨86, [.int .i64], [.str], sJ⟩
theorem U5 : Ent.OK Tryz.prog NM := aAP
abbrev M9 : Ent := ⟨154, [.str], [.int .i64, .nilI], sI⟩
theorem T3 : Ent.OK Tryz.prog M9 := aAR
abbrev DA : Ent := ⟨143, [.str, .int .i64, .int .i64], [.int .i64, .nilI], mP⟩
theorem KY : Ent.OK Tryz.prog DA := N4
abbrev BM : Ent := ⟨204, [.str, .int .i64, .int .i64], [.int .u64, .nilI], lM⟩
theorem JQ : Ent.OK Tryz.prog BM := MO
abbrev zB : Ent := ⟨186, [.int .u64, .int .i64], [.str], kV⟩
theorem H9 : Ent.OK Tryz.prog zB := KU
end Go.PM
set_option linter.unusedSimpArgs false
set_option linter.unusedVariables false
namespace Go.PM
open Go Go.RowKit Go.Proofs
set_option maxRecDepth 100000
set_option maxHeartbeats 4000000
/-! slices.Clone[schisma/api.Row,int] -/
def f64 (x : aH [.list TyE]) : Option (aH [.list TyE]) := match x with
 | (v0, ()) =>
  bif Nat.blt 0 v0.length then bif Nat.ble v0.length 1048576 then some (v0, ()) else none else none
noncomputable def c64 : Code := aT Tryz.f64
abbrev E64 : Env := bI []
theorem a0Z : aZ Tryz.prog E64 := aY trivial
def a5J (id : Nat) : Option aR := none
theorem aV2 : aF c64 = [] := by kernel_rfl
theorem a3K : ∀ x, bQ Tryz.prog E64 Tryz.f64 (aC Tryz.f64) a5J c64 [.list TyE] [.list TyE] x = f64 x := by
 rintro ⟨v0, ⟨⟩⟩
 kernel_rfl
theorem a6Z : cO Tryz.prog 64 [.list TyE] [.list TyE] f64 := by
 exact bA aK a0Z Tryz.func64 (c := c64) (by kernel_rfl) (aU := aC Tryz.f64) (lt := a5J) (aE aV2 trivial) a3K
/-! slices.Clone of nothing -/
theorem aTI : ∃ i : TypeInfo, Tryz.prog.info? 3 = some i := ⟨(Tryz.prog.info? 3).get (by kernel_rfl), (Option.some_get _).symm⟩
theorem Tryz.aMV (w : World) (a : Option Addr) (n c n' c' : Nat) : (binOp .eql 23 (.slice a n c) (.slice none n' c')).run Tryz.prog w = .ok (.bool a.isNone) w := Lib.run_eql_slice_nil w _ _ a n c n' c' Tryz.underlying23
theorem aQ1 (c : Nat) (w : World) : Calls Tryz.prog 64 #[.slice none 0 c] w fun e w' => e = .returned (.slice none 0 0) ∧ w' = w := by
 have qT := Tryz.aMV
 go_enter Tryz.func64, Tryz.ntmps64
 go_wp2
 go_ret
 exact ⟨rfl, rfl⟩
set_option maxHeartbeats 2000000 in
theorem aJT (p : Addr) (c : Nat) (w : World) : Calls Tryz.prog 64 #[.slice (some p) 0 c] w fun e w' => e = .returned (.slice (some ⟨w.heap.size, 0, none⟩) 0 0) ∧ w' = w.alloc (.cells #[] 3) := by
 have qT := Tryz.aMV
 obtain ⟨i, hi⟩ := aTI
 have hrz : ∀ ty, (Builtin.append_ #[23, 23] ty #[.slice (some ⟨w.heap.size, 0, none⟩) 0 0, .slice (some p) 0 c]).run Tryz.prog (w.alloc (.cells #[] 3)) = .ok (.slice (some ⟨w.heap.size, 0, none⟩) 0 0) (w.alloc (.cells #[] 3)) := fun ty =>
  run_append_nothing _ 23 23 ty 3 i Tryz.underlying23 hi _ 0 0 (Nat.le_refl _) _ (Src.ofSlice _ (e' := 3) Tryz.underlying23 p 0 c [] (Nat.zero_mul _).symm (fun j u hu => by simp at hu) (fun u hu => by cases hu))
 go_enter Tryz.func64, Tryz.ntmps64
 go_wp2_with (at_builtin; refine Lib.wpList_append_run _ rfl _ _ _ _ rfl _ _ rfl rfl _ _ (hrz _) ?_)
 all_goals (go_ret; exact ⟨rfl, rfl⟩)
def aB9 (x : aH [.list TyE]) : Option (aH [.list TyE]) := match x with
 | (l, ()) => bif Nat.ble l.length 1048576 then some (l, ()) else none
theorem a4J : cO Tryz.prog 64 [.list TyE] [.list TyE] aB9 := by
 rintro ⟨l, ⟨⟩⟩ y h
 unfold aB9 at h
 obtain ⟨hl, h4⟩ := aI h
 clear h
 have h4 := Option.some.inj h4
 subst h4
 cases l with
 | cons a l =>
  refine a6Z (a :: l, ()) _ ?_
  unfold f64
  dsimp only
  rw [hl, show Nat.blt 0 (a :: l).length = true from rfl]; rfl
 | nil =>
  intro w G vs hG hv
  have k1 : VRs w (Gd.of G) aM [zM TyE [] none] vs.toList := hv
  rw [VRs] at k1
  obtain ⟨v, us, hvs, g1, g2⟩ := k1
  rw [VRs] at g2
  subst g2
  unfold zM at g1
  rw [VR] at g1
  obtain ⟨g1, -⟩ := g1
  rw [VR] at g1
  obtain ⟨ao, c, rfl, -, -, -⟩ := g1
  have hvs : vs = #[.slice ao 0 c] := Array.ext' (by simpa using hvs)
  subst hvs
  refine ⟨enters Tryz.func64 (by kernel_rfl) (by kernel_rfl) _ _, ?_⟩
  have hr : ∀ {w' : World} {G' : Nat → Prop} (ao' : Option Addr), VR w' (Gd.of G') aM (aJ5 [.list TyE] ([], ())) (.slice ao' 0 0) := by
   intro w' G' ao'
   show VR w' (Gd.of G') aM (zM TyE [] none) _
   unfold zM
   rw [VR]
   refine ⟨?_, rfl⟩
   rw [VR]
   exact ⟨ao', 0, rfl, Nat.le_refl _, fun k hk => (by cases hk), .inl rfl⟩
  cases ao with
  | none =>
   refine (aQ1 c w).mono ?_
   rintro e w' ⟨rfl, rfl⟩
   exact ⟨_, G, rfl, Ext.refl _ _ _ _, hG, hr _⟩
  | some p =>
   refine (aJT p c w).mono ?_
   rintro e w' ⟨rfl, rfl⟩
   have he := aDH hG (((Below.refl _ w).alloc (Nat.le_refl _) (.cells #[] 3))) (Nat.le_refl _)
   exact ⟨_, G, rfl, he, fun b hb => Nat.lt_of_lt_of_le (hG b hb) he.size, hr _⟩
abbrev aZ0 : Ent := ⟨64, [.list TyE], [.list TyE], aB9⟩
theorem aNL : Ent.OK Tryz.prog aZ0 := a4J
end Go.PM
set_option linter.unusedSimpArgs false
set_option linter.unusedVariables false
namespace Go.PM
open Go Go.RowKit Go.Proofs
set_option maxRecDepth 100000
set_option maxHeartbeats 4000000
/-! cmp.isNaN[int] -/
def f98 (x : aH [.int .i64]) : Option (aH [.bool]) := match x with
 | (v0, ()) =>
  some (!(eqI v0 v0), ())
noncomputable def c98 : Code := aT Tryz.f98
abbrev E98 : Env := bI []
theorem a1Q : aZ Tryz.prog E98 := aY trivial
def a5H (id : Nat) : Option aR := none
theorem aWB : aF c98 = [] := by kernel_rfl
theorem a2W : ∀ x, bQ Tryz.prog E98 Tryz.f98 (aC Tryz.f98) a5H c98 [.int .i64] [.bool] x = f98 x := by
 rintro ⟨v0, ⟨⟩⟩
 kernel_rfl
theorem a6O : cO Tryz.prog 98 [.int .i64] [.bool] f98 := by
 exact bA aK a1Q Tryz.func98 (c := c98) (by kernel_rfl) (aU := aC Tryz.f98) (lt := a5H) (aE aWB trivial) a2W
abbrev e98 : Ent := ⟨98, [.int .i64], [.bool], f98⟩
theorem a2E : Ent.OK Tryz.prog e98 := a6O

/-! cmp.Compare[int] -/
def f74 (x : aH [.int .i64, .int .i64]) : Option (aH [.int .i64]) := match x with
 | (v0, v1, ()) =>
  aB (f98 (v0, ())) fun y1 =>
  aB (f98 (v1, ())) fun y2 =>
  bif y1.1 then
   bif y2.1 then
    some (0, ())
   else some ((-1), ())
  else bif y2.1 then
   some (1, ())
  else bif ltI v0 v1 then
   some ((-1), ())
  else bif ltI v1 v0 then
   some (1, ())
  else some (0, ())
noncomputable def c74 : Code := aT Tryz.f74
abbrev E74 : Env := bI [e98]
theorem a1V : aZ Tryz.prog E74 := aY ⟨a2E, trivial⟩
def a4G (id : Nat) : Option aR := none
theorem aXJ : aF c74 = [] := by kernel_rfl
theorem a1H : ∀ x, bQ Tryz.prog E74 Tryz.f74 (aC Tryz.f74) a4G c74 [.int .i64, .int .i64] [.int .i64] x = f74 x := by
 rintro ⟨v0, v1, ⟨⟩⟩
 kernel_rfl
theorem a5W : cO Tryz.prog 74 [.int .i64, .int .i64] [.int .i64] f74 := by
 exact bA aK a1V Tryz.func74 (c := c74) (by kernel_rfl) (aU := aC Tryz.f74) (lt := a4G) (aE aXJ trivial) a1H
abbrev e74 : Ent := ⟨74, [.int .i64, .int .i64], [.int .i64], f74⟩
theorem a0M : Ent.OK Tryz.prog e74 := a5W

/-! slices.Compare[schisma/api.Row,int] -/
abbrev T4 : List (Nat × Kd) := [(0, .list TyE), (1, .list TyE), (9, .list TyE), (10, .int .i64), (11, .int .i64)]
abbrev YM : List (Ex × List (Nat × Kd)) := [(.ret, [(4, .int .i64)]), (.exit 0, [(0, .list TyE), (1, .list TyE)])]
def KF (x : Shape.den T4) : Option (Shape.den T4 ⊕ aV YM) := match x with
 | (v0, v1, v9, v10, v11, ()) =>
  bif ltI v11 v10 then
   bif aP v11 v9.length then bif !(ltI v11 (v1.length : Int)) then
    some (.inr (.inl (1, ())))
   else bif aP v11 v1.length then aB (f74 ((v9.getD v11.toNat 0), (v1.getD v11.toNat 0), ())) fun y2 =>
   bif !(eqI y2.1 0) then
    some (.inr (.inl (y2.1, ())))
   else some (.inl (v0, v1, v9, v10, (aJ .i64 (v11 + 1)), ())) else none else none
  else some (.inr (.inr ((v0, v1, ()))))
def RE (x : Shape.den T4) : Option (aV YM) := bS KF (2 ^ 64) x
def f57 (x : aH [.list TyE, .list TyE]) : Option (aH [.int .i64]) := match x with
 | (v0, v1, ()) =>
  aB (RE (v0, v1, v0, (v0.length : Int), 0, ())) fun z3 =>
  kT z3 (fun a4 => some (a4.1, ())) fun b5 =>
  bif ltI (b5.1.length : Int) (b5.2.1.length : Int) then
   some ((-1), ())
  else some (0, ())
noncomputable def c57 : Code := aT Tryz.f57
abbrev E57 : Env := bI [e74]
theorem aRX : aZ Tryz.prog E57 := aY ⟨a0M, trivial⟩
noncomputable def aJQ : Code := eD c57 0
def a2Y (id : Nat) : Option aR := bif Nat.beq id 2 then some ⟨T4, YM, RE⟩ else none
theorem aN3 : ∀ x, dZ Tryz.prog E57 36 (aC Tryz.f57) a2Y aJQ T4 YM x = KF x := by
 rintro ⟨v0, v1, v9, v10, v11, ⟨⟩⟩
 kernel_rfl
theorem a0J : aF aJQ = [] := by kernel_rfl
theorem aQD : aG aJQ = 2 := by kernel_rfl
theorem aVK : cL Tryz.prog 36 aJQ ⟨T4, YM, RE⟩ := by
 exact cS aRX.callee aK.mixed _ (aE a0J trivial) aN3
theorem aXC : aF c57 = [aJQ] := by kernel_rfl
theorem a3P : ∀ x, bQ Tryz.prog E57 Tryz.f57 (aC Tryz.f57) a2Y c57 [.list TyE, .list TyE] [.int .i64] x = f57 x := by
 rintro ⟨v0, v1, ⟨⟩⟩
 kernel_rfl
theorem a6J : cO Tryz.prog 57 [.list TyE, .list TyE] [.int .i64] f57 := by
 exact bA aK aRX Tryz.func57 (c := c57) (by kernel_rfl) (aU := aC Tryz.f57) (lt := a2Y) (aE aXC ⟨cR aQD rfl aVK, trivial⟩) a3P
abbrev e57 : Ent := ⟨57, [.list TyE, .list TyE], [.int .i64], f57⟩
theorem aZP : Ent.OK Tryz.prog e57 := a6J

/-! schisma/row.Compare -/
def f35 (x : aH [.list TyE, .list TyE]) : Option (aH [.int .i64]) := match x with
 | (v0, v1, ()) =>
  aB (f57 (v0, v1, ())) fun y1 =>
  some (y1.1, ())
noncomputable def c35 : Code := aT Tryz.f35
abbrev E35 : Env := bI [e57]
theorem a2H : aZ Tryz.prog E35 := aY ⟨aZP, trivial⟩
def a4A (id : Nat) : Option aR := none
theorem aXB : aF c35 = [] := by kernel_rfl
theorem a2C : ∀ x, bQ Tryz.prog E35 Tryz.f35 (aC Tryz.f35) a4A c35 [.list TyE, .list TyE] [.int .i64] x = f35 x := by
 rintro ⟨v0, v1, ⟨⟩⟩
 kernel_rfl
theorem a6R : cO Tryz.prog 35 [.list TyE, .list TyE] [.int .i64] f35 := by
 exact bA aK a2H Tryz.func35 (c := c35) (by kernel_rfl) (aU := aC Tryz.f35) (lt := a4A) (aE aXB trivial) a2C
abbrev e35 : Ent := ⟨35, [.list TyE, .list TyE], [.int .i64], f35⟩
theorem a18 : Ent.OK Tryz.prog e35 := a6R

/-! schisma/row.fits -/
def f60 (x : aH [.int .i64]) : Option (aH [.bool]) := match x with
 | (v0, ()) =>
  bif !(ltI v0 (-1000000000)) then
   some (!(ltI 1000000000 v0), ())
  else some (false, ())
noncomputable def c60 : Code := aT Tryz.f60
abbrev E60 : Env := bI []
theorem a3W : aZ Tryz.prog E60 := aY trivial
def a4P (id : Nat) : Option aR := none
theorem aYB : aF c60 = [] := by kernel_rfl
theorem a0N : ∀ x, bQ Tryz.prog E60 Tryz.f60 (aC Tryz.f60) a4P c60 [.int .i64] [.bool] x = f60 x := by
 rintro ⟨v0, ⟨⟩⟩
 kernel_rfl
theorem a7G : cO Tryz.prog 60 [.int .i64] [.bool] f60 := by
 exact bA aK a3W Tryz.func60 (c := c60) (by kernel_rfl) (aU := aC Tryz.f60) (lt := a4P) (aE aYB trivial) a0N
abbrev e60 : Ent := ⟨60, [.int .i64], [.bool], f60⟩
theorem a19 : Ent.OK Tryz.prog e60 := a7G

/-! schisma/row.Check$1 -/
def f59 (x : aH [.int .i64]) : Option (aH [.bool]) := match x with
 | (v0, ()) =>
  aB (f60 (v0, ())) fun y1 =>
  bif y1.1 then
   some (false, ())
  else some (true, ())
noncomputable def c59 : Code := aT Tryz.f59
abbrev E59 : Env := bI [e60]
theorem a1Z : aZ Tryz.prog E59 := aY ⟨a19, trivial⟩
def a4H (id : Nat) : Option aR := none
theorem aWS : aF c59 = [] := by kernel_rfl
theorem a3T : ∀ x, bQ Tryz.prog E59 Tryz.f59 (aC Tryz.f59) a4H c59 [.int .i64] [.bool] x = f59 x := by
 rintro ⟨v0, ⟨⟩⟩
 kernel_rfl
theorem a6A : cO Tryz.prog 59 [.int .i64] [.bool] f59 := by
 exact bA aK a1Z Tryz.func59 (c := c59) (by kernel_rfl) (aU := aC Tryz.f59) (lt := a4H) (aE aWS trivial) a3T
abbrev e59 : Ent := ⟨59, [.int .i64], [.bool], f59⟩
theorem aZW : Ent.OK Tryz.prog e59 := a6A

/-! slices.IndexFunc[schisma/api.Row,int] -/
abbrev tP : List (Nat × Kd) := [(0, .list TyE), (1, .fn 59), (7, .int .i64), (8, .int .i64)]
abbrev xQ : List (Ex × List (Nat × Kd)) := [(.ret, [(4, .int .i64)]), (.exit 0, [])]
def sS (x : Shape.den tP) : Option (Shape.den tP ⊕ aV xQ) := match x with
 | (v0, v1, v7, v8, ()) =>
  bif ltI v8 v7 then
   bif aP v8 v0.length then aB (f59 ((v0.getD v8.toNat 0), ())) fun y2 =>
   bif y2.1 then
    some (.inr (.inl (v8, ())))
   else some (.inl (v0, (), v7, (aJ .i64 (v8 + 1)), ())) else none
  else some (.inr (.inr ((()))))
def wO (x : Shape.den tP) : Option (aV xQ) := bS sS (2 ^ 64) x
def EX (x : aH [.list TyE, .fn 59]) : Option (aH [.int .i64]) := match x with
 | (v0, v1, ()) =>
  aB (wO (v0, (), (v0.length : Int), 0, ())) fun z3 =>
  kT z3 (fun a4 => some (a4.1, ())) fun b5 =>
  some ((-1), ())
noncomputable def R3 : Code := aT Tryz.f73
abbrev YB : Env := bI [e59]
theorem U7 : aZ Tryz.prog YB := aY ⟨aZW, trivial⟩
noncomputable def BF : Code := eD R3 0
def TS (id : Nat) : Option aR := bif Nat.beq id 2 then some ⟨tP, xQ, wO⟩ else none
theorem X2 : ∀ x, dZ Tryz.prog YB 19 (aC Tryz.f73) TS BF tP xQ x = sS x := by
 rintro ⟨v0, v1, v7, v8, ⟨⟩⟩
 kernel_rfl
theorem aHA : aF BF = [] := by kernel_rfl
theorem ZD : aG BF = 2 := by kernel_rfl
theorem aB0 : cL Tryz.prog 19 BF ⟨tP, xQ, wO⟩ := by
 exact cS U7.callee aK.mixed _ (aE aHA trivial) X2
theorem aFF : aF R3 = [BF] := by kernel_rfl
theorem aHI : ∀ x, bQ Tryz.prog YB Tryz.f73 (aC Tryz.f73) TS R3 [.list TyE, .fn 59] [.int .i64] x = EX x := by
 rintro ⟨v0, v1, ⟨⟩⟩
 kernel_rfl
theorem aPB : cO Tryz.prog 73 [.list TyE, .fn 59] [.int .i64] EX := by
 exact bA aK U7 Tryz.func73 (c := R3) (by kernel_rfl) (aU := aC Tryz.f73) (lt := TS) (aE aFF ⟨cR ZD rfl aB0, trivial⟩) aHI
abbrev aI5 : Ent := ⟨73, [.list TyE, .fn 59], [.int .i64], EX⟩
theorem aJW : Ent.OK Tryz.prog aI5 := aPB

/-! slices.ContainsFunc[schisma/api.Row,int] -/
def LP (x : aH [.list TyE, .fn 59]) : Option (aH [.bool]) := match x with
 | (v0, v1, ()) =>
  aB (EX (v0, (), ())) fun y1 =>
  some (!(ltI y1.1 0), ())
noncomputable def aBE : Code := aT Tryz.f55
abbrev aJJ : Env := bI [aI5]
theorem aJM : aZ Tryz.prog aJJ := aY ⟨aJW, trivial⟩
def aD3 (id : Nat) : Option aR := none
theorem aFS : aF aBE = [] := by kernel_rfl
theorem aHO : ∀ x, bQ Tryz.prog aJJ Tryz.f55 (aC Tryz.f55) aD3 aBE [.list TyE, .fn 59] [.bool] x = LP x := by
 rintro ⟨v0, v1, ⟨⟩⟩
 kernel_rfl
theorem aOY : cO Tryz.prog 55 [.list TyE, .fn 59] [.bool] LP := by
 exact bA aK aJM Tryz.func55 (c := aBE) (by kernel_rfl) (aU := aC Tryz.f55) (lt := aD3) (aE aFS trivial) aHO
abbrev aHP : Ent := ⟨55, [.list TyE, .fn 59], [.bool], LP⟩
theorem aJA : Ent.OK Tryz.prog aHP := aOY

/-! schisma/row.Check -/
def f37 (x : aH [.list TyE]) : Option (aH [.int .i64]) := match x with
 | (v0, ()) =>
  bif ltI 64 (v0.length : Int) then
   some (4, ())
  else aB (LP (v0, (), ())) fun y1 =>
  bif y1.1 then
   some (4, ())
  else some (0, ())
noncomputable def c37 : Code := aT Tryz.f37
abbrev E37 : Env := bI [aHP]
theorem a3O : aZ Tryz.prog E37 := aY ⟨aJA, trivial⟩
def a4Q (id : Nat) : Option aR := none
theorem aV9 : aF c37 = [] := by kernel_rfl
theorem a3X : ∀ x, bQ Tryz.prog E37 Tryz.f37 (aC Tryz.f37) a4Q c37 [.list TyE] [.int .i64] x = f37 x := by
 rintro ⟨v0, ⟨⟩⟩
 kernel_rfl
theorem a6N : cO Tryz.prog 37 [.list TyE] [.int .i64] f37 := by
 exact bA aK a3O Tryz.func37 (c := c37) (by kernel_rfl) (aU := aC Tryz.f37) (lt := a4Q) (aE aV9 trivial) a3X
abbrev e37 : Ent := ⟨37, [.list TyE], [.int .i64], f37⟩
theorem aRI : Ent.OK Tryz.prog e37 := a6N

/-! slices.Equal[schisma/api.Row,int] -/
abbrev UE : List (Nat × Kd) := [(0, .list TyE), (1, .list TyE), (12, .int .i64), (13, .int .i64)]
abbrev YR : List (Ex × List (Nat × Kd)) := [(.ret, [(4, .bool)]), (.exit 0, [])]
def KT (x : Shape.den UE) : Option (Shape.den UE ⊕ aV YR) := match x with
 | (v0, v1, v12, v13, ()) =>
  bif ltI v13 v12 then
   bif aP v13 v0.length then bif aP v13 v1.length then bif !(eqI (v0.getD v13.toNat 0) (v1.getD v13.toNat 0)) then
    some (.inr (.inl (false, ())))
   else some (.inl (v0, v1, v12, (aJ .i64 (v13 + 1)), ())) else none else none
  else some (.inr (.inr ((()))))
def Q2 (x : Shape.den UE) : Option (aV YR) := bS KT (2 ^ 64) x
def f46 (x : aH [.list TyE, .list TyE]) : Option (aH [.bool]) := match x with
 | (v0, v1, ()) =>
  bif !(eqI (v0.length : Int) (v1.length : Int)) then
   some (false, ())
  else aB (Q2 (v0, v1, (v0.length : Int), 0, ())) fun z1 =>
  kT z1 (fun a2 => some (a2.1, ())) fun b3 =>
  some (true, ())
noncomputable def c46 : Code := aT Tryz.f46
abbrev E46 : Env := bI []
theorem aTB : aZ Tryz.prog E46 := aY trivial
noncomputable def aHT : Code := eD c46 0
def aZ7 (id : Nat) : Option aR := bif Nat.beq id 4 then some ⟨UE, YR, Q2⟩ else none
theorem aPY : ∀ x, dZ Tryz.prog E46 26 (aC Tryz.f46) aZ7 aHT UE YR x = KT x := by
 rintro ⟨v0, v1, v12, v13, ⟨⟩⟩
 kernel_rfl
theorem a3M : aF aHT = [] := by kernel_rfl
theorem aOK : aG aHT = 4 := by kernel_rfl
theorem aTV : cL Tryz.prog 26 aHT ⟨UE, YR, Q2⟩ := by
 exact cS aTB.callee aK.mixed _ (aE a3M trivial) aPY
theorem aX4 : aF c46 = [aHT] := by kernel_rfl
theorem a2X : ∀ x, bQ Tryz.prog E46 Tryz.f46 (aC Tryz.f46) aZ7 c46 [.list TyE, .list TyE] [.bool] x = f46 x := by
 rintro ⟨v0, v1, ⟨⟩⟩
 kernel_rfl
theorem a63 : cO Tryz.prog 46 [.list TyE, .list TyE] [.bool] f46 := by
 exact bA aK aTB Tryz.func46 (c := c46) (by kernel_rfl) (aU := aC Tryz.f46) (lt := aZ7) (aE aX4 ⟨cR aOK rfl aTV, trivial⟩) a2X
abbrev e46 : Ent := ⟨46, [.list TyE, .list TyE], [.bool], f46⟩
theorem aLI : Ent.OK Tryz.prog e46 := a63

/-! schisma/row.Equal -/
def f43 (x : aH [.list TyE, .list TyE]) : Option (aH [.bool]) := match x with
 | (v0, v1, ()) =>
  aB (f46 (v0, v1, ())) fun y1 =>
  some (y1.1, ())
noncomputable def c43 : Code := aT Tryz.f43
abbrev E43 : Env := bI [e46]
theorem a06 : aZ Tryz.prog E43 := aY ⟨aLI, trivial⟩
def a5O (id : Nat) : Option aR := none
theorem aVR : aF c43 = [] := by kernel_rfl
theorem a0C : ∀ x, bQ Tryz.prog E43 Tryz.f43 (aC Tryz.f43) a5O c43 [.list TyE, .list TyE] [.bool] x = f43 x := by
 rintro ⟨v0, v1, ⟨⟩⟩
 kernel_rfl
theorem a7D : cO Tryz.prog 43 [.list TyE, .list TyE] [.bool] f43 := by
 exact bA aK a06 Tryz.func43 (c := c43) (by kernel_rfl) (aU := aC Tryz.f43) (lt := a5O) (aE aVR trivial) a0C
abbrev e43 : Ent := ⟨43, [.list TyE, .list TyE], [.bool], f43⟩
theorem aS2 : Ent.OK Tryz.prog e43 := a7D

/-! slices.Index[[]schisma/api.Key,schisma/api.Key] -/
abbrev TP : List (Nat × Kd) := [(0, .list TyF), (3, .box 109 TyF), (7, .int .i64), (8, .int .i64)]
abbrev aAM : List (Ex × List (Nat × Kd)) := [(.ret, [(4, .int .i64)]), (.exit 0, [])]
def aJX (x : Shape.den TP) : Option (Shape.den TP ⊕ aV aAM) := match x with
 | (v0, v3, v7, v8, ()) =>
  bif ltI v8 v7 then
   bif aP v8 v0.length then bif (eqI v3.1 ((v0.getD v8.toNat (0, 0)).1) && (eqI v3.2 ((v0.getD v8.toNat (0, 0)).2) && true)) then
    some (.inr (.inl (v8, ())))
   else some (.inl (v0, (v3.1, v3.2), v7, (aJ .i64 (v8 + 1)), ())) else none
  else some (.inr (.inr ((()))))
def Y7 (x : Shape.den TP) : Option (aV aAM) := bS aJX (2 ^ 64) x
def f75 (x : aH [.list TyF, .agg TyF]) : Option (aH [.int .i64]) := match x with
 | (v0, v1, ()) =>
  aB (Y7 (v0, (v1.1, v1.2), (v0.length : Int), 0, ())) fun z1 =>
  kT z1 (fun a2 => some (a2.1, ())) fun b3 =>
  some ((-1), ())
noncomputable def c75 : Code := aT Tryz.f75
abbrev E75 : Env := bI []
theorem aTM : aZ Tryz.prog E75 := aY trivial
noncomputable def aJ7 : Code := eD c75 0
def aZR (id : Nat) : Option aR := bif Nat.beq id 2 then some ⟨TP, aAM, Y7⟩ else none
theorem aOZ : ∀ x, dZ Tryz.prog E75 19 (aC Tryz.f75) aZR aJ7 TP aAM x = aJX x := by
 rintro ⟨v0, v3, v7, v8, ⟨⟩⟩
 kernel_rfl
theorem aZV : aF aJ7 = [] := by kernel_rfl
theorem aPU : aG aJ7 = 2 := by kernel_rfl
theorem aUL : cL Tryz.prog 19 aJ7 ⟨TP, aAM, Y7⟩ := by
 exact cS aTM.callee aK.mixed _ (aE aZV trivial) aOZ
theorem aXA : aF c75 = [aJ7] := by kernel_rfl
theorem a3C : ∀ x, bQ Tryz.prog E75 Tryz.f75 (aC Tryz.f75) aZR c75 [.list TyF, .agg TyF] [.int .i64] x = f75 x := by
 rintro ⟨v0, v1, ⟨⟩⟩
 kernel_rfl
theorem a6H : cO Tryz.prog 75 [.list TyF, .agg TyF] [.int .i64] f75 := by
 exact bA aK aTM Tryz.func75 (c := c75) (by kernel_rfl) (aU := aC Tryz.f75) (lt := aZR) (aE aXA ⟨cR aPU rfl aUL, trivial⟩) a3C
abbrev e75 : Ent := ⟨75, [.list TyF, .agg TyF], [.int .i64], f75⟩
theorem aZH : Ent.OK Tryz.prog e75 := a6H

/-! slices.Contains[[]schisma/api.Key,schisma/api.Key] -/
def f63 (x : aH [.list TyF, .agg TyF]) : Option (aH [.bool]) := match x with
 | (v0, v1, ()) =>
  aB (f75 (v0, (v1.1, v1.2), ())) fun y1 =>
  some (!(ltI y1.1 0), ())
noncomputable def c63 : Code := aT Tryz.f63
abbrev E63 : Env := bI [e75]
theorem a2B : aZ Tryz.prog E63 := aY ⟨aZH, trivial⟩
def a4I (id : Nat) : Option aR := none
theorem aYM : aF c63 = [] := by kernel_rfl
theorem a0U : ∀ x, bQ Tryz.prog E63 Tryz.f63 (aC Tryz.f63) a4I c63 [.list TyF, .agg TyF] [.bool] x = f63 x := by
 rintro ⟨v0, v1, ⟨⟩⟩
 kernel_rfl
theorem a57 : cO Tryz.prog 63 [.list TyF, .agg TyF] [.bool] f63 := by
 exact bA aK a2B Tryz.func63 (c := c63) (by kernel_rfl) (aU := aC Tryz.f63) (lt := a4I) (aE aYM trivial) a0U
abbrev e63 : Ent := ⟨63, [.list TyF, .agg TyF], [.bool], f63⟩
theorem a3E : Ent.OK Tryz.prog e63 := a57

/-! schisma/isomorphy.neighbours -/
def f61 (x : aH [.int .i64]) : Option (aH [.list TyF]) := match x with
 | (v0, ()) =>
  bif eqI v0 2 then
   bif Nat.ble [(1, (-1)), ((-1), 1)].length 1048576 then bif Nat.ble [(1, 0), ((-1), 0), (0, 1), (0, (-1))].length 1048576 then bif Nat.blt 4 ([(1, 0), ((-1), 0), (0, 1), (0, (-1))].length + [(1, (-1)), ((-1), 1)].length) then some (([(1, 0), ((-1), 0), (0, 1), (0, (-1))] ++ [(1, (-1)), ((-1), 1)]), ()) else none else none else none
  else some ([(1, 0), ((-1), 0), (0, 1), (0, (-1))], ())
noncomputable def c61 : Code := aT Tryz.f61
abbrev E61 : Env := bI []
theorem aZ9 : aZ Tryz.prog E61 := aY trivial
def a45 (id : Nat) : Option aR := none
theorem aYL : aF c61 = [] := by kernel_rfl
theorem aZK : ∀ x, bQ Tryz.prog E61 Tryz.f61 (aC Tryz.f61) a45 c61 [.int .i64] [.list TyF] x = f61 x := by
 rintro ⟨v0, ⟨⟩⟩
 kernel_rfl
theorem a62 : cO Tryz.prog 61 [.int .i64] [.list TyF] f61 := by
 exact bA aK aZ9 Tryz.func61 (c := c61) (by kernel_rfl) (aU := aC Tryz.f61) (lt := a45) (aE aYL trivial) aZK
abbrev e61 : Ent := ⟨61, [.int .i64], [.list TyF], f61⟩
theorem a2Z : Ent.OK Tryz.prog e61 := a62

/-! schisma/isomorphy.Check -/
abbrev UD : List (Nat × Kd) := [(1, .box 25 TyA), (20, .agg (.prod TyD (.prod TyD TyD))), (21, .int .i64)]
abbrev ZM : List (Ex × List (Nat × Kd)) := [(.ret, [(2, .int .i64)]), (.exit 0, [])]
def uN (x : Shape.den UD) : Option (Shape.den UD ⊕ aV ZM) := match x with
 | (v1, v20, v21, ()) =>
  bif ltI v21 3 then
   bif eqI v21 0 then
    aB (f37 (v20.1, ())) fun y4 =>
    bif !(eqI y4.1 0) then
     some (.inr (.inl (y4.1, ())))
    else bif !(eqI (v20.1.length : Int) (v1.2.1.length : Int)) then
     some (.inr (.inl (5, ())))
    else some (.inl (v1, (v20.1, (v20.2.1, v20.2.2)), (aJ .i64 (v21 + 1)), ()))
   else bif eqI v21 1 then
    aB (f37 (v20.2.1, ())) fun y5 =>
    bif !(eqI y5.1 0) then
     some (.inr (.inl (y5.1, ())))
    else bif !(eqI (v20.2.1.length : Int) (v1.2.1.length : Int)) then
     some (.inr (.inl (5, ())))
    else some (.inl (v1, (v20.1, (v20.2.1, v20.2.2)), (aJ .i64 (v21 + 1)), ()))
   else bif eqI v21 2 then aB (f37 (v20.2.2, ())) fun y6 =>
   bif !(eqI y6.1 0) then
    some (.inr (.inl (y6.1, ())))
   else bif !(eqI (v20.2.2.length : Int) (v1.2.1.length : Int)) then
    some (.inr (.inl (5, ())))
   else some (.inl (v1, (v20.1, (v20.2.1, v20.2.2)), (aJ .i64 (v21 + 1)), ())) else none
  else some (.inr (.inr ((()))))
def F9 (x : Shape.den UD) : Option (aV ZM) := bS uN (2 ^ 64) x
def f24 (x : aH [.agg TyA]) : Option (aH [.int .i64]) := match x with
 | (v0, ()) =>
  bif !(eqI v0.1 1) then
   bif !(eqI v0.1 2) then
    some (12, ())
   else aB (F9 (v0, (v0.2.1, (v0.2.2.1, v0.2.2.2)), 0, ())) fun z7 =>
   kT z7 (fun a8 => some (a8.1, ())) fun b9 =>
   some (0, ())
  else aB (F9 (v0, (v0.2.1, (v0.2.2.1, v0.2.2.2)), 0, ())) fun z10 =>
  kT z10 (fun a11 => some (a11.1, ())) fun b12 =>
  some (0, ())
noncomputable def c24 : Code := aT Tryz.f24
abbrev E24 : Env := bI [e37]
theorem aSR : aZ Tryz.prog E24 := aY ⟨aRI, trivial⟩
noncomputable def aJP : Code := eD c24 0
def aZL (id : Nat) : Option aR := bif Nat.beq id 4 then some ⟨UD, ZM, F9⟩ else none
theorem aQ3 : ∀ x, dZ Tryz.prog E24 36 (aC Tryz.f24) aZL aJP UD ZM x = uN x := by
 rintro ⟨v1, v20, v21, ⟨⟩⟩
 kernel_rfl
theorem a3D : aF aJP = [] := by kernel_rfl
theorem aQE : aG aJP = 4 := by kernel_rfl
theorem aST : cL Tryz.prog 36 aJP ⟨UD, ZM, F9⟩ := by
 exact cS aSR.callee aK.mixed _ (aE a3D trivial) aQ3
theorem aW4 : aF c24 = [aJP] := by kernel_rfl
theorem a0S : ∀ x, bQ Tryz.prog E24 Tryz.f24 (aC Tryz.f24) aZL c24 [.agg TyA] [.int .i64] x = f24 x := by
 rintro ⟨v0, ⟨⟩⟩
 kernel_rfl
theorem a7F : cO Tryz.prog 24 [.agg TyA] [.int .i64] f24 := by
 exact bA aK aSR Tryz.func24 (c := c24) (by kernel_rfl) (aU := aC Tryz.f24) (lt := aZL) (aE aW4 ⟨cR aQE rfl aST, trivial⟩) a0S
abbrev e24 : Ent := ⟨24, [.agg TyA], [.int .i64], f24⟩
theorem aAX : Ent.OK Tryz.prog e24 := a7F

/-! schisma/isomorphy.Equal -/
def f25 (x : aH [.agg TyA, .agg TyA]) : Option (aH [.bool]) := match x with
 | (v0, v1, ()) =>
  bif eqI v0.1 v1.1 then
   aB (f46 (v0.2.1, v1.2.1, ())) fun y1 =>
   bif y1.1 then
    aB (f46 (v0.2.2.1, v1.2.2.1, ())) fun y2 =>
    bif y2.1 then
     aB (f46 (v0.2.2.2, v1.2.2.2, ())) fun y3 =>
     some (y3.1, ())
    else some (false, ())
   else some (false, ())
  else some (false, ())
noncomputable def c25 : Code := aT Tryz.f25
abbrev E25 : Env := bI [e46]
theorem aZN : aZ Tryz.prog E25 := aY ⟨aLI, trivial⟩
def a5R (id : Nat) : Option aR := none
theorem aV6 : aF c25 = [] := by kernel_rfl
theorem a27 : ∀ x, bQ Tryz.prog E25 Tryz.f25 (aC Tryz.f25) a5R c25 [.agg TyA, .agg TyA] [.bool] x = f25 x := by
 rintro ⟨v0, v1, ⟨⟩⟩
 kernel_rfl
theorem a69 : cO Tryz.prog 25 [.agg TyA, .agg TyA] [.bool] f25 := by
 exact bA aK aZN Tryz.func25 (c := c25) (by kernel_rfl) (aU := aC Tryz.f25) (lt := a5R) (aE aV6 trivial) a27
abbrev e25 : Ent := ⟨25, [.agg TyA, .agg TyA], [.bool], f25⟩
theorem a0H : Ent.OK Tryz.prog e25 := a69

/-! schisma/isomorphy.combine -/
abbrev UC : List (Nat × Kd) := [(0, .list TyE), (1, .list TyE), (2, .int .i64), (3, .int .i64), (9, .own 3 TyE), (13, .int .i64), (14, .int .i64)]
abbrev aA1 : List (Ex × List (Nat × Kd)) := [(.exit 0, [(9, .own 3 TyE)])]
def KK (x : Shape.den UC) : Option (Shape.den UC ⊕ aV aA1) := match x with
 | (v0, v1, v2, v3, v9, v13, v14, ()) =>
  bif ltI v14 v13 then
   bif aP v14 v0.length then bif aP v14 v1.length then bif Nat.ble [(aJ .i64 ((aJ .i64 (v2 * (v0.getD v14.toNat 0))) + (aJ .i64 (v3 * (v1.getD v14.toNat 0)))))].length 1048576 then bif Nat.ble v9.length 1048576 then some (.inl (v0, v1, v2, v3, (v9 ++ [(aJ .i64 ((aJ .i64 (v2 * (v0.getD v14.toNat 0))) + (aJ .i64 (v3 * (v1.getD v14.toNat 0)))))]), v13, (aJ .i64 (v14 + 1)), ())) else none else none else none else none
  else some (.inr ((v9, ())))
def SB (x : Shape.den UC) : Option (aV aA1) := bS KK (2 ^ 64) x
def f65 (x : aH [.list TyE, .list TyE, .int .i64, .int .i64]) : Option (aH [.list TyE]) := match x with
 | (v0, v1, v2, v3, ()) =>
  aB (SB (v0, v1, v2, v3, [], (v0.length : Int), 0, ())) fun z1 =>
  some (z1.1, ())
noncomputable def c65 : Code := aT Tryz.f65
abbrev E65 : Env := bI []
theorem aS6 : aZ Tryz.prog E65 := aY trivial
noncomputable def aKA : Code := eD c65 0
def a3H (id : Nat) : Option aR := bif Nat.beq id 3 then some ⟨UC, aA1, SB⟩ else none
theorem aO5 : ∀ x, dZ Tryz.prog E65 35 (aC Tryz.f65) a3H aKA UC aA1 x = KK x := by
 rintro ⟨v0, v1, v2, v3, v9, v13, v14, ⟨⟩⟩
 kernel_rfl
theorem a26 : aF aKA = [] := by kernel_rfl
theorem aOQ : aG aKA = 3 := by kernel_rfl
theorem aRU : cL Tryz.prog 35 aKA ⟨UC, aA1, SB⟩ := by
 exact cS aS6.callee aK.mixed _ (aE a26 trivial) aO5
theorem aX6 : aF c65 = [aKA] := by kernel_rfl
theorem aZT : ∀ x, bQ Tryz.prog E65 Tryz.f65 (aC Tryz.f65) a3H c65 [.list TyE, .list TyE, .int .i64, .int .i64] [.list TyE] x = f65 x := by
 rintro ⟨v0, v1, v2, v3, ⟨⟩⟩
 kernel_rfl
theorem a6T : cO Tryz.prog 65 [.list TyE, .list TyE, .int .i64, .int .i64] [.list TyE] f65 := by
 exact bA aK aS6 Tryz.func65 (c := c65) (by kernel_rfl) (aU := aC Tryz.f65) (lt := a3H) (aE aX6 ⟨cR aOQ rfl aRU, trivial⟩) aZT
abbrev e65 : Ent := ⟨65, [.list TyE, .list TyE, .int .i64, .int .i64], [.list TyE], f65⟩
theorem aVA : Ent.OK Tryz.prog e65 := a6T

/-! schisma/isomorphy.QK -/
def f40 (x : aH [.agg TyA, .agg TyB]) : Option (aH [.agg TyA]) := match x with
 | (v0, v1, ()) =>
  aB (aB9 (v0.2.1, ())) fun y1 =>
  aB (f65 (v0.2.2.1, v0.2.2.2, v1.1, v1.2.2.1, ())) fun y2 =>
  aB (f65 (v0.2.2.1, v0.2.2.2, v1.2.1, v1.2.2.2, ())) fun y3 =>
  some ((v0.1, (y1.1, (y2.1, y3.1))), ())
noncomputable def c40 : Code := aT Tryz.f40
abbrev E40 : Env := bI [aZ0, e65]
theorem a1U : aZ Tryz.prog E40 := aY ⟨aNL, aVA, trivial⟩
def a5G (id : Nat) : Option aR := none
theorem aX5 : aF c40 = [] := by kernel_rfl
theorem aZJ : ∀ x, bQ Tryz.prog E40 Tryz.f40 (aC Tryz.f40) a5G c40 [.agg TyA, .agg TyB] [.agg TyA] x = f40 x := by
 rintro ⟨v0, v1, ⟨⟩⟩
 kernel_rfl
theorem a5Z : cO Tryz.prog 40 [.agg TyA, .agg TyB] [.agg TyA] f40 := by
 exact bA aK a1U Tryz.func40 (c := c40) (by kernel_rfl) (aU := aC Tryz.f40) (lt := a5G) (aE aX5 trivial) aZJ
abbrev e40 : Ent := ⟨40, [.agg TyA, .agg TyB], [.agg TyA], f40⟩
theorem aE4 : Ent.OK Tryz.prog e40 := a5Z

/-! schisma/isomorphy.bounded -/
abbrev UM : List (Nat × Kd) := [(1, .box 25 TyA), (2, .box 25 TyA), (12, .agg (.prod TyD (.prod TyD TyD))), (13, .int .i64)]
abbrev YO : List (Ex × List (Nat × Kd)) := [(.ret, [(2, .box 25 TyA), (3, .int .i64)]), (.exit 0, [(1, .box 25 TyA), (2, .box 25 TyA)])]
def vB (x : Shape.den UM) : Option (Shape.den UM ⊕ aV YO) := match x with
 | (v1, v2, v12, v13, ()) =>
  bif ltI v13 3 then
   bif eqI v13 0 then
    aB (f37 (v12.1, ())) fun y4 =>
    bif !(eqI y4.1 0) then
     some (.inr (.inl ((0, ([], ([], []))), 4, ())))
    else some (.inl (v1, v2, (v12.1, (v12.2.1, v12.2.2)), (aJ .i64 (v13 + 1)), ()))
   else bif eqI v13 1 then
    aB (f37 (v12.2.1, ())) fun y5 =>
    bif !(eqI y5.1 0) then
     some (.inr (.inl ((0, ([], ([], []))), 4, ())))
    else some (.inl (v1, v2, (v12.1, (v12.2.1, v12.2.2)), (aJ .i64 (v13 + 1)), ()))
   else bif eqI v13 2 then aB (f37 (v12.2.2, ())) fun y6 =>
   bif !(eqI y6.1 0) then
    some (.inr (.inl ((0, ([], ([], []))), 4, ())))
   else some (.inl (v1, v2, (v12.1, (v12.2.1, v12.2.2)), (aJ .i64 (v13 + 1)), ())) else none
  else some (.inr (.inr ((v1, v2, ()))))
def FN (x : Shape.den UM) : Option (aV YO) := bS vB (2 ^ 64) x
def f39 (x : aH [.agg TyA]) : Option (aH [.agg TyA, .int .i64]) := match x with
 | (v0, ()) =>
  aB (FN (v0, (0, ([], ([], []))), (v0.2.1, (v0.2.2.1, v0.2.2.2)), 0, ())) fun z7 =>
  kT z7 (fun a8 => some (a8.1, a8.2.1, ())) fun b9 =>
  some (b9.1, 0, ())
noncomputable def c39 : Code := aT Tryz.f39
abbrev E39 : Env := bI [e37]
theorem aT8 : aZ Tryz.prog E39 := aY ⟨aRI, trivial⟩
noncomputable def aH3 : Code := eD c39 0
def a3S (id : Nat) : Option aR := bif Nat.beq id 2 then some ⟨UM, YO, FN⟩ else none
theorem aOM : ∀ x, dZ Tryz.prog E39 22 (aC Tryz.f39) a3S aH3 UM YO x = vB x := by
 rintro ⟨v1, v2, v12, v13, ⟨⟩⟩
 kernel_rfl
theorem a2S : aF aH3 = [] := by kernel_rfl
theorem aPQ : aG aH3 = 2 := by kernel_rfl
theorem aUA : cL Tryz.prog 22 aH3 ⟨UM, YO, FN⟩ := by
 exact cS aT8.callee aK.mixed _ (aE a2S trivial) aOM
theorem aWD : aF c39 = [aH3] := by kernel_rfl
theorem aZI : ∀ x, bQ Tryz.prog E39 Tryz.f39 (aC Tryz.f39) a3S c39 [.agg TyA] [.agg TyA, .int .i64] x = f39 x := by
 rintro ⟨v0, ⟨⟩⟩
 kernel_rfl
theorem a6E : cO Tryz.prog 39 [.agg TyA] [.agg TyA, .int .i64] f39 := by
 exact bA aK aT8 Tryz.func39 (c := c39) (by kernel_rfl) (aU := aC Tryz.f39) (lt := a3S) (aE aWD ⟨cR aPQ rfl aUA, trivial⟩) aZI
abbrev e39 : Ent := ⟨39, [.agg TyA], [.agg TyA, .int .i64], f39⟩
theorem aMN : Ent.OK Tryz.prog e39 := a6E

/-! schisma/isomorphy.first -/
def f48 (x : aH [.agg TyA, .agg TyA]) : Option (aH [.int .i64]) := match x with
 | (v0, v1, ()) =>
  aB (f35 (v0.2.2.1, v1.2.2.1, ())) fun y1 =>
  bif !(eqI y1.1 0) then
   some (y1.1, ())
  else aB (f35 (v0.2.2.2, v1.2.2.2, ())) fun y2 =>
  some (y2.1, ())
noncomputable def c48 : Code := aT Tryz.f48
abbrev E48 : Env := bI [e35]
theorem aZ2 : aZ Tryz.prog E48 := aY ⟨a18, trivial⟩
def a4D (id : Nat) : Option aR := none
theorem aYS : aF c48 = [] := by kernel_rfl
theorem a2M : ∀ x, bQ Tryz.prog E48 Tryz.f48 (aC Tryz.f48) a4D c48 [.agg TyA, .agg TyA] [.int .i64] x = f48 x := by
 rintro ⟨v0, v1, ⟨⟩⟩
 kernel_rfl
theorem a6V : cO Tryz.prog 48 [.agg TyA, .agg TyA] [.int .i64] f48 := by
 exact bA aK aZ2 Tryz.func48 (c := c48) (by kernel_rfl) (aU := aC Tryz.f48) (lt := a4D) (aE aYS trivial) a2M
abbrev e48 : Ent := ⟨48, [.agg TyA, .agg TyA], [.int .i64], f48⟩
theorem aLL : Ent.OK Tryz.prog e48 := a6V

/-! schisma/isomorphy.Compose -/
def f23 (x : aH [.agg TyB, .agg TyB]) : Option (aH [.agg TyB]) := match x with
 | (v0, v1, ()) =>
  some (((aJ .i64 ((aJ .i64 (v0.1 * v1.1)) + (aJ .i64 (v0.2.1 * v1.2.2.1)))), ((aJ .i64 ((aJ .i64 (v0.1 * v1.2.1)) + (aJ .i64 (v0.2.1 * v1.2.2.2)))), ((aJ .i64 ((aJ .i64 (v0.2.2.1 * v1.1)) + (aJ .i64 (v0.2.2.2 * v1.2.2.1)))), (aJ .i64 ((aJ .i64 (v0.2.2.1 * v1.2.1)) + (aJ .i64 (v0.2.2.2 * v1.2.2.2))))))), ())
/-! schisma/schismalaw46.neighbours -/
def f41 (x : aH [.int .i64]) : Option (aH [.list TyF]) := match x with
 | (v0, ()) =>
  bif eqI v0 2 then
   bif Nat.ble [(1, (-1)), ((-1), 1)].length 1048576 then bif Nat.ble [(1, 0), ((-1), 0), (0, 1), (0, (-1))].length 1048576 then bif Nat.blt 4 ([(1, 0), ((-1), 0), (0, 1), (0, (-1))].length + [(1, (-1)), ((-1), 1)].length) then some (([(1, 0), ((-1), 0), (0, 1), (0, (-1))] ++ [(1, (-1)), ((-1), 1)]), ()) else none else none else none
  else some ([(1, 0), ((-1), 0), (0, 1), (0, (-1))], ())
noncomputable def c41 : Code := aT Tryz.f41
abbrev E41 : Env := bI []
theorem a2A : aZ Tryz.prog E41 := aY trivial
def a5E (id : Nat) : Option aR := none
theorem aWW : aF c41 = [] := by kernel_rfl
theorem a2P : ∀ x, bQ Tryz.prog E41 Tryz.f41 (aC Tryz.f41) a5E c41 [.int .i64] [.list TyF] x = f41 x := by
 rintro ⟨v0, ⟨⟩⟩
 kernel_rfl
theorem a6U : cO Tryz.prog 41 [.int .i64] [.list TyF] f41 := by
 exact bA aK a2A Tryz.func41 (c := c41) (by kernel_rfl) (aU := aC Tryz.f41) (lt := a5E) (aE aWW trivial) a2P
abbrev e41 : Ent := ⟨41, [.int .i64], [.list TyF], f41⟩
theorem a3U : Ent.OK Tryz.prog e41 := a6U

/-! schisma/schismalaw46.symmetries -/
abbrev UX : List (Nat × Kd) := [(3, .own 27 TyB), (4, .list TyF), (5, .int .i64), (6, .box 27 TyB), (7, .own 4 .bool), (8, .int .i64), (9, .int .i64), (10, .int .i64), (11, .int .i64)]
abbrev ZJ : List (Ex × List (Nat × Kd)) := [(.exit 4, [(3, .own 27 TyB), (4, .list TyF), (5, .int .i64), (6, .box 27 TyB), (7, .own 4 .bool), (8, .int .i64)])]
def aIH (x : Shape.den UX) : Option (Shape.den UX ⊕ aV ZJ) := match x with
 | (v3, v4, v5, v6, v7, v8, v9, v10, v11, ()) =>
  bif ltI v11 (v4.length : Int) then
   bif aP v11 v4.length then bif (eqI ((v4.getD v11.toNat (0, 0)).1) v9 && (eqI ((v4.getD v11.toNat (0, 0)).2) v10 && true)) then
    bif aP v11 v7.length then bif Nat.blt v11.toNat v7.length then some (.inl (v3, v4, v5, v6, (v7.set v11.toNat true), v8, v9, v10, (aJ .i64 (v11 + 1)), ())) else none else none
   else some (.inl (v3, v4, v5, v6, v7, v8, v9, v10, (aJ .i64 (v11 + 1)), ())) else none
  else some (.inr ((v3, v4, v5, v6, v7, v8, ())))
def ZX (x : Shape.den UX) : Option (aV ZJ) := bS aIH (2 ^ 64) x
abbrev SS : List (Nat × Kd) := [(3, .own 27 TyB), (4, .list TyF), (5, .int .i64), (6, .box 27 TyB), (7, .own 4 .bool), (8, .int .i64)]
abbrev aAS : List (Ex × List (Nat × Kd)) := [(.exit 2, [(3, .own 27 TyB), (4, .list TyF), (5, .int .i64), (6, .box 27 TyB), (7, .own 4 .bool)])]
def aJ1 (x : Shape.den SS) : Option (Shape.den SS ⊕ aV aAS) := match x with
 | (v3, v4, v5, v6, v7, v8, ()) =>
  bif ltI v8 (v4.length : Int) then
   bif aP v8 v4.length then bif aP v8 v4.length then bif aP v8 v4.length then bif aP v8 v4.length then aB (ZX (v3, v4, v5, v6, v7, v8, (aJ .i64 ((aJ .i64 (v6.1 * ((v4.getD v8.toNat (0, 0)).1))) + (aJ .i64 (v6.2.1 * ((v4.getD v8.toNat (0, 0)).2))))), (aJ .i64 ((aJ .i64 (v6.2.2.1 * ((v4.getD v8.toNat (0, 0)).1))) + (aJ .i64 (v6.2.2.2 * ((v4.getD v8.toNat (0, 0)).2))))), 0, ())) fun z3 =>
   some (.inl (z3.1, z3.2.1, z3.2.2.1, z3.2.2.2.1, z3.2.2.2.2.1, (aJ .i64 (z3.2.2.2.2.2.1 + 1)), ())) else none else none else none else none
  else some (.inr ((v3, v4, v5, v6, v7, ())))
def YA (x : Shape.den SS) : Option (aV aAS) := bS aJ1 (2 ^ 64) x
abbrev UL : List (Nat × Kd) := [(3, .own 27 TyB), (4, .list TyF), (5, .int .i64), (6, .box 27 TyB), (7, .own 4 .bool), (12, .bool), (13, .int .i64)]
abbrev Y0 : List (Ex × List (Nat × Kd)) := [(.exit 6, [(3, .own 27 TyB), (4, .list TyF), (5, .int .i64), (6, .box 27 TyB), (12, .bool)])]
def aID (x : Shape.den UL) : Option (Shape.den UL ⊕ aV Y0) := match x with
 | (v3, v4, v5, v6, v7, v12, v13, ()) =>
  bif ltI v13 (v4.length : Int) then
   bif v12 then
    bif aP v13 v7.length then bif Nat.blt v13.toNat v7.length then some (.inl (v3, v4, v5, v6, v7, (v7.getD v13.toNat false), (aJ .i64 (v13 + 1)), ())) else none else none
   else some (.inl (v3, v4, v5, v6, v7, false, (aJ .i64 (v13 + 1)), ()))
  else some (.inr ((v3, v4, v5, v6, v12, ())))
def Y6 (x : Shape.den UL) : Option (aV Y0) := bS aID (2 ^ 64) x
abbrev SW : List (Nat × Kd) := [(3, .own 27 TyB), (4, .list TyF), (5, .int .i64)]
abbrev YF : List (Ex × List (Nat × Kd)) := [(.exit 0, [(3, .own 27 TyB)])]
def aIG (x : Shape.den SW) : Option (Shape.den SW ⊕ aV YF) := match x with
 | (v3, v4, v5, ()) =>
  bif ltI v5 81 then
   bif !(ltI (v4.length : Int) 0) then bif !(ltI (v4.length : Int) (v4.length : Int)) then bif !(ltI 1048576 (v4.length : Int)) then aB (YA (v3, v4, v5, ((aJ .i64 ((aJ .i64 (v5.tdiv 27)) - 1)), ((aJ .i64 (((aJ .i64 (v5.tdiv 9)).tmod 3) - 1)), ((aJ .i64 (((aJ .i64 (v5.tdiv 3)).tmod 3) - 1)), (aJ .i64 ((v5.tmod 3) - 1))))), (List.replicate ((v4.length : Int).toNat) false), 0, ())) fun z6 =>
   aB (Y6 (z6.1, z6.2.1, z6.2.2.1, z6.2.2.2.1, z6.2.2.2.2.1, true, 0, ())) fun z7 =>
   bif z7.2.2.2.2.1 then
    bif Nat.ble [z7.2.2.2.1].length 1048576 then bif Nat.ble z7.1.length 1048576 then some (.inl ((z7.1 ++ [z7.2.2.2.1]), z7.2.1, (aJ .i64 (z7.2.2.1 + 1)), ())) else none else none
   else some (.inl (z7.1, z7.2.1, (aJ .i64 (z7.2.2.1 + 1)), ())) else none else none else none
  else some (.inr ((v3, ())))
def aA3 (x : Shape.den SW) : Option (aV YF) := bS aIG (2 ^ 64) x
def f16 (x : aH [.int .i64]) : Option (aH [.list TyB]) := match x with
 | (v0, ()) =>
  aB (f41 (v0, ())) fun y1 =>
  aB (aA3 ([], y1.1, 0, ())) fun z8 =>
  some (z8.1, ())
noncomputable def c16 : Code := aT Tryz.f16
abbrev E16 : Env := bI [e41]
theorem aAC : aZ Tryz.prog E16 := aY ⟨a3U, trivial⟩
noncomputable def Y3 : Code := eD c16 0
noncomputable def aC9 : Code := eD Y3 0
noncomputable def aJ4 : Code := eD aC9 0
noncomputable def aJK : Code := eD Y3 1
def aP3 (id : Nat) : Option aR := bif Nat.beq id 13 then some ⟨UX, ZJ, ZX⟩ else bif Nat.beq id 9 then some ⟨SS, aAS, YA⟩ else bif Nat.beq id 19 then some ⟨UL, Y0, Y6⟩ else bif Nat.beq id 4 then some ⟨SW, YF, aA3⟩ else none
theorem aO8 : ∀ x, dZ Tryz.prog E16 114 (aC Tryz.f16) aP3 aJ4 UX ZJ x = aIH x := by
 rintro ⟨v3, v4, v5, v6, v7, v8, v9, v10, v11, ⟨⟩⟩
 kernel_rfl
theorem a2G : aF aJ4 = [] := by kernel_rfl
theorem aP8 : aG aJ4 = 13 := by kernel_rfl
theorem aTA : cL Tryz.prog 114 aJ4 ⟨UX, ZJ, ZX⟩ := by
 exact cS aAC.callee aK.mixed _ (aE a2G trivial) aO8
theorem aPV : ∀ x, dZ Tryz.prog E16 114 (aC Tryz.f16) aP3 aC9 SS aAS x = aJ1 x := by
 rintro ⟨v3, v4, v5, v6, v7, v8, ⟨⟩⟩
 kernel_rfl
theorem a1B : aF aC9 = [aJ4] := by kernel_rfl
theorem aOO : aG aC9 = 9 := by kernel_rfl
theorem aRH : cL Tryz.prog 114 aC9 ⟨SS, aAS, YA⟩ := by
 exact cS aAC.callee aK.mixed _ (aE a1B ⟨cR aP8 rfl aTA, trivial⟩) aPV
theorem aQB : ∀ x, dZ Tryz.prog E16 114 (aC Tryz.f16) aP3 aJK UL Y0 x = aID x := by
 rintro ⟨v3, v4, v5, v6, v7, v12, v13, ⟨⟩⟩
 kernel_rfl
theorem a10 : aF aJK = [] := by kernel_rfl
theorem aN7 : aG aJK = 19 := by kernel_rfl
theorem aTD : cL Tryz.prog 114 aJK ⟨UL, Y0, Y6⟩ := by
 exact cS aAC.callee aK.mixed _ (aE a10 trivial) aQB
theorem aP5 : ∀ x, dZ Tryz.prog E16 114 (aC Tryz.f16) aP3 Y3 SW YF x = aIG x := by
 rintro ⟨v3, v4, v5, ⟨⟩⟩
 kernel_rfl
theorem a17 : aF Y3 = [aC9, aJK] := by kernel_rfl
theorem aO6 : aG Y3 = 4 := by kernel_rfl
theorem aTX : cL Tryz.prog 114 Y3 ⟨SW, YF, aA3⟩ := by
 exact cS aAC.callee aK.mixed _ (aE a17 ⟨cR aOO rfl aRH, cR aN7 rfl aTD, trivial⟩) aP5
theorem aXS : aF c16 = [Y3] := by kernel_rfl
theorem a1F : ∀ x, bQ Tryz.prog E16 Tryz.f16 (aC Tryz.f16) aP3 c16 [.int .i64] [.list TyB] x = f16 x := by
 rintro ⟨v0, ⟨⟩⟩
 kernel_rfl
theorem a6I : cO Tryz.prog 16 [.int .i64] [.list TyB] f16 := by
 exact bA aK aAC Tryz.func16 (c := c16) (by kernel_rfl) (aU := aC Tryz.f16) (lt := aP3) (aE aXS ⟨cR aO6 rfl aTX, trivial⟩) a1F
abbrev e16 : Ent := ⟨16, [.int .i64], [.list TyB], f16⟩
theorem aTQ : Ent.OK Tryz.prog e16 := a6I

/-! schisma/schismaref06.Fits -/
def f21 (x : aH [.int .i64]) : Option (aH [.bool]) := match x with
 | (v0, ()) =>
  bif !(ltI 1000000000 v0) then
   some (!(ltI v0 (-1000000000)), ())
  else some (false, ())
noncomputable def c21 : Code := aT Tryz.f21
abbrev E21 : Env := bI []
theorem a0P : aZ Tryz.prog E21 := aY trivial
def a4Z (id : Nat) : Option aR := none
theorem aXW : aF c21 = [] := by kernel_rfl
theorem aZ4 : ∀ x, bQ Tryz.prog E21 Tryz.f21 (aC Tryz.f21) a4Z c21 [.int .i64] [.bool] x = f21 x := by
 rintro ⟨v0, ⟨⟩⟩
 kernel_rfl
theorem a7C : cO Tryz.prog 21 [.int .i64] [.bool] f21 := by
 exact bA aK a0P Tryz.func21 (c := c21) (by kernel_rfl) (aU := aC Tryz.f21) (lt := a4Z) (aE aXW trivial) aZ4
abbrev e21 : Ent := ⟨21, [.int .i64], [.bool], f21⟩
theorem a0E : Ent.OK Tryz.prog e21 := a7C

/-! schisma/schismalaw46.mix -/
abbrev UT : List (Nat × Kd) := [(0, .int .i64), (1, .list TyE), (2, .int .i64), (3, .list TyE), (10, .own 3 TyE), (11, .bool), (12, .int .i64)]
abbrev XZ : List (Ex × List (Nat × Kd)) := [(.exit 0, [(10, .own 3 TyE), (11, .bool)])]
def KO (x : Shape.den UT) : Option (Shape.den UT ⊕ aV XZ) := match x with
 | (v0, v1, v2, v3, v10, v11, v12, ()) =>
  bif ltI v12 (v1.length : Int) then
   bif aP v12 v1.length then bif aP v12 v3.length then bif v11 then
    aB (f21 ((aJ .i64 ((aJ .i64 (v0 * (v1.getD v12.toNat 0))) + (aJ .i64 (v2 * (v3.getD v12.toNat 0))))), ())) fun y2 =>
    bif Nat.ble [(aJ .i64 ((aJ .i64 (v0 * (v1.getD v12.toNat 0))) + (aJ .i64 (v2 * (v3.getD v12.toNat 0)))))].length 1048576 then bif Nat.ble v10.length 1048576 then some (.inl (v0, v1, v2, v3, (v10 ++ [(aJ .i64 ((aJ .i64 (v0 * (v1.getD v12.toNat 0))) + (aJ .i64 (v2 * (v3.getD v12.toNat 0)))))]), y2.1, (aJ .i64 (v12 + 1)), ())) else none else none
   else bif Nat.ble [(aJ .i64 ((aJ .i64 (v0 * (v1.getD v12.toNat 0))) + (aJ .i64 (v2 * (v3.getD v12.toNat 0)))))].length 1048576 then bif Nat.ble v10.length 1048576 then some (.inl (v0, v1, v2, v3, (v10 ++ [(aJ .i64 ((aJ .i64 (v0 * (v1.getD v12.toNat 0))) + (aJ .i64 (v2 * (v3.getD v12.toNat 0)))))]), false, (aJ .i64 (v12 + 1)), ())) else none else none else none else none
  else some (.inr ((v10, v11, ())))
def SJ (x : Shape.den UT) : Option (aV XZ) := bS KO (2 ^ 64) x
def f42 (x : aH [.int .i64, .list TyE, .int .i64, .list TyE]) : Option (aH [.list TyE, .bool]) := match x with
 | (v0, v1, v2, v3, ()) =>
  aB (SJ (v0, v1, v2, v3, [], true, 0, ())) fun z3 =>
  some (z3.1, z3.2.1, ())
noncomputable def c42 : Code := aT Tryz.f42
abbrev E42 : Env := bI [e21]
theorem aTW : aZ Tryz.prog E42 := aY ⟨a0E, trivial⟩
noncomputable def aJ2 : Code := eD c42 0
def a1C (id : Nat) : Option aR := bif Nat.beq id 4 then some ⟨UT, XZ, SJ⟩ else none
theorem aQR : ∀ x, dZ Tryz.prog E42 45 (aC Tryz.f42) a1C aJ2 UT XZ x = KO x := by
 rintro ⟨v0, v1, v2, v3, v10, v11, v12, ⟨⟩⟩
 kernel_rfl
theorem a1D : aF aJ2 = [] := by kernel_rfl
theorem aQL : aG aJ2 = 4 := by kernel_rfl
theorem aSH : cL Tryz.prog 45 aJ2 ⟨UT, XZ, SJ⟩ := by
 exact cS aTW.callee aK.mixed _ (aE a1D trivial) aQR
theorem aWY : aF c42 = [aJ2] := by kernel_rfl
theorem a0A : ∀ x, bQ Tryz.prog E42 Tryz.f42 (aC Tryz.f42) a1C c42 [.int .i64, .list TyE, .int .i64, .list TyE] [.list TyE, .bool] x = f42 x := by
 rintro ⟨v0, v1, v2, v3, ⟨⟩⟩
 kernel_rfl
theorem a7E : cO Tryz.prog 42 [.int .i64, .list TyE, .int .i64, .list TyE] [.list TyE, .bool] f42 := by
 exact bA aK aTW Tryz.func42 (c := c42) (by kernel_rfl) (aU := aC Tryz.f42) (lt := a1C) (aE aWY ⟨cR aQL rfl aSH, trivial⟩) a0A
abbrev e42 : Ent := ⟨42, [.int .i64, .list TyE, .int .i64, .list TyE], [.list TyE, .bool], f42⟩
theorem aZ3 : Ent.OK Tryz.prog e42 := a7E

/-! schisma/schismalaw46.QK -/
def f18 (x : aH [.agg TyA, .agg TyB]) : Option (aH [.agg TyA, .bool]) := match x with
 | (v0, v1, ()) =>
  aB (f42 (v1.1, v0.2.2.1, v1.2.2.1, v0.2.2.2, ())) fun y1 =>
  aB (f42 (v1.2.1, v0.2.2.1, v1.2.2.2, v0.2.2.2, ())) fun y2 =>
  bif y1.2.1 then
   some ((v0.1, (v0.2.1, (y1.1, y2.1))), y2.2.1, ())
  else some ((v0.1, (v0.2.1, (y1.1, y2.1))), false, ())
noncomputable def c18 : Code := aT Tryz.f18
abbrev E18 : Env := bI [e42]
theorem a0F : aZ Tryz.prog E18 := aY ⟨aZ3, trivial⟩
def a4C (id : Nat) : Option aR := none
theorem aVV : aF c18 = [] := by kernel_rfl
theorem aZZ : ∀ x, bQ Tryz.prog E18 Tryz.f18 (aC Tryz.f18) a4C c18 [.agg TyA, .agg TyB] [.agg TyA, .bool] x = f18 x := by
 rintro ⟨v0, v1, ⟨⟩⟩
 kernel_rfl
theorem a6Q : cO Tryz.prog 18 [.agg TyA, .agg TyB] [.agg TyA, .bool] f18 := by
 exact bA aK a0F Tryz.func18 (c := c18) (by kernel_rfl) (aU := aC Tryz.f18) (lt := a4C) (aE aVV trivial) aZZ
abbrev e18 : Ent := ⟨18, [.agg TyA, .agg TyB], [.agg TyA, .bool], f18⟩
theorem aRS : Ent.OK Tryz.prog e18 := a6Q

/-! schisma/schismalaw46.same -/
def f19 (x : aH [.agg TyA, .agg TyA]) : Option (aH [.bool]) := match x with
 | (v0, v1, ()) =>
  bif eqI v0.1 v1.1 then
   aB (f43 (v0.2.1, v1.2.1, ())) fun y1 =>
   bif y1.1 then
    aB (f43 (v0.2.2.1, v1.2.2.1, ())) fun y2 =>
    bif y2.1 then
     aB (f43 (v0.2.2.2, v1.2.2.2, ())) fun y3 =>
     some (y3.1, ())
    else some (false, ())
   else some (false, ())
  else some (false, ())
noncomputable def c19 : Code := aT Tryz.f19
abbrev E19 : Env := bI [e43]
theorem a1L : aZ Tryz.prog E19 := aY ⟨aS2, trivial⟩
def a5L (id : Nat) : Option aR := none
theorem aWV : aF c19 = [] := by kernel_rfl
theorem a3A : ∀ x, bQ Tryz.prog E19 Tryz.f19 (aC Tryz.f19) a5L c19 [.agg TyA, .agg TyA] [.bool] x = f19 x := by
 rintro ⟨v0, v1, ⟨⟩⟩
 kernel_rfl
theorem a7B : cO Tryz.prog 19 [.agg TyA, .agg TyA] [.bool] f19 := by
 exact bA aK a1L Tryz.func19 (c := c19) (by kernel_rfl) (aU := aC Tryz.f19) (lt := a5L) (aE aWV trivial) a3A
abbrev e19 : Ent := ⟨19, [.agg TyA, .agg TyA], [.bool], f19⟩
theorem aUW : Ent.OK Tryz.prog e19 := a7B

/-! schisma/schismalaw46.none -/
def f17 (x : aH [.agg TyA]) : Option (aH [.bool]) := match x with
 | (v0, ()) =>
  aB (f19 (v0, (0, ([], ([], []))), ())) fun y1 =>
  some (y1.1, ())
/-! schisma/schismalaw46.check -/
abbrev aKG : List (Nat × Kd) := [(1, .box 25 TyA), (20, .list TyD), (21, .int .i64), (22, .int .i64)]
abbrev aR5 : List (Ex × List (Nat × Kd)) := [(.ret, [(2, .int .i64)]), (.exit 0, [])]
def aUG (x : Shape.den aKG) : Option (Shape.den aKG ⊕ aV aR5) := match x with
 | (v1, v20, v21, v22, ()) =>
  bif ltI v22 v21 then
   bif aP v22 v20.length then aB (f37 ((v20.getD v22.toNat []), ())) fun y2 =>
   bif !(eqI y2.1 0) then
    some (.inr (.inl (y2.1, ())))
   else bif !(eqI ((v20.getD v22.toNat []).length : Int) (v1.2.1.length : Int)) then
    some (.inr (.inl (5, ())))
   else some (.inl (v1, v20, v21, (aJ .i64 (v22 + 1)), ())) else none
  else some (.inr (.inr ((()))))
def aJC (x : Shape.den aKG) : Option (aV aR5) := bS aUG (2 ^ 64) x
def f14 (x : aH [.agg TyA]) : Option (aH [.int .i64]) := match x with
 | (v0, ()) =>
  bif !(eqI v0.1 1) then
   bif !(eqI v0.1 2) then
    some (12, ())
   else aB (aJC (v0, [v0.2.1, v0.2.2.1, v0.2.2.2], ([v0.2.1, v0.2.2.1, v0.2.2.2].length : Int), 0, ())) fun z3 =>
   kT z3 (fun a4 => some (a4.1, ())) fun b5 =>
   some (0, ())
  else aB (aJC (v0, [v0.2.1, v0.2.2.1, v0.2.2.2], ([v0.2.1, v0.2.2.1, v0.2.2.2].length : Int), 0, ())) fun z6 =>
  kT z6 (fun a7 => some (a7.1, ())) fun b8 =>
  some (0, ())
/-! schisma/schismalaw46.few -/
abbrev aK4 : List (Nat × Kd) := [(11, .list TyD), (12, .int .i64), (13, .int .i64)]
abbrev aSJ : List (Ex × List (Nat × Kd)) := [(.ret, [(2, .bool)]), (.exit 0, [])]
def aUE (x : Shape.den aK4) : Option (Shape.den aK4 ⊕ aV aSJ) := match x with
 | (v11, v12, v13, ()) =>
  bif ltI v13 v12 then
   bif aP v13 v11.length then bif ltI 5 ((v11.getD v13.toNat []).length : Int) then
    bif ltI ((v11.getD v13.toNat []).length : Int) 63 then
     some (.inr (.inl (false, ())))
    else bif ltI 66 ((v11.getD v13.toNat []).length : Int) then
     some (.inr (.inl (false, ())))
    else some (.inl (v11, v12, (aJ .i64 (v13 + 1)), ()))
   else some (.inl (v11, v12, (aJ .i64 (v13 + 1)), ())) else none
  else some (.inr (.inr ((()))))
def aU2 (x : Shape.den aK4) : Option (aV aSJ) := bS aUE (2 ^ 64) x
def f13 (x : aH [.agg TyA]) : Option (aH [.bool]) := match x with
 | (v0, ()) =>
  aB (aU2 ([v0.2.1, v0.2.2.1, v0.2.2.2], ([v0.2.1, v0.2.2.1, v0.2.2.2].length : Int), 0, ())) fun z1 =>
  kT z1 (fun a2 => some (a2.1, ())) fun b3 =>
  some (true, ())
/-! schisma/schismalaw46.right -/
abbrev TW : List (Nat × Kd) := [(3, .box 25 TyA), (4, .box 25 TyA), (5, .box 49 (.prod TyB TyF)), (7, .list TyB), (8, .bool), (9, .int .i64)]
abbrev Z6 : List (Ex × List (Nat × Kd)) := [(.exit 0, [(3, .box 25 TyA), (4, .box 25 TyA), (5, .box 49 (.prod TyB TyF)), (8, .bool)])]
def LF (x : Shape.den TW) : Option (Shape.den TW ⊕ aV Z6) := match x with
 | (v3, v4, v5, v7, v8, v9, ()) =>
  bif ltI v9 (v7.length : Int) then
   bif v8 then
    some (.inl (v3, v4, (v5.1, (v5.2.1, v5.2.2)), v7, true, (aJ .i64 (v9 + 1)), ()))
   else bif aP v9 v7.length then some (.inl (v3, v4, (v5.1, (v5.2.1, v5.2.2)), v7, (eqI ((v7.getD v9.toNat (0, (0, (0, 0)))).1) v5.1.1 && (eqI ((v7.getD v9.toNat (0, (0, (0, 0)))).2.1) v5.1.2.1 && (eqI ((v7.getD v9.toNat (0, (0, (0, 0)))).2.2.1) v5.1.2.2.1 && (eqI ((v7.getD v9.toNat (0, (0, (0, 0)))).2.2.2) v5.1.2.2.2 && true)))), (aJ .i64 (v9 + 1)), ())) else none
  else some (.inr ((v3, v4, (v5.1, (v5.2.1, v5.2.2)), v8, ())))
def LD (x : Shape.den TW) : Option (aV Z6) := bS LF (2 ^ 64) x
abbrev SR : List (Nat × Kd) := [(3, .box 25 TyA), (4, .box 25 TyA), (5, .box 49 (.prod TyB TyF)), (8, .bool), (10, .box 25 TyA), (12, .int .i64)]
abbrev X9 : List (Ex × List (Nat × Kd)) := [(.ret, [(6, .bool)]), (.exit 2, [(4, .box 25 TyA), (8, .bool), (10, .box 25 TyA)])]
def KB (x : Shape.den SR) : Option (Shape.den SR ⊕ aV X9) := match x with
 | (v3, v4, v5, v8, v10, v12, ()) =>
  bif ltI v12 (v3.2.1.length : Int) then
   bif aP v12 v4.2.1.length then bif aP v12 v3.2.1.length then bif aP v12 v3.2.2.1.length then bif aP v12 v3.2.2.2.length then bif !(eqI (v4.2.1.getD v12.toNat 0) (aJ .i64 ((aJ .i64 ((v3.2.1.getD v12.toNat 0) + (aJ .i64 (v5.2.1 * (v3.2.2.1.getD v12.toNat 0))))) + (aJ .i64 (v5.2.2 * (v3.2.2.2.getD v12.toNat 0)))))) then
    some (.inr (.inl (false, ())))
   else some (.inl (v3, v4, (v5.1, (v5.2.1, v5.2.2)), v8, v10, (aJ .i64 (v12 + 1)), ())) else none else none else none else none
  else some (.inr (.inr ((v4, v8, v10, ()))))
def K4 (x : Shape.den SR) : Option (aV X9) := bS KB (2 ^ 64) x
def f31 (x : aH [.agg TyA, .agg TyA, .agg (.prod TyB TyF)]) : Option (aH [.bool]) := match x with
 | (v0, v1, v2, ()) =>
  bif ltI v2.2.1 (-1000) then
   some (false, ())
  else bif ltI 1000 v2.2.1 then
   some (false, ())
  else bif ltI v2.2.2 (-1000) then
   some (false, ())
  else bif ltI 1000 v2.2.2 then
   some (false, ())
  else aB (f16 (v0.1, ())) fun y1 =>
  aB (LD (v0, v1, (v2.1, (v2.2.1, v2.2.2)), y1.1, false, 0, ())) fun z2 =>
  aB (f18 (z2.1, z2.2.2.1.1, ())) fun y3 =>
  aB (K4 (z2.1, z2.2.1, (z2.2.2.1.1, (z2.2.2.1.2.1, z2.2.2.1.2.2)), z2.2.2.2.1, y3.1, 0, ())) fun z4 =>
  kT z4 (fun a5 => some (a5.1, ())) fun b6 =>
  bif b6.2.1 then
   aB (f43 (b6.2.2.1.2.2.1, b6.1.2.2.1, ())) fun y7 =>
   bif y7.1 then
    aB (f43 (b6.2.2.1.2.2.2, b6.1.2.2.2, ())) fun y8 =>
    some (y8.1, ())
   else some (false, ())
  else some (false, ())
noncomputable def c31 : Code := aT Tryz.f31
abbrev E31 : Env := bI [e16, e18, e43]
theorem aLM : aZ Tryz.prog E31 := aY ⟨aTQ, aRS, aS2, trivial⟩
noncomputable def aH4 : Code := eD c31 0
noncomputable def aJY : Code := eD c31 1
def aXR (id : Nat) : Option aR := bif Nat.beq id 6 then some ⟨TW, Z6, LD⟩ else bif Nat.beq id 11 then some ⟨SR, X9, K4⟩ else none
theorem aQQ : ∀ x, dZ Tryz.prog E31 108 (aC Tryz.f31) aXR aH4 TW Z6 x = LF x := by
 rintro ⟨v3, v4, v5, v7, v8, v9, ⟨⟩⟩
 kernel_rfl
theorem a1A : aF aH4 = [] := by kernel_rfl
theorem aP7 : aG aH4 = 6 := by kernel_rfl
theorem aVO : cL Tryz.prog 108 aH4 ⟨TW, Z6, LD⟩ := by
 exact cS aLM.callee aK.mixed _ (aE a1A trivial) aQQ
theorem aQX : ∀ x, dZ Tryz.prog E31 108 (aC Tryz.f31) aXR aJY SR X9 x = KB x := by
 rintro ⟨v3, v4, v5, v8, v10, v12, ⟨⟩⟩
 kernel_rfl
theorem a2O : aF aJY = [] := by kernel_rfl
theorem aON : aG aJY = 11 := by kernel_rfl
theorem aTP : cL Tryz.prog 108 aJY ⟨SR, X9, K4⟩ := by
 exact cS aLM.callee aK.mixed _ (aE a2O trivial) aQX
theorem aXU : aF c31 = [aH4, aJY] := by kernel_rfl
theorem aZD : ∀ x, bQ Tryz.prog E31 Tryz.f31 (aC Tryz.f31) aXR c31 [.agg TyA, .agg TyA, .agg (.prod TyB TyF)] [.bool] x = f31 x := by
 rintro ⟨v0, v1, v2, ⟨⟩⟩
 kernel_rfl
theorem a5X : cO Tryz.prog 31 [.agg TyA, .agg TyA, .agg (.prod TyB TyF)] [.bool] f31 := by
 exact bA aK aLM Tryz.func31 (c := c31) (by kernel_rfl) (aU := aC Tryz.f31) (lt := aXR) (aE aXU ⟨cR aP7 rfl aVO, cR aON rfl aTP, trivial⟩) aZD
abbrev e31 : Ent := ⟨31, [.agg TyA, .agg TyA, .agg (.prod TyB TyF)], [.bool], f31⟩
theorem a2D : Ent.OK Tryz.prog e31 := a5X
end Go.PM
set_option linter.unusedSimpArgs false
set_option linter.unusedVariables false
namespace Go.PM
open Go Go.RowKit
def forced (ops : Array Oper) (s : Nat) : Bool := (List.range ops.size).all fun j => Nat.blt j s || Nat.beq (Nat.land ((gZ ops).getD j 0) (2 ^ j - 1)) (2 ^ j - 1)
def YI (l : List Oper) : Bool := (List.range l.length).all fun i => match l[i]? with
 | some o => match o.guard with
  | some (g, _) => Nat.blt g i
  | none => true
 | none => true
def XQ (ops : Array Oper) (s : Nat) : Bool := EU (gZ ops) 0 ops.toList && forced ops s && YI ops.toList && IH ops && Nat.ble s ops.size

section
variable {P : Program} {ops : Array Oper} {s : Nat}
theorem aBM (h : forced ops s = true) {j b : Nat} (hj : j < ops.size) (hs : s ≤ j) (hb : b < j) : ((gZ ops).getD j 0).testBit b = true := by
 have := List.all_eq_true.1 h j (List.mem_range.2 hj)
 rw [Bool.or_eq_true] at this
 rcases this with h1 | h1
 ·have := fC h1; omega
 ·have h2 := Nat.eq_of_beq_eq_true h1
  have h3 : (Nat.land ((gZ ops).getD j 0) (2 ^ j - 1)).testBit b = (2 ^ j - 1).testBit b := by rw [h2]
  have h4 : (2 ^ j - 1).testBit b = true := by rw [Nat.testBit_two_pow_sub_one]; simpa using hb
  rw [h4] at h3
  have h5 : ((gZ ops).getD j 0 &&& (2 ^ j - 1)).testBit b = true := h3
  rw [Nat.testBit_and, Bool.and_eq_true] at h5
  exact h5.1
theorem MC (hm : EU (gZ ops) 0 ops.toList = true) {i : Nat} {o : Oper} (ho : ops[i]? = some o) : (gZ ops).getD i 0 = GJ (gZ ops) o.after.toList ∧ ∀ e ∈ o.after, Region.binds .any e = true → e.on < i := by
 have := UH hm (i := i) (o := o) (by simpa using ho)
 rwa [Nat.zero_add] at this
theorem VV (hm : EU (gZ ops) 0 ops.toList = true) {listed : Array Bool} (hc : LQ (gZ ops) (fun i => listed.getD i false)) {i : Nat} (hi : i ∈ Region.ready .any ops listed) :
  i < ops.size ∧ listed.getD i true = false ∧ ∀ b, ((gZ ops).getD i 0).testBit b = true → listed.getD b false = true := by
 obtain ⟨h1, o, ho, h2⟩ := mem_ready.1 hi
 refine ⟨(Array.getElem?_eq_some_iff.1 ho).1, by simpa using h1, fun b hb => ?_⟩
 rw [(MC hm ho).1] at hb
 unfold GJ at hb
 rcases AA _ _ hb with h3 | ⟨e, h3, h4, h5⟩
 ·simp at h3
 ·have h6 := h2 e (Array.mem_toList_iff.1 h3) h4
  rcases h5 with rfl | h5
  ·exact h6
  ·exact hc e.on h6 b h5
theorem aX0 (hm : EU (gZ ops) 0 ops.toList = true) : ∀ (i b : Nat), i < ops.size → ((gZ ops).getD i 0).testBit b = true → b < i := by
 intro i
 induction i using Nat.strongRecOn with
 | _ i ih =>
  intro b hi hb
  obtain ⟨o, ho⟩ : ∃ o, ops[i]? = some o := ⟨ops[i], Array.getElem?_eq_getElem hi⟩
  have hma := MC hm ho
  rw [hma.1] at hb
  unfold GJ at hb
  rcases AA _ _ hb with h3 | ⟨e, h3, h4, h5⟩
  ·simp at h3
  ·have h6 := hma.2 e (Array.mem_toList_iff.1 h3) h4
   rcases h5 with rfl | h5
   ·exact h6
   ·have := ih e.on h6 b (by omega) h5; omega

variable {ro : Option Nat} {n : Nat} {Q : Exit → Act → World → Prop}
theorem aIE (hm : EU (gZ ops) 0 ops.toList = true) (hf : forced ops s = true) : ∀ (k j : Nat) (L : Array Bool) (a : Act) (w : World), j + k = ops.size → s ≤ j → L.size = ops.size → (∀ i, i < ops.size → L.getD i false = decide (i < j)) →
  wpListIn (Fr ro) n P ops Q (ops.toList.drop j) a w → wpAnyIn (Fr ro) n P .any ops Q k L a w
 | 0, j, L, a, w, hk, hs, hsz, hL, h => by
  have hd : ops.toList.drop j = [] := List.drop_of_length_le (by simp; omega)
  rw [hd] at h
  refine ⟨?_, h⟩
  by_cases hr : Region.ready .any ops L = []
  ·exact hr
  ·obtain ⟨i, hi⟩ := List.exists_mem_of_ne_nil _ hr
   obtain ⟨h1, o, ho, _⟩ := mem_ready.1 hi
   have hlt := (Array.getElem?_eq_some_iff.1 ho).1
   have h2 := hL i hlt
   rw [decide_eq_true (by omega)] at h2
   have h1 : L.getD i true = false := by simpa using h1
   simp only [Array.getD, hsz, hlt, dif_pos] at h1 h2
   rw [h1] at h2; cases h2
 | k + 1, j, L, a, w, hk, hs, hsz, hL, h => by
  have hj : j < ops.size := by omega
  have hcl : LQ (gZ ops) (fun i => L.getD i false) := by
   intro i hi b hb
   replace hi : L.getD i false = true := hi
   have hilt : i < ops.size := by
    rcases Nat.lt_or_ge i ops.size with h | h
    ·exact h
    ·simp only [Array.getD, hsz, Nat.not_lt.2 h, dif_neg, not_false_iff] at hi; cases hi
   have h1 := hL i hilt
   rw [hi] at h1
   have h2 := of_decide_eq_true h1.symm
   have h3 := aX0 hm i b hilt hb
   show L.getD b false = true
   rw [hL b (by omega)]
   exact decide_eq_true (by omega)
  have hready : ∀ i ∈ Region.ready .any ops L, i = j := by
   intro i hi
   obtain ⟨h1, h2, h3⟩ := VV hm hcl hi
   have h4 : ¬ i < j := fun hij => by
    have h5 := hL i h1
    rw [decide_eq_true hij] at h5
    simp only [Array.getD, hsz, h1, dif_pos] at h2 h5
    rw [h2] at h5; cases h5
   rcases Nat.lt_or_ge j i with hji | hji
   ·exfalso
    have h5 := h3 j (aBM hf h1 (by omega) hji)
    rw [hL j hj] at h5
    have := of_decide_eq_true h5
    omega
   ·omega
  obtain ⟨o, ho⟩ : ∃ o, ops[j]? = some o := ⟨ops[j], Array.getElem?_eq_getElem hj⟩
  have hd : ops.toList.drop j = o :: ops.toList.drop (j + 1) := by
   rw [List.drop_eq_getElem_cons (by simpa using hj)]
   congr 1
   have := (Array.getElem?_eq_some_iff.1 ho).2
   simpa using this
  rw [hd] at h
  unfold wpListIn at h
  have ih : ∀ a w, wpListIn (Fr ro) n P ops Q (ops.toList.drop (j + 1)) a w → wpAnyIn (Fr ro) n P .any ops Q k (L.setIfInBounds j true) a w := fun a w h => by
   refine aIE hm hf k (j + 1) _ a w (by omega) (by omega) (by simpa using hsz) (fun i hi => ?_) h
   by_cases hij : j = i
   ·subst hij
    rw [decide_eq_true (by omega)]
    have hlt : j < L.size := by omega
    simp [Array.getD, hlt]
   ·rw [getD_set_ne false hij, hL i hi]
    by_cases h2 : i < j
    ·rw [decide_eq_true h2, decide_eq_true (by omega)]
    ·rw [decide_eq_false h2, decide_eq_false (by omega)]
  refine ⟨fun hr => ?_, fun i hi => ?_⟩
  ·exfalso
   have : j ∈ Region.ready .any ops L := mem_ready.2 ⟨by
    have := hL j hj
    rw [decide_eq_false (by omega)] at this
    have hlt : j < L.size := by omega
    simpa [Array.getD, hlt] using this, o, ho, fun e he hb => by
     have := (MC hm ho).2 e he hb
     rw [hL e.on (by omega)]
     exact decide_eq_true this⟩
   rw [hr] at this
   cases this
  ·have := hready i hi
   subst this
   unfold wpOpIn
   rw [ho]
   simp only
   by_cases hw : Region.wanted o (yielded ops a.tmps) = true
   ·rw [if_pos hw] at h ⊢
    exact Oper.wpIn_mono ih h
   ·rw [if_neg hw] at h ⊢
    exact ⟨h.1, ih _ _ h.2⟩

theorem aLC {o : Oper} {y y' : Nat → Option Bool} (h : ∀ g b, o.guard = some (g, b) → y g = y' g) : Region.wanted o y = Region.wanted o y' := by
 unfold Region.wanted
 cases hg : o.guard with
 | none => rfl
 | some p =>
  obtain ⟨g, b⟩ := p
  simp only [h g b hg]
theorem aGB {l : List Oper} (h : YI l = true) {i : Nat} {o : Oper} (ho : l[i]? = some o) {g : Nat} {b : Bool} (hg : o.guard = some (g, b)) : g < i := by
 have := List.all_eq_true.1 h i (List.mem_range.2 (List.getElem?_eq_some_iff.1 ho).1)
 rw [ho] at this
 simp only [hg] at this
 exact fC this

theorem aUT {ds : List Deferred} {Q1 : Exit → Act → World → Prop} (hm : EU (gZ ops) 0 ops.toList = true) (hf : forced ops s = true) (hg : YI ops.toList = true) (hnd : IH ops = true) (hs : s ≤ ops.size)
  (hno : ∀ e a w, Q1 e a w → e = .normal) (hQ : ∀ a w, Q1 .normal a w → wpListIn (Fr ro) n P ops Q (ops.toList.drop s) (nK ds a) w) :
  ∀ (k : Nat) (L1 L : Array Bool) (a : Act) (w : World), L1.size = s → L.size = ops.size → (∀ i, i < s → L1.getD i false = L.getD i false) → (∀ i, s ≤ i → L.getD i false = false) → LQ (gZ ops) (fun i => L.getD i false) → (List.range s).countP (fun i => !L.getD i false) = k →
   wpAny P .any (ops.toList.take s).toArray Q1 k L1 a w → wpAnyIn (Fr ro) n P .any ops Q (k + (ops.size - s)) L (nK ds a) w
 | 0, L1, L, a, w, h1, h2, h3, h4, hc, hk, h => by
  rw [Nat.zero_add]
  refine aIE hm hf (ops.size - s) s L _ w (by omega) (Nat.le_refl _) h2 (fun i hi => ?_) (hQ a w h.2)
  by_cases his : i < s
  ·rw [decide_eq_true his]
   rw [List.countP_eq_zero] at hk
   have := hk i (List.mem_range.2 his)
   simpa using this
  ·rw [decide_eq_false his, h4 i (by omega)]
 | k + 1, L1, L, a, w, h1, h2, h3, h4, hc, hk, h => by
  have hun : ∃ i, i < s ∧ L.getD i false = false := by
   have : 0 < (List.range s).countP (fun i => !L.getD i false) := by omega
   obtain ⟨i, hi, hp⟩ := List.countP_pos_iff.1 this
   exact ⟨i, List.mem_range.1 hi, by simpa using hp⟩
  obtain ⟨i0, hi0, hu0⟩ := hun
  rw [show k + 1 + (ops.size - s) = (k + (ops.size - s)) + 1 by omega]
  refine ⟨fun hr => ?_, fun i hi => ?_⟩
  ·exfalso
   have all : ∀ i, i < ops.size → L.getD i false = true := by
    intro i
    induction i using Nat.strongRecOn with
    | _ i ih =>
     intro hi
     cases hli : L.getD i false with
     | true => rfl
     | false =>
      obtain ⟨o, ho⟩ : ∃ o, ops[i]? = some o := ⟨ops[i], Array.getElem?_eq_getElem hi⟩
      have : i ∈ Region.ready .any ops L := mem_ready.2 ⟨by
       have hlt : i < L.size := by omega
       simpa [Array.getD, hlt] using hli, o, ho, fun e he hb => ih e.on ((MC hm ho).2 e he hb) (by have := (MC hm ho).2 e he hb; omega)⟩
      rw [hr] at this
      cases this
   rw [all i0 (by omega)] at hu0
   cases hu0
  ·obtain ⟨hi1, hi2, hi3⟩ := VV hm hc hi
   have his : i < s := by
    rcases Nat.lt_or_ge i s with h | h
    ·exact h
    ·have := hi3 i0 (aBM hf hi1 h (by omega))
     rw [hu0] at this; cases this
   obtain ⟨_, o, ho, hdeps⟩ := mem_ready.1 hi
   have hLi : L.getD i false = false := by
    have hlt : i < L.size := by omega
    simp only [Array.getD, hlt, dif_pos] at hi2 ⊢
    exact hi2
   have hpre : ∀ j, j < s → (ops.toList.take s).toArray[j]? = ops[j]? := by
    intro j hj
    simp only [List.getElem?_toArray, List.getElem?_take, hj, if_true, Array.getElem?_toList]
   have hready : i ∈ Region.ready .any (ops.toList.take s).toArray L1 := mem_ready.2 ⟨by
    have := h3 i his
    rw [hLi] at this
    have hlt : i < L1.size := by omega
    simpa [Array.getD, hlt] using this, o, by rw [hpre i his]; exact ho, fun e he hb => by
     have h5 := (MC hm ho).2 e he hb
     rw [h3 e.on (by omega)]
     exact hdeps e he hb⟩
   have hop := h.2 i hready
   have hw : Region.wanted o (yielded (ops.toList.take s).toArray a.tmps) = Region.wanted o (yielded ops (nK ds a).tmps) := aLC fun g b hgu => by
    have hgi := aGB hg (i := i) (o := o) (by simpa using ho) hgu
    unfold yielded
    rw [hpre g (by omega)]
    rfl
   have hset : ∀ a w, wpAny P .any (ops.toList.take s).toArray Q1 k (L1.setIfInBounds i true) a w → wpAnyIn (Fr ro) n P .any ops Q (k + (ops.size - s)) (L.setIfInBounds i true) (nK ds a) w := by
    intro a w h
    have hLs : ∀ j, j ≠ i → (L.setIfInBounds i true).getD j false = L.getD j false := fun j hj => getD_set_ne false (fun e => hj e.symm)
    have hL1s : ∀ j, j ≠ i → (L1.setIfInBounds i true).getD j false = L1.getD j false := fun j hj => getD_set_ne false (fun e => hj e.symm)
    have hSi : (L.setIfInBounds i true).getD i false = true := by
     have hlt : i < L.size := by omega
     simp [Array.getD, hlt]
    have hS1i : (L1.setIfInBounds i true).getD i false = true := by
     have hlt : i < L1.size := by omega
     simp [Array.getD, hlt]
    refine aUT hm hf hg hnd hs hno hQ k _ _ a w (by simpa using h1) (by simpa using h2) ?_ ?_ ?_ ?_ h
    ·intro j hj
     by_cases hji : j = i
     ·subst hji; rw [hSi, hS1i]
     ·rw [hLs j hji, hL1s j hji, h3 j hj]
    ·intro j hj
     rw [hLs j (by omega)]; exact h4 j hj
    ·intro j hj b hb
     show (L.setIfInBounds i true).getD b false = true
     by_cases hbi : b = i
     ·subst hbi; exact hSi
     ·rw [hLs b hbi]
      by_cases hji : j = i
      ·subst hji; exact hi3 b hb
      ·have hj' : L.getD j false = true := by rw [← hLs j hji]; exact hj
       exact hc j hj' b hb
    ·have := SP (p := fun i => !L.getD i false) (p' := fun j => !(L.setIfInBounds i true).getD j false) (i := i) (by simp only [hLi, Bool.not_false]) (by simp only [hSi, Bool.not_true]) (fun j hj => by simp only [hLs j hj]) s his
     omega
   unfold wpOp at hop
   rw [hpre i his, ho] at hop
   simp only at hop
   unfold wpOpIn
   rw [ho]
   simp only
   rw [hw] at hop
   by_cases hww : Region.wanted o (yielded ops (nK ds a).tmps) = true
   ·rw [if_pos hww] at hop ⊢
    rcases hop with hop | ⟨_, a0, w0, h0⟩
    ·exact aGY (C5 hnd (by rw [← Array.getElem?_toList] at ho; exact List.mem_of_getElem? ho)) hset (fun ch a w h => by cases hno _ a w h) (fun a w h => by cases hno _ a w h) hop
    ·cases hno _ a0 w0 h0
   ·rw [if_neg hww] at hop ⊢
    refine ⟨fun _ _ => trivial, ?_⟩
    rw [CD]
    exact hset _ _ hop

theorem oO {F : Fence} {Q1 : Exit → Act → World → Prop} {l2 : List Oper} (hno : ∀ e a w, Q1 e a w → e = .normal) (hQ : ∀ a w, Q1 .normal a w → wpListIn F n P ops Q l2 a w) : ∀ {l1 : List Oper} {a w}, wpListIn F n P ops Q1 l1 a w → wpListIn F n P ops Q (l1 ++ l2) a w
 | [], a, w, h => hQ a w h
 | o :: l1, a, w, h => by
  rw [List.cons_append]
  unfold wpListIn at h ⊢
  split at h
  ·rename_i hw
   rw [if_pos hw]
   refine ⟨h.1, ?_⟩
   have h2 := h.2
   generalize (o.semAt F.round a.eval).run P w = r at h2 ⊢
   cases r with
   | ok x w' =>
    cases x with
    | value v => exact oO hno hQ h2
    | skip => exact oO hno hQ h2
    | defer d => exact oO hno hQ h2
    | enter f args =>
     refine ⟨h2.1, CallsIn.mono h2.2 ?_⟩
     rintro e w'' he
     cases e with
     | returned v => exact oO hno hQ he
     | panicked ch => cases hno _ _ _ he
     | outgrown => obtain ⟨a0, w0, h0⟩ := he; cases hno _ _ _ h0
    | row row args => exact ⟨h2.1, RowsIn.mono h2.2 fun v w'' he => oO hno hQ he⟩
    | round l f t as1 b =>
     refine ⟨h2.1, RoundIn.mono h2.2 ?_⟩
     rintro e w'' he
     cases e with
     | returned v => exact oO hno hQ he
     | panicked ch => cases hno _ _ _ he
     | outgrown => obtain ⟨a0, w0, h0⟩ := he; cases hno _ _ _ h0
    | _ => exact h2.elim
   | halt x w' =>
    cases x <;> first | (cases hno _ _ _ h2; done) | exact h2.elim
  ·rename_i hw
   rw [if_neg hw]
   exact ⟨h.1, oO hno hQ h.2⟩
end
section
variable {P : Program} {E : Env} {nt : Nat} {F F' : Frm} {H H' : Heap} {ops : Array Oper} {s : Nat}
theorem aFA (hcl : cQ P (dH P E)) (hP : P.follows .mixedOrders = true) {id : Nat} {draw : Bool} (hsp : XQ ops s = true)
  (hrun : (bif draw then GY P (dH P E) nt (ops.toList.take s).toArray F H else EB P (dH P E) nt ops.toList (ops.toList.take s) F H) = some (F', H'))
  {ro : Option Nat} {n : Nat} {n0 : Nat → Prop} {wi : World} {Gi : Gd} {μi : Mp} {a : Act} {w : World} {ds : List Deferred} {Q : Exit → Act → World → Prop} (hI : I n0 wi Gi μi nt F H a w)
  (hQ : ∀ a' w', I n0 wi Gi μi nt F' H' a' w' → wpListIn (Fr ro) n P ops Q (ops.toList.drop s) (nK ds a') w') : (Code.region id ops draw).wpIn (Fr ro) n P Q (nK ds a) w := by
 simp only [XQ, Bool.and_eq_true] at hsp
 obtain ⟨⟨⟨⟨hm, hf⟩, hg⟩, hnd⟩, hs⟩ := hsp
 have hs := Nat.le_of_ble_eq_true hs
 cases draw with
 | true =>
  simp only [cond_true] at hrun
  have h1 := LU (Q := fun e a' w' => e = .normal ∧ I n0 wi Gi μi nt F' H' a' w') hcl hrun hI (fun a' w' h => ⟨rfl, h⟩)
  refine wpIn_region_any hP ?_
  have hsz : (ops.toList.take s).toArray.size = s := by simp [List.length_take]; omega
  rw [hsz] at h1
  have hfalse : ∀ m j, (Array.replicate m false).getD j false = false := fun m j => by
   simp only [Array.getD]
   split <;> simp
  have := aUT (n := n) (ro := ro) (ds := ds) (Q := Q) hm hf hg hnd hs (fun e a w h => h.1) (fun a w h => hQ a w h.2) s (Array.replicate s false) (Array.replicate ops.size false) a _ (by simp) (by simp) (fun i _ => by rw [hfalse, hfalse]) (fun i _ => hfalse _ i) (fun j hj b hb => by
   have : (Array.replicate ops.size false).getD j false = true := hj
   rw [hfalse] at this; cases this) (by
   rw [List.countP_eq_length.2]
   ·simp
   ·intro i _
    rw [hfalse]; rfl) h1
  rwa [show s + (ops.size - s) = ops.size by omega] at this
 | false =>
  simp only [cond_false] at hrun
  refine wpIn_region_list ?_
  rw [← List.take_append_drop s ops.toList]
  have h1 := rQ (Q := fun e a' w' => e = .normal ∧ I n0 wi Gi μi nt F' H' a' w') hcl (ops.toList.take s) F H a w hrun hI (fun a' w' h => ⟨rfl, h⟩)
  have h2 := PU (ro := ro) (n := n) (ds := ds) (Q' := fun e a' w' => e = .normal ∧ wpListIn (Fr ro) n P ops Q (ops.toList.drop s) a' w') (fun a w h => by cases h.1) (fun e a w h => ⟨h.1, hQ a w h.2⟩) (fun o ho => C5 hnd (List.mem_of_mem_take ho)) h1
  exact oO (fun e a w h => h.1) (fun a w h => h.2) h2
end
end Go.PM
set_option linter.unusedSimpArgs false
set_option linter.unusedVariables false
namespace Go.PM
open Go Go.RowKit
def Sg (Φ : (Nat → Prop) → (Nat → Prop) → World → Prop) (G0 G : Gd) (μ : Mp) (H : Heap) (A : World) : Prop :=
 ∃ (T X : Nat → Prop) (B : World) (GB : Gd) (μB : Mp), Φ T X B ∧ (∀ b, X b → T b) ∧ (∀ b, T b → b < B.heap.size) ∧ (∀ b, GB b → G0 b ∨ T b) ∧ (∀ b, G0 b → GB b) ∧
  Ext (fun b => X b ∨ B.heap.size ≤ b) B GB μB A G μ ∧ aW (fun b => X b ∨ B.heap.size ≤ b) G μ H A
section
variable {P : Program} {Φ : (Nat → Prop) → (Nat → Prop) → World → Prop} {G0 G G' : Gd} {μ μ' : Mp} {H H' : Heap} {A A' W : World} {F F' : Frm} {nt n : Nat} {a : Act}
theorem Sg.start {J : (Nat → Prop) → (Nat → Prop) → World → Prop} {g0 : Nat → Prop} (hlt : Lt W g0) (h : J (fun _ => False) (fun _ => False) W) : Sg J (Gd.of g0) (Gd.of g0) aM [] W :=
 ⟨_, _, W, Gd.of g0, aM, h, fun b h => h, fun b h => h.elim, fun b h => .inl h, fun b h => h, Ext.refl _ _ _ _, fun r k b h => by simp at h, fun r k g h => by simp at h, fun r s k l b h => by simp at h, hlt, fun _ _ => ⟨rfl, rfl⟩, fun b hb => .inr hb, kY.none _ _ (fun _ => rfl) _ _ (fun r k h => by simp at h)⟩
theorem Sg.open_ (h : Sg Φ G0 G μ H A) : ∃ n0, aW n0 G μ H A ∧ (∀ b, G0 b → G b) ∧ ∀ A' G' μ' H', Ext n0 A G μ A' G' μ' → aW n0 G' μ' H' A' → Sg Φ G0 G' μ' H' A' := by
 obtain ⟨T, X, B, GB, μB, h1, h2, h3, h4, h5, h6, h7⟩ := h
 exact ⟨_, h7, fun b hb => (h6.good b (h5 b hb)).1, fun A' G' μ' H' e w => ⟨T, X, B, GB, μB, h1, h2, h3, h4, h5, h6.trans e, w⟩⟩
theorem Sg.stp (h : Sg Φ G0 G μ H A) : ∃ T X B, Stp X B A ∧ Φ T X B := by
 obtain ⟨T, X, B, GB, μB, h1, h2, h3, h4, h5, h6, h7⟩ := h
 exact ⟨T, X, B, ⟨fun b hb hx => h6.old b hb (by rintro (h | h); exact hx h; omega), h6.room, h6.os, h6.tape, h6.output, h6.size, h6.drawn⟩, h1⟩

theorem Sg.freeze (h : Sg Φ G0 G μ H A) {r : Nat} {k : Blk} (hr : H[r]? = some (some k)) (hf : k.frozen = false) : Sg Φ G0 (G.or fun x => μ.loc r = some x) μ (H.set r (some { k with frozen := true })) A ∧ Mono A G μ A (G.or fun x => μ.loc r = some x) μ := by
 obtain ⟨n0, hW, _, hS⟩ := h.open_
 obtain ⟨e, w⟩ := DO hW hr hf
 exact ⟨hS _ _ _ _ e w, e.toMono⟩
theorem Sg.yield {ks : List Kd} {l : Nat} {all : List (aH ks)} {J Jx : List (aH ks) → (Nat → Prop) → (Nat → Prop) → World → Prop}
  (hY : ∀ pre e post T X B T' X' A us Gx m', all = pre ++ e :: post → J pre T X B → Stp X B A → (∀ b, T' b → (T b ∨ B.heap.size ≤ b) ∧ b < A.heap.size) → (∀ b, X' b → T' b ∧ (X b ∨ B.heap.size ≤ b)) →
   (∀ b, Gx b → (G0 b ∨ T' b) ∧ ¬ X' b) → VRs A (Gd.of Gx) aM (iE ks e) us →
   YieldAt Fence.wide m' P l us.toArray A fun en C =>
    ((∀ b, b < A.heap.size → G0 b ∨ T' b → C.heap[b]? = A.heap[b]?) ∧ (∀ b n, Room A b n → Room C b n) ∧ A.heap.size ≤ C.heap.size ∧ A.drawn ≤ C.drawn) ∧ ((en = .returned (.bool true) ∧ J (pre ++ [e]) T' X' C) ∨ (en = .returned (.bool false) ∧ Jx (pre ++ [e]) T' X' C)))
  {pre post : List (aH ks)} {e : aH ks} (hall : all = pre ++ e :: post) {us : List Value} (h : Sg (J pre) G0 G μ H A) (hus : VRs A G aM (iE ks e) us) (hpl : dM.noRows (iE ks e) = true) (m' : Nat) :
  YieldAt Fence.wide m' P l us.toArray A fun en C => Mono A G μ C G μ ∧ ((en = .returned (.bool true) ∧ Sg (J (pre ++ [e])) G0 G μ H C) ∨ (en = .returned (.bool false) ∧ Sg (Jx (pre ++ [e])) G0 G μ H C)) := by
 obtain ⟨T, X, B, GB, μB, h1, h2, h3, h4, h5, h6, h7⟩ := h
 obtain ⟨T', hT'⟩ : ∃ T' : Nat → Prop, T' = fun b => T b ∨ (B.heap.size ≤ b ∧ b < A.heap.size) := ⟨_, rfl⟩
 obtain ⟨X', hX'⟩ : ∃ X' : Nat → Prop, X' = fun b => (∃ r k, H[r]? = some (some k) ∧ k.frozen = false ∧ μ.loc r = some b) ∨ ∃ j, G.row j = some b := ⟨_, rfl⟩
 have hGT : ∀ b, G b → G0 b ∨ T' b := by
  intro b hb
  have hlt := h7.lt b hb
  rw [hT']
  rcases h6.new b hb with h | h | h
  ·exact (h4 b h).imp id .inl
  ·exact .inr (.inl (h2 b h))
  ·exact .inr (.inr ⟨h, hlt⟩)
 have hXT : ∀ b, X' b → T' b ∧ (X b ∨ B.heap.size ≤ b) ∧ ¬ G b := by
  intro b hb
  rw [hX'] at hb
  rcases hb with ⟨r, k, g1, g2, g3⟩ | ⟨j, hj⟩
  case inr =>
   obtain ⟨s1, s2, s3, _⟩ := h7.rows.sep j b hj
   rw [hT']
   rcases s2 with h | h
   ·exact ⟨.inl (h2 b h), .inl h, s3⟩
   ·exact ⟨.inr ⟨h, s1⟩, .inr h, s3⟩
  obtain ⟨c, q1, _, _, _, q5⟩ := h7.blk r k b g1 g3
  have hlt := h7.j5 g1 g3
  rw [hT']
  rcases (q5 g2).1 with h | h
  ·exact ⟨.inl (h2 b h), .inl h, (q5 g2).2⟩
  ·exact ⟨.inr ⟨h, hlt⟩, .inr h, (q5 g2).2⟩
 have hst : Stp X B A := ⟨fun b hb hx => h6.old b hb (by rintro (h | h); exact hx h; omega), h6.room, h6.os, h6.tape, h6.output, h6.size, h6.drawn⟩
 obtain ⟨fn, tmps, as1, body, y1, y2⟩ := hY pre e post T X B T' X' A us G.ok m' hall h1 hst (fun b hb => by
  rw [hT'] at hb
  rcases hb with hb | hb
  ·exact ⟨.inl hb, Nat.lt_of_lt_of_le (h3 b hb) h6.size⟩
  ·exact ⟨.inr hb.1, hb.2⟩) (fun b hb => ⟨(hXT b hb).1, (hXT b hb).2.1⟩) (fun b hb => ⟨hGT b hb, fun hx => (hXT b hx).2.2 hb⟩) (mI (G := G) (G' := Gd.of G.ok) (fun b h => h) _ _ _ hpl hus)
 refine ⟨fn, tmps, as1, body, y1, y2.mono ?_⟩
 rintro en C ⟨⟨k1, k2, k3, k4⟩, hout⟩
 have hgood : ∀ b, G b → C.heap[b]? = A.heap[b]? := fun b hb => k1 b (h7.lt b hb) (hGT b hb)
 have hmono : Mono A G μ C G μ := ⟨fun b hb => ⟨hb, hgood b hb⟩, fun _ _ h => h, fun _ _ h => h, k2, fun _ _ h => h⟩
 have hTs : ∀ b, T' b → b < C.heap.size := by
  intro b hb
  rw [hT'] at hb
  rcases hb with hb | hb
  ·have := h3 b hb; have := h6.size; omega
  ·omega
 have hwinv : aW (fun b => X' b ∨ C.heap.size ≤ b) G μ H C := by
  refine ⟨?_, h7.tags, h7.inj, h7.lt.step (fun b hb => ⟨hb, hgood b hb⟩) fun b hb => Nat.lt_of_lt_of_le (h7.lt b hb) k3, h7.top, fun b hb => .inr hb, (h7.rows.QK (n1 := fun b => X' b ∨ C.heap.size ≤ b) fun j b hj _ => .inl (by rw [hX']; exact .inr ⟨j, hj⟩)).step hmono.aM k3 (fun _ => rfl) (fun j b hj => ⟨?_, id, fun r k h1 h2 h3 => ⟨r, k, h1, h2, h3⟩⟩) (fun r k _ _ h1 _ _ => ⟨k, h1, rfl, rfl, rfl, rfl⟩)⟩
  case refine_2 =>
   exact k1 b (h7.rows.sep j b hj).1 (.inr (hXT b (by rw [hX']; exact .inr ⟨j, hj⟩)).1)
  intro r k b hr hb
  obtain ⟨c, q1, q2, q3, q4, q5⟩ := h7.blk r k b hr hb
  have hx : k.frozen = false → X' b := fun hf => by rw [hX']; exact .inl ⟨r, k, hr, hf, hb⟩
  have heq : C.heap[b]? = A.heap[b]? := by
   cases hf : k.frozen with
   | true => exact hgood b (q4 hf)
   | false => exact k1 b (h7.j5 hr hb) (.inr (hXT b (hx hf)).1)
  exact ⟨c, heq.trans q1, aQ.mono hmono heq 0 _ q2, q3, q4, fun hf => ⟨.inl (hx hf), (q5 hf).2⟩⟩
 have key : ∀ {Ψ : (Nat → Prop) → (Nat → Prop) → World → Prop}, Ψ T' X' C → Sg Ψ G0 G μ H C := fun hψ =>
  ⟨T', X', C, G, μ, hψ, fun b hb => (hXT b hb).1, hTs, hGT, fun b hb => (h6.good b (h5 b hb)).1, Ext.refl _ _ _ _, hwinv⟩
 refine ⟨hmono, ?_⟩
 rcases hout with ⟨rfl, hj⟩ | ⟨rfl, hj⟩
 ·exact .inl ⟨rfl, key hj⟩
 ·exact .inr ⟨rfl, key hj⟩

variable {ops : Array Oper} {Q : Exit → Act → World → Prop}
theorem aSF {o : Oper} {c : Call} {f : Operand} {rest : List Oper} {l : Nat} {us : Array Value} {R : Ending → World → Prop} (ho : o.op = .call c) (hc : c.callee = .value f) (hw : Region.wanted o (yielded ops a.tmps) = true) (hf : a.eval f = .func (.yield l) #[] #[]) (hargs : c.args.map a.eval = us)
  (hy : ∀ m', YieldAt Fence.wide m' P l us A R) (hR : ∀ en C, R en C → ∃ v, en = .returned v ∧ wpListIn Fence.wide n P ops Q rest (a.put o.dst v) C) : wpListIn Fence.wide n P ops Q (o :: rest) a A := by
 obtain ⟨fn, tmps, as1, body, y1, y2⟩ := hy (n - 1)
 unfold wpListIn
 rw [if_pos hw]
 refine ⟨fun _ _ => trivial, ?_⟩
 have hd : ∀ c', o.op ≠ .defer c' := fun c' h => by rw [ho] at h; cases h
 have hs : (o.semAt none a.eval).run P A = .ok (.round l fn tmps as1 body) A := by
  rw [Oper.semAt_none]
  simp [execOp, ho, resolve, hc, hf, hargs, Deferred.ofValue, Sem.run_bind, Sem.run_pure, Result.andThen_ok, invoke, y1]
 show Oper.uponIn Fence.wide n P o a _ Q ((o.semAt none a.eval).run P A)
 rw [hs]
 refine ⟨fun h => (by cases h), y2.mono ?_⟩
 rintro e C he
 obtain ⟨v, rfl, h⟩ := hR e C he
 exact h
theorem aX9 {o : Oper} {rest : List Oper} (hw : Region.wanted o (yielded ops a.tmps) = false) (h : wpListIn Fence.wide n P ops Q rest (a.put o.dst undef) A) : wpListIn Fence.wide n P ops Q (o :: rest) a A := by
 unfold wpListIn
 rw [if_neg (by rw [hw]; decide)]
 exact ⟨fun _ _ => trivial, h⟩
end
end Go.PM
